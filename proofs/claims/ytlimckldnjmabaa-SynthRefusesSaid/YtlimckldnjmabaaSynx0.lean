/- Netlists as the walk sees them. -/
import Derived.Test.YtlimckldnjmabaaAWx1
import Derived.Test.YtlimckldnjmabaaAWx2
import Derived.Test.YtlimckldnjmabaaProg
import Derived.KernelRfl
import Derived.Test.YtlimckldnjmabaaRows
set_option linter.unusedSimpArgs false
set_option linter.unusedVariables false
set_option linter.unusedSectionVars false
set_option maxRecDepth 4000
set_option maxHeartbeats 8000000
namespace Go.Proofs.Ytlimckldnjmabaa
open Go Go.AW
abbrev vi (z : Int) : X := .v (.int .i64 z)
abbrev vn : X := .v (.slice none 0 0)
theorem bE {a b : Nat} (h : Nat.ble a b = true) : a ≤ b := Nat.le_of_ble_eq_true h
def al (z : Int) : List X := [.v (.int .i64 z)]
theorem gL {p : Prop} (h : p := by first | rfl | (simp only [List.cons.injEq, X.v.injEq, X.aR.injEq, Value.int.injEq, and_true, true_and]; omega) | simp_all) : p := h
theorem MC {p : Prop} (h : p := by first | rfl | exact IntWalk.i64_in _ (by omega)) : p := h
theorem cv (z : Int) : X.aW (al z) = true := rfl
def jE (b : Bool) : List X := [.v (.bool b)]
theorem sP (b : Bool) : X.aW (jE b) = true := rfl
def Ap (n : Nat) : List X := [.v (.int .u8 (n : Int))]
def gy (l : List Int) : List X := [.fz 1 (l.map al)]
def ll (l : List Int) : List X := [.cX 1 (l.map al)]
theorem oc (l : List Int) : X.aW (gy l) = true := rfl
theorem wi (l : List Int) : X.ir (ll l) = gy l := by
 show [X.fz 1 (X.lh (l.map al))] = _
 rw [X.nZ (g := al) (fun _ => rfl)]; rfl
structure Cell where
 kind : Int
 op : Int
 out : Int
 args : List Int
 num : Nat
 mem : Int
instance : Inhabited Cell := ⟨⟨0, 0, 0, [], 0, 0⟩⟩
def Cell.row (c : Cell) : List X := [.v (.int .i64 c.kind), .v (.int .i64 c.op), .v (.int .i64 c.out), .fz 1 (c.args.map al), .v (.int .u64 (c.num : Int)), .v (.int .i64 c.mem)]
theorem Cell.cD (c : Cell) : X.aW c.row = true := rfl
structure oW where
 name : ByteArray
 width : Int
 len : Int
 kind : Int
 od : Int
instance : Inhabited oW := ⟨⟨ByteArray.empty, 0, 0, 0, 0⟩⟩
def oW.row (a : oW) : List X := [.v (.string a.name), .v (.int .i64 a.width), .v (.int .i64 a.len), .v (.int .i64 a.kind), .v (.int .i64 a.od)]
theorem oW.cD (c : oW) : X.aW c.row = true := rfl
structure gF where
 name : ByteArray
 width : Int
 out : Bool
instance : Inhabited gF := ⟨⟨ByteArray.empty, 0, false⟩⟩
def gF.row (a : gF) : List X := [.v (.string a.name), .v (.int .i64 a.width), .v (.bool a.out)]
theorem gF.cD (c : gF) : X.aW c.row = true := rfl
structure ab where
 name : ByteArray
 ai : List Int
 cells : List Cell
 ins : List Int
 bh : List oW
 streams : List gF
 bQ : List Int
 data : List Int
 freeze : Int
 done : Int
 ee : List Int
def ab.row (n : ab) : List X := [.v (.string n.name), .fz 1 (n.ai.map al), .fz 6 (n.cells.map Cell.row), .fz 1 (n.ins.map al), .fz 5 (n.bh.map oW.row), .fz 3 (n.streams.map gF.row),
 .fz 1 (n.bQ.map al), .fz 1 (n.data.map al), .v (.int .i64 n.freeze), .v (.int .i64 n.done), .fz 1 (n.ee.map al)]
structure ab.Small (n : ab) : Prop where
 name : n.name.size ≤ 140737488351232
 ai : n.ai.length ≤ 17592186043904
 cells : n.cells.length ≤ 2199023255488
 args : ∀ c ∈ n.cells, c.args.length ≤ 17592186043904
 yA : (n.cells.map (fun c => c.args.length)).sum ≤ 8796093022208
 Bt : ∀ c ∈ n.cells, c.num < 18446744073709551616
 oe : ∀ m ∈ n.bh, m.name.size ≤ 140737488351232
 og : ∀ m ∈ n.streams, m.name.size ≤ 140737488351232
 ins : n.ins.length ≤ 17592186043904
 bh : n.bh.length ≤ 2932031007317
 streams : n.streams.length ≤ 4398046510976
 bQ : n.bQ.length ≤ 17592186043904
 data : n.data.length ≤ 17592186043904
 ee : n.ee.length ≤ 17592186043904
open Go Go.AW Go.Proofs
section
variable {H : Type} {enc : TypeId × Value → H} {W : World} {base : Nat}
theorem Ef : Reads enc Try.prog W base 3 al (fun z => (Lit.int .i64 z).wf = true) (fun _ => 1) := Reads.int Try.underlying3
theorem Bu : Reads enc Try.prog W base 22 gy (fun l => l.length * 8 ≤ 140737488351232 ∧ ∀ a ∈ l, (Lit.int .i64 a).wf = true) (fun l => (l.map (fun _ => 1)).sum) := Reads.slice Try.underlying22 aU ag aU Ef
structure ab.KD (n : ab) : Prop where
 name : n.name.size ≤ 140737488351232
 ai : n.ai.length ≤ 17592186043904
 cells : n.cells.length ≤ 2199023255488
 args : ∀ c ∈ n.cells, c.args.length ≤ 17592186043904
 Bt : ∀ c ∈ n.cells, c.num < 18446744073709551616
 oe : ∀ m ∈ n.bh, m.name.size ≤ 140737488351232
 og : ∀ m ∈ n.streams, m.name.size ≤ 140737488351232
 ins : n.ins.length ≤ 17592186043904
 bh : n.bh.length ≤ 2932031007317
 streams : n.streams.length ≤ 4398046510976
 bQ : n.bQ.length ≤ 17592186043904
 data : n.data.length ≤ 17592186043904
 ee : n.ee.length ≤ 17592186043904
theorem ab.KD.small {n : ab} (h : n.KD) (ht : (n.cells.map (fun c => c.args.length)).sum ≤ 8796093022208) : n.Small := ⟨h.name, h.ai, h.cells, h.args, ht, h.Bt, h.oe, h.og, h.ins, h.bh, h.streams, h.bQ, h.data, h.ee⟩
end
open Go Go.AW Go.Proofs
end Go.Proofs.Ytlimckldnjmabaa
namespace Go.Proofs.Ytlimckldnjmabaa
open Go Go.AW Go.Proofs
theorem eW : TY.jh Try.prog 100 0 = some (0, 3) := by kernel_rfl
theorem bJ : TY.jh Try.prog 100 2 = some (2, 3) := by kernel_rfl
theorem fV : TY.jh Try.prog 100 3 = some (3, 3) := by kernel_rfl
theorem fW : TY.jh Try.prog 100 4 = some (4, 3) := by kernel_rfl
theorem bm : TY.jh Try.prog 100 5 = some (5, 3) := by kernel_rfl
theorem yB : TY.jh Try.prog 128 0 = some (0, 9) := by kernel_rfl
theorem pX : TY.jh Try.prog 128 1 = some (1, 3) := by kernel_rfl
theorem tR : TY.jh Try.prog 128 2 = some (2, 3) := by kernel_rfl
theorem yC : TY.jh Try.prog 128 3 = some (3, 3) := by kernel_rfl
theorem yD : TY.jh Try.prog 128 4 = some (4, 3) := by kernel_rfl
theorem yE : TY.jh Try.prog 130 0 = some (0, 9) := by kernel_rfl
theorem pY : TY.jh Try.prog 130 1 = some (1, 3) := by kernel_rfl
theorem iB : TY.jh Try.prog 130 2 = some (2, 4) := by kernel_rfl
theorem eX : TY.jh Try.prog 152 0 = some (0, 27) := by kernel_rfl
theorem Bw : TY.jh Try.prog 27 0 = some (0, 9) := by kernel_rfl
theorem eY : TY.jh Try.prog 27 1 = some (1, 22) := by kernel_rfl
theorem yF : TY.jh Try.prog 27 10 = some (10, 22) := by kernel_rfl
theorem fM : TY.jh Try.prog 27 2 = some (2, 23) := by kernel_rfl
theorem oh : TY.jh Try.prog 27 3 = some (3, 22) := by kernel_rfl
theorem m5 : TY.jh Try.prog 27 4 = some (4, 24) := by kernel_rfl
theorem g5 : TY.jh Try.prog 27 5 = some (5, 25) := by kernel_rfl
theorem sQ : TY.jh Try.prog 27 6 = some (6, 22) := by kernel_rfl
theorem oo : TY.jh Try.prog 27 7 = some (7, 22) := by kernel_rfl
theorem sR : TY.jh Try.prog 27 8 = some (8, 3) := by kernel_rfl
theorem sS : TY.jh Try.prog 27 9 = some (9, 3) := by kernel_rfl
theorem iM : TY.jh Try.prog 73 0 = some (0, 3) := by kernel_rfl
theorem dY : TY.jh Try.prog 73 1 = some (1, 3) := by kernel_rfl
theorem jX : TY.jh Try.prog 73 2 = some (2, 3) := by kernel_rfl
theorem dZ : TY.jh Try.prog 73 3 = some (3, 22) := by kernel_rfl
theorem dQ : TY.jh Try.prog 73 4 = some (4, 66) := by kernel_rfl
theorem cE : TY.jh Try.prog 73 5 = some (5, 3) := by kernel_rfl
theorem Ei : TY.isInt Try.prog 232 = some .u64 := by kernel_rfl
theorem Ej : TY.isInt Try.prog 3 = some .i64 := by kernel_rfl
theorem KF : TY.isInt Try.prog 5 = some .u8 := by kernel_rfl
theorem Bx : TY.isInt Try.prog 66 = some .u64 := by kernel_rfl
theorem Ek : aJ Try.prog 108 = true := by kernel_rfl
theorem El : aJ Try.prog 109 = true := by kernel_rfl
theorem oq : aJ Try.prog 117 = true := by kernel_rfl
theorem wm : aJ Try.prog 123 = true := by kernel_rfl
theorem Em : aJ Try.prog 153 = true := by kernel_rfl
theorem wo : aJ Try.prog 154 = true := by kernel_rfl
theorem wu : aJ Try.prog 155 = true := by kernel_rfl
theorem ot : aJ Try.prog 156 = true := by kernel_rfl
theorem Aq : aJ Try.prog 157 = true := by kernel_rfl
theorem En : aJ Try.prog 158 = true := by kernel_rfl
theorem Eo : aJ Try.prog 159 = true := by kernel_rfl
theorem Ep : aJ Try.prog 160 = true := by kernel_rfl
theorem Er : aJ Try.prog 161 = true := by kernel_rfl
theorem Es : aJ Try.prog 162 = true := by kernel_rfl
theorem Et : aJ Try.prog 163 = true := by kernel_rfl
theorem Eu : aJ Try.prog 164 = true := by kernel_rfl
theorem Ev : aJ Try.prog 167 = true := by kernel_rfl
theorem r3 : aJ Try.prog 174 = true := by kernel_rfl
theorem Ew : aJ Try.prog 184 = true := by kernel_rfl
theorem Ex : aJ Try.prog 185 = true := by kernel_rfl
theorem wx : aJ Try.prog 186 = true := by kernel_rfl
theorem Ey : aJ Try.prog 187 = true := by kernel_rfl
theorem Ez : aJ Try.prog 188 = true := by kernel_rfl
theorem E5 : aJ Try.prog 189 = true := by kernel_rfl
theorem E6 : aJ Try.prog 190 = true := by kernel_rfl
theorem E7 : aJ Try.prog 194 = true := by kernel_rfl
theorem E8 : aJ Try.prog 197 = true := by kernel_rfl
theorem HR : aJ Try.prog 42 = true := by kernel_rfl
theorem E9 : aJ Try.prog 44 = true := by kernel_rfl
theorem HS : aJ Try.prog 52 = true := by kernel_rfl
theorem By : aJ Try.prog 72 = true := by kernel_rfl
theorem Bz : aJ Try.prog 73 = true := by kernel_rfl
theorem HT : aJ Try.prog 86 = true := by kernel_rfl
theorem HU : aJ Try.prog 87 = true := by kernel_rfl
theorem yG : aJ Try.prog 88 = true := by kernel_rfl
theorem HV : aJ Try.prog 89 = true := by kernel_rfl
theorem EA : aJ Try.prog 90 = true := by kernel_rfl
theorem HW : aJ Try.prog 91 = true := by kernel_rfl
theorem BA : aJ Try.prog 93 = true := by kernel_rfl
theorem mZ : TY.jk Try.prog 100 = some [(0, 1), (1, 1), (2, 1), (3, 1), (4, 1), (5, 1)] := by kernel_rfl
theorem BB : TY.jk Try.prog 73 = some [(0, 1), (1, 1), (2, 1), (3, 1), (4, 1), (5, 1)] := by kernel_rfl
theorem cd : TY.shape Try.prog 100 = some (some 6) := by kernel_rfl
theorem EB : TY.shape Try.prog 128 = some (some 5) := by kernel_rfl
theorem Ar : TY.shape Try.prog 130 = some (some 3) := by kernel_rfl
theorem cQ : TY.shape Try.prog 22 = some none := by kernel_rfl
theorem nq : TY.shape Try.prog 23 = some none := by kernel_rfl
theorem uI : TY.shape Try.prog 24 = some none := by kernel_rfl
theorem nt : TY.shape Try.prog 25 = some none := by kernel_rfl
theorem uJ : TY.shape Try.prog 27 = some (some 11) := by kernel_rfl
theorem bw : TY.shape Try.prog 3 = some none := by kernel_rfl
theorem wy : TY.shape Try.prog 4 = some none := by kernel_rfl
theorem gb : TY.shape Try.prog 66 = some none := by kernel_rfl
theorem pZ : TY.shape Try.prog 73 = some (some 6) := by kernel_rfl
theorem HX : TY.shape Try.prog 9 = some none := by kernel_rfl
theorem sT : TY.shape Try.prog 98 = some none := by kernel_rfl
theorem bG : TY.size Try.prog 100 = some 6 := by kernel_rfl
theorem EC : TY.size Try.prog 128 = some 5 := by kernel_rfl
theorem As : TY.size Try.prog 130 = some 3 := by kernel_rfl
theorem yH : TY.size Try.prog 22 = some 1 := by kernel_rfl
theorem BC : TY.size Try.prog 23 = some 1 := by kernel_rfl
theorem cJ : TY.size Try.prog 3 = some 1 := by kernel_rfl
theorem KG : TY.size Try.prog 4 = some 1 := by kernel_rfl
theorem yI : TY.size Try.prog 73 = some 6 := by kernel_rfl
theorem HY : TY.size Try.prog 98 = some 1 := by kernel_rfl
theorem gX : TY.slice Try.prog 105 = some (22, 1, 24) := by kernel_rfl
theorem az : TY.slice Try.prog 22 = some (3, 1, 8) := by kernel_rfl
theorem iZ : TY.slice Try.prog 23 = some (73, 6, 64) := by kernel_rfl
theorem sU : TY.slice Try.prog 24 = some (128, 5, 48) := by kernel_rfl
theorem lK : TY.slice Try.prog 25 = some (130, 3, 32) := by kernel_rfl
theorem r4 : TY.slice Try.prog 62 = some (4, 1, 1) := by kernel_rfl
theorem ME : Try.prog.underlying 4 = some .bool := by kernel_rfl
theorem Gz : Try.prog.underlying 9 = some .string := by kernel_rfl
theorem iC : TY.zero Try.prog 100 = some [.int .i64 0, .int .i64 0, .int .i64 0, .int .i64 0, .int .i64 0, .int .i64 0] := by kernel_rfl
theorem ED : TY.zero Try.prog 128 = some [.string ByteArray.empty, .int .i64 0, .int .i64 0, .int .i64 0, .int .i64 0] := by kernel_rfl
theorem At : TY.zero Try.prog 130 = some [.string ByteArray.empty, .int .i64 0, .bool false] := by kernel_rfl
theorem yJ : TY.zero Try.prog 22 = some [.slice none 0 0] := by kernel_rfl
theorem fX : TY.zero Try.prog 3 = some [.int .i64 0] := by kernel_rfl
theorem KH : TY.zero Try.prog 4 = some [.bool false] := by kernel_rfl
theorem m6 : TY.zero Try.prog 73 = some [.int .i64 0, .int .i64 0, .int .i64 0, .slice none 0 0, .int .u64 0, .int .i64 0] := by kernel_rfl
theorem HZ : TY.zero Try.prog 98 = some [.nilFunc] := by kernel_rfl
open Go Go.AW Go.Proofs
theorem yK : TY.jh Try.prog 114 0 = some (0, 3) := by kernel_rfl
theorem nC : TY.jh Try.prog 159 0 = some (0, 85) := by kernel_rfl
theorem iD : TY.jh Try.prog 221 0 = some (0, 3) := by kernel_rfl
theorem gG : TY.jh Try.prog 221 1 = some (1, 3) := by kernel_rfl
theorem Au : aJ Try.prog 124 = true := by kernel_rfl
theorem ou : aJ Try.prog 125 = true := by kernel_rfl
theorem EE : aJ Try.prog 126 = true := by kernel_rfl
theorem EF : aJ Try.prog 127 = true := by kernel_rfl
theorem wz : aJ Try.prog 128 = true := by kernel_rfl
theorem w4 : aJ Try.prog 129 = true := by kernel_rfl
theorem Av : aJ Try.prog 130 = true := by kernel_rfl
theorem tS : aJ Try.prog 131 = true := by kernel_rfl
theorem EG : aJ Try.prog 132 = true := by kernel_rfl
theorem Aw : aJ Try.prog 142 = true := by kernel_rfl
theorem r5 : aJ Try.prog 143 = true := by kernel_rfl
theorem pA : aJ Try.prog 175 = true := by kernel_rfl
theorem Ax : aJ Try.prog 176 = true := by kernel_rfl
theorem EH : aJ Try.prog 177 = true := by kernel_rfl
theorem w5 : aJ Try.prog 178 = true := by kernel_rfl
theorem EI : aJ Try.prog 195 = true := by kernel_rfl
theorem Ay : aJ Try.prog 198 = true := by kernel_rfl
theorem EJ : aJ Try.prog 30 = true := by kernel_rfl
theorem EK : aJ Try.prog 32 = true := by kernel_rfl
theorem Ia : aJ Try.prog 37 = true := by kernel_rfl
theorem Ib : aJ Try.prog 45 = true := by kernel_rfl
theorem Ic : aJ Try.prog 74 = true := by kernel_rfl
theorem Ie : aJ Try.prog 75 = true := by kernel_rfl
theorem Ig : aJ Try.prog 76 = true := by kernel_rfl
theorem Ih : aJ Try.prog 77 = true := by kernel_rfl
theorem Ii : aJ Try.prog 78 = true := by kernel_rfl
theorem Ij : aJ Try.prog 79 = true := by kernel_rfl
theorem q3 : aJ Try.prog 95 = true := by kernel_rfl
theorem pf : aJ Try.prog 96 = true := by kernel_rfl
theorem BD : aJ Try.prog 97 = true := by kernel_rfl
theorem EL : TY.jk Try.prog 114 = some [(0, 1), (1, 1), (2, 1)] := by kernel_rfl
theorem EM : TY.jk Try.prog 152 = some [(0, 11)] := by kernel_rfl
theorem EN : TY.jk Try.prog 159 = some [(0, 1)] := by kernel_rfl
theorem tT : TY.jk Try.prog 221 = some [(0, 1), (1, 1)] := by kernel_rfl
theorem w6 : TY.shape Try.prog 221 = some (some 2) := by kernel_rfl
theorem BE : TY.shape Try.prog 85 = some none := by kernel_rfl
theorem tU : TY.size Try.prog 221 = some 2 := by kernel_rfl
theorem Ik : TY.size Try.prog 85 = some 1 := by kernel_rfl
theorem c3 : TY.slice Try.prog 219 = some (221, 2, 16) := by kernel_rfl
theorem uK : TY.slice Try.prog 85 = some (114, 3, 24) := by kernel_rfl
theorem w7 : TY.zero Try.prog 114 = some [.int .i64 0, .int .i64 0, .int .i64 0] := by kernel_rfl
theorem EO : TY.zero Try.prog 152 = some [.string ByteArray.empty, .slice none 0 0, .slice none 0 0, .slice none 0 0, .slice none 0 0, .slice none 0 0, .slice none 0 0, .slice none 0 0, .int .i64 0, .int .i64 0, .slice none 0 0] := by kernel_rfl
theorem EP : TY.zero Try.prog 159 = some [.slice none 0 0] := by kernel_rfl
theorem fc : TY.zero Try.prog 221 = some [.int .i64 0, .int .i64 0] := by kernel_rfl
open Go Go.AW
structure Gate where
 kind : Int
 a : Int
 b : Int
instance : Inhabited Gate := ⟨⟨0, 0, 0⟩⟩
def Gate.row (g : Gate) : List X := [.v (.int .i64 g.kind), .v (.int .i64 g.a), .v (.int .i64 g.b)]
theorem Gate.cD (g : Gate) : X.aW g.row = true := rfl
def m7 (i : Nat) (g : Gate) : Prop :=
 (1 ≤ g.kind ∧ g.kind ≤ 7) ∧ (if 4 ≤ g.kind then 0 ≤ g.a ∧ g.a < i else g.a = 0) ∧ (if 5 ≤ g.kind then 0 ≤ g.b ∧ g.b < i else g.b = 0)
def Good (l : List Gate) : Prop := ∀ i g, l[i]? = some g → m7 i g
def jt (l : List Gate) : Nat := l.countP (fun g => decide (g.kind = 3))
theorem gH (l e : List Gate) : jt (l ++ e) = jt l + jt e := List.countP_append
theorem kx (g : Gate) : jt [g] = if g.kind = 3 then 1 else 0 := by simp [jt, List.countP_cons]
theorem BF (l : List Gate) : jt l ≤ l.length := List.countP_le_length
theorem Good.nil : Good [] := fun i g h => by simp at h
theorem Good.snoc {l : List Gate} {g : Gate} (h : Good l) (hg : m7 l.length g) : Good (l ++ [g]) := by
 intro i q hi
 rcases Nat.lt_or_ge i l.length with h1 | h1
 ·rw [List.getElem?_append_left h1] at hi; exact h i q hi
 ·rw [List.getElem?_append_right h1] at hi
  rcases Nat.eq_zero_or_pos (i - l.length) with h2 | h2
  ·rw [h2] at hi; simp at hi; subst hi
   rwa [show i = l.length by omega]
  ·rw [List.getElem?_eq_none (by simp; omega)] at hi; cases hi
theorem Good.left {l e : List Gate} (h : Good (l ++ e)) : Good l := fun i g hi => h i g (by
 have : i < l.length := (List.getElem?_eq_some_iff.1 hi).1
 rw [List.getElem?_append_left this]; exact hi)
def valOf (out ins : List Bool) (n : Nat) (g : Gate) : Bool :=
 if g.kind = 2 then true else if g.kind = 3 then ins.getD n false else if g.kind = 4 then !out.getD g.a.toNat false
 else if g.kind = 5 then out.getD g.a.toNat false && out.getD g.b.toNat false else if g.kind = 6 then out.getD g.a.toNat false || out.getD g.b.toNat false
 else if g.kind = 7 then out.getD g.a.toNat false != out.getD g.b.toNat false else false
def sx (out ins : List Int) (n : Nat) (g : Gate) : Int :=
 if g.kind = 3 then ins.getD n 0 else if g.kind = 4 then out.getD g.a.toNat 0 + 10 else if 5 ≤ g.kind ∧ g.kind ≤ 7 then max (out.getD g.a.toNat 0) (out.getD g.b.toNat 0) + 20 else 0
section
variable {α : Type} (f : List α → Nat → Gate → α)
def jF (l : List Gate) : Nat → List α
 | 0 => []
 | i + 1 => jF l i ++ (match l[i]? with | some g => [f (jF l i) (jt (l.take i)) g] | none => [])
theorem fN {l : List Gate} {i : Nat} {q : Gate} (hg : l[i]? = some q) : jF f l (i + 1) = jF f l i ++ [f (jF f l i) (jt (l.take i)) q] := by
 simp [jF, hg]
theorem gd {l : List Gate} : ∀ {i : Nat}, i ≤ l.length → (jF f l i).length = i
 | 0, _ => rfl
 | i + 1, h => by
  rw [fN f (List.getElem?_eq_getElem (show i < l.length by omega)), List.length_append, gd om]; rfl
theorem ov {l e : List Gate} : ∀ {i : Nat}, i ≤ l.length → jF f (l ++ e) i = jF f l i
 | 0, _ => rfl
 | i + 1, h => by
  have hg : l[i]? = some l[i] := List.getElem?_eq_getElem (show i < l.length by omega)
  have MF : (l ++ e)[i]? = some l[i] := by rw [List.getElem?_append_left om]; exact hg
  rw [fN f hg, fN f MF, ov om, List.take_append_of_le_length om]
theorem m8 {l : List Gate} {g : Gate} : jF f (l ++ [g]) (l.length + 1) = jF f l l.length ++ [f (jF f l l.length) (jt l) g] := by
 rw [fN f (q := g) (by simp), ov f (Nat.le_refl _), List.take_append_of_le_length (Nat.le_refl _), List.take_length]
end
def outs (l : List Gate) (ins : List Bool) (i : Nat) : List Bool := jF (fun o n g => valOf o ins n g) l i
def kM (l : List Gate) (ins : List Int) (i : Nat) : List Int := jF (fun o n g => sx o ins n g) l i
def val (l : List Gate) (ins : List Bool) (i : Int) : Bool := (outs l ins l.length).getD i.toNat false
def vv (c : Int) (l : List Gate) (i : Int) : Int := (kM l (List.replicate (jt l) c) l.length).getD i.toNat 0
theorem uL {o ins r6 : List Int} {n : Nat} {g : Gate} (h : g.kind = 3 → ins.getD n 0 = r6.getD n 0) : sx o ins n g = sx o r6 n g := by
 unfold sx
 by_cases h3 : g.kind = 3
 ·rw [if_pos h3, if_pos h3, h h3]
 ·rw [if_neg h3, if_neg h3]
theorem ER {o ins r6 : List Int} {n n' : Nat} {g : Gate} (h : g.kind ≠ 3) : sx o ins n g = sx o r6 n' g := by
 unfold sx
 rw [if_neg h, if_neg h]
theorem na {l : List Gate} {ins r6 : List Int} (h : ∀ k, k < jt l → ins.getD k 0 = r6.getD k 0) : ∀ {i : Nat}, i ≤ l.length → kM l ins i = kM l r6 i
 | 0, _ => rfl
 | i + 1, hi => by
  have hg : l[i]? = some l[i] := List.getElem?_eq_getElem (show i < l.length by omega)
  have ih := na h (i := i) om
  unfold kM at ih ⊢
  rw [fN _ hg, fN _ hg, ih]
  congr 2
  refine uL fun h3 => h _ ?_
  have h1 : jt l = jt (l.take i) + jt (l.drop i) := by rw [← gH, List.take_append_drop]
  have h2 : 1 ≤ jt (l.drop i) := by
   have h4 : l.drop i = [l[i]] ++ l.drop (i + 1) := List.drop_eq_getElem_cons (show i < l.length by omega)
   rw [h4, gH, kx, if_pos h3]; omega
  omega
theorem ox {n k : Nat} {c : Int} (h : k < n) : (List.replicate n c).getD k 0 = c := by
 rw [List.getD_eq_getElem?_getD, List.getElem?_replicate, if_pos h]; rfl
theorem r7 {α : Type} {l : List Gate} {f : List α → Nat → Gate → α} {i j : Nat} (hi : i < j) : ∀ {m : Nat}, j ≤ m → m ≤ l.length → (jF f l m)[i]? = (jF f l j)[i]?
 | 0, h, _ => by omega
 | m + 1, h, hl => by
  rcases Nat.lt_or_ge m j with h1 | h1
  ·rw [show m + 1 = j by omega]
  ·rw [fN f (List.getElem?_eq_getElem (show m < l.length by omega)), List.getElem?_append_left (by rw [gd f om]; omega)]
   exact r7 hi h1 om
theorem pB {α : Type} {l : List Gate} {f : List α → Nat → Gate → α} {e : List Gate} {i : Nat} {d : α} (h : i < l.length) : (jF f (l ++ e) (l ++ e).length).getD i d = (jF f l l.length).getD i d := by
 rw [List.getD_eq_getElem?_getD, List.getD_eq_getElem?_getD, r7 (j := l.length) h (by simp) (Nat.le_refl _), ov f (Nat.le_refl _)]
theorem tV {l e : List Gate} {ins : List Bool} {i : Int} (h0 : 0 ≤ i) (h : i < l.length) : val (l ++ e) ins i = val l ins i := pB om
theorem tW {l e : List Gate} {c i : Int} (h0 : 0 ≤ i) (h : i < l.length) : vv c (l ++ e) i = vv c l i := by
 unfold vv
 have h1 : (kM (l ++ e) (List.replicate (jt (l ++ e)) c) (l ++ e).length).getD i.toNat 0 = (kM l (List.replicate (jt (l ++ e)) c) l.length).getD i.toNat 0 := pB om
 rw [h1, na (r6 := List.replicate (jt l) c) (fun k hk => by rw [ox (by rw [gH]; omega), ox hk]) (Nat.le_refl _)]
theorem gM {α : Type} {l : List α} {x d : α} {n : Nat} (h : n = l.length) : (l ++ [x]).getD n d = x := by subst h; simp
theorem val_last {l : List Gate} {g : Gate} {ins : List Bool} : val (l ++ [g]) ins (l.length : Int) = valOf (outs l ins l.length) ins (jt l) g := by
 unfold val outs
 rw [List.length_append, List.length_singleton, m8, Int.toNat_natCast]
 exact gM (gd _ (Nat.le_refl _)).symm
theorem w8 {l : List Gate} {g : Gate} {c : Int} (h : g.kind ≠ 3) : vv c (l ++ [g]) (l.length : Int) = sx (kM l (List.replicate (jt l) c) l.length) [] 0 g := by
 have h1 : jt (l ++ [g]) = jt l := by rw [gH, kx, if_neg h]; omega
 unfold vv kM
 rw [h1, List.length_append, List.length_singleton, m8, Int.toNat_natCast, gM (gd _ (Nat.le_refl _)).symm]
 exact ER h
open Go Go.AW
structure Ext (l l' : List Gate) : Prop where
 ex : ∃ e, l' = l ++ e ∧ ∀ g ∈ e, g.kind ≠ 3
 dz : Good l'
theorem Ext.refl {l : List Gate} (h : Good l) : Ext l l := ⟨⟨[], by simp, by simp⟩, h⟩
theorem Ext.trans {l l' KL : List Gate} (h : Ext l l') (h' : Ext l' KL) : Ext l KL := by
 obtain ⟨e, he, hk⟩ := h.ex
 obtain ⟨e', MG, tN⟩ := h'.ex
 refine ⟨⟨e ++ e', by rw [MG, he, List.append_assoc], fun g hg => ?_⟩, h'.dz⟩
 rcases List.mem_append.1 hg with h1 | h1
 ·exact hk g h1
 ·exact tN g h1
theorem Ext.one {l : List Gate} {g : Gate} (h : Good l) (hg : m7 l.length g) (hk : g.kind ≠ 3) : Ext l (l ++ [g]) :=
 ⟨⟨[g], rfl, fun x hx => by rw [List.mem_singleton.1 hx]; exact hk⟩, h.snoc hg⟩
theorem Ext.len {l l' : List Gate} (h : Ext l l') : l.length ≤ l'.length := by obtain ⟨e, rfl, _⟩ := h.ex; simp
theorem r8 : ∀ {e : List Gate}, (∀ g ∈ e, g.kind ≠ 3) → jt e = 0
 | [], _ => rfl
 | g :: e, h => by
  have h1 : jt (g :: e) = jt [g] + jt e := gH [g] e
  rw [h1, kx, if_neg (h g (by simp)), r8 (fun x hx => h x (by simp [hx]))]
theorem Ext.jt {l l' : List Gate} (h : Ext l l') : jt l' = jt l := by
 obtain ⟨e, rfl, hk⟩ := h.ex
 rw [gH, r8 hk]; omega
structure Wr (c : Int) (l : List Gate) (i : Int) (f : List Bool → Bool) (t : Int) : Prop where
 lo : 0 ≤ i
 hi : i < l.length
 v : ∀ ins, val l ins i = f ins
 t : vv c l i ≤ t
theorem Wr.ext {c : Int} {l l' : List Gate} {i : Int} {f : List Bool → Bool} {t : Int} (h : Wr c l i f t) (he : Ext l l') : Wr c l' i f t := by
 have hl := he.len
 obtain ⟨e, rfl, _⟩ := he.ex
 exact ⟨h.lo, by have := h.hi; omega, fun ins => by rw [tV h.lo h.hi]; exact h.v ins, by rw [tW h.lo h.hi]; exact h.t⟩
theorem Wr.late {c : Int} {l : List Gate} {i : Int} {f : List Bool → Bool} {t t' : Int} (h : Wr c l i f t) (ht : t ≤ t') : Wr c l i f t' := ⟨h.lo, h.hi, h.v, by have := h.t; omega⟩
theorem Wr.as {c : Int} {l : List Gate} {i : Int} {f f' : List Bool → Bool} {t : Int} (h : Wr c l i f t) (hf : ∀ ins, f ins = f' ins) : Wr c l i f' t := ⟨h.lo, h.hi, fun ins => by rw [h.v, hf], h.t⟩
section
variable {c : Int} {l : List Gate} {a b : Int} {f g : List Bool → Bool} {s t u : Int}
theorem Wr.last {g : Gate} {h : List Bool → Bool} (hk : g.kind ≠ 3) (hv : ∀ ins, valOf (outs l ins l.length) ins (jt l) g = h ins) (ht : sx (kM l (List.replicate (jt l) c) l.length) [] 0 g ≤ u) : Wr c (l ++ [g]) (l.length : Int) h u :=
 ⟨om, by simp; omega, fun ins => by rw [val_last]; exact hv ins, by rw [w8 hk]; exact ht⟩
theorem Wr.and (ha : Wr c l a f s) (hb : Wr c l b g t) (hs : s + 20 ≤ u) (ht : t + 20 ≤ u) : Wr c (l ++ [⟨5, a, b⟩]) (l.length : Int) (fun ins => f ins && g ins) u := by
 refine Wr.last (by simp) (fun ins => ?_) ?_
 ·have h1 := ha.v ins; have h2 := hb.v ins; unfold val at h1 h2
  simp only [valOf, h1, h2]; rfl
 ·have h1 := ha.t; have h2 := hb.t; unfold vv at h1 h2
  simp only [sx]; rw [if_neg ag, if_neg ag, if_pos ag]; omega
theorem Wr.or (ha : Wr c l a f s) (hb : Wr c l b g t) (hs : s + 20 ≤ u) (ht : t + 20 ≤ u) : Wr c (l ++ [⟨6, a, b⟩]) (l.length : Int) (fun ins => f ins || g ins) u := by
 refine Wr.last (by simp) (fun ins => ?_) ?_
 ·have h1 := ha.v ins; have h2 := hb.v ins; unfold val at h1 h2
  simp only [valOf, h1, h2]; rfl
 ·have h1 := ha.t; have h2 := hb.t; unfold vv at h1 h2
  simp only [sx]; rw [if_neg ag, if_neg ag, if_pos ag]; omega
theorem Wr.xor (ha : Wr c l a f s) (hb : Wr c l b g t) (hs : s + 20 ≤ u) (ht : t + 20 ≤ u) : Wr c (l ++ [⟨7, a, b⟩]) (l.length : Int) (fun ins => f ins ^^ g ins) u := by
 refine Wr.last (by simp) (fun ins => ?_) ?_
 ·have h1 := ha.v ins; have h2 := hb.v ins; unfold val at h1 h2
  simp only [valOf, h1, h2]
  cases f ins <;> cases g ins <;> rfl
 ·have h1 := ha.t; have h2 := hb.t; unfold vv at h1 h2
  simp only [sx]; rw [if_neg ag, if_neg ag, if_pos ag]; omega
theorem Wr.not (ha : Wr c l a f s) (hs : s + 10 ≤ u) : Wr c (l ++ [⟨4, a, 0⟩]) (l.length : Int) (fun ins => !f ins) u := by
 refine Wr.last (by simp) (fun ins => ?_) ?_
 ·have h1 := ha.v ins; unfold val at h1
  simp only [valOf, h1]; rfl
 ·have h1 := ha.t; unfold vv at h1
  simp only [sx]; rw [if_neg ag, if_pos ag]; omega
theorem Wr.zero (hu : 0 ≤ u) : Wr c (l ++ [⟨1, 0, 0⟩]) (l.length : Int) (fun _ => false) u := Wr.last ag (fun ins => rfl) (by simpa [sx] using hu)
theorem Wr.one (hu : 0 ≤ u) : Wr c (l ++ [⟨2, 0, 0⟩]) (l.length : Int) (fun _ => true) u := Wr.last ag (fun ins => rfl) (by simpa [sx] using hu)
theorem ok_two {k : Int} (hk : 5 ≤ k ∧ k ≤ 7) (ha : Wr c l a f s) (hb : Wr c l b g t) : m7 l.length ⟨k, a, b⟩ :=
 ⟨⟨by show 1 ≤ k; omega, hk.2⟩, by rw [if_pos (by show 4 ≤ k; omega)]; exact ⟨ha.lo, ha.hi⟩, by rw [if_pos hk.1]; exact ⟨hb.lo, hb.hi⟩⟩
theorem BG (ha : Wr c l a f s) : m7 l.length ⟨4, a, 0⟩ := ⟨⟨by simp, by simp⟩, by rw [if_pos (by simp)]; exact ⟨ha.lo, ha.hi⟩, by rw [if_neg (by simp)]⟩
theorem w9 {k : Int} {i : Nat} (hk : 1 ≤ k ∧ k ≤ 3) : m7 i ⟨k, 0, 0⟩ := ⟨⟨hk.1, by show k ≤ 7; omega⟩, by rw [if_neg (by show ¬ 4 ≤ k; omega)], by rw [if_neg (by show ¬ 5 ≤ k; omega)]⟩
theorem Ext.two {k : Int} (hg : Good l) (hk : 5 ≤ k ∧ k ≤ 7) (ha : Wr c l a f s) (hb : Wr c l b g t) : Ext l (l ++ [⟨k, a, b⟩]) := Ext.one hg (ok_two hk ha hb) (by show k ≠ 3; omega)
theorem Ext.not (hg : Good l) (ha : Wr c l a f s) : Ext l (l ++ [⟨4, a, 0⟩]) := Ext.one hg (BG ha) (by simp)
theorem Ext.Il {k : Int} (hg : Good l) (hk : 1 ≤ k ∧ k ≤ 2) : Ext l (l ++ [⟨k, 0, 0⟩]) := Ext.one hg (w9 ⟨hk.1, om⟩) (by show k ≠ 3; omega)
end
structure Wd (c : Int) (l : List Gate) (a : List Int) (w : Nat) (N : List Bool → BitVec w) (t : Int) : Prop where
 len : a.length = w
 bit : ∀ k, k < w → Wr c l (a.getD k 0) (fun ins => (N ins).getLsbD k) t
theorem Wd.ext {c : Int} {l l' : List Gate} {a : List Int} {w : Nat} {N : List Bool → BitVec w} {t : Int} (h : Wd c l a w N t) (he : Ext l l') : Wd c l' a w N t := ⟨h.len, fun k hk => (h.bit k hk).ext he⟩
theorem Wd.late {c : Int} {l : List Gate} {a : List Int} {w : Nat} {N : List Bool → BitVec w} {t t' : Int} (h : Wd c l a w N t) (ht : t ≤ t') : Wd c l a w N t' := ⟨h.len, fun k hk => (h.bit k hk).late ht⟩
structure Ws (c : Int) (l : List Gate) (a : List Int) (f : Nat → List Bool → Bool) (t : Int) : Prop where
 bit : ∀ k, k < a.length → Wr c l (a.getD k 0) (f k) t
theorem Ws.nil {c : Int} {l : List Gate} {f : Nat → List Bool → Bool} {t : Int} : Ws c l [] f t := ⟨fun k hk => by simp at hk⟩
theorem Ws.ext {c : Int} {l l' : List Gate} {a : List Int} {f : Nat → List Bool → Bool} {t : Int} (h : Ws c l a f t) (he : Ext l l') : Ws c l' a f t := ⟨fun k hk => (h.bit k hk).ext he⟩
theorem Ws.snoc {c : Int} {l : List Gate} {a : List Int} {x : Int} {f : Nat → List Bool → Bool} {t : Int} (h : Ws c l a f t) (hx : Wr c l x (f a.length) t) : Ws c l (a ++ [x]) f t := ⟨fun k hk => by
 rcases Nat.lt_or_ge k a.length with h1 | h1
 ·rw [List.getD_eq_getElem?_getD, List.getElem?_append_left h1, ← List.getD_eq_getElem?_getD]; exact h.bit k h1
 ·have : k = a.length := by simp at hk; omega
  subst this; rw [gM rfl]; exact hx⟩
theorem Ws.late {c : Int} {l : List Gate} {a : List Int} {f : Nat → List Bool → Bool} {t t' : Int} (h : Ws c l a f t) (ht : t ≤ t') : Ws c l a f t' := ⟨fun k hk => (h.bit k hk).late ht⟩
theorem Ws.as {c : Int} {l : List Gate} {a : List Int} {f f' : Nat → List Bool → Bool} {t : Int} (h : Ws c l a f t) (hf : ∀ k, k < a.length → ∀ ins, f k ins = f' k ins) : Ws c l a f' t := ⟨fun k hk => (h.bit k hk).as (hf k hk)⟩
theorem Wd.ws {c : Int} {l : List Gate} {a : List Int} {w : Nat} {N : List Bool → BitVec w} {t : Int} (h : Wd c l a w N t) : Ws c l a (fun k ins => (N ins).getLsbD k) t := ⟨fun k hk => h.bit k (by have := h.len; omega)⟩
theorem Ws.wd {c : Int} {l : List Gate} {a : List Int} {w : Nat} {f : Nat → List Bool → Bool} {N : List Bool → BitVec w} {t : Int} (h : Ws c l a f t) (hl : a.length = w) (hf : ∀ k, k < w → ∀ ins, f k ins = (N ins).getLsbD k) : Wd c l a w N t :=
 ⟨hl, fun k hk => (h.bit k om).as (hf k hk)⟩
open Go Go.AW
def ca (G P : Nat → Bool) (j : Nat) : Nat → Bool → Bool
 | 0, z => z
 | k + 1, z => G (j + k) || (P (j + k) && ca G P j k z)
def pp (P : Nat → Bool) (j : Nat) : Nat → Bool
 | 0 => true
 | k + 1 => P (j + k) && pp P j k
theorem Az {G P : Nat → Bool} {j : Nat} {z : Bool} : ∀ k, ca G P j k z = (ca G P j k false || (pp P j k && z))
 | 0 => by simp [ca, pp]
 | k + 1 => by
  simp only [ca, pp]
  rw [Az k]
  cases G (j + k) <;> cases P (j + k) <;> cases pp P j k <;> cases ca G P j k false <;> cases z <;> rfl
theorem wA {G P : Nat → Bool} {j k : Nat} {z : Bool} : ∀ m, ca G P j (k + m) z = ca G P (j + k) m (ca G P j k z)
 | 0 => rfl
 | m + 1 => by
  show (G (j + (k + m)) || (P (j + (k + m)) && ca G P j (k + m) z)) = _
  rw [wA m, ← Nat.add_assoc]; rfl
theorem wB {P : Nat → Bool} {j k : Nat} : ∀ m, pp P j (k + m) = (pp P (j + k) m && pp P j k)
 | 0 => by simp [pp]
 | m + 1 => by
  show (P (j + (k + m)) && pp P j (k + m)) = _
  rw [wB m, ← Nat.add_assoc]
  simp only [pp, Bool.and_assoc]
theorem lL {G P G' P' : Nat → Bool} {z : Bool} : ∀ {k}, (∀ i, i < k → G i = G' i) → (∀ i, i < k → P i = P' i) → ca G P 0 k z = ca G' P' 0 k z
 | 0, _, _ => rfl
 | k + 1, hg, hp => by
  simp only [ca, Nat.zero_add]
  rw [hg k om, hp k om, lL (fun i hi => hg i om) (fun i hi => hp i om)]
def gen (G P : Nat → Bool) (d i : Nat) : Bool := ca G P (i + 1 - d) (i + 1 - (i + 1 - d)) false
theorem yL {G P : Nat → Bool} {i : Nat} : gen G P 1 i = G i := by
 unfold gen
 rw [show i + 1 - 1 = i by omega, show i + 1 - i = 1 by omega]
 simp [ca]
theorem q4 {G P : Nat → Bool} {d i : Nat} (h : i < d) : gen G P d i = ca G P 0 (i + 1) false := by
 unfold gen
 rw [show i + 1 - d = 0 by omega]; rfl
theorem tX {G P : Nat → Bool} {d i : Nat} (h : d ≤ i) : gen G P (2 * d) i = (gen G P d i || (pp P (i + 1 - d) d && gen G P d (i - d))) := by
 unfold gen
 rw [show i + 1 - (i + 1 - d) = d by omega, ← Az]
 have h1 : i - d + 1 - d = i + 1 - 2 * d := by omega
 have h2 : i + 1 - (i + 1 - 2 * d) = (i - d + 1 - (i - d + 1 - d)) + d := by omega
 rw [h2, wA, h1, show i + 1 - 2 * d + (i - d + 1 - (i + 1 - 2 * d)) = i + 1 - d by omega]
theorem wC {G P : Nat → Bool} {d i : Nat} (h : i < d) : gen G P (2 * d) i = gen G P d i := by
 rw [q4 h, q4 om]
theorem BH {P : Nat → Bool} {d i : Nat} (h : 2 * d ≤ i + 1) : pp P (i + 1 - 2 * d) (2 * d) = (pp P (i + 1 - d) d && pp P (i - d + 1 - d) d) := by
 rw [Nat.two_mul, wB, show i + 1 - (d + d) + d = i + 1 - d by omega, show i - d + 1 - d = i + 1 - (d + d) by omega]
theorem oy {w : Nat} {x y : BitVec w} {z : Bool} : ∀ n, ca (fun i => x.getLsbD i && y.getLsbD i) (fun i => x.getLsbD i ^^ y.getLsbD i) 0 n z = BitVec.carry n x y z
 | 0 => by simp [ca, BitVec.carry_zero]
 | n + 1 => by
  simp only [ca, Nat.zero_add]
  rw [oy n, BitVec.carry_succ]
  cases x.getLsbD n <;> cases y.getLsbD n <;> cases BitVec.carry n x y z <;> rfl
theorem yM {w : Nat} {x y : BitVec w} {i : Nat} (h : i < w) : (x + y).getLsbD i = ((x.getLsbD i ^^ y.getLsbD i) ^^ ca (fun i => x.getLsbD i && y.getLsbD i) (fun i => x.getLsbD i ^^ y.getLsbD i) 0 i false) := by
 rw [oy, BitVec.getLsbD_add h, Bool.xor_assoc]
def yO {w : Nat} (x y : BitVec w) (i : Nat) : Bool := if i = 0 then x.getLsbD 0 || !y.getLsbD 0 else x.getLsbD i && !y.getLsbD i
theorem wD {w : Nat} {x y : BitVec w} : ∀ n, n + 1 ≤ w → ca (yO x y) (fun i => x.getLsbD i ^^ !y.getLsbD i) 0 (n + 1) false = ca (fun i => x.getLsbD i && (~~~y).getLsbD i) (fun i => x.getLsbD i ^^ (~~~y).getLsbD i) 0 (n + 1) true
 | 0, hw => by
  simp only [ca, yO, Nat.add_zero, if_true, BitVec.getLsbD_not, show 0 < w by omega, decide_true, Bool.true_and]
  cases x.getLsbD 0 <;> cases y.getLsbD 0 <;> rfl
 | n + 1, hw => by
  have h := wD (x := x) (y := y) n om
  rw [ca, h]
  conv => rhs; rw [ca]
  simp only [Nat.zero_add, yO, Nat.add_one_ne_zero, if_false, BitVec.getLsbD_not, show n + 1 < w by omega, decide_true, Bool.true_and]
theorem yP {w : Nat} {x y : BitVec w} {i : Nat} (h : i < w) (h0 : 0 < i) : (x - y).getLsbD i = ((x.getLsbD i ^^ !y.getLsbD i) ^^ ca (yO x y) (fun i => x.getLsbD i ^^ !y.getLsbD i) 0 i false) := by
 obtain ⟨i, rfl⟩ : ∃ j, i = j + 1 := ⟨i - 1, om⟩
 rw [wD i om, oy, BitVec.sub_eq_add_neg, BitVec.neg_eq_not_add, ← BitVec.add_assoc]
 have h1 := BitVec.getLsbD_add_add_bool h x (~~~y) true
 rw [show BitVec.setWidth w (BitVec.ofBool true) = 1#w by
  apply BitVec.eq_of_toNat_eq; simp] at h1
 rw [h1, BitVec.getLsbD_not]
 simp [show i + 1 < w by omega, Bool.xor_assoc]
theorem wE {w : Nat} {x y : BitVec w} (h : 0 < w) : (x - y).getLsbD 0 = (x.getLsbD 0 ^^ y.getLsbD 0) := by
 have h1 := BitVec.getLsbD_add_add_bool h x (~~~y) true
 rw [show BitVec.setWidth w (BitVec.ofBool true) = 1#w by
  apply BitVec.eq_of_toNat_eq; simp] at h1
 rw [BitVec.sub_eq_add_neg, BitVec.neg_eq_not_add, ← BitVec.add_assoc, h1, BitVec.getLsbD_not, BitVec.carry_zero]
 simp only [h, decide_true, Bool.true_and]
 cases x.getLsbD 0 <;> cases y.getLsbD 0 <;> rfl
open Go Go.AW
def gY (x : Nat) : Prop := (97 ≤ x ∧ x ≤ 122) ∨ (65 ≤ x ∧ x ≤ 90) ∨ (48 ≤ x ∧ x ≤ 57) ∨ x = 95
def nc (s : ByteArray) : Prop := (∀ i, i < s.size → gY (aV s i)) ∧ s.size ≤ 64
def dL (w : Int) : Prop := 1 ≤ w ∧ w ≤ 64
def b5 (op : Int) : Int := if (2 ≤ op ∧ op ≤ 3) ∨ (9 ≤ op ∧ op ≤ 20) then 2 else if op = 21 then 3 else if 22 ≤ op ∧ op ≤ 24 then 1 else 0
theorem OA {p : Prop} (h : p := by ((simp only [Shaped, b5, Int.reduceEq, Bool.not_eq_true, false_and, true_and, and_true, and_false, or_false, false_or, ne_eq]) <;> (first | omega | grind))) : p := h
def Shaped (n : ab) (c : Cell) : Prop :=
 (c.kind = 1 ∧ c.args.length = 0 ∧ c.op = 0 ∧ c.mem = 0) ∨
 (c.kind = 2 ∧ b5 c.op ≠ 0 ∧ (c.args.length : Int) = b5 c.op ∧ c.num = 0 ∧ c.mem = 0) ∨
 (c.kind = 3 ∧ 2 ≤ c.args.length ∧ c.args.length % 2 = 0 ∧ c.op = 0 ∧ c.num = 0 ∧ c.mem = 0) ∨
 (c.kind = 4 ∧ c.args.length = 2 ∧ c.op = 0 ∧ c.mem = 0) ∨
 (c.kind = 5 ∧ c.args.length = 2 ∧ (4 ≤ c.op ∧ c.op ≤ 8) ∧ (1 ≤ c.num ∧ c.num ≤ 4096) ∧ c.mem = 0) ∨
 (c.kind = 6 ∧ c.args.length = 2 ∧ c.op = 0 ∧ c.num = 0 ∧ 0 ≤ c.mem ∧ c.mem < n.bh.length) ∨
 (c.kind = 7 ∧ c.args.length = 3 ∧ c.op = 0 ∧ c.num = 0 ∧ 0 ≤ c.mem ∧ c.mem < n.bh.length) ∨
 (c.kind = 8 ∧ c.args.length = 0 ∧ c.op = 0 ∧ c.num < n.ins.length ∧ c.mem = 0) ∨
 (c.kind = 9 ∧ c.args.length = 0 ∧ c.op = 0 ∧ c.num = 0 ∧ 0 ≤ c.mem ∧ c.mem < n.streams.length) ∨
 (c.kind = 10 ∧ c.args.length = 0 ∧ c.op = 0 ∧ c.num = 0 ∧ (0 ≤ c.mem ∧ c.mem < n.streams.length) ∧ (n.streams.getD c.mem.toNat default).out = false)
theorem OB {p : Prop} (h : p := by ((simp only [Shaped, Int.reduceEq, Bool.not_eq_true, false_and, true_and, and_true, and_false, or_false, false_or, ne_eq]) <;> (first | omega | grind))) : p := h
theorem eB {p : Prop} (h : p := by ((simp only [Shaped, *, Int.reduceEq, Bool.not_eq_true, false_and, true_and, and_true, and_false, or_false, false_or, ne_eq]) <;> (first | omega | grind))) : p := h
noncomputable instance (s : ByteArray) : Decidable (nc s) := Classical.propDecidable _
instance (w : Int) : Decidable (dL w) := by unfold dL; infer_instance
noncomputable instance (n : ab) (c : Cell) : Decidable (Shaped n c) := Classical.propDecidable _
theorem dt {p : Prop} [Decidable p] (h : p) : true = decide p := (decide_eq_true h).symm
theorem df {p : Prop} [Decidable p] (h : ¬ p) : false = decide p := (decide_eq_false h).symm
theorem dd {p q : Prop} [Decidable p] [Decidable q] (h : p ↔ q) : decide p = decide q := by
 by_cases hq : q
 ·rw [decide_eq_true hq, decide_eq_true (h.2 hq)]
 ·rw [decide_eq_false hq, decide_eq_false (fun hp => hq (h.1 hp))]
theorem db {b : Bool} {q : Prop} [Decidable q] (h : b = true ↔ q) : b = decide q := by
 cases b
 ·exact df (fun hq => by have := h.2 hq; cases this)
 ·exact dt (h.1 rfl)
open Go Go.AW
def jY (w : Int) : Nat := if w < 0 then 0 else if 64 < w then 64 else w.toNat
theorem q5 (w : Int) : jY w ≤ 64 := by unfold jY; (repeat' split) <;> omega
def kE (w : Int) (x : Nat) : Nat := x % 2 ^ jY w
theorem sV : ∀ k : Nat, k < 65 → 18446744073709551615 / 2 ^ (64 - k) = 2 ^ k - 1 := by decide +kernel
theorem wF : ∀ k : Nat, k < 65 → 1 ≤ 2 ^ k ∧ 2 ^ k ≤ 18446744073709551616 := by decide +kernel
theorem yQ (w : Int) : 18446744073709551615 / 2 ^ (64 - jY w) = 2 ^ jY w - 1 := sV _ (by have := q5 w; omega)
theorem yR (w : Int) : 2 ^ jY w - 1 < 18446744073709551616 := by have := wF (jY w) (by have := q5 w; omega); omega
theorem wG (w : Int) (x : Nat) : x &&& (2 ^ jY w - 1) = kE w x := Nat.and_two_pow_sub_one_eq_mod x (jY w)
theorem dc {l : List Int} {i : Nat} (h : i < l.length) : l.getD i 0 ∈ l := by
 rw [List.getD_eq_getElem?_getD, List.getElem?_eq_getElem h]; exact List.getElem_mem h
def eo (op : Int) : Prop := 15 ≤ op ∧ op ≤ 20
def uM (op : Int) : Prop := 2 ≤ op ∧ op ≤ 20
def Seq (op : Int) : Prop := 4 ≤ op ∧ op ≤ 8
def Unary (op : Int) : Prop := op = 22 ∨ op = 23 ∨ op = 24
def Plain (op : Int) : Prop := (uM op ∧ ¬ Seq op) ∨ op = 21 ∨ Unary op
def cM (k : Int) : Prop := k = 1 ∨ k = 2 ∨ k = 3
def In (i n : Int) : Prop := 0 ≤ i ∧ i < n
theorem fF {p : Prop} (h : p := by first | omega | (simp [-List.getD_eq_getElem?_getD]; done) | (simp [-List.getD_eq_getElem?_getD]; omega) | (unfold In at *; omega)) : p := h
instance (w : Int) : Decidable (eo w) := by unfold eo; infer_instance
instance (w : Int) : Decidable (uM w) := by unfold uM; infer_instance
instance (w : Int) : Decidable (Seq w) := by unfold Seq; infer_instance
instance (w : Int) : Decidable (Unary w) := by unfold Unary; infer_instance
instance (w : Int) : Decidable (Plain w) := by unfold Plain; infer_instance
instance (w : Int) : Decidable (cM w) := by unfold cM; infer_instance
instance (i n : Int) : Decidable (In i n) := by unfold In; infer_instance
open Go Go.AW
def ab.wd (n : ab) (x : Int) : Int := n.ai.getD x.toNat 0
def ab.ow (n : ab) (c : Cell) : Int := if 0 ≤ c.out then n.wd c.out else 0
def ab.av (n : ab) (c : Cell) (k : Nat) : Int := n.wd (c.args.getD k 0)
def bR (op a b d w : Int) : Prop :=
 (op = 21 ∧ a = 1 ∧ b = w ∧ d = w) ∨ ((op = 22 ∨ op = 23) ∧ a ≤ w) ∨ (op = 24 ∧ w ≤ a) ∨ (eo op ∧ w = 1 ∧ a = b) ∨ (¬ eo op ∧ (op < 21 ∨ 24 < op) ∧ a = w ∧ b = w)
def gZ (n : ab) (c : Cell) (k : Nat) : Prop := (k % 2 = 0 ∧ n.av c k = 1) ∨ (k % 2 = 1 ∧ n.av c k = n.ow c)
def Fits (n : ab) (c : Cell) : Prop :=
 (c.kind = 1 ∧ kE (n.ow c) c.num = c.num) ∨
 (c.kind = 2 ∧ bR c.op (n.av c 0) (n.av c 1) (n.av c 2) (n.ow c)) ∨
 (c.kind = 3 ∧ ∀ k, k < c.args.length → gZ n c k) ∨
 (c.kind = 4 ∧ n.av c 0 = 1 ∧ n.av c 1 = n.ow c ∧ kE (n.ow c) c.num = c.num) ∨
 (c.kind = 5 ∧ n.av c 0 = n.ow c ∧ n.av c 1 = n.ow c) ∨
 (c.kind = 6 ∧ n.av c 0 = 1 ∧ (n.bh.getD c.mem.toNat default).width = n.ow c) ∨
 (c.kind = 7 ∧ n.av c 0 = 1 ∧ (n.bh.getD c.mem.toNat default).width = n.av c 2) ∨
 (c.kind = 8 ∧ n.ins.getD c.num 0 = n.ow c) ∨
 (c.kind = 9 ∧ n.ow c = 1) ∨
 (c.kind = 10 ∧ (n.streams.getD c.mem.toNat default).width = n.ow c)
theorem sy {p : Prop} (h : p := by ((simp only [Fits, bR, eo, *, Int.reduceEq, Bool.not_eq_true, false_and, true_and, and_true, and_false, or_false, false_or, ne_eq]) <;> omega)) : p := h
instance (op a b d w : Int) : Decidable (bR op a b d w) := by unfold bR; infer_instance
noncomputable instance (n : ab) (c : Cell) : Decidable (Fits n c) := Classical.propDecidable _
structure tY (n : ab) (c : Cell) : Prop where
 out : c.out = -1 ∧ c.kind = 7 ∨ (0 ≤ c.out ∧ c.out < n.ai.length) ∧ c.kind ≠ 7
 args : ∀ x ∈ c.args, 0 ≤ x ∧ x < n.ai.length
theorem tY.arg {n : ab} {c : Cell} (h : tY n c) {k : Nat} (hk : k < c.args.length) : 0 ≤ c.args.getD k 0 ∧ c.args.getD k 0 < n.ai.length := h.args _ (dc hk)
section
variable {n : ab} {c : Cell} (h : Shaped n c)
include h
theorem Shaped.k2 (k : c.kind = 2) : ((2 ≤ c.op ∧ c.op ≤ 3 ∨ 9 ≤ c.op ∧ c.op ≤ 20) ∧ c.args.length = 2) ∨ (c.op = 21 ∧ c.args.length = 3) ∨ (22 ≤ c.op ∧ c.op ≤ 24 ∧ c.args.length = 1) := by
 simp only [Shaped, k, Int.reduceEq, false_and, true_and, false_or, or_false] at h
 obtain ⟨h1, h2, _⟩ := h
 unfold b5 at h1 h2
 split at h2
 ·omega
 ·split at h2
  ·omega
  ·split at h2 <;> omega
theorem Shaped.k3 (k : c.kind = 3) : 2 ≤ c.args.length ∧ c.args.length % 2 = 0 := by simp only [Shaped, k, Int.reduceEq, false_and, true_and, false_or, or_false] at h; omega
theorem Shaped.k4 (k : c.kind = 4) : c.args.length = 2 := by simp only [Shaped, k, Int.reduceEq, false_and, true_and, false_or, or_false] at h; omega
theorem Shaped.k5 (k : c.kind = 5) : c.args.length = 2 ∧ 4 ≤ c.op ∧ c.op ≤ 8 ∧ 1 ≤ c.num ∧ c.num ≤ 4096 := by simp only [Shaped, k, Int.reduceEq, false_and, true_and, false_or, or_false] at h; omega
theorem Shaped.k6 (k : c.kind = 6) : c.args.length = 2 ∧ 0 ≤ c.mem ∧ c.mem < n.bh.length := by simp only [Shaped, k, Int.reduceEq, false_and, true_and, false_or, or_false] at h; omega
theorem Shaped.k7 (k : c.kind = 7) : c.args.length = 3 ∧ 0 ≤ c.mem ∧ c.mem < n.bh.length := by simp only [Shaped, k, Int.reduceEq, false_and, true_and, false_or, or_false] at h; omega
theorem Shaped.k8 (k : c.kind = 8) : c.num < n.ins.length := by simp only [Shaped, k, Int.reduceEq, false_and, true_and, false_or, or_false] at h; omega
theorem Shaped.GA (k : c.kind = 10) : 0 ≤ c.mem ∧ c.mem < n.streams.length := by simp only [Shaped, k, Int.reduceEq, false_and, true_and, false_or, or_false] at h; omega
theorem Shaped.kind : 1 ≤ c.kind ∧ c.kind ≤ 10 := by unfold Shaped at h; omega
end
theorem bD {α : Type} (l : List α) (i j : Nat) (v d : α) : (l.set i v).getD j d = if i = j ∧ i < l.length then v else l.getD j d := by
 rw [List.getD_eq_getElem?_getD, List.getD_eq_getElem?_getD, List.getElem?_set]
 by_cases h : i = j
 ·subst h
  by_cases h2 : i < l.length
  ·simp [h2]
  ·simp [h2]
 ·simp [h]
theorem uN {α : Type} {l : List α} {i : Nat} {d v : α} {f : Nat → α} (h : ∀ j, j < i → l.getD j d = f j) (hv : v = f i) (hi : i < l.length) : ∀ j, j < i + 1 → (l.set i v).getD j d = f j := by
 intro j hj
 rw [bD]
 split
 ·next e => rw [← e.1]; exact hv
 ·exact h j om
theorem wH {n : ab} {c : Cell} {i : Nat} (h : ∀ k, k < i → gZ n c k) (hi : gZ n c i) : ∀ k, k < i + 1 → gZ n c k := by
 intro k hk
 rcases Nat.lt_succ_iff_lt_or_eq.1 hk with h1 | h1
 ·exact h k h1
 ·exact h1 ▸ hi
open Go Go.AW
section
variable {α : Type} {d : α} {p : α → Bool} {l : List α}
def q6 (p : α → Bool) (l : List α) : Int := if l.any p then (l.findIdx p : Int) else -1
theorem ln {i : Nat} (h0 : ∀ j, j < i → p (l.getD j d) = false) (hi : i < l.length) (h : p (l.getD i d) = true) : (i : Int) = q6 p l := by
 have e : l.findIdx p = i := by
  rw [List.findIdx_eq hi]
  rw [List.getD_eq_getElem?_getD, List.getElem?_eq_getElem hi] at h
  refine ⟨h, fun j hj => ?_⟩
  have := h0 j hj
  rw [List.getD_eq_getElem?_getD, List.getElem?_eq_getElem om] at this
  exact this
 have ha : l.any p = true := by
  rw [List.any_eq_true]
  refine ⟨l.getD i d, ?_, h⟩
  rw [List.getD_eq_getElem?_getD, List.getElem?_eq_getElem hi]; exact List.getElem_mem hi
 unfold q6; rw [if_pos ha, e]
theorem m9 (h0 : ∀ j, j < l.length → p (l.getD j d) = false) : -1 = q6 p l := by
 have ha : ¬ (l.any p = true) := by
  rw [List.any_eq_true]
  rintro ⟨x, hx, hp⟩
  obtain ⟨i, hi, rfl⟩ := List.mem_iff_getElem.1 hx
  have := h0 i hi
  rw [List.getD_eq_getElem?_getD, List.getElem?_eq_getElem hi] at this
  exact absurd (hp.symm.trans this) ag
 unfold q6; rw [if_neg ha]
theorem oz : decide (0 ≤ q6 p l) = l.any p := by
 unfold q6
 by_cases h : l.any p = true
 ·rw [if_pos h, h]; simp
 ·rw [if_neg h]; simp only [Bool.not_eq_true] at h; rw [h]; rfl
theorem jZ {i : Nat} (h : ∀ j, j < i → p (l.getD j d) = false) (hi : p (l.getD i d) = false) : ∀ j, j < i + 1 → p (l.getD j d) = false := by
 intro k hk
 rcases Nat.lt_succ_iff_lt_or_eq.1 hk with h1 | h1
 ·exact h k h1
 ·exact h1 ▸ hi
theorem eD {i : Nat} (h : i < l.length) : l.getD i d ∈ l := by
 rw [List.getD_eq_getElem?_getD, List.getElem?_eq_getElem h]; exact List.getElem_mem h
theorem pC {ls : List (List α)} {i : Nat} (hi : i < ls.length) : (ls.take (i + 1)).flatten = (ls.take i).flatten ++ ls.getD i [] := by
 rw [List.take_add_one, List.flatten_append, List.getD_eq_getElem?_getD, List.getElem?_eq_getElem hi]; simp
theorem lM (ls : List (List α)) (i : Nat) : (ls.take i).flatten.length ≤ ls.flatten.length := by
 conv => rhs; rw [← List.take_append_drop i ls, List.flatten_append, List.length_append]
 omega
end
open Go Go.AW
def kN (m : oW) : Prop := nc m.name ∧ dL m.width ∧ 1 ≤ m.len ∧ m.len ≤ 4096 ∧ m.kind = 0 ∧ m.od = 0
def iE (n : ab) (i : Nat) : Prop :=
 nc (n.streams.getD i default).name ∧ dL (n.streams.getD i default).width ∧ In (n.bQ.getD i 0) n.ai.length ∧
 ((n.streams.getD i default).out = true → In (n.data.getD i 0) n.ai.length) ∧ ((n.streams.getD i default).out = false → n.data.getD i 0 = -1)
def ia (n : ab) (c : Cell) : Prop := (∀ x ∈ c.args, In x n.ai.length) ∧ Shaped n c ∧ (c.kind = 7 → c.out = -1) ∧ (c.kind ≠ 7 → In c.out n.ai.length)
def bV (l : List Cell) (w : Nat) : Nat := l.countP (fun c => decide (c.kind ≠ 7 ∧ c.out = (w : Int)))
structure bn (n : ab) : Prop where
 name : nc n.name
 ea : n.cells.length ≤ 65536
 dC : n.ai.length ≤ 65536
 iF : n.bh.length ≤ 64
 cA : n.streams.length ≤ 64
 dM : n.bQ.length = n.streams.length
 ib : n.data.length = n.streams.length
 wide : ∀ j, j < (n.ai ++ n.ins).length → dL ((n.ai ++ n.ins).getD j 0)
 bh : ∀ j, j < n.bh.length → kN (n.bh.getD j default)
 strs : ∀ j, j < n.streams.length → iE n j
 freeze : In n.freeze n.ai.length
 done : In n.done n.ai.length
 ee : ∀ r ∈ n.ee, In r n.ai.length
 cells : ∀ j, j < n.cells.length → ia n (n.cells.getD j default)
 ju : ∀ w, w < n.ai.length → bV n.cells w = 1
noncomputable instance (n : ab) : Decidable (bn n) := Classical.propDecidable _
theorem fe {p : Nat → Prop} {i : Nat} (h : ∀ j, j < i → p j) (hi : p i) : ∀ j, j < i + 1 → p j := by
 intro k hk
 rcases Nat.lt_succ_iff_lt_or_eq.1 hk with h1 | h1
 ·exact h k h1
 ·exact h1 ▸ hi
theorem dV {l : List Cell} {i : Nat} (hi : i < l.length) (w : Nat) : bV (l.take (i + 1)) w = bV (l.take i) w + if (l.getD i default).kind ≠ 7 ∧ (l.getD i default).out = (w : Int) then 1 else 0 := by
 rw [List.take_add_one, List.getElem?_eq_getElem hi, List.getD_eq_getElem?_getD, List.getElem?_eq_getElem hi]
 simp only [bV, List.countP_append, Option.toList_some, List.countP_cons, List.countP_nil, Option.getD_some, Nat.zero_add, decide_eq_true_eq]
theorem mA (l : List Cell) (i w : Nat) : bV (l.take i) w ≤ bV l w := by
 conv => rhs; rw [← List.take_append_drop i l]
 simp only [bV, List.countP_append]; omega
def qT (n : ab) (i : Nat) (d : List Bool) : Prop := ∀ w, w < n.ai.length → bV (n.cells.take i) w ≤ 1 ∧ (d.getD w false = true ↔ bV (n.cells.take i) w = 1)
theorem qT.init (n : ab) : qT n 0 (List.replicate n.ai.length false) := by
 intro w hw
 refine ⟨by simp [bV], ?_⟩
 rw [List.getD_eq_getElem?_getD, List.getElem?_replicate, if_pos hw]; simp [bV]
theorem qT.skip {n : ab} {i : Nat} {d : List Bool} (h : qT n i d) (hi : i < n.cells.length) (h7 : (n.cells.getD i default).kind = 7) : qT n (i + 1) d := by
 intro w hw
 rw [dV hi, if_neg (fun h => h.1 h7)]
 exact h w hw
theorem qT.step {n : ab} {i : Nat} {d : List Bool} (h : qT n i d) (hi : i < n.cells.length) (h7 : (n.cells.getD i default).kind ≠ 7) (ho : In (n.cells.getD i default).out n.ai.length)
  (hl : d.length = n.ai.length) (hn : d.getD (n.cells.getD i default).out.toNat false = false) : qT n (i + 1) (d.set (n.cells.getD i default).out.toNat true) := by
 intro w hw
 have hh := h w hw
 rw [dV hi, bD]
 unfold In at ho
 by_cases e : (n.cells.getD i default).out = (w : Int)
 ·rw [if_pos ⟨h7, e⟩, if_pos ⟨om, om⟩]
  have e2 : (n.cells.getD i default).out.toNat = w := by omega
  rw [e2] at hn
  have h0 : bV (n.cells.take i) w ≠ 1 := fun h1 => by have := hh.2.2 h1; rw [hn] at this; cases this
  have OC := hh.1
  exact ⟨om, by simp; omega⟩
 ·rw [if_neg (fun h => e h.2), if_neg om]
  exact hh
theorem qT.dup {n : ab} {i : Nat} {d : List Bool} (h : qT n i d) (hi : i < n.cells.length) (h7 : (n.cells.getD i default).kind ≠ 7) (ho : In (n.cells.getD i default).out n.ai.length)
  (hn : d.getD (n.cells.getD i default).out.toNat false = true) (hf : bn n) : False := by
 unfold In at ho
 have hh := h (n.cells.getD i default).out.toNat om
 have h1 := hh.2.1 hn
 have h2 := dV hi (n.cells.getD i default).out.toNat
 rw [if_pos ⟨h7, om⟩, h1] at h2
 have h3 := mA n.cells (i + 1) (n.cells.getD i default).out.toNat
 have h4 := hf.ju (n.cells.getD i default).out.toNat om
 omega
theorem qT.all {n : ab} {d : List Bool} (h : qT n n.cells.length d) (hl : d.length = n.ai.length) : (!(d.any (fun x => false == x))) = true ↔ ∀ w, w < n.ai.length → bV n.cells w = 1 := by
 unfold qT at h
 rw [List.take_length] at h
 rw [Bool.not_eq_true', List.any_eq_false]
 constructor
 ·intro ha w hw
  refine (h w hw).2.1 ?_
  have := ha (d.getD w false) (eD om)
  cases hd : d.getD w false
  ·rw [hd] at this; exact absurd rfl this
  ·rfl
 ·intro ha x hx
  obtain ⟨w, hw, rfl⟩ := List.mem_iff_getElem.1 hx
  have := (h w om).2.2 (ha w om)
  rw [List.getD_eq_getElem?_getD, List.getElem?_eq_getElem hw] at this
  have t : d[w] = true := this
  rw [t]; decide
theorem ky {l : List Int} {p : Int → Prop} [DecidablePred p] : (l.any (fun z => !decide (p z))) = true ↔ ¬ ∀ z ∈ l, p z := by
 rw [List.any_eq_true]
 constructor
 ·rintro ⟨x, hx, hp⟩ h
  simp [h x hx] at hp
 ·intro h
  refine Classical.byContradiction fun hh => h fun z hz => Classical.byContradiction fun hp => hh ⟨z, hz, by simp [hp]⟩
theorem iN {l : List Int} {p : Int → Prop} [DecidablePred p] (h : (l.any (fun z => !decide (p z))) = false) : ∀ z ∈ l, p z := by
 refine Classical.byContradiction fun hh => ?_
 rw [ky.2 hh] at h; cases h
open Go Go.AW
def ka (n : ab) (i : Nat) : Prop := n.wd (n.bQ.getD i 0) = 1 ∧ ((n.streams.getD i default).out = true → n.wd (n.data.getD i 0) = (n.streams.getD i default).width)
structure Fit (n : ab) : Prop where
 freeze : n.wd n.freeze = 1
 done : n.wd n.done = 1
 strs : ∀ j, j < n.streams.length → ka n j
 cells : ∀ j, j < n.cells.length → Fits n (n.cells.getD j default)
noncomputable instance (n : ab) : Decidable (Fit n) := Classical.propDecidable _
theorem ia.ES {n : ab} {c : Cell} (h : ia n c) : tY n c := by
 obtain ⟨h1, h2, h3, h4⟩ := h
 refine ⟨?_, h1⟩
 by_cases h7 : c.kind = 7
 ·exact .inl ⟨h3 h7, h7⟩
 ·exact .inr ⟨h4 h7, h7⟩
theorem bn.cell {n : ab} (h : bn n) {c : Cell} (hc : c ∈ n.cells) : ia n c := by
 obtain ⟨i, hi, rfl⟩ := List.mem_iff_getElem.1 hc
 have := h.cells i hi
 rw [List.getD_eq_getElem?_getD, List.getElem?_eq_getElem hi] at this
 exact this
theorem wI {α : Type} {l : List α} {p : α → Prop} [DecidablePred p] : (l.any (fun z => !decide (p z))) = true ↔ ¬ ∀ z ∈ l, p z := by
 rw [List.any_eq_true]
 constructor
 ·rintro ⟨x, hx, hp⟩ h
  simp [h x hx] at hp
 ·intro h
  refine Classical.byContradiction fun hh => h fun z hz => Classical.byContradiction fun hp => hh ⟨z, hz, by simp [hp]⟩
theorem r9 {α : Type} {l : List α} {p : α → Prop} {d : α} : (∀ j, j < l.length → p (l.getD j d)) ↔ ∀ z ∈ l, p z := by
 constructor
 ·intro h z hz
  obtain ⟨i, hi, rfl⟩ := List.mem_iff_getElem.1 hz
  have := h i hi
  rw [List.getD_eq_getElem?_getD, List.getElem?_eq_getElem hi] at this
  exact this
 ·exact fun h j hj => h _ (eD hj)
theorem rA {n : ab} (h1 : n.wd n.freeze = 1) (h2 : n.wd n.done = 1) (h3 : ∀ j, j < n.streams.length → ka n j) : (!(n.cells.any (fun z => !decide (Fits n z)))) = true ↔ Fit n := by
 rw [Bool.not_eq_true', ← Bool.not_eq_true, wI, Classical.not_not, ← r9 (d := default)]
 exact ⟨fun h => ⟨h1, h2, h3, h⟩, fun h => h.cells⟩
open Go Go.AW
theorem length_le_of_subset {α : Type} [DecidableEq α] : ∀ {l m : List α}, l.Nodup → (∀ x ∈ l, x ∈ m) → l.length ≤ m.length
 | [], _, _, _ => Nat.zero_le _
 | a :: t, m, hn, hs => by
  have ha := hs a (List.mem_cons_self ..)
  obtain ⟨h1, h2⟩ := List.nodup_cons.1 hn
  have := length_le_of_subset (l := t) (m := m.erase a) h2 (fun x hx => (List.mem_erase_of_ne (by rintro rfl; exact h1 hx)).2 (hs x (List.mem_cons_of_mem _ hx)))
  have hm : 0 < m.length := List.length_pos_of_mem ha
  rw [List.length_erase_of_mem ha] at this
  simp only [List.length_cons]; omega
def ab.cell (n : ab) (i : Int) : Cell := n.cells.getD i.toNat default
def cy (n : ab) (i w : Int) : Prop := (0 ≤ i ∧ i < n.cells.length) ∧ (n.cell i).kind ≠ 7 ∧ (n.cell i).out = w
def aX (n : ab) (i : Int) : Prop := (0 ≤ i ∧ i < n.cells.length) ∧ cM (n.cell i).kind
def tZ (n : ab) (w : Int) : Prop := ∃ j, aX n j ∧ (n.cell j).out = w
noncomputable instance (n : ab) : DecidablePred (tZ n) := fun _ => Classical.propDecidable _
noncomputable instance (n : ab) (i : Int) : Decidable (aX n i) := Classical.propDecidable _
theorem aX.g6 {n : ab} {i : Int} (h : aX n i) : cy n i (n.cell i).out := ⟨h.1, fun h7 => by have := h.2; rw [h7] at this; revert this; unfold cM; omega, rfl⟩
theorem kb (n : ab) (i : Nat) : n.cell (i : Int) = n.cells.getD i default := rfl
theorem rB {l : List Cell} {i j w : Nat} (h : i ≤ j) : bV (l.take i) w ≤ bV (l.take j) w := by
 have := mA (l.take j) i w
 rwa [List.take_take, Nat.min_eq_left h] at this
section
variable {n : ab} (hf : bn n)
include hf
theorem bn.cellAt {i : Int} (h : 0 ≤ i ∧ i < n.cells.length) : ia n (n.cell i) := hf.cells i.toNat om
theorem bn.iG {i w : Int} (h : cy n i w) : In w n.ai.length := h.2.2 ▸ (hf.cellAt h.1).2.2.2 h.2.1
theorem bn.pD {i x : Int} (h : 0 ≤ i ∧ i < n.cells.length) (hx : x ∈ (n.cell i).args) : In x n.ai.length := (hf.cellAt h).1 x hx
theorem bn.unique {i j w : Int} (h1 : cy n i w) (h2 : cy n j w) : i = j := by
 have key : ∀ {i j : Int}, cy n i w → cy n j w → i < j → False := by
  intro i j h1 h2 gA
  have hw := hf.iG h1
  unfold In at hw
  obtain ⟨a1, a2, a3⟩ := h1
  obtain ⟨b1, b2, b3⟩ := h2
  have e1 := dV (l := n.cells) (i := i.toNat) om w.toNat
  have e2 := dV (l := n.cells) (i := j.toNat) om w.toNat
  rw [if_pos ⟨a2, by show (n.cell i).out = _; omega⟩] at e1
  rw [if_pos ⟨b2, by show (n.cell j).out = _; omega⟩] at e2
  have e3 := rB (l := n.cells) (i := i.toNat + 1) (j := j.toNat) (w := w.toNat) om
  have e4 := mA n.cells (j.toNat + 1) w.toNat
  have e5 := hf.ju w.toNat om
  omega
 rcases Int.lt_trichotomy i j with h | h | h
 ·exact (key h1 h2 h).elim
 ·exact h
 ·exact (key h2 h1 h).elim
theorem bn.o0 {w : Int} (hw : In w n.ai.length) : ∃ i, cy n i w := by
 unfold In at hw
 have h := hf.ju w.toNat om
 have hp : 0 < bV n.cells w.toNat := by omega
 unfold bV at hp
 obtain ⟨c, hc, hp⟩ := List.countP_pos_iff.1 hp
 obtain ⟨i, hi, rfl⟩ := List.mem_iff_getElem.1 hc
 simp only [decide_eq_true_eq] at hp
 have e : n.cell (i : Int) = n.cells[i] := by rw [kb, List.getD_eq_getElem?_getD, List.getElem?_eq_getElem hi]; rfl
 refine ⟨(i : Int), ⟨om, om⟩, ?_⟩
 rw [e]; exact ⟨hp.1, om⟩
end
def dN (n : ab) (k : Nat) (l : List Bool) : Prop := ∀ w : Int, In w n.ai.length → (l.getD w.toNat false = true ↔ ∃ j, aX n j ∧ j < k ∧ (n.cell j).out = w)
theorem dN.init (n : ab) : dN n 0 (List.replicate n.ai.length false) := by
 intro w hw
 unfold In at hw
 rw [List.getD_eq_getElem?_getD, List.getElem?_replicate, if_pos om]
 exact ⟨fun h => (by cases h), fun ⟨j, h1, h2, _⟩ => (by have := h1.1; omega)⟩
theorem dN.skip {n : ab} {k : Nat} {l : List Bool} (h : dN n k l) (hc : ¬ cM (n.cells.getD k default).kind) : dN n (k + 1) l := by
 intro w hw
 rw [h w hw]
 constructor
 ·rintro ⟨j, h1, h2, h3⟩; exact ⟨j, h1, om, h3⟩
 ·rintro ⟨j, h1, h2, h3⟩
  refine ⟨j, h1, ?_, h3⟩
  rcases Int.lt_or_eq_of_le (show j ≤ k by omega) with h' | h'
  ·exact h'
  ·subst h'; exact absurd h1.2 hc
theorem dN.step {n : ab} {k : Nat} {l : List Bool} (h : dN n k l) (hk : k < n.cells.length) (hl : l.length = n.ai.length) (hc : cM (n.cells.getD k default).kind) (ho : In (n.cells.getD k default).out n.ai.length) :
  dN n (k + 1) (l.set (n.cells.getD k default).out.toNat true) := by
 intro w hw
 unfold In at ho
 have mw := hw
 unfold In at mw
 rw [bD]
 by_cases e : (n.cells.getD k default).out = w
 ·rw [if_pos ⟨om, om⟩]
  exact ⟨fun _ => ⟨(k : Int), ⟨⟨om, om⟩, hc⟩, om, e⟩, fun _ => rfl⟩
 ·rw [if_neg om, h w hw]
  constructor
  ·rintro ⟨j, h1, h2, h3⟩; exact ⟨j, h1, om, h3⟩
  ·rintro ⟨j, h1, h2, h3⟩
   refine ⟨j, h1, ?_, h3⟩
   rcases Int.lt_or_eq_of_le (show j ≤ k by omega) with h' | h'
   ·exact h'
   ·subst h'; exact absurd h3 e
theorem dN.all {n : ab} {l : List Bool} (h : dN n n.cells.length l) {w : Int} (hw : In w n.ai.length) : l.getD w.toNat false = true ↔ tZ n w := by
 rw [h w hw]
 exact ⟨fun ⟨j, h1, _, h3⟩ => ⟨j, h1, h3⟩, fun ⟨j, h1, h3⟩ => ⟨j, h1, by have := h1.1; omega, h3⟩⟩
def fm (n : ab) (k : Nat) : List Int := ((List.range k).filter (fun i => !decide (cM (n.cells.getD i default).kind))).map (fun (i : Nat) => (i : Int))
theorem pE (n : ab) (k : Nat) : fm n (k + 1) = fm n k ++ if cM (n.cells.getD k default).kind then [] else [(k : Int)] := by
 unfold fm
 rw [List.range_succ, List.filter_append, List.map_append]
 congr 1
 by_cases h : cM (n.cells.getD k default).kind
 ·rw [if_pos h]; simp [-List.getD_eq_getElem?_getD, h]
 ·rw [if_neg h]; simp [-List.getD_eq_getElem?_getD, h]
theorem gf {n : ab} {k : Nat} {x : Int} : x ∈ fm n k ↔ (0 ≤ x ∧ x < k) ∧ ¬ cM (n.cell x).kind := by
 unfold fm
 rw [List.mem_map]
 constructor
 ·rintro ⟨i, h, rfl⟩
  rw [List.mem_filter, List.mem_range] at h
  exact ⟨⟨om, om⟩, by rw [kb]; simpa [-List.getD_eq_getElem?_getD] using h.2⟩
 ·rintro ⟨h1, h2⟩
  refine ⟨x.toNat, ?_, om⟩
  rw [List.mem_filter, List.mem_range]
  have h3 : ¬ cM (n.cells.getD x.toNat default).kind := h2
  exact ⟨om, by simpa [-List.getD_eq_getElem?_getD] using h3⟩
theorem o3 (n : ab) (k : Nat) : (fm n k).Nodup := by
 unfold fm
 rw [List.Nodup, List.pairwise_map]
 refine List.Pairwise.imp (fun {a b} h => ?_) (List.Pairwise.filter _ List.nodup_range)
 omega
theorem wJ (n : ab) (k : Nat) : (fm n k).length ≤ k := by
 unfold fm
 rw [List.length_map]
 exact Nat.le_trans (List.length_filter_le ..) (by simp)
def Open (n : ab) (done : List Int) (x : Int) : Prop := tZ n x ∧ ∀ j ∈ done, (n.cell j).out ≠ x
noncomputable instance (n : ab) (done : List Int) : DecidablePred (Open n done) := fun _ => Classical.propDecidable _
noncomputable def cI (n : ab) (done : List Int) (i : Int) : Nat := (n.cell i).args.countP (fun x => decide (Open n done x))
theorem wK (n : ab) (i : Int) : cI n [] i = (n.cell i).args.countP (fun x => decide (tZ n x)) := by
 unfold cI
 apply List.countP_congr
 intro x _
 simp [Open]
theorem kz {n : ab} {done : List Int} {i : Int} : cI n done i = 0 ↔ ∀ x ∈ (n.cell i).args, tZ n x → ∃ j ∈ done, (n.cell j).out = x := by
 unfold cI
 rw [List.countP_eq_zero]
 constructor
 ·intro h x hx hc
  refine Classical.byContradiction fun hh => h x hx (decide_eq_true ?_)
  exact ⟨hc, fun j hj e => hh ⟨j, hj, e⟩⟩
 ·intro h x hx hh
  have hh := of_decide_eq_true hh
  obtain ⟨j, hj, e⟩ := h x hx hh.1
  exact hh.2 j hj e
theorem uO {n : ab} (hf : bn n) {done : List Int} {i0 : Int} (h0 : aX n i0) (hd : ∀ j ∈ done, aX n j) (hn : i0 ∉ done) (i : Int) : cI n done i = cI n (done ++ [i0]) i + (n.cell i).args.count (n.cell i0).out := by
 unfold cI
 generalize (n.cell i).args = l
 induction l with
 | nil => rfl
 | cons x r ih =>
  rw [List.countP_cons, List.countP_cons, List.count_cons, ih]
  simp only [decide_eq_true_eq, beq_iff_eq]
  by_cases e : x = (n.cell i0).out
  ·have h1 : Open n done x := by
    refine ⟨⟨i0, h0, e.symm⟩, fun j hj e' => hn ?_⟩
    have := hf.unique (hd j hj).g6 (by rw [e', e]; exact h0.g6)
    exact this ▸ hj
   have h2 : ¬ Open n (done ++ [i0]) x := fun h => h.2 i0 (by simp) e.symm
   rw [if_pos h1, if_neg h2, if_pos e]; omega
  ·have h1 : Open n done x ↔ Open n (done ++ [i0]) x := by
    constructor
    ·rintro ⟨a, b⟩
     refine ⟨a, fun j hj => ?_⟩
     rcases List.mem_append.1 hj with h | h
     ·exact b j h
     ·rw [List.mem_singleton.1 h]; exact fun h => e h.symm
    ·rintro ⟨a, b⟩
     exact ⟨a, fun j hj => b j (List.mem_append.2 (.inl hj))⟩
   rw [if_neg e]
   by_cases hh : Open n done x
   ·rw [if_pos hh, if_pos (h1.1 hh)]; omega
   ·rw [if_neg hh, if_neg (fun h => hh (h1.2 h))]; omega
open Go Go.AW
theorem fO {α : Type} {l : List α} {q : Nat} {d : α} (h : q < l.length) : l.take (q + 1) = l.take q ++ [l.getD q d] := by
 rw [List.take_add_one, List.getElem?_eq_getElem h, List.getD_eq_getElem?_getD, List.getElem?_eq_getElem h]; rfl
def yA (n : ab) (k : Nat) : Nat := ((n.cells.take k).map (fun c => c.args.length)).sum
theorem o4 {n : ab} {k : Nat} (h : k < n.cells.length) : yA n (k + 1) = yA n k + (n.cells.getD k default).args.length := by
 unfold yA
 rw [fO (d := default) h, List.map_append, List.sum_append]; simp
theorem wM {n : ab} (hs : n.Small) (k : Nat) : yA n k ≤ 8796093022208 := by
 refine Nat.le_trans ?_ hs.yA
 conv => rhs; rw [← List.take_append_drop k n.cells, List.map_append, List.sum_append]
 exact Nat.le_add_right ..
structure BI (n : ab) (k : Nat) (rem : List Int) (dv : List (List Int)) (ready : List Int) : Prop where
 ja : ∀ i, aX n i → i < k → rem.getD i.toNat 0 = (cI n [] i : Int)
 zero : ∀ i : Int, (k : Int) ≤ i → i < n.cells.length → rem.getD i.toNat 0 = 0
 AA : ∀ w x, In w n.ai.length → x ∈ dv.getD w.toNat [] → aX n x ∧ x < k
 ET : ∀ w x, In w n.ai.length → tZ n w → aX n x → x < k → (dv.getD w.toNat []).count x = (n.cell x).args.count w
 nd : ready.Nodup
 rd : ∀ x, x ∈ ready ↔ aX n x ∧ x < k ∧ cI n [] x = 0
 ul : ∀ w, In w n.ai.length → (dv.getD w.toNat []).length ≤ yA n k
 rl : ready.length ≤ k
theorem BI.init (n : ab) : BI n 0 (List.replicate n.cells.length 0) (List.replicate n.ai.length []) [] where
 ja := fun i h h0 => by have := h.1; omega
 zero := fun i h1 h2 => by rw [List.getD_eq_getElem?_getD, List.getElem?_replicate]; split <;> rfl
 AA := fun w x hw hx => by
  rw [List.getD_eq_getElem?_getD, List.getElem?_replicate] at hx
  split at hx <;> cases hx
 ET := fun w x hw _ h h0 => by have := h.1; omega
 nd := List.nodup_nil
 rd := fun x => ⟨fun h => (by cases h), fun ⟨h, h0, _⟩ => by have := h.1; omega⟩
 ul := fun w hw => by rw [List.getD_eq_getElem?_getD, List.getElem?_replicate]; split <;> exact Nat.zero_le _
 rl := Nat.le_refl _
theorem jv {n : ab} {k : Nat} {x : Int} (hc : ¬ cM (n.cells.getD k default).kind) (h : aX n x) (hx : x < ((k + 1 : Nat) : Int)) : x < k := by
 rcases Int.lt_or_eq_of_le (show x ≤ k by omega) with h' | h'
 ·exact h'
 ·subst h'; exact absurd h.2 hc
theorem BI.skip {n : ab} {k : Nat} {rem : List Int} {dv : List (List Int)} {ready : List Int} (h : BI n k rem dv ready) (hk : k < n.cells.length) (hc : ¬ cM (n.cells.getD k default).kind) : BI n (k + 1) rem dv ready where
 ja := fun i hi h0 => h.ja i hi (jv hc hi h0)
 zero := fun i h1 h2 => h.zero i om h2
 AA := fun w x hw hx => ⟨(h.AA w x hw hx).1, by have := (h.AA w x hw hx).2; omega⟩
 ET := fun w x hw hC hx h0 => h.ET w x hw hC hx (jv hc hx h0)
 nd := h.nd
 rd := fun x => by
  rw [h.rd x]
  exact ⟨fun ⟨a, b, c⟩ => ⟨a, om, c⟩, fun ⟨a, b, c⟩ => ⟨a, jv hc a b, c⟩⟩
 ul := fun w hw => by have := h.ul w hw; rw [o4 hk]; omega
 rl := by have := h.rl; omega
structure BJ (n : ab) (k q : Nat) (rem : List Int) (dv : List (List Int)) (ic : List Int) (ew : List (List Int)) : Prop where
 BK : ∀ i : Int, 0 ≤ i → i ≠ k → ic.getD i.toNat 0 = rem.getD i.toNat 0
 own : ic.getD k 0 = ((((n.cells.getD k default).args.take q).countP (fun x => decide (tZ n x)) : Nat) : Int)
 us : ∀ w, In w n.ai.length → ew.getD w.toNat [] = dv.getD w.toNat [] ++ List.replicate (if tZ n w then ((n.cells.getD k default).args.take q).count w else 0) (k : Int)
theorem BJ.init {n : ab} {k : Nat} {rem : List Int} {dv : List (List Int)} {ready : List Int} (h : BI n k rem dv ready) (hk : k < n.cells.length) : BJ n k 0 rem dv rem dv where
 BK := fun _ _ _ => rfl
 own := h.zero k (Int.le_refl _) om
 us := fun w _ => by simp
section
variable {n : ab} {k q : Nat} {rem ic : List Int} {dv ew : List (List Int)}
theorem BJ.skip (h : BJ n k q rem dv ic ew) (hq : q < (n.cells.getD k default).args.length) (hx : ¬ tZ n ((n.cells.getD k default).args.getD q 0)) : BJ n k (q + 1) rem dv ic ew where
 BK := h.BK
 own := by rw [h.own, fO (d := 0) hq, List.countP_append, List.countP_cons, decide_eq_false hx]; simp
 us := fun w hw => by
  rw [h.us w hw]
  by_cases hC : tZ n w
  ·rw [if_pos hC, if_pos hC, fO (d := 0) hq, List.count_append, List.count_cons]
   have : ((n.cells.getD k default).args.getD q 0 == w) = false := by
    rw [beq_eq_false_iff_ne]; rintro rfl; exact hx hC
   rw [this]; simp
  ·rw [if_neg hC, if_neg hC]
theorem BJ.step (h : BJ n k q rem dv ic ew) (hk : k < n.cells.length) (hl : ic.length = n.cells.length) (OD : ew.length = n.ai.length) (hq : q < (n.cells.getD k default).args.length)
  (hi : In ((n.cells.getD k default).args.getD q 0) n.ai.length) (hx : tZ n ((n.cells.getD k default).args.getD q 0)) :
  BJ n k (q + 1) rem dv (ic.set k (ic.getD k 0 + 1)) (ew.set ((n.cells.getD k default).args.getD q 0).toNat (ew.getD ((n.cells.getD k default).args.getD q 0).toNat [] ++ [(k : Int)])) where
 BK := fun i h0 h1 => by rw [bD, if_neg om]; exact h.BK i h0 h1
 own := by
  rw [bD, if_pos ⟨rfl, om⟩, h.own, fO (d := 0) hq, List.countP_append, List.countP_cons, decide_eq_true hx]; simp
 us := fun w hw => by
  unfold In at hi
  have mw := hw
  unfold In at mw
  rw [bD, fO (d := 0) hq, List.count_append, List.count_cons]
  by_cases e : (n.cells.getD k default).args.getD q 0 = w
  ·rw [e] at hx hi ⊢
   rw [if_pos ⟨rfl, om⟩, h.us w hw, if_pos hx, if_pos hx, List.append_assoc]
   congr 1
   rw [beq_self_eq_true, if_pos rfl]
   show _ = List.replicate (_ + 1) _
   rw [List.replicate_succ']
  ·have : ((n.cells.getD k default).args.getD q 0 == w) = false := by rw [beq_eq_false_iff_ne]; exact e
   rw [if_neg om, h.us w hw, this]; simp
theorem BJ.BL (h : BJ n k q rem dv ic ew) : 0 ≤ ic.getD k 0 ∧ ic.getD k 0 ≤ (q : Int) := by
 rw [h.own]
 have := Nat.le_trans (List.countP_le_length (p := fun x => decide (tZ n x)) (l := (n.cells.getD k default).args.take q)) (List.length_take_le ..)
 omega
variable {ready : List Int}
theorem BJ.len (hb : BI n k rem dv ready) (h : BJ n k q rem dv ic ew) {w : Int} (hw : In w n.ai.length) : (ew.getD w.toNat []).length ≤ yA n k + q := by
 rw [h.us w hw, List.length_append, List.length_replicate]
 have := hb.ul w hw
 have h2 : ((n.cells.getD k default).args.take q).count w ≤ q := Nat.le_trans List.count_le_length (by rw [List.length_take]; omega)
 split <;> omega
theorem BJ.fin (hb : BI n k rem dv ready) (hk : k < n.cells.length) (hc : cM (n.cells.getD k default).kind) (h : BJ n k (n.cells.getD k default).args.length rem dv ic ew) :
  (ic.getD k 0 = 0 → BI n (k + 1) ic ew (ready ++ [(k : Int)])) ∧ (ic.getD k 0 ≠ 0 → BI n (k + 1) ic ew ready) := by
 have hn : ic.getD k 0 = (cI n [] (k : Int) : Int) := by rw [h.own, List.take_length, wK]; rfl
 have vw : aX n (k : Int) := ⟨⟨om, om⟩, hc⟩
 have ja : ∀ i, aX n i → i < ((k + 1 : Nat) : Int) → ic.getD i.toNat 0 = (cI n [] i : Int) := by
  intro i hi h0
  by_cases e : i = k
  ·subst e; exact hn
  ·rw [h.BK i hi.1.1 e]; exact hb.ja i hi om
 have hzero : ∀ i : Int, (((k + 1 : Nat)) : Int) ≤ i → i < n.cells.length → ic.getD i.toNat 0 = 0 := by
  intro i h1 h2
  rw [h.BK i om om]; exact hb.zero i om h2
 have EU : ∀ w x, In w n.ai.length → x ∈ ew.getD w.toNat [] → aX n x ∧ x < ((k + 1 : Nat) : Int) := by
  intro w x hw hx
  rw [h.us w hw] at hx
  rcases List.mem_append.1 hx with hx | hx
  ·exact ⟨(hb.AA w x hw hx).1, by have := (hb.AA w x hw hx).2; omega⟩
  ·rw [List.eq_of_mem_replicate hx]; exact ⟨vw, om⟩
 have EV : ∀ w x, In w n.ai.length → tZ n w → aX n x → x < ((k + 1 : Nat) : Int) → (ew.getD w.toNat []).count x = (n.cell x).args.count w := by
  intro w x hw hC hx h0
  rw [h.us w hw, if_pos hC, List.take_length, List.count_append]
  by_cases e : x = k
  ·subst e
   have h0 : (dv.getD w.toNat []).count (k : Int) = 0 := List.count_eq_zero.2 (fun hm => by have := (hb.AA w _ hw hm).2; omega)
   rw [h0, List.count_replicate_self, Nat.zero_add]; rfl
  ·rw [hb.ET w x hw hC hx om, List.count_replicate, if_neg (by simpa using fun h => e h.symm)]; rfl
 have KM : ∀ w, In w n.ai.length → (ew.getD w.toNat []).length ≤ yA n (k + 1) := fun w hw => by rw [o4 hk]; exact BJ.len hb h hw
 have Gw := hb.rl
 constructor
 ·intro h0
  refine ⟨ja, hzero, EU, EV, ?_, fun x => ?_, KM, by rw [List.length_append]; exact Nat.succ_le_succ Gw⟩
  ·rw [List.nodup_append]
   refine ⟨hb.nd, by simp, fun a ha b eO => ?_⟩
   rw [List.mem_singleton.1 eO]
   have := ((hb.rd a).1 ha).2.1; omega
  ·rw [List.mem_append, hb.rd x, List.mem_singleton]
   constructor
   ·rintro (⟨a, b, c⟩ | rfl)
    ·exact ⟨a, om, c⟩
    ·exact ⟨vw, om, om⟩
   ·rintro ⟨a, b, c⟩
    by_cases e : x = k
    ·exact .inr e
    ·exact .inl ⟨a, om, c⟩
 ·intro h0
  refine ⟨ja, hzero, EU, EV, hb.nd, fun x => ?_, KM, om⟩
  rw [hb.rd x]
  constructor
  ·rintro ⟨a, b, c⟩; exact ⟨a, om, c⟩
  ·rintro ⟨a, b, c⟩
   refine ⟨a, ?_, c⟩
   by_cases e : x = k
   ·subst e; omega
   ·omega
end
structure KI (n : ab) (done ready rem : List Int) : Prop where
 nd : (done ++ ready).Nodup
 cm : ∀ x ∈ done ++ ready, aX n x
 ja : ∀ i, aX n i → rem.getD i.toNat 0 = (cI n done i : Int)
 full : ∀ i, aX n i → (i ∈ done ++ ready ↔ cI n done i = 0)
 kF : ∀ p i s, done = p ++ i :: s → cI n p i = 0
structure US (n : ab) (dv : List (List Int)) : Prop where
 mem : ∀ w x, In w n.ai.length → x ∈ dv.getD w.toNat [] → aX n x
 MH : ∀ w x, In w n.ai.length → tZ n w → aX n x → (dv.getD w.toNat []).count x = (n.cell x).args.count w
theorem BI.us {n : ab} {rem : List Int} {dv : List (List Int)} {ready : List Int} (h : BI n n.cells.length rem dv ready) : US n dv :=
 ⟨fun w x hw hx => (h.AA w x hw hx).1, fun w x hw hC hx => h.ET w x hw hC hx (by have := hx.1; omega)⟩
theorem BI.ki {n : ab} {rem : List Int} {dv : List (List Int)} {ready : List Int} (h : BI n n.cells.length rem dv ready) : KI n [] ready rem where
 nd := h.nd
 cm := fun x hx => ((h.rd x).1 hx).1
 ja := fun i hi => h.ja i hi (by have := hi.1; omega)
 full := fun i hi => by
  show i ∈ ready ↔ _
  rw [h.rd i]
  exact ⟨fun h => h.2.2, fun h => ⟨hi, by have := hi.1; omega, h⟩⟩
 kF := fun p i s h => by simp at h
structure KJ (n : ab) (done : List Int) (i0 : Int) (u : List Int) (q : Nat) (ready rem : List Int) : Prop where
 nd : (done ++ [i0] ++ ready).Nodup
 cm : ∀ x ∈ done ++ [i0] ++ ready, aX n x
 ja : ∀ i, aX n i → rem.getD i.toNat 0 = (cI n done i : Int) - ((u.take q).count i : Int)
 full : ∀ i, aX n i → (i ∈ done ++ [i0] ++ ready ↔ cI n done i ≤ (u.take q).count i)
theorem KJ.init {n : ab} {done ready rem u : List Int} (h : KI n done ready rem) (h0 : 0 < ready.length) : KJ n done (ready.getD 0 0) u 0 (ready.drop 1) rem := by
 have e : done ++ [ready.getD 0 0] ++ ready.drop 1 = done ++ ready := by
  cases ready with
  | nil => simp at h0
  | cons a r => simp
 refine ⟨by rw [e]; exact h.nd, by rw [e]; exact h.cm, fun i hi => by rw [h.ja i hi]; simp, fun i hi => by rw [e, h.full i hi]; simp⟩
section
variable {n : ab} (hf : bn n) {done ready rem u wN ic : List Int} {i0 : Int} {q : Nat}
include hf
theorem KJ.count (h : KJ n done i0 u q ready rem) (hu : ∀ x, aX n x → u.count x = (n.cell x).args.count (n.cell i0).out) {x : Int} (hx : aX n x) : cI n done x = cI n (done ++ [i0]) x + u.count x := by
 have iw := (List.nodup_append.1 h.nd).1
 have Im : i0 ∉ done := fun hm => (List.nodup_append.1 iw).2.2 i0 hm i0 (by simp) rfl
 rw [hu x hx]
 exact uO hf (h.cm i0 (by simp)) (fun j hj => h.cm j (by simp [hj])) Im x
theorem KJ.step (h : KJ n done i0 u q ready rem) (hl : rem.length = n.cells.length) (hq : q < u.length) (hu : ∀ x, aX n x → u.count x = (n.cell x).args.count (n.cell i0).out) (hm : ∀ x ∈ u, aX n x) :
  (rem.getD (u.getD q 0).toNat 0 - 1 = 0 → KJ n done i0 u (q + 1) (ready ++ [u.getD q 0]) (rem.set (u.getD q 0).toNat (rem.getD (u.getD q 0).toNat 0 - 1))) ∧
  (rem.getD (u.getD q 0).toNat 0 - 1 ≠ 0 → KJ n done i0 u (q + 1) ready (rem.set (u.getD q 0).toNat (rem.getD (u.getD q 0).toNat 0 - 1))) := by
 have hk : aX n (u.getD q 0) := hm _ (dc hq)
 have HK := hk.1
 have ht := fO (d := 0) hq
 have EW : ∀ i, (u.take (q + 1)).count i = (u.take q).count i + if u.getD q 0 = i then 1 else 0 := by
  intro i
  rw [ht, List.count_append, List.count_cons]; simp
 have hle : (u.take (q + 1)).count (u.getD q 0) ≤ u.count (u.getD q 0) := by
  have e := congrArg (List.count (u.getD q 0)) (List.take_append_drop (q + 1) u)
  rw [List.count_append] at e; omega
 have hc := KJ.count hf h hu hk
 have MI := EW (u.getD q 0)
 rw [if_pos rfl] at MI
 have KN := h.ja _ hk
 have ja : ∀ i, aX n i → (rem.set (u.getD q 0).toNat (rem.getD (u.getD q 0).toNat 0 - 1)).getD i.toNat 0 = (cI n done i : Int) - ((u.take (q + 1)).count i : Int) := by
  intro i hi
  have MJ := hi.1
  rw [bD, EW i]
  by_cases e : u.getD q 0 = i
  ·rw [if_pos ⟨om, om⟩, if_pos e, KN, e]; omega
  ·rw [if_neg om, if_neg e, h.ja i hi]; omega
 have rj : u.getD q 0 ∉ done ++ [i0] ++ ready := fun vq => by
  have := (h.full _ hk).1 vq; omega
 constructor
 ·intro h0
  refine ⟨?_, ?_, ja, fun i hi => ?_⟩
  ·rw [← List.append_assoc, List.nodup_append]
   refine ⟨h.nd, by simp, fun a ha b hb e => rj ?_⟩
   rw [← List.mem_singleton.1 hb, ← e]; exact ha
  ·intro x hx
   rw [← List.append_assoc] at hx
   rcases List.mem_append.1 hx with hx | hx
   ·exact h.cm x hx
   ·rw [List.mem_singleton.1 hx]; exact hk
  ·rw [← List.append_assoc, List.mem_append, h.full i hi, List.mem_singleton, EW i]
   by_cases e : u.getD q 0 = i
   ·rw [if_pos e]
    subst e
    exact ⟨fun _ => by omega, fun _ => .inr rfl⟩
   ·rw [if_neg e]
    exact ⟨fun h => by rcases h with h | h; omega; exact absurd h.symm e, fun h => .inl om⟩
 ·intro h0
  refine ⟨h.nd, h.cm, ja, fun i hi => ?_⟩
  rw [h.full i hi, EW i]
  by_cases e : u.getD q 0 = i
  ·rw [if_pos e]
   subst e
   omega
  ·rw [if_neg e]; rfl
theorem KJ.bound (hs : n.Small) (h : KJ n done i0 u q ready rem) (hq : q < u.length) (hu : ∀ x, aX n x → u.count x = (n.cell x).args.count (n.cell i0).out) (hm : ∀ x ∈ u, aX n x) :
  1 ≤ rem.getD (u.getD q 0).toNat 0 ∧ rem.getD (u.getD q 0).toNat 0 ≤ 17592186043904 ∧ ready.length < n.cells.length := by
 have hk : aX n (u.getD q 0) := hm _ (dc hq)
 have ht := fO (d := 0) hq
 have EW : (u.take (q + 1)).count (u.getD q 0) = (u.take q).count (u.getD q 0) + 1 := by
  rw [ht, List.count_append, List.count_cons]; simp
 have e := congrArg (List.count (u.getD q 0)) (List.take_append_drop (q + 1) u)
 rw [List.count_append] at e
 have hc := KJ.count hf h hu hk
 have KN := h.ja _ hk
 have hn : cI n done (u.getD q 0) ≤ (n.cell (u.getD q 0)).args.length := List.countP_le_length
 have ha : (n.cell (u.getD q 0)).args.length ≤ 17592186043904 := hs.args _ (eD (by have := hk.1; omega))
 refine ⟨om, om, ?_⟩
 have := length_le_of_subset (m := (List.range n.cells.length).map (fun (i : Nat) => (i : Int))) h.nd (fun x hx => by
  have := (h.cm x hx).1
  exact List.mem_map.2 ⟨x.toNat, List.mem_range.2 om, om⟩)
 rw [List.length_append, List.length_append, List.length_map, List.length_range] at this
 simp only [List.length_cons, List.length_nil] at this
 omega
theorem KJ.fin (hk : KI n done wN ic) (h0 : i0 ∈ wN) (h : KJ n done i0 u u.length ready rem) (hu : ∀ x, aX n x → u.count x = (n.cell x).args.count (n.cell i0).out) : KI n (done ++ [i0]) ready rem := by
 have hc : ∀ {x}, aX n x → cI n done x = cI n (done ++ [i0]) x + u.count x := fun hx => KJ.count hf h hu hx
 refine ⟨h.nd, h.cm, fun i hi => ?_, fun i hi => ?_, fun p i s e => ?_⟩
 ·rw [h.ja i hi, List.take_length, hc hi]; omega
 ·rw [h.full i hi, List.take_length, hc hi]; omega
 ·rcases List.eq_nil_or_concat s with rfl | ⟨s', x, rfl⟩
  ·have e2 := List.append_inj' (t₁ := [i0]) (t₂ := [i]) e rfl
   obtain ⟨rfl, e3⟩ := e2
   cases e3
   have l4 : aX n i0 := hk.cm i0 (List.mem_append.2 (.inr h0))
   exact (hk.full i0 l4).1 (List.mem_append.2 (.inr h0))
  ·have e2 := List.append_inj' (s₁ := done) (s₂ := p ++ i :: s') (t₁ := [i0]) (t₂ := [x]) (by rw [e]; simp) rfl
   exact hk.kF p i s' e2.1
end
def Acyclic (n : ab) : Prop := ∃ r : Int → Nat, ∀ i j, aX n i → aX n j → (n.cell j).out ∈ (n.cell i).args → r j < r i
noncomputable instance (n : ab) : Decidable (Acyclic n) := Classical.propDecidable _
structure Ord (n : ab) (l : List Int) : Prop where
 len : l.length = n.cells.length
 nd : l.Nodup
 s0 : ∀ x ∈ l, 0 ≤ x ∧ x < n.cells.length
 kF : ∀ p i s, l = p ++ i :: s → cM (n.cell i).kind → ∀ x ∈ (n.cell i).args, ∃ j ∈ p, cy n j x
theorem KI.all {n : ab} {done ready rem : List Int} (h : KI n done ready rem) : (fm n n.cells.length ++ done ++ ready).Nodup ∧ ∀ x ∈ fm n n.cells.length ++ done ++ ready, 0 ≤ x ∧ x < n.cells.length := by
 rw [List.append_assoc]
 refine ⟨?_, fun x hx => ?_⟩
 ·rw [List.nodup_append]
  refine ⟨o3 _ _, h.nd, fun a ha b hb e => ?_⟩
  subst e
  exact (gf.1 ha).2 (h.cm a hb).2
 ·rcases List.mem_append.1 hx with h' | h'
  ·have := (gf.1 h').1; omega
  ·exact (h.cm x h').1
theorem KI.len {n : ab} {done ready rem : List Int} (h : KI n done ready rem) : (fm n n.cells.length ++ done).length + ready.length ≤ n.cells.length := by
 obtain ⟨h1, h2⟩ := h.all
 have := length_le_of_subset (m := (List.range n.cells.length).map (fun (i : Nat) => (i : Int))) h1 (fun x hx => by
  have := h2 x hx
  exact List.mem_map.2 ⟨x.toNat, List.mem_range.2 om, om⟩)
 rw [List.length_append, List.length_map, List.length_range] at this
 exact this
theorem KI.mem {n : ab} {done rem : List Int} (h : KI n done [] rem) {r : Int → Nat} (hr : ∀ i j, aX n i → aX n j → (n.cell j).out ∈ (n.cell i).args → r j < r i) : ∀ (m : Nat) (i : Int), aX n i → r i < m → i ∈ done
 | 0, _, _, hm => by omega
 | m + 1, i, hi, hm => by
  have hz : cI n done i = 0 := by
   rw [kz]
   rintro x hx ⟨j, hj, rfl⟩
   exact ⟨j, KI.mem h hr m j hj (by have := hr i j hi hj hx; omega), rfl⟩
  have := (h.full i hi).2 hz
  simpa using this
theorem uP (M : Nat) : ((List.range M).map (fun (i : Nat) => (i : Int))).Nodup := by
 rw [List.Nodup, List.pairwise_map]
 exact List.Pairwise.imp (fun {a b} h => by omega) List.nodup_range
theorem KI.EX {n : ab} {done rem : List Int} (h : KI n done [] rem) (hl : (fm n n.cells.length ++ done).length < n.cells.length) : ¬ Acyclic n := by
 rintro ⟨r, hr⟩
 have := length_le_of_subset (m := fm n n.cells.length ++ done) (uP n.cells.length) (fun x hx => by
  obtain ⟨i, hi, rfl⟩ := List.mem_map.1 hx
  rw [List.mem_range] at hi
  by_cases hc : cM (n.cell (i : Int)).kind
  ·exact List.mem_append.2 (.inr (KI.mem h hr _ (i : Int) ⟨⟨om, om⟩, hc⟩ (Nat.lt_succ_self _)))
  ·exact List.mem_append.2 (.inl (gf.2 ⟨⟨om, om⟩, hc⟩)))
 rw [List.length_map, List.length_range] at this
 omega
theorem lN {l p s : List Int} {i j : Int} (hn : l.Nodup) (e : l = p ++ i :: s) (hj : j ∈ p) : l.idxOf j < l.idxOf i := by
 subst e
 have hi : i ∉ p := fun h => (List.nodup_append.1 hn).2.2 i h i (by simp) rfl
 rw [List.idxOf_append, if_pos hj, List.idxOf_append, if_neg hi]
 have := List.idxOf_lt_length_of_mem hj
 omega
theorem KI.ok {n : ab} (hf : bn n) {done rem : List Int} (h : KI n done [] rem) (hl : ¬ (fm n n.cells.length ++ done).length < n.cells.length) : Acyclic n ∧ Ord n (fm n n.cells.length ++ done) := by
 obtain ⟨h1, h2⟩ := h.all
 rw [List.append_nil] at h1 h2
 have hle := h.len
 simp only [List.length_nil, Nat.add_zero] at hle
 have EY : ∀ i : Int, (0 ≤ i ∧ i < n.cells.length) → i ∈ fm n n.cells.length ++ done := by
  intro i hi
  refine Classical.byContradiction fun hn => ?_
  have := length_le_of_subset (l := i :: (fm n n.cells.length ++ done)) (m := (List.range n.cells.length).map (fun (i : Nat) => (i : Int))) (List.nodup_cons.2 ⟨hn, h1⟩) (fun x hx => by
   have im : 0 ≤ x ∧ x < n.cells.length := by
    rcases List.mem_cons.1 hx with rfl | hx
    ·exact hi
    ·exact h2 x hx
   exact List.mem_map.2 ⟨x.toNat, List.mem_range.2 om, om⟩)
  rw [List.length_cons, List.length_map, List.length_range] at this
  omega
 have Dt : ∀ i, aX n i → i ∈ done := by
  intro i hi
  rcases List.mem_append.1 (EY i hi.1) with h' | h'
  ·exact absurd hi.2 (gf.1 h').2
  ·exact h'
 have MK : done.Nodup := (List.nodup_append.1 h1).2.1
 refine ⟨⟨fun i => done.idxOf i, fun i j hi hj hx => ?_⟩, om, h1, h2, fun p i s e hc x hx => ?_⟩
 ·obtain ⟨p, s, e⟩ := List.append_of_mem (Dt i hi)
  obtain ⟨j', uB, e'⟩ := kz.1 (h.kF p i s e) _ hx ⟨j, hj, rfl⟩
  have BM : aX n j' := h.cm j' (by rw [e]; simp [uB])
  have := hf.unique BM.g6 (e' ▸ hj.g6)
  subst this
  exact lN MK e uB
 ·have hi : aX n i := ⟨h2 i (by rw [e]; simp), hc⟩
  obtain ⟨j, hj⟩ := hf.o0 (hf.pD hi.1 hx)
  by_cases BN : cM (n.cell j).kind
  ·-- the o0 is combinational
   obtain ⟨p', s', e'⟩ := List.append_of_mem (Dt i hi)
   obtain ⟨j', uB, e2⟩ := kz.1 (h.kF p' i s' e') x hx ⟨j, ⟨hj.1, BN⟩, hj.2.2⟩
   have BM : aX n j' := h.cm j' (by rw [e']; simp [uB])
   have e3 : p ++ i :: s = (fm n n.cells.length ++ p') ++ i :: s' := by rw [← e, e', List.append_assoc]
   have hp : p = fm n n.cells.length ++ p' := by
    have EZ : i ∉ p := by
     rw [e] at h1
     exact fun h => (List.nodup_append.1 h1).2.2 i h i (by simp) rfl
    have j5 : i ∉ fm n n.cells.length ++ p' := by
     rw [e, e3] at h1
     exact fun h => (List.nodup_append.1 h1).2.2 i h i (by simp) rfl
    have := congrArg (fun l => l.idxOf i) e3
    simp only [List.idxOf_append, if_neg EZ, if_neg j5, List.idxOf_cons_self, Nat.add_zero] at this
    exact (List.append_inj e3 om).1
   exact ⟨j', by rw [hp]; exact List.mem_append.2 (.inr uB), e2 ▸ BM.g6⟩
  ·-- it comes first
   refine ⟨j, ?_, hj⟩
   have CN : j ∈ fm n n.cells.length := gf.2 ⟨hj.1, BN⟩
   have Gt : i ∉ fm n n.cells.length := fun h => (gf.1 h).2 hc
   have : fm n n.cells.length ++ done = p ++ i :: s := e
   rcases List.append_eq_append_iff.1 this with ⟨a, ha, hb⟩ | ⟨a, ha, hb⟩
   ·rw [ha]; exact List.mem_append.2 (.inl CN)
   ·cases a with
    | nil => rw [List.append_nil] at ha; rw [← ha]; exact CN
    | cons b t =>
     rw [List.cons_append] at hb
     cases hb
     exact absurd (by rw [ha]; simp) Gt
def kd (n : ab) (l : List Int) (e : Int) : Prop :=
 (¬ bn n ∧ l = [] ∧ e = 3) ∨ (bn n ∧ ¬ Fit n ∧ l = [] ∧ e = 13) ∨ (bn n ∧ Fit n ∧ ¬ Acyclic n ∧ l = [] ∧ e = 12) ∨ (bn n ∧ Fit n ∧ Acyclic n ∧ Ord n l ∧ e = 0)
theorem OE {p : Prop} (h : p := by ((try unfold Plain at *); (try unfold Unary at *); (try unfold uM at *); (try unfold Seq at *); (try unfold In at *); first | (intro h; simp only [Shaped] at h; rcases h with h | h | h | h | h | h | h | h | h | h <;> omega) | (subst_vars; simp only [Shaped, Int.reduceEq, Bool.not_eq_true, false_and, true_and, and_true, and_false, or_false, false_or, ne_eq]; first | omega | grind | (unfold b5; grind)))) : p := h
theorem OF {p : Prop} (h : p := by ((try unfold Plain at *); (try unfold Unary at *); (try unfold uM at *); (try unfold Seq at *); (try unfold In at *); (subst_vars; simp only [Shaped, Int.reduceEq, Bool.not_eq_true, false_and, true_and, and_true, and_false, or_false, false_or, ne_eq]; first | omega | grind | (unfold b5; grind)))) : p := h
noncomputable def lO (n : ab) : Int := if bn n then if Fit n then if Acyclic n then 0 else 12 else 13 else 3
theorem kd.err {n : ab} {l : List Int} {e : Int} (h : kd n l e) : e = lO n := by
 unfold lO
 rcases h with ⟨h1, _, h⟩ | ⟨h1, h2, _, h⟩ | ⟨h1, h2, h3, _, h⟩ | ⟨h1, h2, h3, _, h⟩
 ·rw [if_neg h1, h]
 ·rw [if_pos h1, if_neg h2, h]
 ·rw [if_pos h1, if_pos h2, if_neg h3, h]
 ·rw [if_pos h1, if_pos h2, if_pos h3, h]
open Go Go.AW
structure U2 where
 a : Nat
 b : Nat
instance : Inhabited U2 := ⟨⟨0, 0⟩⟩
def U2.row (x : U2) : List X := [.v (.int .u8 (x.a : Int)), .v (.int .u8 (x.b : Int))]
theorem U2.cD (c : U2) : X.aW c.row = true := rfl
structure wO where
 kind : Nat
 op : Nat
 width : Nat
 a : Nat
 b : Nat
 d : Nat
 num : Nat
instance : Inhabited wO := ⟨⟨0, 0, 0, 0, 0, 0, 0⟩⟩
def wO.row (x : wO) : List X := [.v (.int .u8 (x.kind : Int)), .v (.int .u8 (x.op : Int)), .v (.int .u8 (x.width : Int)), .v (.int .u8 (x.a : Int)), .v (.int .u8 (x.b : Int)), .v (.int .u8 (x.d : Int)), .v (.int .u64 (x.num : Int))]
theorem wO.cD (c : wO) : X.aW c.row = true := rfl
structure BO where
 bh : List U2
 streams : List U2
 ins : List Nat
 parts : List wO
 ee : List Nat
def BO.row (n : BO) : List X := [.fz 2 (n.bh.map U2.row), .fz 2 (n.streams.map U2.row), .fz 1 (n.ins.map Ap), .fz 7 (n.parts.map wO.row), .fz 1 (n.ee.map Ap)]
def Cell.ll (c : Cell) : List X := [.v (.int .i64 c.kind), .v (.int .i64 c.op), .v (.int .i64 c.out), .cX 1 (c.args.map al), .v (.int .u64 (c.num : Int)), .v (.int .i64 c.mem)]
def ab.ll (n : ab) : List X := [.v (.string n.name), .cX 1 (n.ai.map al), .cX 6 (n.cells.map Cell.row), .fz 1 (n.ins.map al), .fz 5 (n.bh.map oW.row), .fz 3 (n.streams.map gF.row),
 .fz 1 (n.bQ.map al), .fz 1 (n.data.map al), .v (.int .i64 n.freeze), .v (.int .i64 n.done), .fz 1 (n.ee.map al)]
def o5 (k : Nat) : Int := ([1, 2, 4, 7, 8, 13, 33, 64] : List Int).getD (k % 8) 0
theorem rC (k : Nat) : dL (o5 k) := by
 have h : ∀ j, j < 8 → dL (([1, 2, 4, 7, 8, 13, 33, 64] : List Int).getD j 0) := by decide
 exact h _ (Nat.mod_lt _ ag)
def pF (ws : List Int) (w : Int) (i : Nat) : List Int := ((List.range i).filter (fun j => decide (ws.getD j 0 = w))).map (fun (j : Nat) => (j : Int))
def rD (ws : List Int) (w : Int) (k : Nat) : Int := if (pF ws w ws.length).length = 0 then -1 else (pF ws w ws.length).getD (k % (pF ws w ws.length).length) 0
def yS (ws : List Int) (w : Int) : Prop := ∃ j, j < ws.length ∧ ws.getD j 0 = w
theorem rE {ws : List Int} {w : Int} (h : yS ws w) (k : Nat) : In (rD ws w k) ws.length ∧ ws.getD (rD ws w k).toNat 0 = w := by
 obtain ⟨j, hj, hw⟩ := h
 have h0 : (j : Int) ∈ pF ws w ws.length := List.mem_map.2 ⟨j, List.mem_filter.2 ⟨List.mem_range.2 hj, decide_eq_true hw⟩, rfl⟩
 have hp := List.length_pos_of_mem h0
 unfold rD
 rw [if_neg om]
 have hm := dc (l := pF ws w ws.length) (i := k % (pF ws w ws.length).length) (Nat.mod_lt _ hp)
 obtain ⟨i, hi, he⟩ := List.mem_map.1 hm
 obtain ⟨h1, h2⟩ := List.mem_filter.1 hi
 rw [← he]
 have := List.mem_range.1 h1
 exact ⟨⟨om, om⟩, by simpa using h2⟩
def AB (ws : List Int) (cs : List Cell) (p : wO) (i : Nat) : List Cell :=
 if (cs.getD ((((cs.length : Int) - 1) - (i : Int)).toNat) default).kind = 4 then
  cs.set ((((cs.length : Int) - 1) - (i : Int)).toNat) ⟨(cs.getD ((((cs.length : Int) - 1) - (i : Int)).toNat) default).kind, (cs.getD ((((cs.length : Int) - 1) - (i : Int)).toNat) default).op, (cs.getD ((((cs.length : Int) - 1) - (i : Int)).toNat) default).out,
   [rD ws 1 p.a, rD ws (ws.getD (cs.getD ((((cs.length : Int) - 1) - (i : Int)).toNat) default).out.toNat 0) p.d], (cs.getD ((((cs.length : Int) - 1) - (i : Int)).toNat) default).num, (cs.getD ((((cs.length : Int) - 1) - (i : Int)).toNat) default).mem⟩
 else cs
structure wO.Ok (p : wO) : Prop where
 kind : p.kind < 256
 op : p.op < 256
 width : p.width < 256
 a : p.a < 256
 b : p.b < 256
 d : p.d < 256
 num : p.num < 18446744073709551616
open Go Go.AW
structure Ground (n : ab) : Prop where
 has : ∀ k, yS n.ai (o5 k)
 wide : ∀ w ∈ n.ai, dL w
 bh : ∀ m ∈ n.bh, ∃ k, m.width = o5 k
 strs : ∀ s ∈ n.streams, ∃ k, s.width = o5 k
 ins : ∀ w ∈ n.ins, ∃ k, w = o5 k
def rF (n : ab) (c : Cell) (w : Int) : Prop :=
 (c.kind = 1 ∧ kE w c.num = c.num) ∨
 (c.kind = 2 ∧ bR c.op (n.av c 0) (n.av c 1) (n.av c 2) w) ∨
 (c.kind = 3 ∧ ∀ k, k < c.args.length → (k % 2 = 0 ∧ n.av c k = 1) ∨ (k % 2 = 1 ∧ n.av c k = w)) ∨
 (c.kind = 4 ∧ n.av c 0 = 1 ∧ n.av c 1 = w ∧ kE w c.num = c.num) ∨
 (c.kind = 5 ∧ n.av c 0 = w ∧ n.av c 1 = w) ∨
 (c.kind = 6 ∧ n.av c 0 = 1 ∧ (n.bh.getD c.mem.toNat default).width = w) ∨
 (c.kind = 7 ∧ n.av c 0 = 1 ∧ (n.bh.getD c.mem.toNat default).width = n.av c 2) ∨
 (c.kind = 8 ∧ n.ins.getD c.num 0 = w) ∨
 (c.kind = 9 ∧ w = 1) ∨
 (c.kind = 10 ∧ (n.streams.getD c.mem.toNat default).width = w)
structure BP (n : ab) (c : Cell) (w : Int) : Prop where
 out : c.kind = 7 → c.out = -1
 args : ∀ x ∈ c.args, In x n.ai.length
 shaped : Shaped n c
 fits : rF n c w
 wide : dL w
 num : c.num < 18446744073709551616
 len : c.args.length ≤ 4
theorem wP : dL 1 := by decide
theorem getD_in {α : Type} {d : α} {l : List α} {i : Nat} (h : i < l.length) : l.getD i d ∈ l := by
 rw [List.getD_eq_getElem?_getD, List.getElem?_eq_getElem h]; exact List.getElem_mem h
section
variable {n : ab} (hg : Ground n)
include hg
theorem Ground.one : yS n.ai 1 := hg.has 0
theorem Ground.mem {i : Nat} (h : i < n.bh.length) : yS n.ai (n.bh.getD i default).width ∧ dL (n.bh.getD i default).width := by
 obtain ⟨k, hk⟩ := hg.bh _ (getD_in h)
 rw [hk]; exact ⟨hg.has k, rC k⟩
end
open Go Go.AW
structure ua (n : ab) : Prop where
 name : nc n.name
 ea : n.cells.length ≤ 65536
 dC : n.ai.length ≤ 65536
 ai : ∀ j, j < n.ai.length → dL (n.ai.getD j 0)
 ins : ∀ j, j < n.ins.length → dL (n.ins.getD j 0)
 iF : n.bh.length ≤ 64
 cA : n.streams.length ≤ 64
 dM : n.bQ.length = n.streams.length
 ib : n.data.length = n.streams.length
 bh : ∀ j, j < n.bh.length → kN (n.bh.getD j default)
 strs : ∀ j, j < n.streams.length → iE n j
noncomputable instance (n : ab) : Decidable (ua n) := Classical.propDecidable _
theorem kO {α : Type} {l m : List α} {j : Nat} {d : α} (h : j < l.length) : (l ++ m).getD j d = l.getD j d := by
 rw [List.getD_eq_getElem?_getD, List.getElem?_append_left h, List.getD_eq_getElem?_getD]
theorem kP {α : Type} {l m : List α} {j : Nat} {d : α} (h : l.length ≤ j) : (l ++ m).getD j d = m.getD (j - l.length) d := by
 rw [List.getD_eq_getElem?_getD, List.getElem?_append_right h, List.getD_eq_getElem?_getD]
theorem bn.parts {n : ab} (h : bn n) : ua n where
 name := h.name
 ea := h.ea
 dC := h.dC
 ai := fun j hj => by have := h.wide j (by rw [List.length_append]; omega); rwa [kO hj] at this
 ins := fun j hj => by have := h.wide (n.ai.length + j) (by rw [List.length_append]; omega); rwa [kP om, show n.ai.length + j - n.ai.length = j by omega] at this
 iF := h.iF
 cA := h.cA
 dM := h.dM
 ib := h.ib
 bh := h.bh
 strs := h.strs
theorem ua.formed {n : ab} (h : ua n) (h1 : In n.freeze n.ai.length) (h2 : In n.done n.ai.length) (h3 : ∀ j, j < n.ee.length → In (n.ee.getD j 0) n.ai.length)
  (h4 : ∀ j, j < n.cells.length → ia n (n.cells.getD j default)) (h5 : ∀ w, w < n.ai.length → bV n.cells w = 1) : bn n where
 name := h.name
 ea := h.ea
 dC := h.dC
 iF := h.iF
 cA := h.cA
 dM := h.dM
 ib := h.ib
 wide := fun j hj => by
  rw [List.length_append] at hj
  by_cases Hf : j < n.ai.length
  ·rw [kO Hf]; exact h.ai j Hf
  ·rw [kP om]; exact h.ins _ om
 bh := h.bh
 strs := h.strs
 freeze := h1
 done := h2
 ee := r9.1 h3
 cells := h4
 ju := h5
def xY (n : ab) (i : Nat) (d : List Int) : Prop := ∀ w, w < n.ai.length → d.getD w 0 = (bV (n.cells.take i) w : Int)
theorem xY.init (n : ab) : xY n 0 (List.replicate n.ai.length 0) := by
 intro w hw
 rw [List.getD_eq_getElem?_getD, List.getElem?_replicate, if_pos hw]; simp [bV]
theorem xY.skip {n : ab} {i : Nat} {d : List Int} (h : xY n i d) (hi : i < n.cells.length) (h7 : (n.cells.getD i default).kind = 7) : xY n (i + 1) d := by
 intro w hw
 rw [dV hi, if_neg (fun h => h.1 h7)]
 exact h w hw
theorem xY.step {n : ab} {i : Nat} {d : List Int} (h : xY n i d) (hi : i < n.cells.length) (h7 : (n.cells.getD i default).kind ≠ 7) (ho : In (n.cells.getD i default).out n.ai.length)
  (hl : d.length = n.ai.length) : xY n (i + 1) (d.set (n.cells.getD i default).out.toNat (d.getD (n.cells.getD i default).out.toNat 0 + 1)) := by
 intro w hw
 have hh := h w hw
 rw [dV hi, bD]
 unfold In at ho
 by_cases e : (n.cells.getD i default).out = (w : Int)
 ·rw [if_pos ⟨om, om⟩, if_pos ⟨h7, e⟩]
  have e2 : (n.cells.getD i default).out.toNat = w := by omega
  rw [e2, hh]; omega
 ·rw [if_neg om, if_neg (fun h => e h.2), hh]; omega
theorem xY.le {n : ab} {i : Nat} {d : List Int} (h : xY n i d) {w : Nat} (hw : w < n.ai.length) : 0 ≤ d.getD w 0 ∧ d.getD w 0 ≤ i := by
 rw [h w hw]
 have : bV (n.cells.take i) w ≤ i := Nat.le_trans List.countP_le_length (by rw [List.length_take]; omega)
 omega
open Go Go.AW
def nB : ByteArray := ⟨#[110]⟩
def pn (ws : List Int) (cs : List Cell) (ins : List Int) (bh : List oW) (streams : List gF) : ab := ⟨nB, ws, cs, ins, bh, streams, [], [], 0, 0, []⟩
structure Gr (n : ab) : Prop where
 ground : Ground n
 cells : ∀ c ∈ n.cells, ia n c ∧ Fits n c ∧ c.num < 18446744073709551616 ∧ c.args.length ≤ 4
 ju : ∀ w, w < n.ai.length → bV n.cells w = 1
 kF : ∀ i j, aX n i → aX n j → (n.cell j).out ∈ (n.cell i).args → j < i
theorem Fits.ext {n n' : ab} {c : Cell} (hm : n'.bh = n.bh) (hi : n'.ins = n.ins) (hs : n'.streams = n.streams) (ha : ∀ k, n'.av c k = n.av c k) (ho : n'.ow c = n.ow c) (h : Fits n c) : Fits n' c := by
 unfold Fits gZ at *
 simp only [ha, ho, hm, hi, hs]; exact h
theorem rF.fits {n n' : ab} {c c' : Cell} {w : Int} (hm : n'.bh = n.bh) (hi : n'.ins = n.ins) (hs : n'.streams = n.streams) (hk : c'.kind = c.kind) (CT : c'.op = c.op) (hr : c'.args = c.args) (hn : c'.num = c.num) (ML : c'.mem = c.mem)
  (ha : ∀ k, n'.av c' k = n.av c k) (ho : c.kind ≠ 7 → n'.ow c' = w) (h : rF n c w) : Fits n' c' := by
 unfold rF at h
 unfold Fits gZ
 simp only [ha, hm, hi, hs, hk, CT, hr, hn, ML]
 by_cases h7 : c.kind = 7
 ·rw [h7] at h ⊢
  simp only [Int.reduceEq, false_and, true_and, or_false, false_or] at h ⊢
  exact h
 ·rw [ho h7]; exact h
theorem ub {ws sW : List Int} {x : Int} (hs : ∀ x, x < ws.length → sW.getD x 0 = ws.getD x 0) (hx : In x ws.length) : sW.getD x.toNat 0 = ws.getD x.toNat 0 := hs _ (by unfold In at hx; omega)
theorem sX (l : List Cell) (c : Cell) (w : Nat) : bV (l ++ [c]) w = bV l w + bV [c] w := by simp only [bV, List.countP_append]
theorem rG {l : List Cell} {w : Nat} (h : ∀ c ∈ l, ¬ (c.kind ≠ 7 ∧ c.out = (w : Int))) : bV l w = 0 := by
 unfold bV
 rw [List.countP_eq_zero]
 intro c hc
 simpa using h c hc
theorem eb {α : Type} {d : α} {l r : List α} {i : Nat} (h : i < l.length) : (l ++ r).getD i d = l.getD i d := by
 rw [List.getD_eq_getElem?_getD, List.getElem?_append_left h, ← List.getD_eq_getElem?_getD]
theorem fP {α : Type} {d c : α} {l : List α} {i : Nat} (h : i = l.length) : (l ++ [c]).getD i d = c := by
 subst h
 rw [List.getD_eq_getElem?_getD, List.getElem?_append_right (Nat.le_refl _), Nat.sub_self]; rfl
section
variable {ws sW : List Int} {cs : List Cell} {ins : List Int} {bh : List oW} {streams : List gF} {c0 : Cell}
theorem Gr.push (h : Gr (pn ws cs ins bh streams)) (h0 : 0 < ws.length) (hw : ∀ w ∈ sW, dL w) (hs : ∀ x, x < ws.length → sW.getD x 0 = ws.getD x 0) (hle : ws.length ≤ sW.length)
  (hc : ia (pn sW cs ins bh streams) c0) (ha : ∀ x ∈ c0.args, In x ws.length) (hf : Fits (pn sW cs ins bh streams) c0) (Io : c0.num < 18446744073709551616) (hlen : c0.args.length ≤ 4)
  (MM : ∀ x, x < sW.length → bV [c0] x = if x < ws.length then 0 else 1) (lE : cM c0.kind → c0.out = ws.length) (Fa : sW.length ≤ ws.length + 1) : Gr (pn sW (cs ++ [c0]) ins bh streams) where
 ground := ⟨fun k => by
   obtain ⟨j, h1, h2⟩ := h.ground.has k
   exact ⟨j, Nat.lt_of_lt_of_le h1 hle, (hs j h1).trans h2⟩, hw, h.ground.bh, h.ground.strs, h.ground.ins⟩
 cells := by
  intro c vw
  rcases List.mem_append.1 vw with h1 | h1
  ·obtain ⟨a1, a2, a3, a4⟩ := h.cells c h1
   have b1 : ∀ x ∈ c.args, In x ws.length := a1.1
   refine ⟨⟨fun x hx => ?_, a1.2.1, a1.2.2.1, fun h7 => ?_⟩, ?_, a3, a4⟩
   ·have := b1 x hx; unfold In at *; exact ⟨this.1, by show x < (sW.length : Int); omega⟩
   ·have := a1.2.2.2 h7; unfold In at *; exact ⟨this.1, by have := this.2; show c.out < (sW.length : Int); change c.out < (ws.length : Int) at this; omega⟩
   ·refine Fits.ext (n := pn ws cs ins bh streams) rfl rfl rfl (fun k => ?_) ?_ a2
    ·refine ub hs ?_
     rcases Nat.lt_or_ge k c.args.length with hk | hk
     ·exact b1 _ (dc hk)
     ·rw [List.getD_eq_getElem?_getD, List.getElem?_eq_none hk]; exact ⟨Int.le_refl 0, by show (0 : Int) < (ws.length : Int); omega⟩
    ·unfold ab.ow
     split
     ·rename_i h2
      by_cases h7 : c.kind = 7
      ·have := a1.2.2.1 h7; omega
      ·exact ub hs (a1.2.2.2 h7)
     ·rfl
  ·rw [List.mem_singleton.1 h1]
   exact ⟨hc, hf, Io, hlen⟩
 ju := by
  intro w sv
  show bV (cs ++ [c0]) w = 1
  rw [sX, MM w sv]
  by_cases h1 : w < ws.length
  ·rw [if_pos h1]; have h2 := h.ju w h1; change bV cs w = 1 at h2; omega
  ·rw [if_neg h1, rG]
   rintro c vw ⟨h2, h3⟩
   have := (h.cells c vw).1.2.2.2 h2
   unfold In at this
   have h4 := this.2
   change c.out < (ws.length : Int) at h4
   omega
 kF := by
  intro i j hi hj ho
  have cl : ∀ {k : Int}, 0 ≤ k ∧ k < (cs.length : Int) → (pn sW (cs ++ [c0]) ins bh streams).cell k = (pn ws cs ins bh streams).cell k := fun hk => eb om
  have cr : ∀ {k : Int}, k = (cs.length : Int) → (pn sW (cs ++ [c0]) ins bh streams).cell k = c0 := fun hk => fP om
  have li : 0 ≤ i ∧ i < (cs.length : Int) + 1 := by have := hi.1; simp [pn] at this; omega
  have lj : 0 ≤ j ∧ j < (cs.length : Int) + 1 := by have := hj.1; simp [pn] at this; omega
  by_cases e1 : i = (cs.length : Int)
  ·by_cases e2 : j = (cs.length : Int)
   ·exfalso
    rw [cr e1, cr e2] at ho
    have h1 := ha _ ho
    have h2 := hj.2
    rw [cr e2] at h2
    rw [lE h2] at h1
    unfold In at h1; omega
   ·omega
  ·have fk : aX (pn ws cs ins bh streams) i := ⟨⟨li.1, by show i < (cs.length : Int); omega⟩, by have := hi.2; rwa [cl ⟨li.1, om⟩] at this⟩
   rw [cl (k := i) ⟨li.1, om⟩] at ho
   by_cases e2 : j = (cs.length : Int)
   ·exfalso
    have h2 := hj.2
    rw [cr e2] at h2 ho
    rw [lE h2] at ho
    have h3 : In (ws.length : Int) ws.length := (h.cells ((pn ws cs ins bh streams).cell i) (getD_in (l := cs) om)).1.1 _ ho
    unfold In at h3; omega
   ·have uB : aX (pn ws cs ins bh streams) j := ⟨⟨lj.1, by show j < (cs.length : Int); omega⟩, by have := hj.2; rwa [cl ⟨lj.1, om⟩] at this⟩
    rw [cl (k := j) ⟨lj.1, om⟩] at ho
    exact h.kF i j fk uB ho
theorem BQ {w : Int} {x : Int} (hx : In x ws.length) : (ws ++ [w]).getD x.toNat 0 = ws.getD x.toNat 0 := eb (by unfold In at hx; omega)
theorem Gr.add {c : Cell} {w : Int} (h : Gr (pn ws cs ins bh streams)) (h0 : 0 < ws.length) (hp : BP (pn ws cs ins bh streams) c w) (h7 : c.kind ≠ 7) :
  Gr (pn (ws ++ [w]) (cs ++ [⟨c.kind, c.op, (ws.length : Int), c.args, c.num, c.mem⟩]) ins bh streams) := by
 have ha : ∀ k, In (c.args.getD k 0) ws.length := fun k => by
  rcases Nat.lt_or_ge k c.args.length with hk | hk
  ·exact hp.args _ (dc hk)
  ·rw [List.getD_eq_getElem?_getD, List.getElem?_eq_none hk]; exact ⟨Int.le_refl 0, by show (0 : Int) < (ws.length : Int); omega⟩
 refine Gr.push h h0 (fun v hv => ?_) (fun x hx => eb hx) (by simp) ⟨fun x hx => ?_, hp.shaped, fun h => absurd h h7, fun _ => ⟨by show (0 : Int) ≤ (ws.length : Int); omega, by simp [pn]; omega⟩⟩ hp.args ?_ hp.num hp.len (fun x hx => ?_) (fun _ => rfl) (by simp)
 ·rcases List.mem_append.1 hv with h1 | h1
  ·exact h.ground.wide v h1
  ·rw [List.mem_singleton.1 h1]; exact hp.wide
 ·have := hp.args x hx
  unfold In at *
  exact ⟨this.1, by have := this.2; change x < (ws.length : Int) at this; simp [pn]; omega⟩
 ·refine rF.fits (n := pn ws cs ins bh streams) (c := c) (w := w) rfl rfl rfl rfl rfl rfl rfl rfl (fun k => BQ (ha k)) (fun _ => ?_) hp.fits
  show (if (0 : Int) ≤ (ws.length : Int) then (ws ++ [w]).getD ((ws.length : Int)).toNat 0 else 0) = w
  rw [if_pos om]
  exact fP (by simp)
 ·have im : x < ws.length + 1 := by simpa using hx
  show List.countP _ _ = _
  rw [List.countP_singleton]
  by_cases e : x < ws.length
  ·rw [if_pos e, if_neg (by simp only [decide_eq_true_eq]; rintro ⟨_, h2⟩; omega)]
  ·rw [if_neg e, if_pos (by simp only [decide_eq_true_eq]; exact ⟨h7, by show (ws.length : Int) = (x : Int); omega⟩)]
theorem Gr.setArgs {k : Nat} {args : List Int} (h : Gr (pn ws cs ins bh streams)) (hk : k < cs.length) (h4 : (cs.getD k default).kind = 4) (ha : ∀ x ∈ args, In x ws.length)
  (hl : args.length = 2) (h1 : ws.getD (args.getD 0 0).toNat 0 = 1) (h2 : ws.getD (args.getD 1 0).toNat 0 = ws.getD (cs.getD k default).out.toNat 0) :
  Gr (pn ws (cs.set k ⟨(cs.getD k default).kind, (cs.getD k default).op, (cs.getD k default).out, args, (cs.getD k default).num, (cs.getD k default).mem⟩) ins bh streams) := by
 have vw : cs.getD k default ∈ cs := getD_in hk
 obtain ⟨a1, a2, a3, a4⟩ := h.cells _ vw
 have ho := a1.2.2.2 (by rw [h4]; decide)
 generalize hc : cs.getD k default = c at *
 have cell : ∀ i : Int, (pn ws (cs.set k ⟨c.kind, c.op, c.out, args, c.num, c.mem⟩) ins bh streams).cell i = if k = i.toNat ∧ k < cs.length then ⟨c.kind, c.op, c.out, args, c.num, c.mem⟩ else (pn ws cs ins bh streams).cell i := fun i => bD ..
 refine ⟨⟨h.ground.has, h.ground.wide, h.ground.bh, h.ground.strs, h.ground.ins⟩, ?_, ?_, ?_⟩
 ·intro c' lB
  rcases List.mem_or_eq_of_mem_set lB with h5 | h5
  ·exact h.cells c' h5
  ·subst h5
   refine ⟨⟨ha, ?_, fun h7 => ?_, fun _ => ho⟩, ?_, a3, by simp only [hl]; decide⟩
   ·have := a1.2.1
    simp only [Shaped, h4, Int.reduceEq, false_and, true_and, false_or, or_false] at this
    exact .inr (.inr (.inr (.inl ⟨h4, hl, this.2.1, this.2.2⟩)))
   ·simp only [h4] at h7; exact absurd h7 ag
   ·simp only [Fits, h4, Int.reduceEq, false_and, true_and, false_or, or_false] at a2
    refine .inr (.inr (.inr (.inl ⟨h4, h1, ?_, a2.2.2⟩)))
    show ws.getD (args.getD 1 0).toNat 0 = if 0 ≤ c.out then ws.getD c.out.toNat 0 else 0
    unfold In at ho
    rw [if_pos ho.1]; exact h2
 ·intro w hw
  have := h.ju w hw
  rw [← this]
  show List.countP _ (cs.set k _) = List.countP _ cs
  have e : ∀ (l : List Cell) (f : Cell → Bool), List.countP f l = List.countP id (l.map f) := fun l f => by rw [List.countP_map]; rfl
  rw [e, e cs, List.map_set]
  congr 1
  have tN : k < (cs.map (fun c => decide (c.kind ≠ 7 ∧ c.out = (w : Int)))).length := by simpa using hk
  have hg : (cs.map (fun c => decide (c.kind ≠ 7 ∧ c.out = (w : Int))))[k] = decide (c.kind ≠ 7 ∧ c.out = (w : Int)) := by
   rw [List.getElem_map]
   have : cs[k] = c := by rw [← hc, List.getD_eq_getElem?_getD, List.getElem?_eq_getElem hk]; rfl
   rw [this]
  rw [← hg, List.set_getElem_self]
 ·intro i j hi hj hm
  have key : ∀ {i : Int}, aX (pn ws (cs.set k ⟨c.kind, c.op, c.out, args, c.num, c.mem⟩) ins bh streams) i → (pn ws (cs.set k ⟨c.kind, c.op, c.out, args, c.num, c.mem⟩) ins bh streams).cell i = (pn ws cs ins bh streams).cell i ∧ aX (pn ws cs ins bh streams) i := by
   intro i hi
   have j5 := hi.2
   have EZ : 0 ≤ i ∧ i < (cs.length : Int) := by have := hi.1; simp [pn] at this; omega
   rw [cell] at j5
   by_cases e : k = i.toNat ∧ k < cs.length
   ·rw [if_pos e] at j5
    simp only [h4] at j5
    exact absurd j5 ag
   ·rw [if_neg e] at j5
    exact ⟨by rw [cell, if_neg e], EZ, j5⟩
  rw [(key hi).1, (key hj).1] at hm
  exact h.kF i j (key hi).2 (key hj).2 hm
end
open Go Go.AW
section
variable {ws : List Int} {cs : List Cell} {ins : List Int} {bh : List oW} {streams : List gF}
theorem Gr.outs (h : Gr (pn ws cs ins bh streams)) {k : Nat} (hk : k < cs.length) (h4 : (cs.getD k default).kind = 4) : In (cs.getD k default).out ws.length := (h.cells (cs.getD k default) (getD_in hk)).1.2.2.2 (by rw [h4]; decide)
theorem Gr.late (h : Gr (pn ws cs ins bh streams)) {p : wO} {i : Nat} (hi : i < cs.length) : Gr (pn ws (AB ws cs p i) ins bh streams) := by
 unfold AB
 split
 ·rename_i h4
  have hk : (((cs.length : Int) - 1) - (i : Int)).toNat < cs.length := by omega
  have ho := h.outs hk h4
  have h1 := rE h.ground.one p.a
  have h2 := rE (ws := ws) (w := ws.getD (cs.getD (((cs.length : Int) - 1) - (i : Int)).toNat default).out.toNat 0) ⟨_, by unfold In at ho; omega, rfl⟩ p.d
  refine h.setArgs hk h4 ?_ rfl h1.2 h2.2
  intro x hx
  simp only [List.mem_cons, List.not_mem_nil, or_false] at hx
  rcases hx with rfl | rfl
  ·exact h1.1
  ·exact h2.1
 ·exact h
structure KO (n : ab) : Prop where
 formed : bn n
 fit : Fit n
 acyclic : Acyclic n
 small : n.Small
 ea : 8 ≤ n.cells.length ∧ n.cells.length ≤ 48
 dC : 8 ≤ n.ai.length ∧ n.ai.length ≤ 48
 wQ : ∀ c ∈ n.cells, c.args.length ≤ 4
 uc : n.ee.length ≤ 3
 iF : n.bh.length ≤ 3
 cA : n.streams.length ≤ 4
 Fb : n.ins.length ≤ 4
end
structure BO.MN (p : BO) : Prop where
 bh : p.bh.length ≤ 3
 streams : p.streams.length ≤ 4
 ins : p.ins.length ≤ 4
 parts : p.parts.length ≤ 40
 ee : p.ee.length ≤ 3
structure BO.Ok (p : BO) : Prop where
 bh : ∀ m ∈ p.bh, m.a < 256 ∧ m.b < 256
 streams : ∀ m ∈ p.streams, m.a < 256 ∧ m.b < 256
 ins : ∀ k ∈ p.ins, k < 256
 parts : ∀ q ∈ p.parts, q.Ok
 ee : ∀ k ∈ p.ee, k < 256
open Go Go.AW
noncomputable instance (p : BO) : Decidable p.MN := Classical.propDecidable _
structure kQ (n : ab) (cj : List Int) : Prop where
 len : cj.length = n.ai.length
 BR : ∀ w : Int, In w n.ai.length → cy n (cj.getD w.toNat 0) w
def nf (n : ab) (k : Nat) (cj : List Int) : Prop := cj.length = n.ai.length ∧ ∀ j w : Int, cy n j w → j < k → cj.getD w.toNat 0 = j
theorem nf.done {n : ab} {cj : List Int} (hf : bn n) (h : nf n n.cells.length cj) : kQ n cj := by
 refine ⟨h.1, fun w hw => ?_⟩
 obtain ⟨i, hi⟩ := hf.o0 hw
 rw [h.2 i w hi hi.1.2]; exact hi
theorem nf.set {n : ab} {k : Nat} {cj : List Int} (hf : bn n) (h : nf n k cj) (hk : k < n.cells.length) (h0 : (n.cells.getD k default).out ≥ 0) : nf n (k + 1) (cj.set (n.cells.getD k default).out.toNat (k : Int)) := by
 refine ⟨by rw [List.length_set]; exact h.1, fun j w hd hj => ?_⟩
 have hc := hf.cells k hk
 have h7 : (n.cells.getD k default).kind ≠ 7 := fun e => by have := hc.2.2.1 e; omega
 have CU : cy n (k : Int) (n.cells.getD k default).out := ⟨⟨om, om⟩, h7, rfl⟩
 have hw := hf.iG hd; have Ip := hf.iG CU
 unfold In at hw Ip
 rw [bD]
 by_cases e : (n.cells.getD k default).out.toNat = w.toNat ∧ (n.cells.getD k default).out.toNat < cj.length
 ·rw [if_pos e]
  have e2 : (n.cells.getD k default).out = w := by omega
  exact hf.unique (e2 ▸ CU) hd
 ·rw [if_neg e]
  have er : j ≠ (k : Int) := by
   rintro rfl
   apply e
   have e2 : (n.cells.getD k default).out = w := hd.2.2
   have := h.1
   omega
  exact h.2 j w hd om
theorem nf.skip {n : ab} {k : Nat} {cj : List Int} (hf : bn n) (h : nf n k cj) (h0 : ¬ (n.cells.getD k default).out ≥ 0) : nf n (k + 1) cj := by
 refine ⟨h.1, fun j w hd hj => ?_⟩
 have hw := hf.iG hd
 unfold In at hw
 have er : j ≠ (k : Int) := by
  rintro rfl
  have : (n.cells.getD k default).out = w := hd.2.2
  omega
 exact h.2 j w hd om
structure Fc (n : ab) (l : List Int) (k : Nat) (pl : List Int) : Prop where
 len : pl.length = n.cells.length
 at_ : ∀ j, j < k → pl.getD (l.getD j 0).toNat 0 = (j : Int) + 1
 none_ : ∀ c : Int, In c n.cells.length → (∀ j, j < k → l.getD j 0 ≠ c) → pl.getD c.toNat 0 = 0
theorem o6 {l : List Int} (h : l.Nodup) {i j : Nat} (hi : i < l.length) (hj : j < l.length) (e : l.getD i 0 = l.getD j 0) : i = j := by
 rw [List.getD_eq_getElem?_getD, List.getD_eq_getElem?_getD, List.getElem?_eq_getElem hi, List.getElem?_eq_getElem hj] at e
 simp only [Option.getD_some] at e
 rw [List.Nodup, List.pairwise_iff_getElem] at h
 rcases Nat.lt_trichotomy i j with h1 | h1 | h1
 ·exact absurd e (h i j hi hj h1)
 ·exact h1
 ·exact absurd e.symm (h j i hj hi h1)
theorem Fc.init (n : ab) (l : List Int) : Fc n l 0 (List.replicate n.cells.length 0) :=
 ⟨by simp, fun j hj => by omega, fun c hc _ => by
  unfold In at hc
  rw [List.getD_eq_getElem?_getD, List.getElem?_eq_getElem (by simp; omega)]; simp⟩
theorem Fc.step {n : ab} {l pl : List Int} {k : Nat} (ho : Ord n l) (h : Fc n l k pl) (hk : k < l.length) : Fc n l (k + 1) (pl.set (l.getD k 0).toNat ((k : Int) + 1)) := by
 have hr := ho.s0 _ (dc hk)
 have hl := h.len
 refine ⟨by rw [List.length_set]; exact hl, fun j hj => ?_, fun c hc er => ?_⟩
 ·rw [bD]
  rcases Nat.lt_or_ge j k with h1 | h1
  ·have Kx := ho.s0 _ (dc (l := l) (i := j) om)
   rw [if_neg (fun e => by have := o6 ho.nd hk (by omega : j < l.length) om; omega)]
   exact h.at_ j h1
  ·obtain rfl : j = k := by omega
   rw [if_pos ⟨rfl, om⟩]
 ·have h1 := er k om
  unfold In at hc
  rw [bD, if_neg (fun e => h1 om)]
  exact h.none_ c hc (fun j hj => er j om)
theorem Ord.mem {n : ab} {l : List Int} (ho : Ord n l) {i : Int} (hi : 0 ≤ i ∧ i < n.cells.length) : i ∈ l := by
 refine Classical.byContradiction fun hn => ?_
 have h1 : ∀ x ∈ i :: l, x ∈ (List.range n.cells.length).map (fun (j : Nat) => (j : Int)) := by
  intro x hx
  have hr : 0 ≤ x ∧ x < n.cells.length := by
   rcases List.mem_cons.1 hx with rfl | hx
   ·exact hi
   ·exact ho.s0 x hx
  exact List.mem_map.2 ⟨x.toNat, List.mem_range.2 om, om⟩
 have h2 := length_le_of_subset (List.nodup_cons.2 ⟨hn, ho.nd⟩) h1
 simp only [List.length_cons, List.length_map, List.length_range, ho.len] at h2
 omega
theorem kd.ok {n : ab} {l : List Int} {e : Int} (h : kd n l e) (hf : bn n) (ht : Fit n) (ha : Acyclic n) : Ord n l ∧ e = 0 := by
 rcases h with ⟨h1, _⟩ | ⟨_, h2, _⟩ | ⟨_, _, h3, _⟩ | ⟨_, _, _, h4, h5⟩
 ·exact absurd hf h1
 ·exact absurd ht h2
 ·exact absurd ha h3
 ·exact ⟨h4, h5⟩
theorem wR {n : ab} (hf : bn n) (ht : Fit n) (ha : Acyclic n) : lO n = 0 := by unfold lO; rw [if_pos hf, if_pos ht, if_pos ha]
open Go Go.AW
inductive xZ (n : ab) (ws : List Int) : Int → Prop where
 | root {w i : Int} (hw : w ∈ ws) (h : cy n i w) : xZ n ws i
 | step {i x j : Int} (hi : xZ n ws i) (hc : cM (n.cell i).kind) (hx : x ∈ (n.cell i).args) (h : cy n j x) : xZ n ws j
def wS (l : List Bool) : Nat := l.countP (fun b => !b)
theorem uQ (l : List Bool) : wS l ≤ l.length := List.countP_le_length
structure q7 (n : ab) (cj ws : List Int) (l : List Int) (seen : List Bool) : Prop where
 len : seen.length = n.cells.length
 s0 : ∀ w ∈ l, In w n.ai.length
 snd : ∀ w ∈ l, ∀ i, cy n i w → xZ n ws i
 yT : ∀ i : Nat, i < n.cells.length → seen.getD i false = true → xZ n ws i
 root : ∀ w ∈ ws, seen.getD (cj.getD w.toNat 0).toNat false = true ∨ w ∈ l
 fH : ∀ i : Nat, i < n.cells.length → seen.getD i false = true → cM (n.cells.getD i default).kind → ∀ x ∈ (n.cells.getD i default).args, seen.getD (cj.getD x.toNat 0).toNat false = true ∨ x ∈ l
 sz : l.length + 4 * wS seen ≤ ws.length + 4 * n.cells.length
theorem lJ {k i : Nat} : (List.replicate k false).getD i false = false := by
 rw [List.getD_eq_getElem?_getD]
 by_cases h : i < k
 ·rw [List.getElem?_eq_getElem (by simpa using h)]; simp
 ·rw [List.getElem?_eq_none (by simpa using h)]; rfl
theorem q7.init {n : ab} {cj ws : List Int} (hw : ∀ w ∈ ws, In w n.ai.length) : q7 n cj ws ws (List.replicate n.cells.length false) where
 len := by simp
 s0 := hw
 snd := fun w hw i hi => .root hw hi
 yT := fun i _ h => by rw [lJ] at h; cases h
 root := fun w hw => .inr hw
 fH := fun i _ h => by rw [lJ] at h; cases h
 sz := by have := uQ (List.replicate n.cells.length false); simp at this; omega
section
variable {n : ab} {cj ws l : List Int} {seen : List Bool}
theorem k0 {l : List Int} (h : 0 < l.length) {x : Int} (hx : x ∈ l) : x = l.getD (l.length - 1) 0 ∨ x ∈ l.take (l.length - 1) := by
 obtain ⟨i, hi, rfl⟩ := List.mem_iff_getElem.1 hx
 by_cases e : i = l.length - 1
 ·left; subst e; rw [List.getD_eq_getElem?_getD, List.getElem?_eq_getElem hi]; rfl
 ·right
  refine List.mem_iff_getElem.2 ⟨i, by simp; omega, by simp⟩
theorem q7.skip (h : q7 n cj ws l seen) (h0 : 0 < l.length) (hs : seen.getD (cj.getD (l.getD (l.length - 1) 0).toNat 0).toNat false = true) : q7 n cj ws (l.take (l.length - 1)) seen where
 len := h.len
 s0 := fun w hw => h.s0 w (List.mem_of_mem_take hw)
 snd := fun w hw => h.snd w (List.mem_of_mem_take hw)
 yT := h.yT
 root := fun w hw => by
  rcases h.root w hw with h1 | h1
  ·exact .inl h1
  ·rcases k0 h0 h1 with h2 | h2
   ·exact .inl (by rw [h2]; exact hs)
   ·exact .inr h2
 fH := fun i hi hm hc x hx => by
  rcases h.fH i hi hm hc x hx with h1 | h1
  ·exact .inl h1
  ·rcases k0 h0 h1 with h2 | h2
   ·exact .inl (by rw [h2]; exact hs)
   ·exact .inr h2
 sz := by have := h.sz; simp only [List.length_take]; omega
theorem q7.last (hb : kQ n cj) (h : q7 n cj ws l seen) (h0 : 0 < l.length) : (0 ≤ l.getD (l.length - 1) 0 ∧ l.getD (l.length - 1) 0 < n.ai.length) ∧ (0 ≤ cj.getD (l.getD (l.length - 1) 0).toNat 0 ∧ cj.getD (l.getD (l.length - 1) 0).toNat 0 < n.cells.length) := by
 have hw := h.s0 _ (dc (l := l) (i := l.length - 1) om)
 exact ⟨hw, (hb.BR _ hw).1⟩
theorem BS {a b : Nat} (h : b ≤ a ∧ a ≤ 4611686018427387904) : IntKind.i64.wrap ((a : Int) - (b : Int)) = ((a - b : Nat) : Int) := by
 rw [show ((a : Int) - (b : Int)) = ((a - b : Nat) : Int) by omega]
 exact IntWalk.i64_in _ om
theorem take_one {α : Type} {d : α} {l : List α} {k : Nat} (h : k < l.length) : l.take (k + 1) = l.take k ++ [l.getD k d] := by
 rw [List.take_add_one, List.getElem?_eq_getElem h, List.getD_eq_getElem?_getD, List.getElem?_eq_getElem h]; rfl
def pG (n : ab) (ws : List Int) (seen : List Bool) : Prop := seen.length = n.cells.length ∧ ∀ i : Nat, i < n.cells.length → (seen.getD i false = true ↔ xZ n ws i)
theorem q7.done (hb : kQ n cj) (hf : bn n) (h : q7 n cj ws l seen) (h0 : l.length = 0) (hw : ∀ w ∈ ws, In w n.ai.length) : pG n ws seen := by
 have hl : l = [] := List.eq_nil_of_length_eq_zero h0
 subst hl
 refine ⟨h.len, fun i hi => ⟨h.yT i hi, fun hr => ?_⟩⟩
 have key : ∀ j : Int, xZ n ws j → 0 ≤ j ∧ j < n.cells.length ∧ seen.getD j.toNat false = true := by
  intro j hj
  induction hj with
  | root mw hd =>
   rcases h.root _ mw with h1 | h1
   ·rw [hf.unique (hb.BR _ (hw _ mw)) hd] at h1
    exact ⟨hd.1.1, hd.1.2, h1⟩
   ·cases h1
  | @step i x j hi hc hx hd ih =>
   rcases h.fH i.toNat om ih.2.2 hc x hx with h1 | h1
   ·rw [hf.unique (hb.BR _ (hf.pD ⟨ih.1, ih.2.1⟩ hx)) hd] at h1
    exact ⟨hd.1.1, hd.1.2, h1⟩
   ·cases h1
 exact (key _ hr).2.2
end
theorem pG.eq {n : ab} {ws : List Int} {s t : List Bool} (hs : pG n ws s) (ht : pG n ws t) : s = t := by
 refine List.ext_getElem (by rw [hs.1, ht.1]) fun i h1 h2 => ?_
 have e1 := hs.2 i (by have := hs.1; omega)
 have e2 := ht.2 i (by have := hs.1; omega)
 rw [List.getD_eq_getElem?_getD, List.getElem?_eq_getElem h1] at e1
 rw [List.getD_eq_getElem?_getD, List.getElem?_eq_getElem h2] at e2
 simp only [Option.getD_some] at e1 e2
 cases h3 : s[i] <;> cases h4 : t[i] <;> simp_all
open Go Go.AW
def ya (p : Nat → Bool) (k : Nat) : List Nat := (List.range k).filter p
theorem q8 {p : Nat → Bool} {k : Nat} (h : p k = false) : ya p (k + 1) = ya p k := by
 simp only [ya, List.range_succ, List.filter_append, List.filter_cons, h, List.filter_nil, List.append_nil, Bool.false_eq_true, if_false]
theorem wT (p : Nat → Bool) (k : Nat) : (ya p k).length ≤ k := by
 have := List.length_filter_le p (List.range k)
 rw [List.length_range] at this; exact this
def yU (p : Nat → Bool) (w : Nat) : Int := if p w then ((ya p w).length : Int) else -1
def CV (p : Nat → Bool) (x : Int) : Int := if 0 ≤ x then yU p x.toNat else x
def AD {α : Type} (p : Nat → Bool) (l : List α) (d : α) : List α := (ya p l.length).map (fun i => l.getD i d)
open Go Go.AW
def kc (n : ab) (s : List Bool) (i : Nat) : Bool := s.getD i false || !decide (cM (n.cells.getD i default).kind)
def kw (n : ab) (cj : List Int) (s : List Bool) (w : Nat) : Bool := kc n s (cj.getD w 0).toNat
def Iq (p : Nat → Bool) (c : Cell) : Cell := ⟨c.kind, c.op, CV p c.out, c.args.map (CV p), c.num, c.mem⟩
structure Fe (n : ab) (cj : List Int) (s : List Bool) : Prop where
 freeze : kw n cj s n.freeze.toNat = true
 done : kw n cj s n.done.toNat = true
 ee : ∀ r ∈ n.ee, kw n cj s r.toNat = true
 bQ : ∀ r ∈ n.bQ, kw n cj s r.toNat = true
 data : ∀ r ∈ n.data, 0 ≤ r → kw n cj s r.toNat = true
 fH : ∀ i, i < n.cells.length → kc n s i = true → ∀ x ∈ (n.cells.getD i default).args, kw n cj s x.toNat = true
section
variable {n : ab} {cj : List Int} {s : List Bool} (hf : bn n) (hb : kQ n cj) (hk : Fe n cj s)
end
open Go Go.AW
structure VP (n : ab) : Prop where
 formed : bn n
 fit : Fit n
 acyclic : Acyclic n
 small : n.Small
 ea : n.cells.length ≤ 48
 dC : n.ai.length ≤ 48
 wQ : ∀ c ∈ n.cells, c.args.length ≤ 4
 uc : n.ee.length ≤ 3
 iF : n.bh.length ≤ 3
 cA : n.streams.length ≤ 4
 Fb : n.ins.length ≤ 4
section
variable {n : ab} {cj : List Int} {s : List Bool} (hv : VP n) (hb : kQ n cj) (hk : Fe n cj s)
end
open Go Go.AW
structure yV (n : ab) (w : Int) : Prop where
 is : w ∈ n.bQ ∨ w ∈ n.ee ∨ w = n.freeze ∨ w = n.done ∨ (w ∈ n.data ∧ 0 ≤ w) ∨ ∃ i, i < n.cells.length ∧ ¬ cM (n.cells.getD i default).kind ∧ w ∈ (n.cells.getD i default).args
def lP (n : ab) (l : List Int) : Prop := ∀ w, w ∈ l ↔ yV n w
theorem yV.s0 {n : ab} (hf : bn n) {w : Int} (h : yV n w) : In w n.ai.length := by
 rcases h.is with h | h | h | h | ⟨h, h0⟩ | ⟨i, hi, _, h⟩
 ·obtain ⟨j, hj, rfl⟩ := List.mem_iff_getElem.1 h
  have h1 := (hf.strs j (by have := hf.dM; omega)).2.2.1
  rwa [List.getD_eq_getElem?_getD, List.getElem?_eq_getElem hj] at h1
 ·exact hf.ee w h
 ·rw [h]; exact hf.freeze
 ·rw [h]; exact hf.done
 ·obtain ⟨j, hj, rfl⟩ := List.mem_iff_getElem.1 h
  have h1 := (hf.strs j (by have := hf.ib; omega)).2.2.2
  have e : n.data.getD j 0 = n.data[j] := by rw [List.getD_eq_getElem?_getD, List.getElem?_eq_getElem hj]; rfl
  rw [← e] at h0 ⊢
  cases ho : (n.streams.getD j default).out with
  | true => exact h1.1 ho
  | false => have := h1.2 ho; omega
 ·exact (hf.cells i hi).1 w h
section
variable {n : ab} {cj l : List Int} {s : List Bool} (hf : bn n) (hb : kQ n cj) (hl : lP n l) (hc : pG n l s)
include hf hb hl hc
end
open Go Go.AW
structure Sn (n : ab) (cj rs : List Int) (l : List Int) (cI : List Bool) : Prop where
 len : cI.length = n.cells.length
 s0 : ∀ w ∈ l, w < 0 ∨ In w n.ai.length
 snd : ∀ w ∈ l, ∀ i, cy n i w → xZ n rs i
 seq : ∀ i : Nat, i < n.cells.length → ¬ cM (n.cells.getD i default).kind → cI.getD i false = true
 yT : ∀ i : Nat, i < n.cells.length → cI.getD i false = true → cM (n.cells.getD i default).kind → xZ n rs i
 root : ∀ w ∈ rs, cI.getD (cj.getD w.toNat 0).toNat false = true ∨ w ∈ l
 fH : ∀ i : Nat, i < n.cells.length → cI.getD i false = true → cM (n.cells.getD i default).kind → ∀ x ∈ (n.cells.getD i default).args, cI.getD (cj.getD x.toNat 0).toNat false = true ∨ x ∈ l
section
variable {n : ab} {cj rs l : List Int} {cI : List Bool}
theorem Sn.skip (h : Sn n cj rs l cI) (hf : ∀ w ∈ rs, 0 ≤ w) (MO : bn n) (h0 : 0 < l.length) (hs : l.getD (l.length - 1) 0 < 0 ∨ cI.getD (cj.getD (l.getD (l.length - 1) 0).toNat 0).toNat false = true) : Sn n cj rs (l.take (l.length - 1)) cI where
 len := h.len
 s0 := fun w hw => h.s0 w (List.mem_of_mem_take hw)
 snd := fun w hw => h.snd w (List.mem_of_mem_take hw)
 seq := h.seq
 yT := h.yT
 root := fun w hw => by
  rcases h.root w hw with h1 | h1
  ·exact .inl h1
  ·rcases k0 h0 h1 with h2 | h2
   ·rcases hs with hs | hs
    ·have := hf w hw; omega
    ·exact .inl (by rw [h2]; exact hs)
   ·exact .inr h2
 fH := fun i hi hm hc x hx => by
  rcases h.fH i hi hm hc x hx with h1 | h1
  ·exact .inl h1
  ·rcases k0 h0 h1 with h2 | h2
   ·rcases hs with hs | hs
    ·have h3 := (MO.cells i hi).1 x hx
     unfold In at h3; omega
    ·exact .inl (by rw [h2]; exact hs)
   ·exact .inr h2
theorem Sn.done (hb : kQ n cj) (hf : bn n) (GB : ∀ w ∈ rs, In w n.ai.length) (h : Sn n cj rs l cI) (h0 : l.length = 0) {s : List Bool} (hc : pG n rs s) : ∀ i, i < n.cells.length → cI.getD i false = kc n s i := by
 have hl : l = [] := List.eq_nil_of_length_eq_zero h0
 subst hl
 have key : ∀ j : Int, xZ n rs j → 0 ≤ j ∧ j < n.cells.length ∧ cI.getD j.toNat false = true := by
  intro j hj
  induction hj with
  | root mw hd =>
   rcases h.root _ mw with h1 | h1
   ·rw [hf.unique (hb.BR _ (GB _ mw)) hd] at h1
    exact ⟨hd.1.1, hd.1.2, h1⟩
   ·cases h1
  | @step i x j hi n7 hx hd ih =>
   rcases h.fH i.toNat om ih.2.2 n7 x hx with h1 | h1
   ·rw [hf.unique (hb.BR _ (hf.pD ⟨ih.1, ih.2.1⟩ hx)) hd] at h1
    exact ⟨hd.1.1, hd.1.2, h1⟩
   ·cases h1
 intro i hi
 unfold kc
 by_cases n7 : cM (n.cells.getD i default).kind
 ·rw [decide_eq_true n7]
  simp only [Bool.not_true, Bool.or_false]
  have e := hc.2 i hi
  cases hn : cI.getD i false with
  | true => exact (e.2 (h.yT i hi hn n7)).symm
  | false =>
   cases hs : s.getD i false with
   | false => rfl
   | true =>
    have := (key _ (e.1 hs)).2.2
    rw [Int.toNat_natCast, hn] at this; cases this
 ·rw [h.seq i hi n7, decide_eq_false n7]; simp
end
open Go Go.AW
def lQ (n : ab) : List Int := (((([n.freeze, n.done] : List Int) ++ n.ee) ++ n.bQ) ++ n.data)
structure CW (n : ab) (k : Nat) (cI : List Bool) (O : List Int) : Prop where
 len : cI.length = n.cells.length
 nd : ∀ i, i < n.cells.length → (cI.getD i false = true ↔ i < k ∧ ¬ cM (n.cells.getD i default).kind)
 op : ∀ w, w ∈ O ↔ (w ∈ lQ n ∨ ∃ i, i < k ∧ ¬ cM (n.cells.getD i default).kind ∧ w ∈ (n.cells.getD i default).args)
 sz : O.length ≤ 13 + 4 * k
theorem CW.init {n : ab} (hM : VP n) : CW n 0 (List.replicate n.cells.length false) (lQ n) where
 len := by simp
 nd := fun i _ => by rw [lJ]; simp
 op := fun w => by simp
 sz := by
  have h1 := hM.uc; have h2 := hM.cA; have h3 := hM.formed.dM; have h4 := hM.formed.ib
  simp only [lQ, List.length_append, List.length_cons, List.length_nil]; omega
theorem CW.no {n : ab} {k : Nat} {cI : List Bool} {O : List Int} (h : CW n k cI O) (hc : cM (n.cells.getD k default).kind) : CW n (k + 1) cI O where
 len := h.len
 nd := fun i hi => by
  rw [h.nd i hi]
  constructor
  ·exact fun h1 => ⟨om, h1.2⟩
  ·rintro ⟨h1, h2⟩
   refine ⟨?_, h2⟩
   rcases Nat.lt_or_ge i k with h4 | h4
   ·exact h4
   ·obtain rfl : i = k := by omega
    exact absurd hc h2
 op := fun w => by
  rw [h.op w]
  constructor
  ·rintro (h1 | ⟨i, h1, h2, h3⟩)
   ·exact .inl h1
   ·exact .inr ⟨i, om, h2, h3⟩
  ·rintro (h1 | ⟨i, h1, h2, h3⟩)
   ·exact .inl h1
   ·rcases Nat.lt_or_ge i k with h4 | h4
    ·exact .inr ⟨i, h4, h2, h3⟩
    ·obtain rfl : i = k := by omega
     exact absurd hc h2
 sz := by have := h.sz; omega
theorem Sn.init {n : ab} {cj rs O : List Int} {cI : List Bool} (hf : bn n) (GB : lP n rs) (h : CW n n.cells.length cI O) : Sn n cj rs O cI := by
 have root : ∀ w ∈ O, 0 ≤ w → yV n w := by
  intro w hw h0
  rcases (h.op w).1 hw with h1 | ⟨i, h1, h2, h3⟩
  ·simp only [lQ, List.mem_append, List.mem_cons, List.not_mem_nil, or_false] at h1
   rcases h1 with (((h1 | h1) | h1) | h1) | h1
   ·exact ⟨.inr (.inr (.inl h1))⟩
   ·exact ⟨.inr (.inr (.inr (.inl h1)))⟩
   ·exact ⟨.inr (.inl h1)⟩
   ·exact ⟨.inl h1⟩
   ·exact ⟨.inr (.inr (.inr (.inr (.inl ⟨h1, h0⟩))))⟩
  ·exact ⟨.inr (.inr (.inr (.inr (.inr ⟨i, h1, h2, h3⟩))))⟩
 exact {
  len := h.len
  s0 := fun w hw => by
   rcases Int.lt_or_le w 0 with h1 | h1
   ·exact .inl h1
   ·exact .inr ((root w hw h1).s0 hf)
  snd := fun w hw i hd => .root ((GB w).2 (root w hw (by have := hf.iG hd; unfold In at this; omega))) hd
  seq := fun i hi hc => (h.nd i hi).2 ⟨hi, hc⟩
  yT := fun i hi hm hc => absurd hc ((h.nd i hi).1 hm).2
  root := fun w hw => by
   right
   refine (h.op w).2 ?_
   rcases ((GB w).1 hw).is with h1 | h1 | h1 | h1 | ⟨h1, _⟩ | ⟨i, h1, h2, h3⟩
   ·left; simp [lQ, h1]
   ·left; simp [lQ, h1]
   ·left; simp [lQ, h1]
   ·left; simp [lQ, h1]
   ·left; simp [lQ, h1]
   ·exact .inr ⟨i, h1, h2, h3⟩
  fH := fun i hi hm hc => absurd hc ((h.nd i hi).1 hm).2 }
open Go Go.AW
structure yb (p : Nat → Bool) (l m : List Int) (i : Nat) : Prop where
 len : m.length = l.length
 lo : ∀ j, j < i → m.getD j 0 = CV p (l.getD j 0)
 hi : ∀ j, i ≤ j → m.getD j 0 = l.getD j 0
theorem yb.init (p : Nat → Bool) (l : List Int) : yb p l l 0 := ⟨rfl, fun j hj => by omega, fun _ _ => rfl⟩
theorem yb.set {p : Nat → Bool} {l m : List Int} {i : Nat} {v : Int} (h : yb p l m i) (hi : i < m.length) (hv : v = CV p (l.getD i 0)) : yb p l (m.set i v) (i + 1) where
 len := by rw [List.length_set]; exact h.len
 lo := fun j hj => by
  rw [bD]
  by_cases e : i = j ∧ i < m.length
  ·rw [if_pos e, hv, e.1]
  ·rw [if_neg e]; exact h.lo j om
 hi := fun j hj => by rw [bD, if_neg om]; exact h.hi j om
theorem yb.skip {p : Nat → Bool} {l m : List Int} {i : Nat} (h : yb p l m i) (hn : ¬ l.getD i 0 ≥ 0) : yb p l m (i + 1) where
 len := h.len
 lo := fun j hj => by
  rcases Nat.lt_or_ge j i with h1 | h1
  ·exact h.lo j h1
  ·obtain rfl : j = i := by omega
   rw [h.hi j (Nat.le_refl _)]
   unfold CV; rw [if_neg om]
 hi := fun j hj => h.hi j om
theorem yb.done {p : Nat → Bool} {l m : List Int} (h : yb p l m l.length) : m = l.map (CV p) := by
 refine List.ext_getElem (by rw [h.len]; simp) fun i h1 h2 => ?_
 have h3 : i < l.length := by rw [← h.len]; exact h1
 have := h.lo i h3
 rw [List.getD_eq_getElem?_getD, List.getElem?_eq_getElem h1, List.getD_eq_getElem?_getD, List.getElem?_eq_getElem h3] at this
 simpa using this
def yW (p : Nat → Bool) (k : Nat) (nb : List Int) : Prop := nb.length = k ∧ ∀ w, w < k → nb.getD w 0 = yU p w
open Go Go.AW Go.Proofs
structure Rt (n : ab) (k i : Nat) (O : List Int) : Prop where
 op : ∀ w, w ∈ O ↔ (w ∈ n.bQ ∨ w ∈ n.ee ∨ w = n.freeze ∨ w = n.done) ∨ (∃ j, j < k ∧ 0 ≤ n.data.getD j 0 ∧ w = n.data.getD j 0) ∨ ∃ j, j < i ∧ ¬ cM (n.cells.getD j default).kind ∧ w ∈ (n.cells.getD j default).args
 sz : O.length ≤ 9 + k + 4 * i
theorem Rt.init {n : ab} (hM : VP n) : Rt n 0 0 ([n.bQ, n.ee, [n.freeze, n.done]] : List (List Int)).flatten where
 op := fun w => by simp
 sz := by
  have h1 := hM.uc; have h2 := hM.cA; have h3 := hM.formed.dM
  simp; omega
theorem Rt.no {n : ab} {d k : Nat} {O : List Int} (h : Rt n d k O) (hc : cM (n.cells.getD k default).kind) : Rt n d (k + 1) O where
 op := fun w => by
  rw [h.op w]
  constructor
  ·rintro (h1 | h1 | ⟨i, h1, h2, h3⟩)
   ·exact .inl h1
   ·exact .inr (.inl h1)
   ·exact .inr (.inr ⟨i, om, h2, h3⟩)
  ·rintro (h1 | h1 | ⟨i, h1, h2, h3⟩)
   ·exact .inl h1
   ·exact .inr (.inl h1)
   ·rcases Nat.lt_or_ge i k with h4 | h4
    ·exact .inr (.inr ⟨i, h4, h2, h3⟩)
    ·obtain rfl : i = k := by omega
     exact absurd hc h2
 sz := by have := h.sz; omega
theorem Rt.at {n : ab} {O : List Int} {k : Nat} (e : k = n.data.length) (h : Rt n k 0 O) : Rt n n.data.length 0 O := by subst e; exact h
theorem Rt.done {n : ab} {O : List Int} (h : Rt n n.data.length n.cells.length O) : lP n O := by
 intro w
 rw [h.op w]
 constructor
 ·rintro ((h1 | h1 | h1 | h1) | ⟨j, h1, h2, rfl⟩ | h1)
  ·exact ⟨.inl h1⟩
  ·exact ⟨.inr (.inl h1)⟩
  ·exact ⟨.inr (.inr (.inl h1))⟩
  ·exact ⟨.inr (.inr (.inr (.inl h1)))⟩
  ·exact ⟨.inr (.inr (.inr (.inr (.inl ⟨dc h1, h2⟩))))⟩
  ·exact ⟨.inr (.inr (.inr (.inr (.inr h1))))⟩
 ·rintro ⟨h1 | h1 | h1 | h1 | ⟨h1, h2⟩ | h1⟩
  ·exact .inl (.inl h1)
  ·exact .inl (.inr (.inl h1))
  ·exact .inl (.inr (.inr (.inl h1)))
  ·exact .inl (.inr (.inr (.inr h1)))
  ·obtain ⟨j, hj, rfl⟩ := List.mem_iff_getElem.1 h1
   have e : n.data.getD j 0 = n.data[j] := by rw [List.getD_eq_getElem?_getD, List.getElem?_eq_getElem hj]; rfl
   exact .inr (.inl ⟨j, hj, by rw [e]; exact h2, e.symm⟩)
  ·exact .inr (.inr h1)
theorem lP.at {n : ab} {O : List Int} {k : Nat} (e : k = n.cells.length) (h : Rt n n.data.length k O) : lP n O := by subst e; exact h.done
structure Wn (p : Nat → Bool) (ws : List Int) (k : Nat) (nb wl : List Int) : Prop where
 len : nb.length = ws.length
 num : ∀ w, w < k → nb.getD w 0 = yU p w
 ws : wl = (ya p k).map (fun i => ws.getD i 0)
theorem Wn.init {p : Nat → Bool} {ws : List Int} : Wn p ws 0 (List.replicate ws.length 0) [] := ⟨by simp, fun w h => by omega, rfl⟩
theorem Wn.no {p : Nat → Bool} {ws nb wl : List Int} {k : Nat} (h : Wn p ws k nb wl) (hk : k < ws.length) (hp : p k = false) : Wn p ws (k + 1) (nb.set k (-1)) wl where
 len := by rw [List.length_set]; exact h.len
 num := fun w hw => by
  have := h.len
  rcases Nat.lt_or_ge w k with h1 | h1
  ·rw [bD, if_neg om]; exact h.num w h1
  ·obtain rfl : w = k := by omega
   rw [bD, if_pos ⟨rfl, om⟩]
   unfold yU; rw [if_neg (by simp [hp])]
 ws := by rw [q8 hp]; exact h.ws
theorem Wn.Ff {p : Nat → Bool} {ws nb wl : List Int} (h : Wn p ws ws.length nb wl) : yW p ws.length nb := ⟨h.len, h.num⟩
theorem Wn.au {p : Nat → Bool} {ws nb wl : List Int} (h : Wn p ws ws.length nb wl) : wl = AD p ws 0 := h.ws
theorem yW.at {p : Nat → Bool} {ws nb wl : List Int} {k : Nat} (e : k = ws.length) (h : Wn p ws k nb wl) : yW p ws.length nb := by subst e; exact h.Ff
theorem Wn.at {p : Nat → Bool} {ws nb wl : List Int} {k : Nat} (e : k = ws.length) (h : Wn p ws k nb wl) : wl = AD p ws 0 := by subst e; exact h.au
def Cn (n : ab) (cj : List Int) (s : List Bool) (i : Nat) : List Cell := ((ya (kc n s) i).map (fun i => n.cells.getD i default)).map (Iq (kw n cj s))
theorem Wn.le {p : Nat → Bool} {ws nb wl : List Int} {k : Nat} (h : Wn p ws k nb wl) : wl.length ≤ k := by rw [h.ws, List.length_map]; exact wT _ _
theorem Cn.no {n : ab} {cj : List Int} {s : List Bool} {i : Nat} (h : kc n s i = false) : Cn n cj s (i + 1) = Cn n cj s i := by unfold Cn; rw [q8 h]
open Go Go.AW Go.Proofs
def oW.rh (a : oW) : List Value := [.string a.name, .int .i64 a.width, .int .i64 a.len, .int .i64 a.kind, .int .i64 a.od]
def gF.rh (a : gF) : List Value := [.string a.name, .int .i64 a.width, .bool a.out]
def oW.Ir (a b : oW) : Bool := a.name.toList == b.name.toList && (a.width == b.width && (a.len == b.len && (a.kind == b.kind && a.od == b.od)))
def gF.Ir (a b : gF) : Bool := a.name.toList == b.name.toList && (a.width == b.width && a.out == b.out)
open Go Go.AW
def yc {α : Type} (e : α → α → Bool) (d : α) (l m : List α) : Prop := l.length = m.length ∧ ∀ j, j < l.length → e (l.getD j d) (m.getD j d) = true
noncomputable instance {α : Type} (e : α → α → Bool) (d : α) (l m : List α) : Decidable (yc e d l m) := Classical.propDecidable _
def uR (a b : Int) : Bool := decide (a = b)
noncomputable def Fg (x y : Cell) : Bool := decide (x.kind = y.kind ∧ x.op = y.op ∧ x.out = y.out ∧ x.num = y.num ∧ x.mem = y.mem ∧ yc uR 0 x.args y.args)
structure Fh (a b : ab) : Prop where
 name : a.name.toList = b.name.toList
 ai : yc uR 0 a.ai b.ai
 ins : yc uR 0 a.ins b.ins
 bh : yc oW.Ir default a.bh b.bh
 streams : yc gF.Ir default a.streams b.streams
 bQ : yc uR 0 a.bQ b.bQ
 data : yc uR 0 a.data b.data
 freeze : a.freeze = b.freeze
 done : a.done = b.done
 ee : yc uR 0 a.ee b.ee
 cells : yc Fg default a.cells b.cells
noncomputable instance (a b : ab) : Decidable (Fh a b) := Classical.propDecidable _
structure MP (n : ab) : Prop where
 ai : n.ai.length ≤ 35184372088832
 cells : n.cells.length ≤ 35184372088832
 args : ∀ c ∈ n.cells, c.args.length ≤ 35184372088832
 ins : n.ins.length ≤ 35184372088832
 bh : n.bh.length ≤ 35184372088832
 streams : n.streams.length ≤ 35184372088832
 bQ : n.bQ.length ≤ 35184372088832
 data : n.data.length ≤ 35184372088832
 ee : n.ee.length ≤ 35184372088832
open Go Go.AW Go.Proofs
theorem kQ.eq {n : ab} {a b : List Int} (hf : bn n) (ha : kQ n a) (hb : kQ n b) : a = b := by
 refine List.ext_getElem (by rw [ha.len, hb.len]) fun i h1 h2 => ?_
 have hi : In (i : Int) n.ai.length := ⟨om, by have := ha.len; omega⟩
 have h := hf.unique (ha.BR _ hi) (hb.BR _ hi)
 rw [Int.toNat_natCast, List.getD_eq_getElem?_getD, List.getElem?_eq_getElem h1, List.getD_eq_getElem?_getD, List.getElem?_eq_getElem h2] at h
 exact h
structure Wg (p : Nat → Bool) (ws : List Int) (k : Nat) (nb : List Int) (v : Nat) : Prop where
 w : Wn p ws k nb ((ya p k).map (fun i => ws.getD i 0))
 v : v = (ya p k).length
theorem Wg.init {p : Nat → Bool} {ws : List Int} : Wg p ws 0 (List.replicate ws.length 0) 0 := ⟨Wn.init, rfl⟩
theorem Wg.no {p : Nat → Bool} {ws nb : List Int} {k v : Nat} (h : Wg p ws k nb v) (hk : k < ws.length) (hp : p k = false) : Wg p ws (k + 1) (nb.set k (-1)) v := by
 refine ⟨?_, by rw [q8 hp]; exact h.v⟩
 rw [q8 hp]; exact h.w.no hk hp
theorem Wg.le {p : Nat → Bool} {ws nb : List Int} {k v : Nat} (h : Wg p ws k nb v) : v ≤ k := by rw [h.v]; exact wT _ _
theorem Wg.num {p : Nat → Bool} {ws nb : List Int} {k v : Nat} (e : k = ws.length) (h : Wg p ws k nb v) : yW p ws.length nb := by subst e; exact h.w.Ff
section
variable {n : ab} {cj : List Int} {s : List Bool}
end
open Go Go.AW Go.Proofs
def cg (n : Nat) : Nat := if n ≤ 1 then 0 else Nat.log2 (n - 1) + 1
theorem BT {n k : Nat} (h1 : n ≤ 2 ^ k) (h2 : k = 0 ∨ 2 ^ (k - 1) < n) : cg n = k := by
 unfold cg
 by_cases e : n ≤ 1
 ·rw [if_pos e]
  rcases h2 with h2 | h2
  ·exact h2.symm
  ·have := Nat.one_le_two_pow (n := k - 1); omega
 ·rw [if_neg e]
  rcases h2 with h2 | h2
  ·subst h2; simp at h1; omega
  ·have hk : 0 < k := by
    rcases Nat.eq_zero_or_pos k with h | h
    ·subst h; simp at h1; omega
    ·exact h
   have : Nat.log2 (n - 1) = k - 1 := by
    rw [Nat.log2_eq_iff om]
    rw [show k - 1 + 1 = k by omega]
    omega
   omega
theorem jw {n k : Nat} (h : n ≤ 2 ^ k) : cg n ≤ k := by
 unfold cg
 by_cases e : n ≤ 1
 ·rw [if_pos e]; omega
 ·rw [if_neg e]
  have := (Nat.log2_lt (n := n - 1) (k := k) om).2 om
  omega
def aO (op : Int) (w : Nat) : Int :=
 if op = 9 ∨ op = 10 ∨ op = 11 then 20 else if op = 2 then 40 + 40 * (cg w : Int) else if op = 3 then 50 + 40 * (cg w : Int) else if op = 15 ∨ op = 16 then 30 + 20 * (cg w : Int)
 else if op = 17 ∨ op = 18 then 40 + 40 * (cg (w + 1) : Int) else if op = 19 ∨ op = 20 then 50 + 40 * (cg (w + 1) : Int) else if op = 21 then 50 else if op = 12 ∨ op = 13 then 30 + 40 * (cg w : Int)
 else if op = 14 then 50 + 40 * (cg w : Int) else 0
theorem uS {op : Int} {w : Nat} (h : w ≤ 64) : 0 ≤ aO op w ∧ aO op w ≤ 400 := by
 have h1 : cg w ≤ 6 := jw om
 have h2 : cg (w + 1) ≤ 7 := jw om
 unfold aO
 repeat' split
 all_goals omega
def q9 (n : ab) (c : Cell) : Int :=
 if c.kind = 1 then 0 else if c.kind = 2 then aO c.op (if eo c.op then n.av c 0 else n.wd c.out).toNat else if c.kind = 3 then 20 + 20 * (cg (c.args.length / 2) : Int) else 30
theorem BU {n : ab} {c : Cell} (hw : ∀ w ∈ n.ai, dL w) (ha : c.args.length ≤ 200) : 0 ≤ q9 n c ∧ q9 n c ≤ 400 := by
 have wU : ∀ w, (n.wd w).toNat ≤ 64 := fun w => by
  unfold ab.wd
  rw [List.getD_eq_getElem?_getD]
  cases h : n.ai[w.toNat]? with
  | none => simp
  | some v =>
   have := hw v (List.mem_of_getElem? h)
   unfold dL at this
   simp only [Option.getD_some]; omega
 have hl : cg (c.args.length / 2) ≤ 7 := jw om
 unfold q9
 split
 ·omega
 split
 ·refine uS ?_
  split
  ·exact wU _
  ·exact wU _
 split
 ·omega
 ·omega
open Go Go.AW
theorem mB : ∀ n : Nat, n ≤ 2 ^ cg n := fun n => by
 unfold cg
 by_cases h : n ≤ 1
 ·rw [if_pos h]; simpa using h
 ·rw [if_neg h]
  have := @Nat.lt_log2_self (n - 1)
  omega
theorem BV {n : Nat} (h : 2 ≤ n) : 2 ^ (cg n - 1) < n ∧ 1 ≤ cg n := by
 unfold cg
 rw [if_neg om]
 have := Nat.log2_self_le (n := n - 1) om
 rw [Nat.add_sub_cancel]; omega
theorem lR {m : Nat} (h : 2 ≤ m) : cg ((m + 1) / 2) + 1 = cg m := by
 have h1 := mB m
 obtain ⟨h2, h3⟩ := BV h
 obtain ⟨k, hk⟩ : ∃ k, cg m = k + 1 := ⟨cg m - 1, om⟩
 rw [hk] at h1 h2 ⊢
 rw [Nat.add_sub_cancel] at h2
 rw [Nat.pow_succ] at h1
 have : cg ((m + 1) / 2) = k := by
  refine BT om ?_
  rcases Nat.eq_zero_or_pos k with h4 | h4
  ·exact .inl h4
  ·refine .inr ?_
   obtain ⟨j, rfl⟩ : ∃ j, k = j + 1 := ⟨k - 1, om⟩
   rw [Nat.add_sub_cancel]
   rw [Nat.pow_succ] at h2
   omega
 omega
theorem ke {a b : Nat} (h : a ≤ b) : cg a ≤ cg b := jw (Nat.le_trans h (mB b))
theorem ud {n : Nat} (h : n ≤ 1) : cg n = 0 := by unfold cg; rw [if_pos h]
def g7 (f : Nat → Bool) : Nat → Bool
 | 0 => false
 | n + 1 => f n || g7 f n
theorem jb {f : Nat → Bool} : ∀ {n}, g7 f n = true ↔ ∃ k, k < n ∧ f k = true
 | 0 => by simp [g7]
 | n + 1 => by
  simp only [g7, Bool.or_eq_true, jb (n := n)]
  constructor
  ·rintro (h | ⟨k, hk, h⟩)
   ·exact ⟨n, om, h⟩
   ·exact ⟨k, om, h⟩
  ·rintro ⟨k, hk, h⟩
   rcases Nat.lt_or_ge k n with h1 | h1
   ·exact .inr ⟨k, h1, h⟩
   ·obtain rfl : k = n := by omega
    exact .inl h
def o7 (f : Nat → Bool) (m k : Nat) : Bool := if 2 * k + 1 < m then f (2 * k) || f (2 * k + 1) else f (2 * k)
theorem pH {f : Nat → Bool} {m : Nat} : g7 (o7 f m) ((m + 1) / 2) = g7 f m := by
 apply Bool.eq_iff_iff.2
 rw [jb, jb]
 constructor
 ·rintro ⟨k, hk, h⟩
  unfold o7 at h
  by_cases h1 : 2 * k + 1 < m
  ·rw [if_pos h1, Bool.or_eq_true] at h
   rcases h with h | h
   ·exact ⟨_, om, h⟩
   ·exact ⟨_, h1, h⟩
  ·rw [if_neg h1] at h; exact ⟨_, om, h⟩
 ·rintro ⟨k, hk, h⟩
  refine ⟨k / 2, om, ?_⟩
  unfold o7
  by_cases h1 : 2 * (k / 2) + 1 < m
  ·rw [if_pos h1, Bool.or_eq_true]
   rcases (show 2 * (k / 2) = k ∨ 2 * (k / 2) + 1 = k by omega) with h2 | h2
   ·rw [h2]; exact .inl h
   ·rw [h2]; exact .inr h
  ·rw [if_neg h1, show 2 * (k / 2) = k by omega]; exact h
def o8 (G P : Nat → Bool) (m k : Nat) : Bool := if 2 * k + 1 < m then G (2 * k + 1) || (P (2 * k + 1) && G (2 * k)) else G (2 * k)
def o9 (P : Nat → Bool) (m k : Nat) : Bool := if 2 * k + 1 < m then P (2 * k + 1) && P (2 * k) else P (2 * k)
theorem mC {G P : Nat → Bool} {m : Nat} {z : Bool} : ∀ k, 2 * k ≤ m → ca (o8 G P m) (o9 P m) 0 k z = ca G P 0 (2 * k) z
 | 0, _ => rfl
 | k + 1, h => by
  rw [ca, mC k om, show 2 * (k + 1) = 2 * k + 1 + 1 by omega, ca, ca]
  simp only [Nat.zero_add, o8, o9]
  rw [if_pos om, if_pos om]
  cases G (2 * k + 1) <;> cases P (2 * k + 1) <;> cases G (2 * k) <;> cases P (2 * k) <;> cases ca G P 0 (2 * k) z <;> rfl
theorem ue {G P : Nat → Bool} {m : Nat} {z : Bool} : ca (o8 G P m) (o9 P m) 0 ((m + 1) / 2) z = ca G P 0 m z := by
 rcases (show 2 * ((m + 1) / 2) = m ∨ 2 * ((m + 1) / 2) = m + 1 by omega) with h | h
 ·rw [mC _ om, h]
 ·obtain ⟨k, hk⟩ : ∃ k, (m + 1) / 2 = k + 1 := ⟨(m + 1) / 2 - 1, om⟩
  rw [hk, ca, mC k om]
  have h1 : m = 2 * k + 1 := by omega
  subst h1
  rw [ca]
  simp only [Nat.zero_add, o8, o9]
  rw [if_neg om, if_neg om]
def AE {w : Nat} (x y : BitVec w) (i : Nat) : Bool := !x.getLsbD i && y.getLsbD i
def BW {w : Nat} (x y : BitVec w) (i : Nat) : Bool := !(x.getLsbD i ^^ y.getLsbD i)
theorem AF {w : Nat} {x y : BitVec w} : ∀ n, ca (AE x y) (BW x y) 0 n false = decide (x.toNat % 2 ^ n < y.toNat % 2 ^ n)
 | 0 => by simp [ca, Nat.mod_one]
 | n + 1 => by
  rw [ca, AF n, Nat.mod_pow_succ, Nat.mod_pow_succ]
  have h1 := Nat.mod_lt x.toNat (Nat.two_pow_pos n)
  have h2 := Nat.mod_lt y.toNat (Nat.two_pow_pos n)
  simp only [Nat.zero_add, AE, BW, BitVec.getLsbD, Nat.testBit_eq_decide_div_mod_eq]
  rcases Nat.mod_two_eq_zero_or_one (x.toNat / 2 ^ n) with h3 | h3 <;> rcases Nat.mod_two_eq_zero_or_one (y.toNat / 2 ^ n) with h4 | h4 <;> rw [h3, h4] <;> simp <;> omega
theorem wV {w : Nat} {x y : BitVec w} : ca (AE x y) (BW x y) 0 w false = x.ult y := by
 rw [AF, Nat.mod_eq_of_lt x.isLt, Nat.mod_eq_of_lt y.isLt]; rfl
def wW {w : Nat} (x y : BitVec w) (i : Nat) : Bool := if i + 1 = w then !y.getLsbD i && x.getLsbD i else AE x y i
theorem BX {w : Nat} {x y : BitVec w} (h : 0 < w) : ca (wW x y) (BW x y) 0 w false = x.slt y := by
 obtain ⟨n, rfl⟩ : ∃ n, w = n + 1 := ⟨w - 1, om⟩
 have h1 : ca (wW x y) (BW x y) 0 n false = ca (AE x y) (BW x y) 0 n false := lL (fun i hi => by unfold wW; rw [if_neg om]) (fun _ _ => rfl)
 have h2 := wV (x := x) (y := y)
 rw [ca] at h2 ⊢
 rw [h1, BitVec.slt_eq_ult, ← h2, BitVec.msb_eq_getLsbD_last, BitVec.msb_eq_getLsbD_last]
 simp only [Nat.zero_add, wW, if_true, AE, BW, Nat.add_sub_cancel]
 cases x.getLsbD n <;> cases y.getLsbD n <;> simp
theorem BY {w : Nat} {x y : BitVec w} : g7 (fun i => x.getLsbD i ^^ y.getLsbD i) w = decide (x ≠ y) := by
 apply Bool.eq_iff_iff.2
 rw [jb, decide_eq_true_iff]
 constructor
 ·rintro ⟨k, _, h⟩ rfl
  simp at h
 ·intro h
  apply Classical.byContradiction
  intro hn
  refine h (BitVec.eq_of_getLsbD_eq fun i hi => ?_)
  apply Classical.byContradiction
  intro h1
  refine hn ⟨i, hi, ?_⟩
  cases h2 : x.getLsbD i <;> cases h3 : y.getLsbD i <;> simp_all
open Go Go.AW
def nD (left : Bool) (w : Nat) (a : Nat → Bool) (fill : Bool) (s i : Nat) : Bool :=
 if left then (if s ≤ i then a (i - s) else fill) else (if i + s < w then a (i + s) else fill)
def Fi (left : Bool) (k i : Nat) : Int := if left then (i : Int) - 2 ^ k else (i : Int) + 2 ^ k
theorem wX {left : Bool} {w : Nat} {a : Nat → Bool} {fill : Bool} {i : Nat} (h : i < w) : nD left w a fill 0 i = a i := by
 unfold nD
 cases left
 ·simp only [Bool.false_eq_true, if_false]; rw [if_pos om]; rfl
 ·simp only [if_true]; rw [if_pos om]; rfl
theorem wY {left : Bool} {w : Nat} {a : Nat → Bool} {fill : Bool} {s i p : Nat} (h : i < w) :
  nD left w a fill (s + p) i = (if left then (if p ≤ i then nD left w a fill s (i - p) else fill) else (if i + p < w then nD left w a fill s (i + p) else fill)) := by
 unfold nD
 cases left
 ·simp only [Bool.false_eq_true, if_false]
  by_cases h1 : i + p < w
  ·rw [if_pos h1]
   by_cases h2 : i + p + s < w
   ·rw [if_pos om, if_pos h2, show i + (s + p) = i + p + s by omega]
   ·rw [if_neg om, if_neg h2]
  ·rw [if_neg h1, if_neg om]
 ·simp only [if_true]
  by_cases h1 : p ≤ i
  ·rw [if_pos h1]
   by_cases h2 : s ≤ i - p
   ·rw [if_pos om, if_pos h2, show i - (s + p) = i - p - s by omega]
   ·rw [if_neg om, if_neg h2]
  ·rw [if_neg h1, if_neg om]
theorem wZ {w : Nat} {b : BitVec w} {k : Nat} : b.toNat % 2 ^ (k + 1) = b.toNat % 2 ^ k + (if b.getLsbD k then 2 ^ k else 0) := by
 rw [Nat.mod_pow_succ, BitVec.getLsbD, Nat.testBit_eq_decide_div_mod_eq]
 rcases Nat.mod_two_eq_zero_or_one (b.toNat / 2 ^ k) with h | h <;> rw [h] <;> simp
theorem sY {w st : Nat} {b : BitVec w} (h : g7 (fun j => b.getLsbD (st + j)) (w - st) = false) : b.toNat % 2 ^ st = b.toNat := by
 refine Nat.mod_eq_of_lt (Nat.lt_pow_two_of_testBit _ fun i hi => ?_)
 rcases Nat.lt_or_ge i w with h1 | h1
 ·apply Classical.byContradiction
  intro hn
  have h2 : g7 (fun j => b.getLsbD (st + j)) (w - st) = true := jb.2 ⟨i - st, om, by
   show b.getLsbD (st + (i - st)) = true
   rw [show st + (i - st) = i by omega]
   simpa [BitVec.getLsbD] using hn⟩
  rw [h] at h2; cases h2
 ·exact Nat.testBit_lt_two_pow (Nat.lt_of_lt_of_le b.isLt (Nat.pow_le_pow_right om h1))
theorem qA {w st : Nat} {b : BitVec w} (h : g7 (fun j => b.getLsbD (st + j)) (w - st) = true) (hw : w ≤ 2 ^ st) : w ≤ b.toNat := by
 obtain ⟨k, _, hk⟩ := jb.1 h
 have h1 : 2 ^ (st + k) ≤ b.toNat := Nat.ge_two_pow_of_testBit hk
 have h2 : 2 ^ st ≤ 2 ^ (st + k) := Nat.pow_le_pow_right om om
 omega
theorem yX {w st i : Nat} {a b : BitVec w} (hw : w ≤ 2 ^ st) (h : i < w) :
  (a <<< b.toNat).getLsbD i = ((!g7 (fun j => b.getLsbD (st + j)) (w - st)) && nD true w a.getLsbD false (b.toNat % 2 ^ st) i) := by
 cases hf : g7 (fun j => b.getLsbD (st + j)) (w - st) with
 | true =>
  have := qA hf hw
  rw [BitVec.getLsbD_shiftLeft]
  simp; omega
 | false =>
  rw [sY hf, BitVec.getLsbD_shiftLeft]
  unfold nD
  rw [if_pos rfl]
  by_cases h1 : b.toNat ≤ i
  ·rw [if_pos h1]; simp [h]; omega
  ·rw [if_neg h1]; simp; omega
theorem yY {w st i : Nat} {a b : BitVec w} (hw : w ≤ 2 ^ st) (_ : i < w) :
  (a >>> b.toNat).getLsbD i = ((!g7 (fun j => b.getLsbD (st + j)) (w - st)) && nD false w a.getLsbD false (b.toNat % 2 ^ st) i) := by
 rw [BitVec.getLsbD_ushiftRight]
 cases hf : g7 (fun j => b.getLsbD (st + j)) (w - st) with
 | true =>
  have := qA hf hw
  rw [BitVec.getLsbD_of_ge _ _ om]; rfl
 | false =>
  rw [sY hf]
  unfold nD
  simp only [Bool.false_eq_true, if_false]
  by_cases h1 : i + b.toNat < w
  ·rw [if_pos h1, Nat.add_comm]; rfl
  ·rw [if_neg h1, BitVec.getLsbD_of_ge _ _ om]; rfl
theorem yZ {w st i : Nat} {a b : BitVec w} (hw : w ≤ 2 ^ st) (h : i < w) :
  (a.sshiftRight b.toNat).getLsbD i = (if g7 (fun j => b.getLsbD (st + j)) (w - st) then a.msb else nD false w a.getLsbD a.msb (b.toNat % 2 ^ st) i) := by
 rw [BitVec.getLsbD_sshiftRight]
 cases hf : g7 (fun j => b.getLsbD (st + j)) (w - st) with
 | true =>
  have := qA hf hw
  rw [if_pos rfl, if_neg om]
  simp; omega
 | false =>
  rw [sY hf]
  unfold nD
  simp only [Bool.false_eq_true, if_false]
  by_cases h1 : i + b.toNat < w
  ·rw [if_pos h1, if_pos om, Nat.add_comm]; simp; omega
  ·rw [if_neg h1, if_neg om]; simp; omega
open Go Go.AW
section
variable {c : Int} {g0 gl : List Gate} {a out : List Int} {f : Nat → List Bool → Bool} {t : Int} {i n : Nat}
structure rH (c : Int) (g0 gl : List Gate) (out : List Int) (h : Nat → List Bool → Bool) (u : Int) (i : Nat) : Prop where
 ext : Ext g0 gl
 len : gl.length = g0.length + i
 ol : out.length = i
 ws : Ws c gl out h u
theorem rH.init {h : Nat → List Bool → Bool} {u : Int} (hg : Good g0) : rH c g0 g0 [] h u 0 := ⟨.refl hg, rfl, rfl, .nil⟩
theorem rH.put {h : Nat → List Bool → Bool} {u : Int} {q : Gate} (k : rH c g0 gl out h u i) (he : Ext gl (gl ++ [q])) (hw : Wr c (gl ++ [q]) (gl.length : Int) (h i) u) : rH c g0 (gl ++ [q]) (out ++ [(gl.length : Int)]) h u (i + 1) :=
 ⟨k.ext.trans he, by rw [List.length_append, k.len]; rfl, by rw [List.length_append, k.ol]; rfl, (k.ws.ext he).snoc (by rw [k.ol]; exact hw)⟩
theorem rH.not (k : rH c g0 gl out (fun k ins => !f k ins) (t + 10) i) (ha : Ws c g0 a f t) (hi : i < a.length) :
  rH c g0 (gl ++ [⟨4, a.getD i 0, 0⟩]) (out ++ [(gl.length : Int)]) (fun k ins => !f k ins) (t + 10) (i + 1) := by
 have h1 := (ha.bit i hi).ext k.ext
 exact k.put (Ext.not k.ext.dz h1) (h1.not (Int.le_refl _))
theorem rH.two {k : Int} {b : List Int} {h : Nat → List Bool → Bool} {e : Nat → List Bool → Bool} {u : Int} (m : rH c g0 gl out e u i) (hk : 5 ≤ k ∧ k ≤ 7) (ha : Wr c g0 (a.getD i 0) (f i) t) (hb : Wr c g0 (b.getD i 0) (h i) t) (hu : t + 20 ≤ u)
  (he : ∀ ins, e i ins = if k = 5 then (f i ins && h i ins) else if k = 6 then (f i ins || h i ins) else (f i ins ^^ h i ins)) :
  rH c g0 (gl ++ [⟨k, a.getD i 0, b.getD i 0⟩]) (out ++ [(gl.length : Int)]) e u (i + 1) := by
 have h1 := ha.ext m.ext
 have h2 := hb.ext m.ext
 refine m.put (Ext.two m.ext.dz hk h1 h2) ?_
 rcases (show k = 5 ∨ k = 6 ∨ k = 7 by omega) with rfl | rfl | rfl
 ·exact (h1.and h2 hu hu).as fun ins => by rw [he]; rfl
 ·exact (h1.or h2 hu hu).as fun ins => by rw [he]; rfl
 ·exact (h1.xor h2 hu hu).as fun ins => by rw [he]; rfl
structure mD (c : Int) (g0 : List Gate) (f : Nat → List Bool → Bool) (n : Nat) (t : Int) (gl : List Gate) (l : List Int) : Prop where
 ext : Ext g0 gl
 len : gl.length + l.length ≤ g0.length + n
 lo : 1 ≤ l.length
 ex : ∃ (f' : Nat → List Bool → Bool) (t' : Int), Ws c gl l f' t' ∧ (∀ ins, g7 (fun k => f' k ins) l.length = g7 (fun k => f k ins) n) ∧ t' + 20 * (cg l.length : Int) ≤ t + 20 * (cg n : Int)
theorem mD.init (hg : Good g0) (ha : Ws c g0 a f t) (h : 1 ≤ a.length) : mD c g0 f a.length t g0 a := ⟨.refl hg, Nat.le_refl _, h, f, t, ha, fun _ => rfl, Int.le_refl _⟩
theorem mD.done {l : List Int} (h : mD c g0 f n t gl l) (h1 : l.length ≤ 1) : Wr c gl (l.getD 0 0) (fun ins => g7 (fun k => f k ins) n) (t + 20 * (cg n : Int)) := by
 obtain ⟨f', t', hw, he, ht⟩ := h.ex
 have hl : l.length = 1 := by have := h.lo; omega
 rw [ud h1] at ht
 refine ((hw.bit 0 om).late om).as fun ins => ?_
 rw [← he ins, hl]; simp [g7]
structure oA (c : Int) (g1 : List Gate) (l : List Int) (gl : List Gate) (next : List Int) (i : Nat) : Prop where
 ext : Ext g1 gl
 even : i % 2 = 0
 hi : i ≤ l.length
 nl : next.length = i / 2
 len : gl.length = g1.length + i / 2
 ws : ∀ f t, Ws c g1 l f t → Ws c gl next (fun k ins => o7 (fun k => f k ins) l.length k) (t + 20)
theorem oA.init {g1 : List Gate} {l : List Int} (hg : Good g1) : oA c g1 l g1 [] 0 := ⟨.refl hg, rfl, om, rfl, rfl, fun _ _ _ => .nil⟩
theorem oA.step {g1 : List Gate} {l next : List Int} (h : oA c g1 l gl next i) (hl : i + 1 < l.length) (hw : ∃ f t, Ws c g1 l f t) :
  oA c g1 l (gl ++ [⟨6, l.getD i 0, l.getD (i + 1) 0⟩]) (next ++ [(gl.length : Int)]) (i + 2) := by
 have he := h.even
 obtain ⟨f0, t0, h0⟩ := hw
 have hx : Ext gl (gl ++ [⟨6, l.getD i 0, l.getD (i + 1) 0⟩]) := Ext.two h.ext.dz ag ((h0.bit i om).ext h.ext) ((h0.bit (i + 1) hl).ext h.ext)
 refine ⟨h.ext.trans hx, om, om, by rw [List.length_append, h.nl, List.length_singleton]; omega, by rw [List.length_append, h.len, List.length_singleton]; omega, fun f t hf => ?_⟩
 refine ((h.ws f t hf).ext hx).snoc ?_
 refine (((hf.bit i om).ext h.ext).or ((hf.bit (i + 1) hl).ext h.ext) (Int.le_refl _) (Int.le_refl _)).as fun ins => ?_
 rw [h.nl]; unfold o7
 rw [show 2 * (i / 2) = i by omega, if_pos hl]
theorem oA.MQ {g1 : List Gate} {l next : List Int} (h : oA c g1 l gl next i) (hl : ¬ i + 1 < l.length) (ho : l.length % 2 = 1) (f : Nat → List Bool → Bool) (t : Int) (hf : Ws c g1 l f t) :
  Ws c gl (next ++ [l.getD (l.length - 1) 0]) (fun k ins => o7 (fun k => f k ins) l.length k) (t + 20) := by
 have he := h.even; have hh := h.hi
 refine (h.ws f t hf).snoc ?_
 refine (((hf.bit (l.length - 1) om).ext h.ext).late om).as fun ins => ?_
 rw [h.nl]; unfold o7
 rw [show 2 * (i / 2) = l.length - 1 by omega, if_neg om]
theorem mD.next {l next : List Int} {g1 : List Gate} (h : mD c g0 f n t g1 l) (hj : oA c g1 l gl next i) (hl : ¬ i + 1 < l.length) (h2 : 1 < l.length) (ho : ¬ l.length % 2 = 1) : mD c g0 f n t gl next := by
 have he := hj.even; have hh := hj.hi; have hn := hj.nl; have hg := hj.len; have Is := h.len
 obtain ⟨f', t', hw, hv, ht⟩ := h.ex
 have sZ : next.length = (l.length + 1) / 2 := by omega
 have sB := lR (m := l.length) om
 refine ⟨h.ext.trans hj.ext, om, om, _, _, hj.ws f' t' hw, fun ins => ?_, ?_⟩
 ·rw [sZ, pH]; exact hv ins
 ·rw [sZ]; omega
theorem mD.Fj {l next : List Int} {g1 : List Gate} (h : mD c g0 f n t g1 l) (hj : oA c g1 l gl next i) (hl : ¬ i + 1 < l.length) (h2 : 1 < l.length) (ho : l.length % 2 = 1) : mD c g0 f n t gl (next ++ [l.getD (l.length - 1) 0]) := by
 have he := hj.even; have hh := hj.hi; have hn := hj.nl; have hg := hj.len; have Is := h.len
 obtain ⟨f', t', hw, hv, ht⟩ := h.ex
 have sZ : (next ++ [l.getD (l.length - 1) 0]).length = (l.length + 1) / 2 := by rw [List.length_append, hn]; simp; omega
 have sB := lR (m := l.length) om
 refine ⟨h.ext.trans hj.ext, by rw [sZ]; omega, by rw [sZ]; omega, _, _, hj.MQ hl ho f' t' hw, fun ins => ?_, ?_⟩
 ·rw [sZ, pH]; exact hv ins
 ·rw [sZ]; omega
end
def ta (l : List Gate) (s v y n : Int) : List Gate := l ++ [⟨5, s, y⟩, ⟨5, v, n⟩, ⟨6, (l.length : Int), (l.length : Int) + 1⟩]
theorem BZ {l : List Gate} {s v y n : Int} : ta l s v y n = ((l ++ [⟨5, s, y⟩]) ++ [⟨5, v, n⟩]) ++ [⟨6, (l.length : Int), (l.length : Int) + 1⟩] := by simp [ta]
theorem zx {l : List Gate} {s v y n : Int} : ((l ++ [⟨5, s, y⟩]) ++ [⟨5, v, n⟩]) ++ [⟨6, (l.length : Int), (((l ++ [(⟨5, s, y⟩ : Gate)]).length : Nat) : Int)⟩] = ta l s v y n := by simp [ta]
theorem uf {l : List Gate} {s v y n : Int} : (ta l s v y n).length = l.length + 3 := by simp [ta]
section
variable {c : Int} {l : List Gate} {s v y n : Int} {fs fy fn : List Bool → Bool} {ts tv ty tn u : Int}
theorem xa (hg : Good l) (hs : Wr c l s fs ts) (hv : Wr c l v (fun ins => !fs ins) tv) (hy : Wr c l y fy ty) (hn : Wr c l n fn tn) (h1 : ts + 40 ≤ u) (h2 : tv + 40 ≤ u) (h3 : ty + 40 ≤ u) (h4 : tn + 40 ≤ u) :
  Ext l (ta l s v y n) ∧ Wr c (ta l s v y n) ((l.length : Int) + 2) (fun ins => if fs ins then fy ins else fn ins) u := by
 have e1 : Ext l (l ++ [⟨5, s, y⟩]) := Ext.two hg ag hs hy
 have w1 : Wr c (l ++ [⟨5, s, y⟩]) (l.length : Int) (fun ins => fs ins && fy ins) (u - 20) := hs.and hy om om
 have e2 : Ext (l ++ [⟨5, s, y⟩]) ((l ++ [⟨5, s, y⟩]) ++ [⟨5, v, n⟩]) := Ext.two e1.dz ag (hv.ext e1) (hn.ext e1)
 have w2 : Wr c ((l ++ [⟨5, s, y⟩]) ++ [⟨5, v, n⟩]) (((l ++ [(⟨5, s, y⟩ : Gate)]).length : Nat) : Int) (fun ins => !fs ins && fn ins) (u - 20) := (hv.ext e1).and (hn.ext e1) om om
 have KP := w1.ext e2
 rw [List.length_append, List.length_singleton, Int.natCast_add, Int.natCast_one] at w2
 have e3 : Ext ((l ++ [⟨5, s, y⟩]) ++ [⟨5, v, n⟩]) (((l ++ [⟨5, s, y⟩]) ++ [⟨5, v, n⟩]) ++ [⟨6, (l.length : Int), (l.length : Int) + 1⟩]) := Ext.two e2.dz ag KP w2
 have w3 := KP.or (u := u) w2 om om
 rw [← BZ] at e3 w3
 refine ⟨(e1.trans e2).trans e3, ?_⟩
 have hl : ((((l ++ [(⟨5, s, y⟩ : Gate)]) ++ [(⟨5, v, n⟩ : Gate)]).length : Nat) : Int) = (l.length : Int) + 2 := by simp [Int.add_assoc]
 rw [hl] at w3
 exact w3.as fun ins => by cases fs ins <;> simp
end
open Go Go.AW
structure aG where
 g : Int
 p : Int
instance : Inhabited aG := ⟨⟨0, 0⟩⟩
def aG.row (x : aG) : List X := [.v (.int .i64 x.g), .v (.int .i64 x.p)]
theorem aG.cD (x : aG) : X.aW x.row = true := rfl
structure Wp (c : Int) (l : List Gate) (ps : List aG) (G P : Nat → List Bool → Bool) (t : Int) : Prop where
 bit : ∀ k, k < ps.length → Wr c l (ps.getD k default).g (G k) t ∧ Wr c l (ps.getD k default).p (P k) t
section
variable {c : Int} {g0 g1 gl : List Gate} {ps out next : List aG} {G P : Nat → List Bool → Bool} {t : Int} {i j n d : Nat}
theorem Wp.nil : Wp c gl [] G P t := ⟨fun k hk => by simp at hk⟩
theorem Wp.ext {l' : List Gate} (h : Wp c gl ps G P t) (he : Ext gl l') : Wp c l' ps G P t := ⟨fun k hk => ⟨(h.bit k hk).1.ext he, (h.bit k hk).2.ext he⟩⟩
theorem Wp.snoc {x y : Int} (h : Wp c gl ps G P t) (hx : Wr c gl x (G ps.length) t) (hy : Wr c gl y (P ps.length) t) : Wp c gl (ps ++ [⟨x, y⟩]) G P t := ⟨fun k hk => by
 rcases Nat.lt_or_ge k ps.length with h1 | h1
 ·rw [List.getD_eq_getElem?_getD, List.getElem?_append_left h1, ← List.getD_eq_getElem?_getD]; exact h.bit k h1
 ·have : k = ps.length := by simp at hk; omega
  subst this; rw [gM rfl]; exact ⟨hx, hy⟩⟩
theorem Wp.take {k : Nat} (h : Wp c gl ps G P t) : Wp c gl (ps.take k) G P t := ⟨fun i hi => by
 rw [List.length_take] at hi
 rw [List.getD_eq_getElem?_getD, List.getElem?_take_of_lt om, ← List.getD_eq_getElem?_getD]; exact h.bit i om⟩
structure lS (c : Int) (g0 : List Gate) (G P : Nat → List Bool → Bool) (t : Int) (n : Nat) (gl : List Gate) (out : List aG) (d j : Nat) : Prop where
 ext : Ext g0 gl
 len : gl.length ≤ g0.length + 3 * n * j
 ol : out.length = n
 dj : d = 2 ^ j
 jl : j ≤ cg n
 gn : ∀ i, i < n → Wr c gl (out.getD i default).g (fun ins => gen (fun k => G k ins) (fun k => P k ins) d i) (t + 40 * (j : Int))
 pr : ∀ i, i < n → d ≤ i → Wr c gl (out.getD i default).p (fun ins => pp (fun k => P k ins) (i + 1 - d) d) (t + 40 * (j : Int))
theorem lS.init (hg : Good g0) (h : Wp c g0 ps G P t) : lS c g0 G P t ps.length g0 ps 1 0 :=
 ⟨.refl hg, om, rfl, rfl, om, fun i hi => ((h.bit i hi).1.late om).as fun ins => (yL (G := fun k => G k ins) (P := fun k => P k ins)).symm, fun i hi _ => ((h.bit i hi).2.late om).as fun ins => by simp [pp]⟩
theorem lS.done (h : lS c g0 G P t n gl out d j) (hd : ¬ d < n) {i : Nat} (hi : i < n) : Wr c gl (out.getD i default).g (fun ins => ca (fun k => G k ins) (fun k => P k ins) 0 (i + 1) false) (t + 40 * (cg n : Int)) := by
 have := h.jl
 exact ((h.gn i hi).late om).as fun ins => q4 om
theorem lS.Ca (h : lS c g0 G P t n gl out d j) : 1 ≤ d := by rw [h.dj]; exact Nat.one_le_two_pow
structure lT (c : Int) (g1 : List Gate) (G P : Nat → List Bool → Bool) (t : Int) (n : Nat) (out : List aG) (d j : Nat) (gl : List Gate) (next : List aG) (i : Nat) : Prop where
 ext : Ext g1 gl
 lo : d ≤ i
 hi : i ≤ n ∨ i = d
 len : gl.length ≤ g1.length + 3 * (i - d)
 nl : next.length = n
 gn : ∀ k, k < n → k < i → Wr c gl (next.getD k default).g (fun ins => gen (fun k => G k ins) (fun k => P k ins) (2 * d) k) (t + 40 * ((j : Int) + 1))
 pr : ∀ k, k < n → k < i → 2 * d ≤ k → Wr c gl (next.getD k default).p (fun ins => pp (fun k => P k ins) (k + 1 - 2 * d) (2 * d)) (t + 40 * ((j : Int) + 1))
 rest : ∀ k, k < n → i ≤ k → next.getD k default = out.getD k default
theorem lT.init (h : lS c g0 G P t n g1 out d j) : lT c g1 G P t n out d j g1 out d :=
 ⟨.refl h.ext.dz, Nat.le_refl _, .inr rfl, om, h.ol, fun k hk hd => ((h.gn k hk).late om).as fun ins => (wC hd).symm, fun k _ h1 h2 => by omega, fun _ _ _ => rfl⟩
theorem getD_set_ne {α : Type} {l : List α} {i k : Nat} {x e : α} (h : i ≠ k) : (l.set i x).getD k e = l.getD k e := by
 rw [List.getD_eq_getElem?_getD, List.getElem?_set_ne h, ← List.getD_eq_getElem?_getD]
theorem gg {α : Type} {l : List α} {i : Nat} {x e : α} (h : i < l.length) : (l.set i x).getD i e = x := by
 rw [List.getD_eq_getElem?_getD, List.getElem?_set_self h]; rfl
theorem lT.It (hI : lS c g0 G P t n g1 out d j) (h : lT c g1 G P t n out d j gl next i) (hi : i < n) (hn : ¬ d ≤ i - d) {q : Int} :
  lT c g1 G P t n out d j ((gl ++ [⟨5, (out.getD i default).p, (out.getD (i - d) default).g⟩]) ++ [⟨6, (out.getD i default).g, (gl.length : Int)⟩]) (next.set i ⟨((gl ++ [(⟨5, (out.getD i default).p, (out.getD (i - d) default).g⟩ : Gate)]).length : Int), q⟩) (i + 1) := by
 have u4 := h.lo; have kX := h.len; have vo := h.nl; have hd := hI.Ca
 have wp := (hI.pr i hi u4).ext h.ext
 have wg := (hI.gn i hi).ext h.ext
 have wd := (hI.gn (i - d) om).ext h.ext
 have e1 : Ext gl (gl ++ [⟨5, (out.getD i default).p, (out.getD (i - d) default).g⟩]) := Ext.two h.ext.dz ag wp wd
 have w1 := wp.and (u := t + 40 * (j : Int) + 20) wd om om
 have e2 := Ext.two (k := 6) e1.dz ag (wg.ext e1) w1
 have w2 := (wg.ext e1).or (u := t + 40 * ((j : Int) + 1)) w1 om om
 have ex := e1.trans e2
 refine ⟨h.ext.trans ex, om, om, by simp only [List.length_append, List.length_singleton]; omega, by rw [List.length_set]; exact vo, fun k hk oV => ?_, fun k hk oV h2 => ?_, fun k hk oV => ?_⟩
 ·rcases Nat.lt_or_ge k i with h1 | h1
  ·rw [getD_set_ne om]; exact (h.gn k hk h1).ext ex
  ·obtain rfl : k = i := by omega
   rw [gg om]
   exact w2.as fun ins => (tX u4).symm
 ·rcases Nat.lt_or_ge k i with h1 | h1
  ·rw [getD_set_ne om]; exact (h.pr k hk h1 h2).ext ex
  ·omega
 ·rw [getD_set_ne om]; exact h.rest k hk om
theorem lT.MR (hI : lS c g0 G P t n g1 out d j) (h : lT c g1 G P t n out d j gl next i) (hi : i < n) (hn : d ≤ i - d) {g2 : List Gate}
  (KQ : g2 = (gl ++ [⟨5, (out.getD i default).p, (out.getD (i - d) default).g⟩]) ++ [⟨6, (out.getD i default).g, (gl.length : Int)⟩]) :
  lT c g1 G P t n out d j (g2 ++ [⟨5, (out.getD i default).p, (out.getD (i - d) default).p⟩]) (next.set i ⟨((gl ++ [(⟨5, (out.getD i default).p, (out.getD (i - d) default).g⟩ : Gate)]).length : Int), (g2.length : Int)⟩) (i + 1) := by
 have u4 := h.lo; have kX := h.len; have vo := h.nl; have hd := hI.Ca
 have wp := (hI.pr i hi u4).ext h.ext
 have wg := (hI.gn i hi).ext h.ext
 have wd := (hI.gn (i - d) om).ext h.ext
 have wq := (hI.pr (i - d) om hn).ext h.ext
 have e1 : Ext gl (gl ++ [⟨5, (out.getD i default).p, (out.getD (i - d) default).g⟩]) := Ext.two h.ext.dz ag wp wd
 have w1 := wp.and (u := t + 40 * (j : Int) + 20) wd om om
 have e2 := Ext.two (k := 6) e1.dz ag (wg.ext e1) w1
 have w2 := (wg.ext e1).or (u := t + 40 * ((j : Int) + 1)) w1 om om
 have ex := e1.trans e2
 rw [← KQ] at e2 w2 ex
 have e3 := Ext.two (k := 5) ex.dz ag (wp.ext ex) (wq.ext ex)
 have w3 := (wp.ext ex).and (u := t + 40 * ((j : Int) + 1)) (wq.ext ex) om om
 have ey := ex.trans e3
 refine ⟨h.ext.trans ey, om, om, by rw [KQ]; simp only [List.length_append, List.length_singleton]; omega, by rw [List.length_set]; exact vo, fun k hk oV => ?_, fun k hk oV h2 => ?_, fun k hk oV => ?_⟩
 ·rcases Nat.lt_or_ge k i with h1 | h1
  ·rw [getD_set_ne om]; exact (h.gn k hk h1).ext ey
  ·obtain rfl : k = i := by omega
   rw [gg om]
   exact (w2.ext e3).as fun ins => (tX u4).symm
 ·rcases Nat.lt_or_ge k i with h1 | h1
  ·rw [getD_set_ne om]; exact (h.pr k hk h1 h2).ext ey
  ·obtain rfl : k = i := by omega
   rw [gg om]
   exact w3.as fun ins => (BH om).symm
 ·rw [getD_set_ne om]; exact h.rest k hk om
theorem lS.pass (hI : lS c g0 G P t n g1 out d j) (hd : d < n) (h : lT c g1 G P t n out d j gl next i) (hi : ¬ i < n) : lS c g0 G P t n gl next (d * 2) (j + 1) := by
 have u4 := h.lo; have kX := h.len; have hg := hI.len; have hh := h.hi
 have hj : j + 1 ≤ cg n := by
  have h1 := mB n
  have h2 := hI.dj
  apply Classical.byContradiction
  intro h3
  have h4 : 2 ^ cg n ≤ 2 ^ j := Nat.pow_le_pow_right om om
  omega
 refine ⟨hI.ext.trans h.ext, ?_, h.nl, by rw [hI.dj, Nat.pow_succ], hj, fun k hk => ?_, fun k hk h2 => ?_⟩
 ·rw [Nat.mul_add]; omega
 ·have := h.gn k hk om
  rw [Nat.mul_comm, Int.natCast_add, Int.natCast_one]; exact this
 ·have := h.pr k hk om om
  rw [Nat.mul_comm, Int.natCast_add, Int.natCast_one]; exact this
end
open Go Go.AW
section
variable {c : Int} {g0 g1 gl : List Gate} {ps out next : List aG} {G P : Nat → List Bool → Bool} {a b r : List Int} {A B : Nat → List Bool → Bool} {t u : Int} {i j n d : Nat}
def tc (F0 : List Bool → Bool) (G P : Nat → List Bool → Bool) (k : Nat) (ins : List Bool) : Bool := if k = 0 then F0 ins else (P k ins ^^ ca (fun k => G k ins) (fun k => P k ins) 0 k false)
structure td (c : Int) (g0 gl : List Gate) (F0 : List Bool → Bool) (G P : Nat → List Bool → Bool) (u : Int) (r : List Int) (i : Nat) : Prop where
 ext : Ext g0 gl
 lo : 1 ≤ i
 len : gl.length + 1 = g0.length + i
 ol : r.length = i
 ws : Ws c gl r (tc F0 G P) u
theorem td.init {x : Int} {F0 : List Bool → Bool} (hg : Good g0) (h : Wr c g0 x F0 u) : td c g0 g0 F0 G P u [x] 1 :=
 ⟨.refl hg, om, rfl, rfl, Ws.snoc (a := []) .nil (by exact h.as fun ins => rfl)⟩
theorem td.step {x y : Int} {F0 : List Bool → Bool} (h : td c g0 gl F0 G P u r i) (hx : Wr c g0 x (P i) t) (hy : Wr c g0 y (fun ins => ca (fun k => G k ins) (fun k => P k ins) 0 i false) t) (hu : t + 20 ≤ u) :
  td c g0 (gl ++ [⟨7, x, y⟩]) F0 G P u (r ++ [(gl.length : Int)]) (i + 1) := by
 have h1 := hx.ext h.ext
 have h2 := hy.ext h.ext
 have e := Ext.two (k := 7) h.ext.dz ag h1 h2
 have hl := h.len; have u4 := h.lo
 refine ⟨h.ext.trans e, om, by simp only [List.length_append, List.length_singleton]; omega, by rw [List.length_append, h.ol]; rfl, (h.ws.ext e).snoc ?_⟩
 refine (h1.xor h2 hu hu).as fun ins => ?_
 rw [h.ol]; unfold tc; rw [if_neg om]
structure qB (c : Int) (g0 gl : List Gate) (A B : Nat → List Bool → Bool) (u : Int) (ps : List aG) (i : Nat) : Prop where
 ext : Ext g0 gl
 len : gl.length = g0.length + 2 * i
 pl : ps.length = i
 wp : Wp c gl ps (fun k ins => A k ins && B k ins) (fun k ins => A k ins ^^ B k ins) u
theorem qB.init (hg : Good g0) : qB c g0 g0 A B u [] 0 := ⟨.refl hg, rfl, rfl, .nil⟩
theorem qB.step {x y : Int} {s : Int} (h : qB c g0 gl A B u ps i) (hx : Wr c g0 x (A i) s) (hy : Wr c g0 y (B i) t) (h1 : s + 20 ≤ u) (h2 : t + 20 ≤ u) :
  qB c g0 ((gl ++ [⟨5, x, y⟩]) ++ [⟨7, x, y⟩]) A B u (ps ++ [⟨(gl.length : Int), ((gl ++ [(⟨5, x, y⟩ : Gate)]).length : Int)⟩]) (i + 1) := by
 have w1 := hx.ext h.ext
 have w2 := hy.ext h.ext
 have e1 := Ext.two (k := 5) h.ext.dz ag w1 w2
 have e2 := Ext.two (k := 7) e1.dz ag (w1.ext e1) (w2.ext e1)
 have hl := h.len
 refine ⟨h.ext.trans (e1.trans e2), by simp only [List.length_append, List.length_singleton]; omega, by rw [List.length_append, h.pl]; rfl, (h.wp.ext (e1.trans e2)).snoc ?_ ?_⟩
 ·rw [h.pl]; exact (w1.and w2 h1 h2).ext e2
 ·rw [h.pl]; exact (w1.ext e1).xor (w2.ext e1) h1 h2
theorem Wp.Iu {y : Int} (h : Wp c gl ps (fun k ins => A k ins && B k ins) P u) (hn : 0 < ps.length) (hy : Wr c gl y (fun ins => A 0 ins || B 0 ins) u) :
  Wp c gl (ps.set 0 ⟨y, (ps.getD 0 default).p⟩) (fun k ins => if k = 0 then A 0 ins || B 0 ins else A k ins && B k ins) P u := ⟨fun k hk => by
 rw [List.length_set] at hk
 rcases Nat.eq_zero_or_pos k with h1 | h1
 ·subst h1; rw [gg hn]; exact ⟨hy.as fun ins => by simp, (h.bit 0 hn).2⟩
 ·rw [getD_set_ne om]; exact ⟨(h.bit k hk).1.as fun ins => by rw [if_neg om], (h.bit k hk).2⟩⟩
structure pg (c : Int) (g0 gl : List Gate) (A B : Nat → List Bool → Bool) (s : Bool) (n : Nat) (u : Int) (ps : List aG) (i : Nat) : Prop where
 ext : Ext g0 gl
 len : gl.length = g0.length + 4 * i
 pl : ps.length = i
 wp : Wp c gl ps (fun k ins => if s = true ∧ k + 1 = n then !B k ins && A k ins else !A k ins && B k ins) (fun k ins => !(A k ins ^^ B k ins)) u
theorem pg.init {s : Bool} (hg : Good g0) : pg c g0 g0 A B s n u [] 0 := ⟨.refl hg, rfl, rfl, .nil⟩
def Iv (gl : List Gate) (x : Int) : List Gate := gl ++ [⟨4, x, 0⟩]
def Iw (gl : List Gate) (x y : Int) : List Gate := Iv gl x ++ [⟨5, (gl.length : Int), y⟩]
def Ix (gl : List Gate) (x y : Int) : List Gate := Iw gl x y ++ [⟨7, x, y⟩]
def Fk (gl : List Gate) (x y : Int) : List Gate := Ix gl x y ++ [⟨4, ((Iw gl x y).length : Int), 0⟩]
theorem pg.step {x y : Int} {s : Bool} {f h : List Bool → Bool} (k : pg c g0 gl A B s n u ps i) (hx : Wr c g0 x f t) (hy : Wr c g0 y h t) (hu : t + 30 ≤ u)
  (hf : ∀ ins, (f ins = if s = true ∧ i + 1 = n then B i ins else A i ins) ∧ (h ins = if s = true ∧ i + 1 = n then A i ins else B i ins)) :
  pg c g0 (Fk gl x y) A B s n u (ps ++ [⟨((Iv gl x).length : Int), ((Ix gl x y).length : Int)⟩]) (i + 1) := by
 have w1 := hx.ext k.ext
 have w2 := hy.ext k.ext
 have e1 := Ext.not k.ext.dz w1
 have n1 := w1.not (u := t + 10) (Int.le_refl _)
 have e2 := Ext.two (k := 5) e1.dz ag n1 (w2.ext e1)
 have n2 := n1.and (u := u) (w2.ext e1) om om
 have xb := e1.trans e2
 have e3 := Ext.two (k := 7) e2.dz ag (w1.ext xb) (w2.ext xb)
 have n3 := (w1.ext xb).xor (u := t + 20) (w2.ext xb) om om
 have e4 := Ext.not e3.dz n3
 have n4 := n3.not (u := u) om
 have hl := k.len
 have ex := xb.trans (e3.trans e4)
 refine ⟨k.ext.trans ex, by unfold Fk Ix Iw Iv; simp only [List.length_append, List.length_singleton]; omega, by rw [List.length_append, k.pl]; rfl, (k.wp.ext ex).snoc ?_ ?_⟩
 ·rw [k.pl]
  refine (n2.ext (e3.trans e4)).as fun ins => ?_
  rw [(hf ins).1, (hf ins).2]
  by_cases q : s = true ∧ i + 1 = n
  ·rw [if_pos q, if_pos q, if_pos q]
  ·rw [if_neg q, if_neg q, if_neg q]
 ·rw [k.pl]
  refine n4.as fun ins => ?_
  rw [(hf ins).1, (hf ins).2]
  by_cases q : s = true ∧ i + 1 = n
  ·rw [if_pos q, if_pos q, Bool.xor_comm]
  ·rw [if_neg q, if_neg q]
structure ug (c : Int) (g0 : List Gate) (F : List Bool → Bool) (n : Nat) (t : Int) (gl : List Gate) (ps : List aG) : Prop where
 ext : Ext g0 gl
 len : gl.length + 3 * ps.length ≤ g0.length + 3 * n
 lo : 1 ≤ ps.length
 ex : ∃ (G P : Nat → List Bool → Bool) (t' : Int), Wp c gl ps G P t' ∧ (∀ ins, ca (fun k => G k ins) (fun k => P k ins) 0 ps.length false = F ins) ∧ t' + 40 * (cg ps.length : Int) ≤ t + 40 * (cg n : Int)
theorem ug.init (hg : Good g0) (h : Wp c g0 ps G P t) (h1 : 1 ≤ ps.length) : ug c g0 (fun ins => ca (fun k => G k ins) (fun k => P k ins) 0 ps.length false) ps.length t g0 ps :=
 ⟨.refl hg, Nat.le_refl _, h1, G, P, t, h, fun _ => rfl, Int.le_refl _⟩
theorem ug.done {F : List Bool → Bool} (h : ug c g0 F n t gl ps) (h1 : ps.length ≤ 1) : Wr c gl (ps.getD 0 default).g F (t + 40 * (cg n : Int)) := by
 obtain ⟨G, P, t', hw, he, ht⟩ := h.ex
 have hl : ps.length = 1 := by have := h.lo; omega
 rw [ud h1] at ht
 refine ((hw.bit 0 om).1.late om).as fun ins => ?_
 rw [← he ins, hl]; simp [ca]
structure zy (c : Int) (g1 : List Gate) (ps : List aG) (gl : List Gate) (next : List aG) (i : Nat) : Prop where
 ext : Ext g1 gl
 even : i % 2 = 0
 hi : i ≤ ps.length
 nl : next.length = i / 2
 len : gl.length = g1.length + 3 * (i / 2)
 wp : ∀ G P t, Wp c g1 ps G P t → Wp c gl next (fun k ins => o8 (fun k => G k ins) (fun k => P k ins) ps.length k) (fun k ins => o9 (fun k => P k ins) ps.length k) (t + 40)
theorem zy.init (hg : Good g1) : zy c g1 ps g1 [] 0 := ⟨.refl hg, rfl, om, rfl, rfl, fun _ _ _ _ => .nil⟩
def GC (gl : List Gate) (l h : aG) : List Gate := gl ++ [⟨5, h.p, l.g⟩]
def GD (gl : List Gate) (l h : aG) : List Gate := GC gl l h ++ [⟨6, h.g, (gl.length : Int)⟩]
def Fl (gl : List Gate) (l h : aG) : List Gate := GD gl l h ++ [⟨5, h.p, l.p⟩]
theorem zy.step (h : zy c g1 ps gl next i) (hl : i + 1 < ps.length) (hw : ∃ G P t, Wp c g1 ps G P t) :
  zy c g1 ps (Fl gl (ps.getD i default) (ps.getD (i + 1) default)) (next ++ [⟨((GC gl (ps.getD i default) (ps.getD (i + 1) default)).length : Int), ((GD gl (ps.getD i default) (ps.getD (i + 1) default)).length : Int)⟩]) (i + 2) := by
 have he := h.even; have kX := h.len
 have key : ∀ G P t, Wp c g1 ps G P t → Ext gl (Fl gl (ps.getD i default) (ps.getD (i + 1) default)) ∧
   Wr c (Fl gl (ps.getD i default) (ps.getD (i + 1) default)) ((GC gl (ps.getD i default) (ps.getD (i + 1) default)).length : Int) (fun ins => G (i + 1) ins || (P (i + 1) ins && G i ins)) (t + 40) ∧
   Wr c (Fl gl (ps.getD i default) (ps.getD (i + 1) default)) ((GD gl (ps.getD i default) (ps.getD (i + 1) default)).length : Int) (fun ins => P (i + 1) ins && P i ins) (t + 40) := by
  intro G P t hf
  have l1 := (hf.bit i om).1.ext h.ext
  have l2 := (hf.bit i om).2.ext h.ext
  have h1 := (hf.bit (i + 1) hl).1.ext h.ext
  have h2 := (hf.bit (i + 1) hl).2.ext h.ext
  have e1 := Ext.two (k := 5) h.ext.dz ag h2 l1
  have n1 := h2.and (u := t + 20) l1 om om
  have e2 := Ext.two (k := 6) e1.dz ag (h1.ext e1) n1
  have n2 := (h1.ext e1).or (u := t + 40) n1 om om
  have xb := e1.trans e2
  have e3 := Ext.two (k := 5) e2.dz ag (h2.ext xb) (l2.ext xb)
  have n3 := (h2.ext xb).and (u := t + 40) (l2.ext xb) om om
  exact ⟨xb.trans e3, n2.ext e3, n3⟩
 obtain ⟨G0, P0, t0, h0⟩ := hw
 have hx := (key G0 P0 t0 h0).1
 refine ⟨h.ext.trans hx, om, om, by rw [List.length_append, h.nl, List.length_singleton]; omega, by unfold Fl GD GC; simp only [List.length_append, List.length_singleton]; omega, fun G P t hf => ?_⟩
 obtain ⟨_, k1, k2⟩ := key G P t hf
 refine ((h.wp G P t hf).ext hx).snoc (k1.as fun ins => ?_) (k2.as fun ins => ?_)
 ·rw [h.nl]; unfold o8
  rw [show 2 * (i / 2) = i by omega, if_pos hl]
 ·rw [h.nl]; unfold o9
  rw [show 2 * (i / 2) = i by omega, if_pos hl]
theorem ug.pass {F : List Bool → Bool} (h : ug c g0 F n t g1 ps) (hj : zy c g1 ps gl next i) (hl : ¬ i + 1 < ps.length) (h2 : 1 < ps.length) (ho : ¬ ps.length % 2 = 1) : ug c g0 F n t gl next := by
 have he := hj.even; have hh := hj.hi; have hn := hj.nl; have hg := hj.len; have Is := h.len
 obtain ⟨G, P, t', hw, hv, ht⟩ := h.ex
 have sZ : next.length = (ps.length + 1) / 2 := by omega
 have sB := lR (m := ps.length) om
 refine ⟨h.ext.trans hj.ext, om, om, _, _, _, hj.wp G P t' hw, fun ins => ?_, ?_⟩
 ·rw [sZ, ue]; exact hv ins
 ·rw [sZ]; omega
theorem ug.Fm {F : List Bool → Bool} (h : ug c g0 F n t g1 ps) (hj : zy c g1 ps gl next i) (hl : ¬ i + 1 < ps.length) (h2 : 1 < ps.length) (ho : ps.length % 2 = 1) : ug c g0 F n t gl (next ++ [ps.getD (ps.length - 1) default]) := by
 have he := hj.even; have hh := hj.hi; have hn := hj.nl; have hg := hj.len; have Is := h.len
 obtain ⟨G, P, t', hw, hv, ht⟩ := h.ex
 have sZ : (next ++ [ps.getD (ps.length - 1) default]).length = (ps.length + 1) / 2 := by rw [List.length_append, hn]; simp; omega
 have sB := lR (m := ps.length) om
 have hb := hw.bit (ps.length - 1) om
 refine ⟨h.ext.trans hj.ext, by rw [sZ]; omega, by rw [sZ]; omega, _, _, _, (hj.wp G P t' hw).snoc (((hb.1.ext hj.ext).late om).as fun ins => ?_) (((hb.2.ext hj.ext).late om).as fun ins => ?_), fun ins => ?_, ?_⟩
 ·rw [hn]; unfold o8
  rw [show 2 * (i / 2) = ps.length - 1 by omega, if_neg om]
 ·rw [hn]; unfold o9
  rw [show 2 * (i / 2) = ps.length - 1 by omega, if_neg om]
 ·rw [sZ, ue]; exact hv ins
 ·rw [sZ]; omega
end
open Go Go.AW
section
variable {c : Int} {g0 g1 gl : List Gate} {a b r x next : List Int} {A B : Nat → List Bool → Bool} {t u : Int} {i k w : Nat}
structure yd (c : Int) (g0 gl : List Gate) (out : List Int) (h : Nat → List Bool → Bool) (u : Int) (i : Nat) : Prop where
 ext : Ext g0 gl
 len : gl.length = g0.length + 3 * i
 ol : out.length = i
 ws : Ws c gl out h u
theorem yd.init {h : Nat → List Bool → Bool} {u : Int} (hg : Good g0) : yd c g0 g0 [] h u 0 := ⟨.refl hg, rfl, rfl, .nil⟩
theorem yd.step {h : Nat → List Bool → Bool} {s v y n : Int} {fs fy fn : List Bool → Bool} {ts tv ty tn : Int} (k : yd c g0 gl r h u i) (hs : Wr c g0 s fs ts) (hv : Wr c g0 v (fun ins => !fs ins) tv) (hy : Wr c g0 y fy ty) (hn : Wr c g0 n fn tn)
  (h1 : ts + 40 ≤ u) (h2 : tv + 40 ≤ u) (h3 : ty + 40 ≤ u) (h4 : tn + 40 ≤ u) (hh : ∀ ins, h i ins = if fs ins then fy ins else fn ins) : yd c g0 (ta gl s v y n) (r ++ [(gl.length : Int) + 2]) h u (i + 1) := by
 obtain ⟨e, wv⟩ := xa k.ext.dz (hs.ext k.ext) (hv.ext k.ext) (hy.ext k.ext) (hn.ext k.ext) h1 h2 h3 h4
 have hl := k.len
 exact ⟨k.ext.trans e, by rw [uf]; omega, by rw [List.length_append, k.ol]; rfl, (k.ws.ext e).snoc (by rw [k.ol]; exact wv.as fun ins => (hh ins).symm)⟩
structure zz (c : Int) (g0 : List Gate) (left : Bool) (w : Nat) (A : List Bool → BitVec w) (B : List Bool → BitVec w) (fl : List Bool → Bool) (t : Int) (gl : List Gate) (x : List Int) (k : Nat) : Prop where
 ext : Ext g0 gl
 len : gl.length = g0.length + (3 * w + 1) * k
 xl : x.length = w
 ws : Ws c gl x (fun i ins => nD left w (A ins).getLsbD (fl ins) ((B ins).toNat % 2 ^ k) i) (t + 10 + 40 * (k : Int))
theorem zz.init {left : Bool} {A B : List Bool → BitVec w} {fl : List Bool → Bool} (hg : Good g0) (ha : Wd c g0 a w A t) : zz c g0 left w A B fl t g0 a 0 :=
 ⟨.refl hg, rfl, ha.len, ⟨fun k hk => ((ha.bit k (by rw [← ha.len]; exact hk)).late om).as fun ins => by rw [Nat.pow_zero, Nat.mod_one, wX (by rw [← ha.len]; exact hk)]⟩⟩
theorem zz.pick {left : Bool} {A B : List Bool → BitVec w} {fl : List Bool → Bool} {f y : Int} {k : Nat} (h : zz c g0 left w A B fl t g1 x k) (hf : Wr c g0 f fl t) {i : Nat} (_ : i < w) (fr : Int) (nz : fr = Fi left k i)
  (hy : y = if 0 ≤ fr ∧ fr < (w : Int) then x.getD fr.toNat 0 else f) :
  Wr c g1 y (fun ins => if left then (if 2 ^ k ≤ i then nD left w (A ins).getLsbD (fl ins) ((B ins).toNat % 2 ^ k) (i - 2 ^ k) else fl ins) else (if i + 2 ^ k < w then nD left w (A ins).getLsbD (fl ins) ((B ins).toNat % 2 ^ k) (i + 2 ^ k) else fl ins)) (t + 10 + 40 * (k : Int)) := by
 subst hy nz
 have vr := h.xl
 have hp : ((2 ^ k : Nat) : Int) = (2 : Int) ^ k := by simp
 have yt := Nat.two_pow_pos k
 unfold Fi
 cases left
 ·simp only [Bool.false_eq_true, if_false]
  by_cases h1 : i + 2 ^ k < w
  ·rw [if_pos om]
   have := h.ws.bit (i + 2 ^ k) om
   rw [show ((i : Int) + 2 ^ k).toNat = i + 2 ^ k by omega]
   exact this.as fun ins => by rw [if_pos h1]
  ·rw [if_neg om]
   exact ((hf.ext h.ext).late om).as fun ins => by rw [if_neg h1]
 ·simp only [if_true]
  by_cases h1 : 2 ^ k ≤ i
  ·rw [if_pos om]
   have := h.ws.bit (i - 2 ^ k) om
   rw [show ((i : Int) - 2 ^ k).toNat = i - 2 ^ k by omega]
   exact this.as fun ins => by rw [if_pos h1]
  ·rw [if_neg om]
   exact ((hf.ext h.ext).late om).as fun ins => by rw [if_neg h1]
def GF (left : Bool) (w : Nat) (A B : List Bool → BitVec w) (fl : List Bool → Bool) (k i : Nat) (ins : List Bool) : Bool := nD left w (A ins).getLsbD (fl ins) ((B ins).toNat % 2 ^ (k + 1)) i
theorem Cb {left : Bool} {A B : List Bool → BitVec w} {fl : List Bool → Bool} {k i : Nat} (hi : i < w) (ins : List Bool) :
  GF left w A B fl k i ins = if (B ins).getLsbD k then (if left then (if 2 ^ k ≤ i then nD left w (A ins).getLsbD (fl ins) ((B ins).toNat % 2 ^ k) (i - 2 ^ k) else fl ins) else (if i + 2 ^ k < w then nD left w (A ins).getLsbD (fl ins) ((B ins).toNat % 2 ^ k) (i + 2 ^ k) else fl ins)) else nD left w (A ins).getLsbD (fl ins) ((B ins).toNat % 2 ^ k) i := by
 unfold GF
 rw [wZ]
 cases (B ins).getLsbD k
 ·simp
 ·simp only [if_true]
  exact wY hi
theorem zz.pass {left : Bool} {A B : List Bool → BitVec w} {fl : List Bool → Bool} {q : Gate} (h : zz c g0 left w A B fl t g1 x k) (he : Ext g1 (g1 ++ [q])) (hj : yd c (g1 ++ [q]) gl next (GF left w A B fl k) (t + 10 + 40 * ((k : Int) + 1)) i) (hi : i = w) : zz c g0 left w A B fl t gl next (k + 1) := by
 subst hi
 have h1 := h.len; have h2 := hj.len
 rw [List.length_append, List.length_singleton] at h2
 refine ⟨h.ext.trans (he.trans hj.ext), by rw [h2, h1, Nat.mul_add]; omega, hj.ol, ?_⟩
 have := hj.ws
 rw [Int.natCast_add, Int.natCast_one]
 exact this
theorem Cc {B : List Bool → BitVec w} (hb : Wd c gl b w B t) (st : Nat) (hs : st ≤ w) : Ws c gl (b.drop st) (fun k ins => (B ins).getLsbD (st + k)) t := ⟨fun k hk => by
 have hl := hb.len
 rw [List.length_drop] at hk
 rw [List.getD_eq_getElem?_getD, List.getElem?_drop, ← List.getD_eq_getElem?_getD]
 exact hb.bit (st + k) om⟩
end
end Go.Proofs.Ytlimckldnjmabaa
