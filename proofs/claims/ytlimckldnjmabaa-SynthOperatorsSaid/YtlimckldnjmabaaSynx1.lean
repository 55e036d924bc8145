/- The last step of shifts, in plain Lean. -/
import Derived.Test.YtlimckldnjmabaaSynx0
import Derived.Test.YtlimckldnjmabaaProg
set_option linter.unusedSimpArgs false
set_option linter.unusedVariables false
set_option linter.unusedSectionVars false
set_option maxRecDepth 4000
set_option maxHeartbeats 8000000
namespace Go.Proofs.Ytlimckldnjmabaa
open Go Go.AW
section
variable {c : Int} {g0 gl : List Gate} {r : List Int} {t u : Int} {i w : Nat} {A B : List Bool → BitVec w}
structure Ad (c : Int) (g0 gl : List Gate) (out : List Int) (h : Nat → List Bool → Bool) (u : Int) (i : Nat) : Prop where
 ext : Ext g0 gl
 len : gl.length ≤ g0.length + 3 * i
 ol : out.length = i
 ws : Ws c gl out h u
theorem Ad.init {h : Nat → List Bool → Bool} {u : Int} (hg : Good g0) : Ad c g0 g0 [] h u 0 := ⟨.refl hg, om, rfl, .nil⟩
theorem Ad.choose {h : Nat → List Bool → Bool} {s v y n : Int} {fs fy fn : List Bool → Bool} {ts tv ty tn : Int} (k : Ad c g0 gl r h u i) (hs : Wr c g0 s fs ts) (hv : Wr c g0 v (fun ins => !fs ins) tv) (hy : Wr c g0 y fy ty) (hn : Wr c g0 n fn tn)
  (h1 : ts + 40 ≤ u) (h2 : tv + 40 ≤ u) (h3 : ty + 40 ≤ u) (h4 : tn + 40 ≤ u) (hh : ∀ ins, h i ins = if fs ins then fy ins else fn ins) : Ad c g0 (v7 gl s v y n) (r ++ [(gl.length : Int) + 2]) h u (i + 1) := by
 obtain ⟨e, wv⟩ := Aa k.ext.dM (hs.ext k.ext) (hv.ext k.ext) (hy.ext k.ext) (hn.ext k.ext) h1 h2 h3 h4
 have hl := k.len
 exact ⟨k.ext.trans e, by rw [xa]; omega, by rw [List.length_append, k.ol]; rfl, (k.ws.ext e).snoc (by rw [k.ol]; exact wv.as fun ins => (hh ins).symm)⟩
theorem Ad.and {h : Nat → List Bool → Bool} {x y : Int} {fx fy : List Bool → Bool} {tx ty : Int} (k : Ad c g0 gl r h u i) (hx : Wr c g0 x fx tx) (hy : Wr c g0 y fy ty) (h1 : tx + 20 ≤ u) (h2 : ty + 20 ≤ u) (hh : ∀ ins, h i ins = (fx ins && fy ins)) :
  Ad c g0 (gl ++ [⟨5, x, y⟩]) (r ++ [(gl.length : Int)]) h u (i + 1) := by
 have e := Ext.two (k := 5) k.ext.dM ag (hx.ext k.ext) (hy.ext k.ext)
 have wv := (hx.ext k.ext).and (u := u) (hy.ext k.ext) h1 h2
 have hl := k.len
 exact ⟨k.ext.trans e, by rw [List.length_append, List.length_singleton]; omega, by rw [List.length_append, k.ol]; rfl, (k.ws.ext e).snoc (by rw [k.ol]; exact wv.as fun ins => (hh ins).symm)⟩
def vA {w : Nat} (B : List Bool → BitVec w) (ins : List Bool) : Bool := iL (fun j => (B ins).getLsbD (cD w + j)) (w - cD w)
def tX (left ar : Bool) (w : Nat) (A B : List Bool → BitVec w) (i : Nat) (ins : List Bool) : Bool :=
 if ar then (if vA B ins then (A ins).msb else p5 left w (A ins).getLsbD (ar && (A ins).msb) ((B ins).toNat % 2 ^ cD w) i) else (!vA B ins && p5 left w (A ins).getLsbD (ar && (A ins).msb) ((B ins).toNat % 2 ^ cD w) i)
def CE (left ar : Bool) {w : Nat} (a b : BitVec w) : BitVec w := if left then a <<< b.toNat else if ar then a.sshiftRight b.toNat else a >>> b.toNat
theorem vB {left ar : Bool} (LC : left = true → ar = false) (hr : r.length = w) (h : Ws c gl r (tX left ar w A B) u) : Wd c gl r w (fun ins => CE left ar (A ins) (B ins)) u := by
 cases left with
 | true =>
  obtain rfl := LC rfl
  have h1 := Fp (A := A) (B := B) hr (h.as fun k _ ins => by simp [tX, vA])
  exact ⟨h1.len, fun k hk => (h1.bit k hk).as fun ins => by simp [CE]⟩
 | false =>
  cases ar with
  | true =>
   have h1 := Fs (A := A) (B := B) hr (h.as fun k _ ins => by simp [tX, vA])
   exact ⟨h1.len, fun k hk => (h1.bit k hk).as fun ins => by simp [CE]⟩
  | false =>
   have h1 := Fq (A := A) (B := B) hr (h.as fun k _ ins => by simp [tX, vA])
   exact ⟨h1.len, fun k hk => (h1.bit k hk).as fun ins => by simp [CE]⟩
def p2 (k : Nat) : Nat := 2 ^ k
theorem xc {k : Nat} (h : k ≤ 6) : IntKind.i64.wrap (1 * 2 ^ (min (k : Int).toNat IntKind.i64.bits)) = ((p2 k : Nat) : Int) := by
 have : k = 0 ∨ k = 1 ∨ k = 2 ∨ k = 3 ∨ k = 4 ∨ k = 5 ∨ k = 6 := by omega
 rcases this with rfl | rfl | rfl | rfl | rfl | rfl | rfl <;> decide
theorem Ft {k : Nat} (h : k ≤ 6) : p2 k ≤ 64 := Nat.pow_le_pow_right (n := 2) om h
theorem Ae {w : Nat} : cD w ≤ w := by
 refine kN ?_
 exact Nat.le_of_lt Nat.lt_two_pow_self
end
open Go Go.AW
section
variable {c : Int} {g0 gl : List Gate} {a r : List Int} {t u : Int} {w n : Nat} {A : List Bool → BitVec w}
def tY (sg : Bool) {w : Nat} (A : List Bool → BitVec w) (k : Nat) (ins : List Bool) : Bool := if k < w then (A ins).getLsbD k else sg && (A ins).msb
def sA (sg : Bool) {w : Nat} (n : Nat) (x : BitVec w) : BitVec n := if sg then x.signExtend n else x.setWidth n
theorem Af {sg : Bool} (ha : Wd c gl a w A t) : Ws c gl a (tY sg A) t := ha.ws.as fun k hk ins => by
 unfold tY; rw [if_pos (by rw [← ha.len]; exact hk)]
theorem Ag {sg : Bool} {x : Int} (hr : Ws c gl r (tY sg A) t) (hl : w ≤ r.length) (hx : Wr c gl x (fun ins => sg && (A ins).msb) t) : Ws c gl (r ++ [x]) (tY sg A) t :=
 hr.snoc (hx.as fun ins => by unfold tY; rw [if_neg om])
theorem Ah {sg : Bool} (hr : Ws c gl r (tY sg A) t) (hl : r.length = n) (_ : w ≤ n) : Wd c gl r n (fun ins => sA sg n (A ins)) t := hr.wd hl fun k hk ins => by
 unfold tY sA
 cases sg
 ·simp only [Bool.false_and, Bool.false_eq_true, if_false, BitVec.getLsbD_setWidth, hk, decide_true, Bool.true_and]
  by_cases h : k < w
  ·rw [if_pos h]
  ·rw [if_neg h, BitVec.getLsbD_of_ge _ _ om]
 ·simp only [Bool.true_and, if_true, BitVec.getLsbD_signExtend, hk, decide_true]
theorem CF {sg : Bool} (ha : Wd c gl a w A t) (h : n ≤ w) : Wd c gl (a.take n) n (fun ins => sA sg n (A ins)) t := ⟨by rw [List.length_take, ha.len]; omega, fun k hk => by
 have h1 := ha.bit k om
 rw [List.getD_eq_getElem?_getD, List.getElem?_take_of_lt hk, ← List.getD_eq_getElem?_getD]
 refine h1.as fun ins => ?_
 unfold sA
 cases sg
 ·simp only [Bool.false_eq_true, if_false, BitVec.getLsbD_setWidth, hk, decide_true, Bool.true_and]
 ·simp only [if_true, BitVec.getLsbD_signExtend, hk, decide_true, Bool.true_and, show k < w by omega]⟩
def np (s n : Nat) : List Int := (List.range n).map (fun i => ((s + i : Nat) : Int))
theorem tZ (s n : Nat) : np s (n + 1) = np s n ++ [((s + n : Nat) : Int)] := by simp [np, List.range_succ]
theorem jH (s n : Nat) : (np s n).length = n := by simp [np]
theorem xd {s n k : Nat} (h : k < n) : (np s n).getD k 0 = ((s + k : Nat) : Int) := by
 unfold np
 rw [List.getD_eq_getElem?_getD, List.getElem?_map, List.getElem?_range h]; rfl
def od (n : Nat) : List Gate := List.replicate n ⟨3, 0, 0⟩
theorem lI (n : Nat) : od (n + 1) = od n ++ [⟨3, 0, 0⟩] := List.replicate_succ'
theorem CG (n m : Nat) : od n ++ od m = od (n + m) := by simp [od, List.replicate_append_replicate]
theorem jI (n : Nat) : (od n).length = n := by simp [od]
theorem ua : ∀ n, Good (od n)
 | 0 => Good.nil
 | n + 1 => by rw [lI]; exact (ua n).snoc (zJ ag)
theorem me : ∀ n, iO (od n) = n
 | 0 => rfl
 | n + 1 => by rw [lI, ig, me n, mb, if_pos rfl]
theorem xe {ins : List Bool} : ∀ {n k : Nat}, k < n → val (od n) ins (k : Int) = ins.getD k false
 | 0, _, h => by omega
 | n + 1, k, h => by
  rw [lI]
  rcases Nat.lt_or_ge k n with h1 | h1
  ·rw [wS om (by rw [jI]; omega)]; exact xe h1
  ·obtain rfl : k = n := by omega
   have h2 := val_last (l := od k) (g := ⟨3, 0, 0⟩) (ins := ins)
   rw [jI] at h2
   rw [h2, me]; rfl
theorem Fu {o ins : List Int} {n : Nat} : uO o ins n ⟨3, 0, 0⟩ = ins.getD n 0 := rfl
theorem xf {c : Int} : ∀ {n k : Nat}, k < n → xO c (od n) (k : Int) = c
 | 0, _, h => by omega
 | n + 1, k, h => by
  rw [lI]
  rcases Nat.lt_or_ge k n with h1 | h1
  ·rw [wT om (by rw [jI]; omega)]; exact xf h1
  ·obtain rfl : k = n := by omega
   unfold xO m9
   have h3 : (od k ++ [(⟨3, 0, 0⟩ : Gate)]).length = (od k).length + 1 := by simp
   rw [h3, o5, Int.toNat_natCast, jg (by rw [gm _ (Nat.le_refl _), jI]), Fu, me, ig, me, mb, if_pos rfl, qB om]
def gp (f : Nat → Bool) : Nat → Nat
 | 0 => 0
 | n + 1 => gp f n + 2 ^ n * (f n).toNat
theorem nQ {f : Nat → Bool} : ∀ n, gp f n < 2 ^ n
 | 0 => by simp [gp]
 | n + 1 => by
  have h := nQ (f := f) n
  rw [gp, Nat.pow_succ]
  cases f n <;> simp <;> omega
theorem o9 {f : Nat → Bool} : ∀ {n k : Nat}, k < n → (gp f n).testBit k = f k
 | 0, _, h => by omega
 | n + 1, k, h => by
  have h0 := nQ (f := f) n
  rw [gp, Nat.add_comm, Nat.testBit_two_pow_mul_add _ h0]
  rcases Nat.lt_or_ge k n with h1 | h1
  ·rw [if_pos h1]; exact o9 h1
  ·obtain rfl : k = n := by omega
   rw [if_neg om, Nat.sub_self]; cases f k <;> rfl
def y0 (s w : Nat) (ins : List Bool) : Nat := gp (fun k => ins.getD (s + k) false) w
theorem Iw {c : Int} {s w n : Nat} (h : s + w ≤ n) : Wk c (od n) (np s w) w (y0 s w) c := ⟨jH s w, fun ins => nQ w, fun k hk => by
 rw [xd hk]
 exact ⟨om, by rw [jI]; omega, fun ins => by rw [xe om]; exact (o9 (f := fun k => ins.getD (s + k) false) hk).symm, by rw [xf om]; exact Int.le_refl _⟩⟩
end
structure Fv (c : Int) (gl : List Gate) (ws : List (List Int)) (op : Int) (w width : Nat) (x y z : List Bool → Nat) (t : Int) : Prop where
 x : Wk c gl (ws.getD 0 []) w x t
 y : 2 ≤ ws.length → Wk c gl (ws.getD 1 []) (if op = 21 then width else w) y t
 z : 3 ≤ ws.length → Wk c gl (ws.getD 2 []) width z t
 ok : ((op = 2 ∨ op = 3 ∨ 9 ≤ op ∧ op ≤ 14) ∧ ws.length = 2 ∧ width = w) ∨ ((15 ≤ op ∧ op ≤ 20) ∧ ws.length = 2 ∧ width = 1) ∨ (op = 21 ∧ ws.length = 3 ∧ w = 1) ∨ ((op = 22 ∨ op = 23) ∧ ws.length = 1 ∧ w ≤ width) ∨ (op = 24 ∧ ws.length = 1 ∧ width ≤ w)
 hw : 1 ≤ w ∧ w ≤ 64
 hd : 1 ≤ width ∧ width ≤ 64
 t0 : 0 ≤ t
open Go Go.AW
theorem Wk.ws {c : Int} {l : List Gate} {a : List Int} {w : Nat} {N : List Bool → Nat} {t : Int} (h : Wk c l a w N t) : Ws c l a (fun k ins => (N ins).testBit k) t := ⟨fun k hk => h.bit k (by have := h.len; omega)⟩
theorem Ws.wk {c : Int} {l : List Gate} {a : List Int} {w : Nat} {N : List Bool → Nat} {t : Int} (h : Ws c l a (fun k ins => (N ins).testBit k) t) (hl : a.length = w) (hn : ∀ ins, N ins < 2 ^ w) : Wk c l a w N t := ⟨hl, hn, fun k hk => h.bit k om⟩
section
variable {c : Int} {l : List Gate} {r : List Int} {t : Int} {op : Int} {w width : Nat} {X Y Z : List Bool → Nat} {x : Int}
abbrev xT (c : Int) (l : List Gate) (r : List Int) (op : Int) (w width : Nat) (X Y Z : List Bool → Nat) (t : Int) : Prop := Wk c l r width (fun ins => fN op w width (X ins) (Y ins) (Z ins)) (t + aU op (if gK op then w else width))
theorem CH {n : Nat} (h : n < 2 ^ w) : (BitVec.ofNat w n).toNat = n := by rw [BitVec.toNat_ofNat, Nat.mod_eq_of_lt h]
theorem CI (h : Wd c l r w (fun ins => BitVec.ofNat w (X ins) + BitVec.ofNat w (Y ins)) (t + 40 + 40 * (cD w : Int))) (ho : op = 2) (hw : width = w) : xT c l r op w width X Y Z t := by
 subst ho hw
 exact (h.wk.as fun ins => by simp [fN]).late (by simp [aU, gK]; omega)
theorem CJ (h : Wd c l r w (fun ins => BitVec.ofNat w (X ins) - BitVec.ofNat w (Y ins)) (t + 50 + 40 * (cD w : Int))) (ho : op = 3) (hw : width = w) : xT c l r op w width X Y Z t := by
 subst ho hw
 exact (h.wk.as fun ins => by simp [fN]).late (by simp [aU, gK]; omega)
theorem sB {k : Int} (h : Ws c l r (fun i ins => (if k = 5 then X ins &&& Y ins else if k = 6 then X ins ||| Y ins else X ins ^^^ Y ins).testBit i) (t + 20)) (hl : r.length = w) (hX : ∀ ins, X ins < 2 ^ w) (hY : ∀ ins, Y ins < 2 ^ w) (ho : op = 9 ∧ k = 5 ∨ op = 10 ∧ k = 6 ∨ op = 11 ∧ k = 7) (hw : width = w) : xT c l r op w width X Y Z t := by
 subst hw
 rcases ho with ⟨rfl, rfl⟩ | ⟨rfl, rfl⟩ | ⟨rfl, rfl⟩
 ·exact ((h.wk hl fun ins => Nat.and_lt_two_pow _ (hY ins)).as fun ins => by simp [fN]).late (by simp [aU, gK])
 ·exact ((h.wk hl fun ins => Nat.or_lt_two_pow (hX ins) (hY ins)).as fun ins => by simp [fN]).late (by simp [aU, gK])
 ·exact ((h.wk hl fun ins => Nat.xor_lt_two_pow (hX ins) (hY ins)).as fun ins => by simp [fN]).late (by simp [aU, gK])
theorem vC {left ar : Bool} (h : Wd c l r w (fun ins => CE left ar (BitVec.ofNat w (X ins)) (BitVec.ofNat w (Y ins))) (t + (if ar then 50 else 30) + 40 * (cD w : Int))) (hY : ∀ ins, Y ins < 2 ^ w) (ho : op = 12 ∧ left = true ∧ ar = false ∨ op = 13 ∧ left = false ∧ ar = false ∨ op = 14 ∧ left = false ∧ ar = true) (hw : width = w) : xT c l r op w width X Y Z t := by
 subst hw
 rcases ho with ⟨rfl, rfl, rfl⟩ | ⟨rfl, rfl, rfl⟩ | ⟨rfl, rfl, rfl⟩
 ·exact (h.wk.as fun ins => by simp only [fN, CE, CH (hY ins)]; simp).late (by simp [aU, gK]; omega)
 ·exact (h.wk.as fun ins => by simp only [fN, CE, CH (hY ins)]; simp).late (by simp [aU, gK]; omega)
 ·exact (h.wk.as fun ins => by simp only [fN, CE, CH (hY ins)]; simp).late (by simp [aU, gK]; omega)
theorem Ai {x y : Nat} (hx : x < 2 ^ w) (hy : y < 2 ^ w) : BitVec.ofNat w x = BitVec.ofNat w y ↔ x = y := by
 constructor
 ·intro h
  have := congrArg BitVec.toNat h
  rwa [CH hx, CH hy] at this
 ·rintro rfl; rfl
theorem Fw (h : Wr c l x (fun ins => decide (BitVec.ofNat w (X ins) ≠ BitVec.ofNat w (Y ins))) (t + 20 + 20 * (cD w : Int))) (hX : ∀ ins, X ins < 2 ^ w) (hY : ∀ ins, Y ins < 2 ^ w) (ho : op = 16) (hw : width = 1) : xT c l [x] op w width X Y Z t := by
 subst ho hw
 exact (h.GR.as fun ins => by simp [fN, Ai (hX ins) (hY ins)]).late (by simp [aU, gK]; omega)
theorem Fx (h : Wr c l x (fun ins => !decide (BitVec.ofNat w (X ins) ≠ BitVec.ofNat w (Y ins))) (t + 30 + 20 * (cD w : Int))) (hX : ∀ ins, X ins < 2 ^ w) (hY : ∀ ins, Y ins < 2 ^ w) (ho : op = 15) (hw : width = 1) : xT c l [x] op w width X Y Z t := by
 subst ho hw
 exact (h.GR.as fun ins => by simp [fN, Ai (hX ins) (hY ins)]).late (by simp [aU, gK]; omega)
theorem Aj {s : Bool} (h : Wr c l x (fun ins => if s then (BitVec.ofNat w (X ins)).slt (BitVec.ofNat w (Y ins)) else (BitVec.ofNat w (X ins)).ult (BitVec.ofNat w (Y ins))) (t + 30 + 40 * (cD w : Int))) (hX : ∀ ins, X ins < 2 ^ w) (hY : ∀ ins, Y ins < 2 ^ w) (ho : op = 17 ∧ s = false ∨ op = 19 ∧ s = true) (hw : width = 1) : xT c l [x] op w width X Y Z t := by
 subst hw
 have hm := lH (show w ≤ w + 1 by omega)
 rcases ho with ⟨rfl, rfl⟩ | ⟨rfl, rfl⟩
 ·exact (h.GR.as fun ins => by simp [fN, BitVec.ult, Nat.mod_eq_of_lt (hX ins), Nat.mod_eq_of_lt (hY ins)]).late (by simp [aU, gK]; omega)
 ·exact (h.GR.as fun ins => by simp [fN]).late (by simp [aU, gK]; omega)
theorem Ak {s : Bool} (h : Wr c l x (fun ins => !(if s then (BitVec.ofNat w (Y ins)).slt (BitVec.ofNat w (X ins)) else (BitVec.ofNat w (Y ins)).ult (BitVec.ofNat w (X ins)))) (t + 40 + 40 * (cD w : Int))) (hX : ∀ ins, X ins < 2 ^ w) (hY : ∀ ins, Y ins < 2 ^ w) (ho : op = 18 ∧ s = false ∨ op = 20 ∧ s = true) (hw : width = 1) : xT c l [x] op w width X Y Z t := by
 subst hw
 have hm := lH (show w ≤ w + 1 by omega)
 rcases ho with ⟨rfl, rfl⟩ | ⟨rfl, rfl⟩
 ·refine (h.GR.as fun ins => ?_).late (by simp [aU, gK]; omega)
  simp only [fN, BitVec.ult, CH (hX ins), CH (hY ins)]
  simp
  by_cases h : X ins ≤ Y ins
  ·rw [decide_eq_true h, decide_eq_false om]; rfl
  ·rw [decide_eq_false h, decide_eq_true om]; rfl
 ·refine (h.GR.as fun ins => ?_).late (by simp [aU, gK]; omega)
  simp only [fN, if_true, BitVec.sle_eq_not_slt]
  simp
theorem LF {x : Nat} (h : x < 2 ^ 1) : x.testBit 0 = decide (x = 1) := by
 rcases (show x = 0 ∨ x = 1 by omega) with rfl | rfl <;> rfl
theorem CK (h : Ws c l r (fun i ins => if (X ins).testBit 0 then (Y ins).testBit i else (Z ins).testBit i) (t + 50)) (hl : r.length = width) (hX : ∀ ins, X ins < 2 ^ 1) (hY : ∀ ins, Y ins < 2 ^ width) (hZ : ∀ ins, Z ins < 2 ^ width) (ho : op = 21) : xT c l r op w width X Y Z t := by
 subst ho
 have h1 : Ws c l r (fun i ins => (if X ins = 1 then Y ins else Z ins).testBit i) (t + 50) := h.as fun k _ ins => by
  rw [LF (hX ins)]
  by_cases hx : X ins = 1
  ·simp [hx]
  ·simp [hx]
 exact ((h1.wk hl fun ins => by split; exact hY ins; exact hZ ins).as fun ins => by simp [fN]).late (by simp [aU, gK])
theorem CL {sg : Bool} (h : Wd c l r width (fun ins => sA sg width (BitVec.ofNat w (X ins))) t) (hX : ∀ ins, X ins < 2 ^ w) (ho : op = 22 ∧ sg = false ∧ w ≤ width ∨ op = 23 ∧ sg = true ∧ w ≤ width ∨ op = 24 ∧ sg = false ∧ width ≤ w) : xT c l r op w width X Y Z t := by
 rcases ho with ⟨rfl, rfl, hw⟩ | ⟨rfl, rfl, hw⟩ | ⟨rfl, rfl, hw⟩
 ·refine (h.wk.as fun ins => ?_).late (by simp [aU, gK])
  have := Nat.pow_le_pow_right (n := 2) om hw
  simp only [fN, sA, Bool.false_eq_true, if_false, BitVec.toNat_setWidth, CH (hX ins)]
  rw [Nat.mod_eq_of_lt (by have := hX ins; omega)]; simp
 ·exact (h.wk.as fun ins => by simp [fN, sA]).late (by simp [aU, gK])
 ·refine (h.wk.as fun ins => ?_).late (by simp [aU, gK])
  simp only [fN, sA, Bool.false_eq_true, if_false, BitVec.toNat_setWidth, CH (hX ins)]
  simp
end
open Go Go.AW
theorem sC {op a b d a' b' d' w : Int} (h0 : a = a') (h1 : op < 22 ∨ 24 < op → b = b') (h2 : op = 21 → d = d') : cx op a b d w ↔ cx op a' b' d' w := by
 subst h0
 unfold cx gK
 by_cases e : op = 21
 ·rw [h1 om, h2 e]
 ·by_cases e2 : op < 22 ∨ 24 < op
  ·rw [h1 e2]; omega
  ·omega
open Go Go.AW
def y4 (k : Nat) : List Cell := (List.range k).map (fun (j : Nat) => (⟨8, 0, (j : Int), [], j, 0⟩ : Cell))
theorem ub (k : Nat) : y4 (k + 1) = y4 k ++ [(⟨8, 0, (k : Int), [], k, 0⟩ : Cell)] := by simp [y4, List.range_succ]
theorem iZ (k : Nat) : (y4 k).length = k := by simp [y4]
theorem CM {k j : Nat} (h : j < k) : (y4 k).getD j default = ⟨8, 0, (j : Int), [], j, 0⟩ := by
 unfold y4
 rw [List.getD_eq_getElem?_getD, List.getElem?_map, List.getElem?_range h]; rfl
def qI (op : Int) (k : Nat) : List Cell := (y4 k ++ [(⟨2, op, (k : Int), np 0 k, 0, 0⟩ : Cell)]) ++ [(⟨1, 0, (k : Int) + 1, [], 0, 0⟩ : Cell)]
def gq (op : Int) (ws : List Int) (width : Int) : ae := ⟨ByteArray.empty, (ws ++ [width]) ++ [1], qI op ws.length, ws, [], [], [], [], (ws.length : Int) + 1, (ws.length : Int) + 1, []⟩
theorem mh (op : Int) (k : Nat) : (qI op k).length = k + 2 := by simp [qI, iZ]
theorem oA {op : Int} {k j : Nat} (h : j < k) : (qI op k).getD j default = ⟨8, 0, (j : Int), [], j, 0⟩ := by
 unfold qI
 rw [eE (by simp [iZ]; omega), eE (by rw [iZ]; exact h), CM h]
theorem oB {op : Int} {k : Nat} : (qI op k).getD k default = ⟨2, op, (k : Int), np 0 k, 0, 0⟩ := by
 unfold qI
 rw [eE (by simp [iZ]), gW (iZ k).symm]
theorem nR {op : Int} {k : Nat} : (qI op k).getD (k + 1) default = ⟨1, 0, (k : Int) + 1, [], 0, 0⟩ := by
 unfold qI
 rw [gW (by simp [iZ])]
theorem p6 {op : Int} {k j : Nat} (h : j < k + 2) : ((qI op k).getD j default).out = (j : Int) ∧ ((qI op k).getD j default).kind ≠ 7 := by
 rcases (show j < k ∨ j = k ∨ j = k + 1 by omega) with h1 | rfl | rfl
 ·rw [oA h1]; exact ⟨rfl, by simp⟩
 ·rw [oB]; exact ⟨rfl, by simp⟩
 ·rw [nR]; exact ⟨by simp, by simp⟩
theorem rY {op : Int} {k w : Nat} : ∀ {i : Nat}, i ≤ k + 2 → cq ((qI op k).take i) w = if w < i then 1 else 0
 | 0, _ => by simp [cq]
 | i + 1, h => by
  rw [e9 (by rw [mh]; omega), rY om]
  obtain ⟨h1, h2⟩ := p6 (op := op) (k := k) (j := i) om
  rw [h1]
  by_cases hw : w = i
  ·subst hw; rw [if_neg om, if_pos ⟨h2, rfl⟩, if_pos om]
  ·rw [if_neg (show ¬ (((qI op k).getD i default).kind ≠ 7 ∧ (i : Int) = (w : Int)) from fun h => hw om)]
   by_cases h3 : w < i
   ·rw [if_pos h3, if_pos om]
   ·rw [if_neg h3, if_neg om]
def uQ (op : Int) (ws : List Int) (width : Int) : Prop :=
 (∀ w ∈ ws, cw w) ∧ cw width ∧ bE op ≠ 0 ∧ (ws.length : Int) = bE op ∧ cx op (ws.getD 0 0) (ws.getD 1 0) (ws.getD 2 0) width
section
variable {op width : Int} {ws : List Int}
theorem kO {op : Int} : bE op ≤ 3 ∧ 0 ≤ bE op := by unfold bE; (repeat' split) <;> omega
theorem DY {j : Nat} (h : j < ws.length) : (gq op ws width).wd (j : Int) = ws.getD j 0 := by
 unfold ae.wd gq
 rw [Int.toNat_natCast]
 show ((ws ++ [width]) ++ [1]).getD j 0 = _
 rw [eE (by simp; omega), eE h]
theorem Ix : (gq op ws width).wd (ws.length : Int) = width := by
 unfold ae.wd gq
 rw [Int.toNat_natCast]
 show ((ws ++ [width]) ++ [1]).getD ws.length 0 = _
 rw [eE (by simp), gW rfl]
theorem DZ : (gq op ws width).wd ((ws.length : Int) + 1) = 1 := by
 unfold ae.wd gq
 show ((ws ++ [width]) ++ [1]).getD ((ws.length : Int) + 1).toNat 0 = _
 rw [gW (by simp)]
theorem Al {j : Nat} (h : j < ws.length) : (gq op ws width).av ⟨2, op, (ws.length : Int), np 0 ws.length, 0, 0⟩ j = ws.getD j 0 := by
 unfold ae.av
 show (gq op ws width).wd ((np 0 ws.length).getD j 0) = _
 rw [xd h, Nat.zero_add, DY h]
theorem Ea : (gq op ws width).ow ⟨2, op, (ws.length : Int), np 0 ws.length, 0, 0⟩ = width := by
 unfold ae.ow
 show (if 0 ≤ (ws.length : Int) then (gq op ws width).wd (ws.length : Int) else 0) = width
 rw [if_pos om, Ix]
theorem xg (hl : (ws.length : Int) = bE op) (h0 : bE op ≠ 0) : cx op ((gq op ws width).av ⟨2, op, (ws.length : Int), np 0 ws.length, 0, 0⟩ 0) ((gq op ws width).av ⟨2, op, (ws.length : Int), np 0 ws.length, 0, 0⟩ 1) ((gq op ws width).av ⟨2, op, (ws.length : Int), np 0 ws.length, 0, 0⟩ 2) width ↔ cx op (ws.getD 0 0) (ws.getD 1 0) (ws.getD 2 0) width := by
 have h3 := kO (op := op)
 refine sC (Al om) (fun h => Al ?_) (fun h => Al ?_)
 ·unfold bE at hl h0; (repeat' split at hl) <;> (repeat' split at h0) <;> omega
 ·unfold bE at hl; (repeat' split at hl) <;> omega
theorem Iy (hk : ws.length ≤ 5) (h : uQ op ws width) : nH (gq op ws width) = 0 := by
 obtain ⟨hw, uP, h0, hl, hf⟩ := h
 have hlen : (gq op ws width).aj.length = ws.length + 2 := by simp [gq]
 have sn : (gq op ws width).cells.length = ws.length + 2 := mh op ws.length
 have tz : ∀ x ∈ np 0 ws.length, In x (gq op ws width).aj.length := fun x hx => by
  obtain ⟨i, hi, rfl⟩ := List.mem_map.1 hx
  have := List.mem_range.1 hi
  rw [hlen]; unfold In; omega
 refine zS ⟨⟨fun i hi => by simp [gq] at hi, by simp [gq]⟩, by rw [sn]; omega, by rw [hlen]; omega, by simp [gq], by simp [gq], rfl, rfl, fun j hj => ?_, fun j hj => by simp [gq] at hj, fun j hj => by simp [gq] at hj, ?_, ?_, fun r hr => by simp [gq] at hr, fun j hj => ?_, fun w hw => ?_⟩ ⟨DZ, DZ, fun j hj => by simp [gq] at hj, fun j hj => ?_⟩ ⟨fun _ => 0, fun i j hi hj hm => ?_⟩
 ·have : ∀ x ∈ (gq op ws width).aj ++ (gq op ws width).ins, cw x := fun x hx => by
   simp only [gq, List.mem_append, List.mem_singleton] at hx
   rcases hx with ((h | rfl) | rfl) | h
   ·exact hw x h
   ·exact uP
   ·exact zQ
   ·exact hw x h
  exact this _ (getD_in hj)
 ·show In ((ws.length : Int) + 1) (gq op ws width).aj.length
  rw [hlen]; unfold In; omega
 ·show In ((ws.length : Int) + 1) (gq op ws width).aj.length
  rw [hlen]; unfold In; omega
 ·rw [sn] at hj
  show ju (gq op ws width) ((qI op ws.length).getD j default)
  refine ⟨?_, ?_, fun h => absurd h (p6 hj).2, fun _ => by rw [(p6 hj).1, hlen]; unfold In; omega⟩
  ·rcases (show j < ws.length ∨ j = ws.length ∨ j = ws.length + 1 by omega) with h1 | rfl | rfl
   ·rw [oA h1]; exact fun x hx => by cases hx
   ·rw [oB]; exact tz
   ·rw [nR]; exact fun x hx => by cases hx
  ·rcases (show j < ws.length ∨ j = ws.length ∨ j = ws.length + 1 by omega) with h1 | rfl | rfl
   ·rw [oA h1]; exact .inr (.inr (.inr (.inr (.inr (.inr (.inr (.inl ⟨rfl, rfl, rfl, h1, rfl⟩)))))))
   ·rw [oB]; exact .inr (.inl ⟨rfl, h0, by rw [jH]; exact hl, rfl, rfl⟩)
   ·rw [nR]; exact .inl ⟨rfl, rfl, rfl, rfl⟩
 ·rw [hlen] at hw
  have := rY (op := op) (k := ws.length) (w := w) (Nat.le_refl _)
  rw [← mh op ws.length, List.take_length, mh, if_pos hw] at this
  exact this
 ·rw [sn] at hj
  show Fits (gq op ws width) ((qI op ws.length).getD j default)
  rcases (show j < ws.length ∨ j = ws.length ∨ j = ws.length + 1 by omega) with h1 | rfl | rfl
  ·rw [oA h1]
   refine .inr (.inr (.inr (.inr (.inr (.inr (.inr (.inl ⟨rfl, ?_⟩)))))))
   show ws.getD j 0 = (if 0 ≤ (j : Int) then (gq op ws width).wd (j : Int) else 0)
   rw [if_pos om, DY h1]
  ·rw [oB]
   refine .inr (.inl ⟨rfl, ?_⟩)
   rw [Ea]; exact (xg hl h0).2 hf
  ·rw [nR]
   refine .inl ⟨rfl, ?_⟩
   show dK _ 0 = 0
   exact Nat.zero_mod _
 ·exfalso
  have Ih := hi.1.2; have QY := hj.1.2; have nj := hi.1.1; have Tf := hj.1.1
  rw [sn] at Ih QY
  have e1 : (gq op ws width).cell i = (qI op ws.length).getD i.toNat default := rfl
  have e2 : (gq op ws width).cell j = (qI op ws.length).getD j.toNat default := rfl
  have ho := (p6 (op := op) (k := ws.length) (j := j.toNat) om).1
  rw [e1, e2, ho] at hm
  have EV := hj.2
  rw [e2] at EV
  rcases (show i.toNat < ws.length ∨ i.toNat = ws.length ∨ i.toNat = ws.length + 1 by omega) with h1 | h1 | h1
  ·rw [oA h1] at hm; cases hm
  ·rw [h1, oB] at hm
   obtain ⟨q, hq, LG⟩ := List.mem_map.1 hm
   have := List.mem_range.1 hq
   rw [oA om] at EV
   unfold dk at EV; simp only at EV; omega
  ·rw [h1, nR] at hm; cases hm
theorem CN (h : nH (gq op ws width) = 0) : uQ op ws width := by
 have hlen : (gq op ws width).aj.length = ws.length + 2 := by simp [gq]
 have sn : (gq op ws width).cells.length = ws.length + 2 := mh op ws.length
 unfold nH at h
 by_cases h1 : b5 (gq op ws width)
 ·rw [if_pos h1] at h
  by_cases h2 : Fit (gq op ws width)
  ·have hc := h1.cells ws.length (by rw [sn]; omega)
   have Fy := h2.cells ws.length (by rw [sn]; omega)
   have e1 : (gq op ws width).cells.getD ws.length default = ⟨2, op, (ws.length : Int), np 0 ws.length, 0, 0⟩ := oB
   rw [e1] at hc Fy
   have hs := hc.2.1
   simp only [Shaped, Int.reduceEq, false_and, true_and, false_or, or_false, jH] at hs
   simp only [Fits, Int.reduceEq, false_and, true_and, false_or, or_false] at Fy
   rw [Ea] at Fy
   have uP : ∀ x ∈ (gq op ws width).aj ++ (gq op ws width).ins, cw x := fun x hx => by
    obtain ⟨i, hi, rfl⟩ := List.mem_iff_getElem.1 hx
    have := h1.wide i hi
    rwa [List.getD_eq_getElem?_getD, List.getElem?_eq_getElem hi] at this
   refine ⟨fun w hw => uP w (by simp [gq, hw]), uP width (by simp [gq]), hs.1, hs.2.1, (xg hs.2.1 hs.1).1 Fy⟩
  ·rw [if_neg h2] at h; omega
 ·rw [if_neg h1] at h; omega
theorem Am (hk : ws.length ≤ 5) : (gq op ws width).Small := by
 refine ⟨by simp [gq], by simp [gq]; omega, by show (qI op ws.length).length ≤ _; rw [mh]; omega, fun c hc => ?_, ?_, fun c hc => ?_, fun m hm => by simp [gq] at hm, fun m hm => by simp [gq] at hm, by show ws.length ≤ _; omega, by simp [gq], by simp [gq], by simp [gq], by simp [gq], by simp [gq]⟩
 ·simp only [gq, qI, y4, List.mem_append, List.mem_map, List.mem_range, List.mem_singleton] at hc
  rcases hc with (⟨j, _, rfl⟩ | rfl) | rfl
  ·simp
  ·simp only [jH]; omega
  ·simp
 ·show ((qI op ws.length).map (fun c => c.args.length)).sum ≤ _
  have h1 : ∀ k, ((y4 k).map (fun c => c.args.length)).sum = 0 := fun k => by
   induction k with
   | zero => rfl
   | succ k ih => rw [ub, List.map_append, List.sum_append, ih]; rfl
  simp only [qI, List.map_append, List.sum_append, h1, List.map_cons, List.map_nil, List.sum_cons, List.sum_nil, jH, List.length_nil]; omega
 ·simp only [gq, qI, y4, List.mem_append, List.mem_map, List.mem_range, List.mem_singleton] at hc
  rcases hc with (⟨j, _, rfl⟩ | rfl) | rfl
  ·simp only; omega
  ·simp
  ·simp
end
open Go Go.AW
def fh (ws : List Int) : Nat → Nat
  | 0 => 0
  | i + 1 => fh ws i + (ws.getD i 0).toNat
theorem sD {ws : List Int} (h : ∀ w ∈ ws, cw w) : ∀ i, i ≤ ws.length → fh ws i ≤ 64 * i
  | 0, _ => by simp [fh]
  | i + 1, hi => by
    have h1 := sD h i om
    have h2 := h (ws.getD i 0) (getD_in om)
    unfold cw at h2
    simp only [fh]; omega
theorem km {ws : List Int} {i : Nat} : ∀ {j}, i ≤ j → fh ws i ≤ fh ws j
  | 0, h => by have : i = 0 := by omega
               subst this; exact Nat.le_refl _
  | j + 1, h => by
    rcases Nat.lt_or_ge j i with h1 | h1
    · have : i = j + 1 := by omega
      subst this; exact Nat.le_refl _
    · have := km (ws := ws) h1
      simp only [fh]; omega
def wL (ws : List Int) (i : Nat) : List (List Int) := (List.range i).map (fun j => np (fh ws j) (ws.getD j 0).toNat)
theorem CO (ws : List Int) (i : Nat) : wL ws (i + 1) = wL ws i ++ [np (fh ws i) (ws.getD i 0).toNat] := by simp [wL, List.range_succ]
theorem qJ (ws : List Int) (i : Nat) : (wL ws i).length = i := by simp [wL]
theorem FA {ws : List Int} {i j : Nat} (h : j < i) : (wL ws i).getD j [] = np (fh ws j) (ws.getD j 0).toNat := by
  unfold wL
  rw [List.getD_eq_getElem?_getD, List.getElem?_map, List.getElem?_range h]; rfl
theorem qK {op : Int} {k : Nat} (h0 : bE op ≠ 0) (hl : (k : Int) = bE op) : (((2 ≤ op ∧ op ≤ 3) ∨ (9 ≤ op ∧ op ≤ 20)) ∧ k = 2) ∨ (op = 21 ∧ k = 3) ∨ ((22 ≤ op ∧ op ≤ 24) ∧ k = 1) := by
  unfold bE at h0 hl
  by_cases h1 : (2 ≤ op ∧ op ≤ 3) ∨ (9 ≤ op ∧ op ≤ 20)
  · rw [if_pos h1] at hl; exact .inl ⟨h1, om⟩
  · rw [if_neg h1] at hl h0
    by_cases h2 : op = 21
    · rw [if_pos h2] at hl; exact .inr (.inl ⟨h2, om⟩)
    · rw [if_neg h2] at hl h0
      by_cases h3 : 22 ≤ op ∧ op ≤ 24
      · rw [if_pos h3] at hl; exact .inr (.inr ⟨h3, om⟩)
      · rw [if_neg h3] at h0; exact absurd rfl h0
section
variable {op width c : Int} {ws : List Int}
theorem Iz (h : uQ op ws width) (hc : 0 ≤ c) :
    Fv c (od (fh ws ws.length)) (wL ws ws.length) op (ws.getD 0 0).toNat width.toNat (y0 0 (ws.getD 0 0).toNat) (y0 (fh ws 1) (ws.getD 1 0).toNat) (y0 (fh ws 2) (ws.getD 2 0).toNat) c := by
  obtain ⟨hw, uP, h0, hl, hf⟩ := h
  have tj := qK h0 hl
  have hg : ∀ {j}, j < ws.length → cw (ws.getD j 0) := fun hj => hw _ (getD_in hj)
  have An : ∀ {j}, j < ws.length → Wk c (od (fh ws ws.length)) ((wL ws ws.length).getD j []) (ws.getD j 0).toNat (y0 (fh ws j) (ws.getD j 0).toNat) c := fun {j} hj => by
    rw [FA hj]
    refine Iw ?_
    have := km (ws := ws) (i := j + 1) (j := ws.length) om
    simpa [fh] using this
  have w0 := hg (j := 0) om
  have hx := An (j := 0) om
  unfold cw at w0 uP
  unfold cx gK at hf
  rw [show fh ws 0 = 0 from rfl] at hx
  refine ⟨hx, fun h2 => ?_, fun h3 => ?_, ?_, om, om, hc⟩
  · rw [qJ] at h2
    have hy := An (j := 1) om
    have e : (ws.getD 1 0).toNat = if op = 21 then width.toNat else (ws.getD 0 0).toNat := by
      by_cases Pa : op = 21
      · rw [if_pos Pa]; omega
      · rw [if_neg Pa]; omega
    rw [← e]; exact hy
  · rw [qJ] at h3
    have hz := An (j := 2) om
    have e : (ws.getD 2 0).toNat = width.toNat := by omega
    rw [e] at hz ⊢; exact hz
  · rw [qJ]; omega
theorem Ao (h : uQ op ws width) : ws.length ≤ 3 ∧ fh ws ws.length ≤ 192 := by
  have h3 := kO (op := op)
  have h1 := sD h.1 ws.length (Nat.le_refl _)
  have h2 := h.2.2.2.1
  omega
noncomputable instance : Decidable (uQ op ws width) := Classical.propDecidable _
def I0 (op : Int) (ws : List Int) (width : Int) : Prop := Plain op ∧ uQ op ws width
noncomputable instance : Decidable (I0 op ws width) := Classical.propDecidable _
def jJ (op : Int) (ws : List Int) (width : Int) (l : List Gate) (out : List Int) (e : Int) : Prop :=
  (¬ Plain op ∧ e = 1) ∨ (Plain op ∧ ¬ uQ op ws width ∧ e = 13) ∨
  (Plain op ∧ uQ op ws width ∧ e = 0 ∧ Ext (od (fh ws ws.length)) l ∧ l.length ≤ 1800 ∧
    xT 0 l out op (ws.getD 0 0).toNat width.toNat (y0 0 (ws.getD 0 0).toNat) (y0 (fh ws 1) (ws.getD 1 0).toNat) (y0 (fh ws 2) (ws.getD 2 0).toNat) 0)
end
open Go Go.AW
section
variable {op width : Int} {ws : List Int} {l : List Gate} {out : List Int} {e : Int}
theorem jJ.e1 (h : jJ op ws width l out e) (hp : ¬ Plain op) : e = 1 := by
 rcases h with ⟨_, h⟩ | ⟨h, _⟩ | ⟨h, _⟩
 ·exact h
 ·exact absurd h hp
 ·exact absurd h hp
theorem jJ.e0 (h : jJ op ws width l out e) (hp : Plain op) (hc : uQ op ws width) : e = 0 := by
 rcases h with ⟨h, _⟩ | ⟨_, h, _⟩ | ⟨_, _, h, _⟩
 ·exact absurd hp h
 ·exact absurd hc h
 ·exact h
theorem Ap (h : jJ 11 [1, 1] 1 l out e) : e = 0 ∧ out.length = 1 ∧ (0 ≤ out.getD 0 0 ∧ out.getD 0 0 < l.length) ∧ iO l = 2 ∧ l.length ≤ 1800 := by
 have hp : Plain 11 := by unfold Plain wP Seq Unary; omega
 have hc : uQ 11 [1, 1] 1 := ⟨ag, ag, ag, ag, by unfold cx gK; simp⟩
 rcases h with ⟨h, _⟩ | ⟨_, h, _⟩ | ⟨_, _, h0, hx, hl, hr⟩
 ·exact absurd hp h
 ·exact absurd hc h
 ·have hb := hr.bit 0 ag
  refine ⟨h0, hr.len, ⟨hb.lo, hb.hi⟩, ?_, hl⟩
  rw [hx.iO, me]; rfl
end
theorem eR {l : List Gate} {i : Nat} (h : i < l.length) : iO (l.take (i + 1)) = iO (l.take i) + if (l.getD i default).kind = 3 then 1 else 0 := by
 rw [List.take_add_one, List.getElem?_eq_getElem h, ig, List.getD_eq_getElem?_getD, List.getElem?_eq_getElem h]
 exact congrArg _ (mb _)
open Go Go.AW
def xh (l : List Gate) : Prop := ∀ j, j < l.length → jx j (l.getD j default)
noncomputable instance (l : List Gate) : Decidable (xh l) := Classical.propDecidable _
theorem getD_some {α : Type} {l : List α} {i : Nat} {g d : α} (h : l[i]? = some g) : i < l.length ∧ l.getD i d = g := by
 obtain ⟨hi, rfl⟩ := List.getElem?_eq_some_iff.1 h
 exact ⟨hi, by rw [List.getD_eq_getElem?_getD, List.getElem?_eq_getElem hi]; rfl⟩
theorem Good.d {l : List Gate} (h : Good l) : xh l := fun j hj => h j _ (by rw [List.getD_eq_getElem?_getD, List.getElem?_eq_getElem hj]; rfl)
theorem aN {i : Nat} {g : Gate} : jx i g ↔ ((1 ≤ g.kind ∧ g.kind ≤ 7) ∧ (4 ≤ g.kind → 0 ≤ g.a ∧ g.a < i) ∧ (¬ 4 ≤ g.kind → g.a = 0) ∧ (5 ≤ g.kind → 0 ≤ g.b ∧ g.b < i) ∧ (¬ 5 ≤ g.kind → g.b = 0)) := by
 unfold jx
 by_cases h4 : 4 ≤ g.kind
 ·by_cases h5 : 5 ≤ g.kind
  ·rw [if_pos h4, if_pos h5]
   exact ⟨fun h => ⟨h.1, fun _ => h.2.1, fun n => absurd h4 n, fun _ => h.2.2, fun n => absurd h5 n⟩, fun h => ⟨h.1, h.2.1 h4, h.2.2.2.1 h5⟩⟩
  ·rw [if_pos h4, if_neg h5]
   exact ⟨fun h => ⟨h.1, fun _ => h.2.1, fun n => absurd h4 n, fun n => absurd n h5, fun _ => h.2.2⟩, fun h => ⟨h.1, h.2.1 h4, h.2.2.2.2 h5⟩⟩
 ·have h5 : ¬ 5 ≤ g.kind := by omega
  rw [if_neg h4, if_neg h5]
  exact ⟨fun h => ⟨h.1, fun n => absurd n h4, fun _ => h.2.1, fun n => absurd n h5, fun _ => h.2.2⟩, fun h => ⟨h.1, h.2.2.1 h4, h.2.2.2.2 h5⟩⟩
def p7 (a : List Int) (w n : Int) : Prop := (∀ j, j < a.length → 0 ≤ a.getD j 0 ∧ a.getD j 0 < n) ∧ (a.length : Int) = w
noncomputable instance (a : List Int) (w n : Int) : Decidable (p7 a w n) := Classical.propDecidable _
theorem CP {l : List Gate} {i : Nat} (h : i < l.length) (h3 : (l.getD i default).kind = 3) : iO (l.take i) < iO l := by
 have h1 := eR h
 rw [if_pos h3] at h1
 have h2 : iO l = iO (l.take (i + 1)) + iO (l.drop (i + 1)) := by rw [← ig, List.take_append_drop]
 omega
open Go Go.AW
theorem sE {op a width : Int} (ha : cw a) (hw : cw width) (ho : bE op = 2) (hf : cx op a a 0 width) : uQ op [a, a] width :=
 ⟨fun w h => by simp only [List.mem_cons, List.not_mem_nil, or_false] at h; rcases h with rfl | rfl <;> exact ha, hw, om, by rw [ho]; rfl, hf⟩
theorem xi {op a width : Int} (ha : cw a) (hw : cw width) (ho : bE op = 1) (hf : cx op a 0 0 width) : uQ op [a] width :=
 ⟨fun w h => by rw [List.mem_singleton.1 h]; exact ha, hw, om, by rw [ho]; rfl, hf⟩
theorem CQ {a : Int} (ha : cw a) : uQ 21 [1, a, a] a :=
 ⟨fun w h => by
  simp only [List.mem_cons, List.not_mem_nil, or_false] at h
  rcases h with rfl | rfl | rfl
  ·decide
  ·exact ha
  ·exact ha, ha, ag, rfl, .inl ⟨rfl, rfl, rfl, rfl⟩⟩
def ko (op : Int) (ws : List Int) (width : Int) : Prop := Plain op ∧ uQ op ws width
theorem uc {op : Int} (h : 2 ≤ op ∧ op ≤ 3 ∨ 9 ≤ op ∧ op ≤ 20) : bE op = 2 := by unfold bE; rw [if_pos h]
theorem ud {op : Int} (h : 22 ≤ op ∧ op ≤ 24) : bE op = 1 := by unfold bE; rw [if_neg om, if_neg om, if_pos h]
theorem FB {op a : Int} (h : op = 21) (ha : cw a) : ko op [1, a, a] a := by
 subst h; exact ⟨by unfold Plain; exact .inr (.inl rfl), CQ ha⟩
theorem Aq {op a m : Int} (h : op = 24) (ha : cw a) (hm : cw m) (hle : m ≤ a) : ko op [a] m := by
 subst h; exact ⟨by unfold Plain Unary; omega, xi ha hm (ud om) (by unfold cx gK; omega)⟩
theorem Ar {op a m : Int} (h : op = 22 ∨ op = 23) (ha : cw a) (hm : cw m) (hle : a ≤ m) : ko op [a] m :=
 ⟨by unfold Plain Unary; omega, xi ha hm (ud om) (by unfold cx gK; omega)⟩
theorem FC {op a : Int} (hp : Plain op) (h : gK op) (ha : cw a) : ko op [a, a] 1 :=
 ⟨hp, sE ha ag (uc (by unfold gK at h; omega)) (by unfold cx; simp [h])⟩
theorem FD {op a : Int} (hp : Plain op) (h1 : op ≠ 21) (h2 : op ≠ 22) (h3 : op ≠ 23) (h4 : op ≠ 24) (h : ¬ gK op) (ha : cw a) : ko op [a, a] a :=
 ⟨hp, sE ha ha (uc (by unfold Plain wP Seq Unary at hp; unfold gK at h; omega)) (by unfold Plain wP Seq Unary at hp; unfold cx; exact .inr (.inr (.inr (.inr ⟨h, om, rfl, rfl⟩))))⟩
theorem ko.len {op : Int} {ws : List Int} {width : Int} (h : ko op ws width) : 1 ≤ ws.length ∧ ws.length ≤ 3 := by
 have h1 := kO (op := op)
 have h2 := h.2.2.2.2.1
 have h3 := h.2.2.2.1
 omega
theorem jJ.dM {op : Int} {ws : List Int} {width : Int} {l : List Gate} {out : List Int} {e : Int} (h : jJ op ws width l out e) (hd : ko op ws width) :
  e = 0 ∧ Good l ∧ p7 out width l.length ∧ l.length ≤ 1800 ∧ iO l = fh ws ws.length ∧ ∀ j, j < out.length → xO 0 l (out.getD j 0) ≤ aU op (if gK op then ws.getD 0 0 else width).toNat := by
 rcases h with ⟨h, _⟩ | ⟨_, h, _⟩ | ⟨_, hc, h0, hx, hl, hr⟩
 ·exact absurd hd.1 h
 ·exact absurd hd.2 h
 ·have hw := hc.2.1
  unfold cw at hw
  have mu := hr.len
  refine ⟨h0, hx.dM, ⟨fun j hj => ?_, om⟩, hl, by rw [hx.iO, me], fun j hj => ?_⟩
  ·have hb := hr.bit j om
   exact ⟨hb.lo, hb.hi⟩
  ·have hb := (hr.bit j om).t
   rw [Int.zero_add] at hb
   have e1 : (if gK op then ws.getD 0 0 else width).toNat = if gK op then (ws.getD 0 0).toNat else width.toNat := by split <;> rfl
   rw [e1]; exact hb
open Go Go.AW
def ue (f : Nat → Bool) (n : Nat) : List Int := (List.range n).map fun i => (((f i).toNat : Nat) : Int)
theorem gD (f : Nat → Bool) (n : Nat) : (ue f n).length = n := by simp [ue]
theorem iy {f : Nat → Bool} {n : Nat} {b : Int} (h : b = (((f n).toNat : Nat) : Int)) : ue f n ++ [b] = ue f (n + 1) := by
 subst h; simp [ue, List.range_succ]
theorem oC (f : Nat → Bool) (n : Nat) : ∀ b ∈ ue f n, 0 ≤ b ∧ b ≤ 1 := fun b hb => by
 obtain ⟨i, _, rfl⟩ := List.mem_map.1 hb
 cases f i <;> decide
theorem mV (l : List Int) (b : Int) : dP (l ++ [b]) = dP l + 2 ^ l.length * b.toNat := by
 induction l with
 | nil => simp [dP]
 | cons a r ih =>
  show 2 * dP (r ++ [b]) + a.toNat = 2 * dP r + a.toNat + 2 ^ (r.length + 1) * b.toNat
  rw [ih, Nat.pow_succ, Nat.mul_add, ← Nat.mul_assoc, Nat.mul_comm 2 (2 ^ r.length)]; omega
theorem gX (f : Nat → Bool) : ∀ n, dP (ue f n) = gp f n
 | 0 => rfl
 | n + 1 => by
  rw [← iy rfl, mV, gX f n, gD, gp, Int.toNat_natCast]
theorem fX {f : Nat → Bool} {w R : Nat} (hR : R < 2 ^ w) (h : ∀ k, k < w → R.testBit k = f k) : gp f w = R := by
 refine Nat.eq_of_testBit_eq fun i => ?_
 rcases Nat.lt_or_ge i w with h1 | h1
 ·rw [o9 h1, h i h1]
 ·rw [Nat.testBit_lt_two_pow (Nat.lt_of_lt_of_le (nQ w) (Nat.pow_le_pow_right om h1)), Nat.testBit_lt_two_pow (Nat.lt_of_lt_of_le hR (Nat.pow_le_pow_right om h1))]
theorem gE {x i : Nat} : (((x / 2 ^ i % 2 : Nat)) : Int) = (((x.testBit i).toNat : Nat) : Int) := by rw [Nat.toNat_testBit]
theorem CR {x i : Nat} : ((((x.testBit i).toNat : Nat) : Int) = 1) ↔ x.testBit i = true := by cases x.testBit i <;> decide
theorem qL {l : List Int} {i : Nat} (h : i < l.length) : dP (l.take (i + 1)) = dP (l.take i) + 2 ^ i * (l.getD i 0).toNat := by
 rw [List.take_succ_eq_append_getElem h, mV, List.length_take, Nat.min_eq_left om, List.getD_eq_getElem?_getD, List.getElem?_eq_getElem h]; rfl
structure sF (a b : List Int) (c0 : Int) (i : Nat) (out : List Int) (c : Int) : Prop where
 ol : out.length = i
 QZ : ∀ x ∈ out, 0 ≤ x ∧ x ≤ 1
 Rf : 0 ≤ c ∧ c ≤ 1
 sum : dP out + 2 ^ i * c.toNat = dP (a.take i) + dP (b.take i) + c0.toNat
theorem sF.init {a b : List Int} {c0 : Int} (h : 0 ≤ c0 ∧ c0 ≤ 1) : sF a b c0 0 [] c0 := ⟨rfl, fun _ h => (by cases h), h, by simp [dP]⟩
theorem sF.step {a b out : List Int} {c0 c x y : Int} {i : Nat} (h : sF a b c0 i out c) (ha : i < a.length) (hb : i < b.length) (hx : a.getD i 0 = x) (hy : b.getD i 0 = y) (Kj : 0 ≤ x ∧ x ≤ 1) (Tg : 0 ≤ y ∧ y ≤ 1) :
  sF a b c0 (i + 1) (out ++ [(x + y + c) % 2]) ((x + y + c) / 2) := by
 obtain ⟨h1, h2, h3, h4⟩ := h
 refine ⟨by simp [h1], fun z hz => ?_, om, ?_⟩
 ·rcases List.mem_append.1 hz with h | h
  ·exact h2 z h
  ·rw [List.mem_singleton.1 h]; omega
 ·rw [mV, qL ha, qL hb, h1, hx, hy, Nat.pow_succ]
  have e : ((x + y + c) % 2).toNat + 2 * ((x + y + c) / 2).toNat = x.toNat + y.toNat + c.toNat := by omega
  have e2 : 2 ^ i * ((x + y + c) % 2).toNat + 2 ^ i * 2 * ((x + y + c) / 2).toNat = 2 ^ i * x.toNat + 2 ^ i * y.toNat + 2 ^ i * c.toNat := by
   rw [Nat.mul_assoc, ← Nat.mul_add, e, Nat.mul_add, Nat.mul_add]
  omega
theorem sF.done {a b out : List Int} {c0 c : Int} {n : Nat} (h : sF a b c0 n out c) (ha : a.length = n) (hb : b.length = n) : dP out = (dP a + dP b + c0.toNat) % 2 ^ n := by
 obtain ⟨h1, h2, h3, h4⟩ := h
 rw [List.take_of_length_le om, List.take_of_length_le om] at h4
 have h5 := tK out (fun b hb => by have := h2 b hb; omega)
 rw [← h4, Nat.add_mul_mod_self_left, Nat.mod_eq_of_lt (by rw [← h1]; exact h5)]
def nS (k x : Nat) : Int := (BitVec.ofNat k x).toInt
theorem oD {k x : Nat} (hk : 1 ≤ k) : x.testBit (k - 1) = true ↔ 2 ^ (k - 1) ≤ x % 2 ^ k := by
 have h0 : (x % 2 ^ k).testBit (k - 1) = x.testBit (k - 1) := by rw [Nat.testBit_mod_two_pow]; simp [show k - 1 < k by omega]
 have gM : x % 2 ^ k < 2 ^ k := Nat.mod_lt _ (Nat.two_pow_pos k)
 have hp : 2 ^ k = 2 * 2 ^ (k - 1) := by rw [← Nat.pow_succ']; congr 1; omega
 rw [← h0]
 constructor
 ·intro h; exact Nat.le_of_not_lt fun h1 => by rw [Nat.testBit_lt_two_pow h1] at h; cases h
 ·intro h
  rw [Nat.testBit_eq_decide_div_mod_eq]
  have : x % 2 ^ k / 2 ^ (k - 1) = 1 := by
   exact Nat.div_eq_of_lt_le (by rw [Nat.one_mul]; exact h) (by show _ < (1 + 1) * _; omega)
  rw [this]; rfl
theorem CS {k x : Nat} (hk : 1 ≤ k) (h : x.testBit (k - 1) = true) : nS k x = ((x % 2 ^ k : Nat) : Int) - ((2 ^ k : Nat) : Int) := by
 have h1 := (oD hk).1 h
 have hp : 2 ^ k = 2 * 2 ^ (k - 1) := by rw [← Nat.pow_succ']; congr 1; omega
 unfold nS
 rw [BitVec.toInt_eq_toNat_cond, if_neg (by rw [BitVec.toNat_ofNat]; omega), BitVec.toNat_ofNat]
theorem CT {k x : Nat} (hk : 1 ≤ k) (h : ¬ x.testBit (k - 1) = true) : nS k x = ((x % 2 ^ k : Nat) : Int) := by
 have h1 : ¬ 2 ^ (k - 1) ≤ x % 2 ^ k := fun q => h ((oD hk).2 q)
 have hp : 2 ^ k = 2 * 2 ^ (k - 1) := by rw [← Nat.pow_succ']; congr 1; omega
 unfold nS
 rw [BitVec.toInt_eq_toNat_cond, if_pos (by rw [BitVec.toNat_ofNat]; omega), BitVec.toNat_ofNat]
theorem vD {w : Int} {x : Nat} (hw : 1 ≤ w.toNat ∧ w.toNat ≤ 64) (nq : aM w = w.toNat) (hm : x.testBit (w.toNat - 1) = true) : dK w (((2 ^ aM w - 1 + (18446744073709551616 - dK w x)) % 18446744073709551616 + 1) % 18446744073709551616) = 2 ^ w.toNat - x % 2 ^ w.toNat := by
 have LH := (oD (k := w.toNat) hw.1).1 hm
 have Pb := Nat.two_pow_pos (w.toNat - 1)
 have hp := dX w.toNat om
 have rp : x % 2 ^ w.toNat < 2 ^ w.toNat := Nat.mod_lt _ om
 have Ks : dK w x = x % 2 ^ w.toNat := by unfold dK; rw [nq]
 have e : ((2 ^ aM w - 1 + (18446744073709551616 - dK w x)) % 18446744073709551616 + 1) % 18446744073709551616 = 2 ^ w.toNat - x % 2 ^ w.toNat := by rw [Ks, nq]; omega
 rw [e]
 unfold dK
 rw [nq, Nat.mod_eq_of_lt om]
def As (k x : Nat) (s : Bool) (i : Nat) : Bool := if i < k then x.testBit i else (s && x.testBit (k - 1))
def vE (x n : Nat) (i : Nat) : Bool := if n ≤ i then x.testBit (i - n) else false
def sG (k x n : Nat) (f : Bool) (i : Nat) : Bool := if i + n < k then x.testBit (i + n) else f
def BH (op : Int) (x y : Nat) (i : Nat) : Bool := if op = 9 then x.testBit i && y.testBit i else if op = 10 then x.testBit i || y.testBit i else x.testBit i ^^ y.testBit i
theorem FE {op b : Int} {k x y i : Nat} (h : i < k) (hb : (op = 9 ∧ b = (aF k x).getD i 0 * (aF k y).getD i 0) ∨ (op = 10 ∧ b = if (aF k y).getD i 0 > (aF k x).getD i 0 then (aF k y).getD i 0 else (aF k x).getD i 0) ∨ (op = 11 ∧ b = ((aF k x).getD i 0 + (aF k y).getD i 0) % 2)) : b = (((BH op x y i).toNat : Nat) : Int) := by
 rw [fC _ _ _ h, fC _ _ _ h, gE, gE] at hb
 unfold BH
 rcases hb with ⟨rfl, rfl⟩ | ⟨rfl, rfl⟩ | ⟨rfl, rfl⟩ <;> cases x.testBit i <;> cases y.testBit i <;> rfl
theorem CU {k x y i : Nat} (h : i < k) : (0 ≤ (aF k x).getD i 0 ∧ (aF k x).getD i 0 ≤ 1) ∧ (0 ≤ (aF k y).getD i 0 ∧ (aF k y).getD i 0 ≤ 1) ∧ 0 ≤ (aF k x).getD i 0 * (aF k y).getD i 0 ∧ (aF k x).getD i 0 * (aF k y).getD i 0 ≤ 1 := by
 rw [fC _ _ _ h, fC _ _ _ h, gE, gE]
 cases x.testBit i <;> cases y.testBit i <;> decide
theorem gd {op b : Int} {k x y i : Nat} {out : List Int} (ho : out = if 9 ≤ op ∧ op ≤ 11 then ue (BH op x y) i else []) (h : i < k) (hb : (op = 9 ∧ b = (aF k x).getD i 0 * (aF k y).getD i 0) ∨ (op = 10 ∧ b = if (aF k y).getD i 0 > (aF k x).getD i 0 then (aF k y).getD i 0 else (aF k x).getD i 0) ∨ (op = 11 ∧ b = ((aF k x).getD i 0 + (aF k y).getD i 0) % 2)) : out ++ [b] = if 9 ≤ op ∧ op ≤ 11 then ue (BH op x y) (i + 1) else [] := by
 rw [if_pos om] at ho ⊢
 rw [ho]; exact iy (FE h hb)
section
variable {w width x y z : Nat}
theorem FF (hx : x < 2 ^ w) (hy : y < 2 ^ w) : (x + y) % 2 ^ w = fN 2 w width x y z := by
 simp [fN, BitVec.toNat_add]
theorem FG (hx : x < 2 ^ w) (hy : y < 2 ^ w) : (x + (2 ^ w - 1 - y) + 1) % 2 ^ w = fN 3 w width x y z := by
 simp only [fN, Int.reduceEq, if_false, if_true, BitVec.toNat_sub, BitVec.toNat_ofNat, Nat.mod_eq_of_lt hx, Nat.mod_eq_of_lt hy]
 congr 1; omega
theorem At {op : Int} (ho : op = 9 ∨ op = 10 ∨ op = 11) (hx : x < 2 ^ w) (hy : y < 2 ^ w) : gp (BH op x y) w = fN op w width x y z := by
 rcases ho with rfl | rfl | rfl
 ·exact fX (by simp only [fN, Int.reduceEq, if_false, if_true]; exact Nat.and_lt_two_pow _ hy) fun k _ => by simp [fN, BH]
 ·exact fX (by simp only [fN, Int.reduceEq, if_false, if_true]; exact Nat.or_lt_two_pow hx hy) fun k _ => by simp [fN, BH]
 ·exact fX (by simp only [fN, Int.reduceEq, if_false, if_true]; exact Nat.xor_lt_two_pow hx hy) fun k _ => by simp [fN, BH]
theorem FH : gp (vE x (min y w)) w = fN 12 w width x y z := by
 refine fX (by simp only [fN, Int.reduceEq, if_false, if_true]; exact BitVec.isLt _) fun k hk => ?_
 simp only [fN, Int.reduceEq, if_false, if_true, BitVec.testBit_toNat, BitVec.getLsbD_shiftLeft, BitVec.getLsbD_ofNat, vE]
 by_cases h : y ≤ k
 ·rw [if_pos om, Nat.min_eq_left om]; simp [hk, show ¬ k < y by omega, show k - y < w by omega]
 ·rw [if_neg om]; simp [show k < y by omega]
theorem FI (hx : x < 2 ^ w) : gp (sG w x (min y w) false) w = fN 13 w width x y z := by
 refine fX (by simp only [fN, Int.reduceEq, if_false, if_true]; exact BitVec.isLt _) fun k hk => ?_
 simp only [fN, Int.reduceEq, if_false, if_true, BitVec.testBit_toNat, BitVec.getLsbD_ushiftRight, BitVec.getLsbD_ofNat, sG]
 by_cases h : k + y < w
 ·rw [Nat.min_eq_left om, if_pos h]; simp [show y + k < w by omega, Nat.add_comm]
 ·rw [if_neg om]; simp [show ¬ y + k < w by omega]
theorem FJ (hw : 1 ≤ w) : gp (sG w x (min y w) (x.testBit (w - 1))) w = fN 14 w width x y z := by
 refine fX (by simp only [fN, Int.reduceEq, if_false, if_true]; exact BitVec.isLt _) fun k hk => ?_
 simp only [fN, Int.reduceEq, if_false, if_true, BitVec.testBit_toNat, BitVec.getLsbD_sshiftRight, BitVec.getLsbD_ofNat, sG]
 by_cases h : k + y < w
 ·rw [Nat.min_eq_left om, if_pos h]; simp [show y + k < w by omega, Nat.add_comm, show ¬ w ≤ k by omega]
 ·rw [if_neg om]; simp only [show ¬ y + k < w by omega, show ¬ w ≤ k by omega, if_false, decide_false, Bool.not_false, Bool.true_and, BitVec.msb_eq_getLsbD_last, BitVec.getLsbD_ofNat, show w - 1 < w by omega, decide_true]; rw [if_neg om]
theorem vF {op : Int} : (op = 15 → (decide (x = y)).toNat = fN op w width x y z) ∧ (op = 16 → (decide (x ≠ y)).toNat = fN op w width x y z) ∧ (op = 17 → (decide (x < y)).toNat = fN op w width x y z) ∧ (op = 18 → (decide (x ≤ y)).toNat = fN op w width x y z) ∧
  (op = 19 → (decide (nS w x < nS w y)).toNat = fN op w width x y z) ∧ (op = 20 → (decide (nS w x ≤ nS w y)).toNat = fN op w width x y z) := by
 refine ⟨?_, ?_, ?_, ?_, ?_, ?_⟩ <;> (rintro rfl; simp [fN, nS, BitVec.slt, BitVec.sle] <;> congr)
theorem p8 {op : Int} : (op = 15 → Bool.toNat (decide ((x : Int) = (y : Int))) = fN op w width x y z) ∧ (op = 16 → Bool.toNat (decide ((x : Int) ≠ (y : Int))) = fN op w width x y z) ∧ (op = 17 → Bool.toNat (decide ((x : Int) < (y : Int))) = fN op w width x y z) ∧ (op = 18 → Bool.toNat (decide ((x : Int) ≤ (y : Int))) = fN op w width x y z) := by
 obtain ⟨h1, h2, h3, h4, _⟩ := vF (w := w) (width := width) (x := x) (y := y) (z := z) (op := op)
 refine ⟨fun h => ?_, fun h => ?_, fun h => ?_, fun h => ?_⟩
 ·rw [← h1 h]; exact congrArg _ (decide_eq_decide.2 om)
 ·rw [← h2 h]; exact congrArg _ (decide_eq_decide.2 om)
 ·rw [← h3 h]; exact congrArg _ (decide_eq_decide.2 om)
 ·rw [← h4 h]; exact congrArg _ (decide_eq_decide.2 om)
theorem Au {w : Int} {y : Nat} (hw : w.toNat ≤ 64) (nq : aM w = w.toNat) (hy : y < 2 ^ w.toNat) : dP (aF (aM w) ((2 ^ aM w - 1 + (18446744073709551616 - y)) % 18446744073709551616)) = 2 ^ w.toNat - 1 - y := by
 have hp := dX w.toNat om
 rw [js, nq, show (2 ^ w.toNat - 1 + (18446744073709551616 - y)) % 18446744073709551616 = 2 ^ w.toNat - 1 - y by omega, Nat.mod_eq_of_lt om]
theorem CV (hx : x < 2 ^ w) (h : w ≤ width) : gp (As w x false) width = fN 22 w width x y z := by
 simp only [fN, Int.reduceEq, if_false, if_true]
 refine fX (Nat.lt_of_lt_of_le hx (Nat.pow_le_pow_right om h)) fun k hk => ?_
 unfold As
 by_cases h1 : k < w
 ·rw [if_pos h1]
 ·rw [if_neg h1, Nat.testBit_lt_two_pow (Nat.lt_of_lt_of_le hx (Nat.pow_le_pow_right om om))]; rfl
theorem Av (h : width ≤ w) : gp (As w x false) width = fN 24 w width x y z := by
 simp only [fN, Int.reduceEq, if_false]
 refine fX (Nat.mod_lt _ (Nat.two_pow_pos _)) fun k hk => ?_
 unfold As
 rw [if_pos om, Nat.testBit_mod_two_pow]; simp [hk]
theorem CW (hw : 1 ≤ w) : gp (As w x true) width = fN 23 w width x y z := by
 refine fX (by simp only [fN, Int.reduceEq, if_false, if_true]; exact BitVec.isLt _) fun k hk => ?_
 simp only [fN, Int.reduceEq, if_false, if_true, BitVec.testBit_toNat, BitVec.getLsbD_signExtend, As]
 by_cases h1 : k < w
 ·rw [if_pos h1, if_pos h1, BitVec.getLsbD_ofNat]; simp [hk, h1]
 ·rw [if_neg h1, if_neg h1, BitVec.msb_eq_getLsbD_last, BitVec.getLsbD_ofNat]; simp [hk, show w - 1 < w by omega]
theorem Aw : (if x = 1 then y else z) = fN 21 w width x y z := by simp only [fN, Int.reduceEq, if_false, if_true]
end
open Go Go.AW
theorem xU {l : List Gate} {ins : List Bool} {i : Nat} (h : i < l.length) : outs l ins (i + 1) = outs l ins i ++ [valOf (outs l ins i) ins (iO (l.take i)) (l.getD i default)] := by
 unfold outs
 rw [gk _ (List.getElem?_eq_getElem h), List.getD_eq_getElem?_getD, List.getElem?_eq_getElem h]; rfl
theorem uf {l : List Gate} {ins : List Bool} {i : Nat} (h : i ≤ l.length) : (outs l ins i).length = i := gm _ h
section
variable {o ins : List Bool} {n : Nat} {g : Gate}
theorem Rg (h : g.kind = 2) : valOf o ins n g = true := by unfold valOf; rw [if_pos h]
theorem Rh (h : g.kind = 3) : valOf o ins n g = ins.getD n false := by unfold valOf; rw [if_neg om, if_pos h]
theorem Ri (h : g.kind = 4) : valOf o ins n g = !o.getD g.a.toNat false := by unfold valOf; rw [if_neg om, if_neg om, if_pos h]
theorem Pc (h : g.kind = 5) : valOf o ins n g = (o.getD g.a.toNat false && o.getD g.b.toNat false) := by unfold valOf; rw [if_neg om, if_neg om, if_neg om, if_pos h]
theorem Pd (h : g.kind = 6) : valOf o ins n g = (o.getD g.a.toNat false || o.getD g.b.toNat false) := by unfold valOf; rw [if_neg om, if_neg om, if_neg om, if_neg om, if_pos h]
theorem Rj (h : g.kind = 7) : valOf o ins n g = (o.getD g.a.toNat false != o.getD g.b.toNat false) := by unfold valOf; rw [if_neg om, if_neg om, if_neg om, if_neg om, if_neg om, if_pos h]
theorem Rl (h : ¬ (2 ≤ g.kind ∧ g.kind ≤ 7)) : valOf o ins n g = false := by unfold valOf; rw [if_neg om, if_neg om, if_neg om, if_neg om, if_neg om, if_neg om]
end
open Go Go.AW
structure U3 where
 a : Nat
 b : Nat
 c : Nat
instance : Inhabited U3 := ⟨⟨0, 0, 0⟩⟩
def U3.row (u : U3) : List X := [.v (.int .u64 (u.a : Int)), .v (.int .u64 (u.b : Int)), .v (.int .u64 (u.c : Int))]
theorem U3.cN (u : U3) : X.bj u.row = true := rfl
def U3.get (u : U3) (i : Nat) : Nat := if i = 0 then u.a else if i = 1 then u.b else u.c
theorem FK {u : U3} {m : Nat} (h : m < 3) : [X.v (.int .u64 (u.a : Int)), .v (.int .u64 (u.b : Int)), .v (.int .u64 (u.c : Int))][0 + m * 1]? = some (.v (.int .u64 ((u.get m : Nat) : Int))) := by
 rcases (show m = 0 ∨ m = 1 ∨ m = 2 by omega) with rfl | rfl | rfl <;> rfl
def U3.Ok (u : U3) : Prop := u.a < 18446744073709551616 ∧ u.b < 18446744073709551616 ∧ u.c < 18446744073709551616
theorem U3.Ok.get {u : U3} (h : u.Ok) (i : Nat) : u.get i < 18446744073709551616 := by
 unfold U3.get; obtain ⟨h1, h2, h3⟩ := h
 split
 ·exact h1
 ·split
  ·exact h2
  ·exact h3
def bL (f : Nat → Bool) (n : Nat) : List Bool := (List.range n).map f
theorem qM (f : Nat → Bool) (n : Nat) : (bL f n).length = n := by simp [bL]
theorem CX {f : Nat → Bool} {n : Nat} {b : Bool} (h : b = f n) : bL f n ++ [b] = bL f (n + 1) := by
 subst h; simp [bL, List.range_succ]
theorem vG {f : Nat → Bool} {n i : Nat} (h : i < n) : (bL f n).getD i false = f i := by
 rw [List.getD_eq_getElem?_getD, List.getElem?_eq_getElem (by rw [qM]; exact h)]; simp [bL]
theorem Ax {k x i : Nat} (h : i < k) : decide ((aF k x).getD i 0 = 1) = x.testBit i := by
 rw [fC _ _ _ h, gE]
 cases x.testBit i <;> rfl
def vH (kB : List Bool) (cO : List Int) (x : Nat) : Prop := ∀ j, j < cO.length → kB.getD (cO.getD j 0).toNat false = x.testBit j
noncomputable instance (kB : List Bool) (cO : List Int) (x : Nat) : Decidable (vH kB cO x) := Classical.propDecidable _
def xj (ws : List Int) (u : U3) (i : Nat) : List Nat := (List.range i).map fun j => dK (ws.getD j 0) (u.get j)
theorem sH (ws : List Int) (u : U3) (i : Nat) : (xj ws u i).length = i := by simp [xj]
theorem Ay (ws : List Int) (u : U3) (i : Nat) : xj ws u (i + 1) = xj ws u i ++ [dK (ws.getD i 0) (u.get i)] := by simp [xj, List.range_succ]
theorem nT {ws : List Int} {u : U3} {i j : Nat} (h : j < i) : (xj ws u i).getD j 0 = dK (ws.getD j 0) (u.get j) := by
 rw [List.getD_eq_getElem?_getD, List.getElem?_eq_getElem (by rw [sH]; exact h)]; simp [xj]
def xk (ws : List Int) (u : U3) : Nat → List Bool
 | 0 => []
 | i + 1 => xk ws u i ++ bL (dK (ws.getD i 0) (u.get i)).testBit (aM (ws.getD i 0))
theorem mi {w : Int} (h : cw w) : aM w = w.toNat := by unfold cw at h; unfold aM; rw [if_neg om, if_neg om]
theorem p9 {ws : List Int} {u : U3} (h : ∀ w ∈ ws, cw w) : ∀ i, i ≤ ws.length → (xk ws u i).length = fh ws i
 | 0, _ => rfl
 | i + 1, hi => by
  have h1 := mi (h (ws.getD i 0) (getD_in om))
  rw [xk, List.length_append, p9 h i om, qM, fh, h1]
theorem xm {ws : List Int} {u : U3} (h : ∀ w ∈ ws, cw w) {j k : Nat} (hk : k < (ws.getD j 0).toNat) : ∀ i, j < i → i ≤ ws.length → (xk ws u i).getD (fh ws j + k) false = (dK (ws.getD j 0) (u.get j)).testBit k
 | 0, h0, _ => by omega
 | i + 1, hj, hi => by
  have hl := p9 (u := u) h i om
  rw [xk]
  rcases Nat.lt_or_ge j i with h1 | h1
  ·have hm := km (ws := ws) (i := j + 1) (j := i) om
   simp only [fh] at hm
   rw [List.getD_eq_getElem?_getD, List.getElem?_append_left om, ← List.getD_eq_getElem?_getD]
   exact xm h hk i h1 om
  ·obtain rfl : j = i := by omega
   have nq := mi (h (ws.getD j 0) (getD_in om))
   rw [List.getD_eq_getElem?_getD, List.getElem?_append_right om, hl, show fh ws j + k - fh ws j = k by omega, ← List.getD_eq_getElem?_getD]
   exact vG om
theorem CY {ws : List Int} {u : U3} (h : ∀ w ∈ ws, cw w) {j : Nat} (hj : j < ws.length) : y0 (fh ws j) (ws.getD j 0).toNat (xk ws u ws.length) = dK (ws.getD j 0) (u.get j) := by
 have nq := mi (h (ws.getD j 0) (getD_in hj))
 have gM := nD (ws.getD j 0) (u.get j)
 rw [nq] at gM
 exact fX gM fun k hk => (xm h hk ws.length hj (Nat.le_refl _)).symm
def BK (op width : Int) (ws : List Int) (a : List Nat) : Nat := fN op (ws.getD 0 0).toNat width.toNat (a.getD 0 0) (a.getD 1 0) (a.getD 2 0)
theorem CZ {op : Int} {w width x y z z' : Nat} (h : (2 ≤ op ∧ op ≤ 3) ∨ (9 ≤ op ∧ op ≤ 20)) : fN op w width x y z = fN op w width x y z' := by
 unfold fN
 simp only [show ¬ op = 21 by omega, if_false]
theorem Da {op : Int} {w width x y y' z z' : Nat} (h : 22 ≤ op ∧ op ≤ 24) : fN op w width x y z = fN op w width x y' z' := by
 have : op = 22 ∨ op = 23 ∨ op = 24 := by omega
 rcases this with rfl | rfl | rfl <;> simp [fN]
theorem jJ.num {op : Int} {ws : List Int} {width : Int} {l : List Gate} {out : List Int} {e : Int} {u : U3} (h : jJ op ws width l out e) (hd : ko op ws width) :
  ∀ j, j < out.length → (outs l (xk ws u ws.length) l.length).getD (out.getD j 0).toNat false = (BK op width ws (xj ws u ws.length)).testBit j ∧ BK op width ws (xj ws u ws.length) < 2 ^ width.toNat := by
 rcases h with ⟨h, _⟩ | ⟨_, h, _⟩ | ⟨_, hc, _, _, _, hr⟩
 ·exact absurd hd.1 h
 ·exact absurd hd.2 h
 ·intro j hj
  have mu := hr.len
  have hb := (hr.bit j om).v (xk ws u ws.length)
  have gM := hr.lt (xk ws u ws.length)
  unfold val at hb
  rw [hb]
  obtain ⟨hw, uP, h0, hl, hf⟩ := hc
  have tj := qK h0 hl
  have tz := fun {j : Nat} (hj : j < ws.length) => CY (u := u) hw hj
  have e0 := tz (j := 0) om
  rw [show fh ws 0 = 0 from rfl] at e0
  have e1 : fN op (ws.getD 0 0).toNat width.toNat (y0 0 (ws.getD 0 0).toNat (xk ws u ws.length)) (y0 (fh ws 1) (ws.getD 1 0).toNat (xk ws u ws.length)) (y0 (fh ws 2) (ws.getD 2 0).toNat (xk ws u ws.length)) = BK op width ws (xj ws u ws.length) := by
   unfold BK
   rw [e0, nT om]
   rcases tj with ⟨h1, h2⟩ | ⟨h1, h2⟩ | ⟨h1, h2⟩
   ·rw [tz (j := 1) om, nT (j := 1) om]; exact CZ h1
   ·rw [tz (j := 1) om, nT (j := 1) om, tz (j := 2) om, nT (j := 2) om]
   ·exact Da h1
  rw [e1] at gM ⊢
  exact ⟨rfl, gM⟩
theorem jJ.shown {op : Int} {ws : List Int} {width : Int} {l : List Gate} {out : List Int} {e : Int} {u : U3} (h : jJ op ws width l out e) (hd : ko op ws width) :
  vH (outs l (xk ws u ws.length) l.length) out (BK op width ws (xj ws u ws.length)) := fun j hj => (h.num hd j hj).1
theorem jJ.small {op : Int} {ws : List Int} {width : Int} {l : List Gate} {out : List Int} {e : Int} {u : U3} (h : jJ op ws width l out e) (hd : ko op ws width) (ho : (out.length : Int) = width) :
  BK op width ws (xj ws u ws.length) < 18446744073709551616 := by
 have hw := hd.2.2.1
 unfold cw at hw
 have h1 := (h.num (u := u) hd 0 om).2
 have h2 := dX width.toNat om
 omega
theorem FL {ws : List Int} {u : U3} (h : ∀ w ∈ ws, cw w) : ∀ j, j < ws.length → (xj ws u ws.length).getD j 0 < 2 ^ (ws.getD j 0).toNat := fun j hj => by
 have h1 := nD (ws.getD j 0) (u.get j)
 rw [mi (h _ (getD_in hj))] at h1
 rw [nT hj]; exact h1
open Go Go.AW Go.Proofs
section
variable {H : Type} {enc : TypeId × Value → H} {W : World} {base : Nat}
theorem LI : Reads enc Try.prog W base 82 U3.row U3.Ok (fun _ => 0) :=
 (Reads.Lr Try.underlying82 HX ba Cp).map (fun x => (⟨x.1, x.2.1, x.2.2⟩ : U3)) (fun _ => rfl) (fun _ h => by obtain ⟨h1, h2, h3⟩ := h; exact ⟨h1, h2, h3⟩) (fun _ => Nat.zero_le _)
end
open Go Go.AW Go.Proofs
theorem gf : TY.jY Try.prog 100 0 = some (0, 3) := by kernel_rfl
theorem bT : TY.jY Try.prog 100 2 = some (2, 3) := by kernel_rfl
theorem ij : TY.jY Try.prog 100 3 = some (3, 3) := by kernel_rfl
theorem ik : TY.jY Try.prog 100 4 = some (4, 3) := by kernel_rfl
theorem bz : TY.jY Try.prog 100 5 = some (5, 3) := by kernel_rfl
theorem Db : TY.jY Try.prog 128 0 = some (0, 9) := by kernel_rfl
theorem sI : TY.jY Try.prog 128 1 = some (1, 3) := by kernel_rfl
theorem xn : TY.jY Try.prog 128 2 = some (2, 3) := by kernel_rfl
theorem Dc : TY.jY Try.prog 128 3 = some (3, 3) := by kernel_rfl
theorem Dd : TY.jY Try.prog 128 4 = some (4, 3) := by kernel_rfl
theorem De : TY.jY Try.prog 130 0 = some (0, 9) := by kernel_rfl
theorem sJ : TY.jY Try.prog 130 1 = some (1, 3) := by kernel_rfl
theorem jK : TY.jY Try.prog 130 2 = some (2, 4) := by kernel_rfl
theorem gg : TY.jY Try.prog 152 0 = some (0, 27) := by kernel_rfl
theorem FM : TY.jY Try.prog 27 0 = some (0, 9) := by kernel_rfl
theorem gh : TY.jY Try.prog 27 1 = some (1, 22) := by kernel_rfl
theorem Df : TY.jY Try.prog 27 10 = some (10, 22) := by kernel_rfl
theorem gY : TY.jY Try.prog 27 2 = some (2, 23) := by kernel_rfl
theorem qN : TY.jY Try.prog 27 3 = some (3, 22) := by kernel_rfl
theorem oE : TY.jY Try.prog 27 4 = some (4, 24) := by kernel_rfl
theorem iM : TY.jY Try.prog 27 5 = some (5, 25) := by kernel_rfl
theorem vI : TY.jY Try.prog 27 6 = some (6, 22) := by kernel_rfl
theorem qO : TY.jY Try.prog 27 7 = some (7, 22) := by kernel_rfl
theorem vJ : TY.jY Try.prog 27 8 = some (8, 3) := by kernel_rfl
theorem vK : TY.jY Try.prog 27 9 = some (9, 3) := by kernel_rfl
theorem jS : TY.jY Try.prog 73 0 = some (0, 3) := by kernel_rfl
theorem eG : TY.jY Try.prog 73 1 = some (1, 3) := by kernel_rfl
theorem lJ : TY.jY Try.prog 73 2 = some (2, 3) := by kernel_rfl
theorem eH : TY.jY Try.prog 73 3 = some (3, 22) := by kernel_rfl
theorem ep : TY.jY Try.prog 73 4 = some (4, 66) := by kernel_rfl
theorem cY : TY.jY Try.prog 73 5 = some (5, 3) := by kernel_rfl
theorem I1 : TY.isInt Try.prog 232 = some .u64 := by kernel_rfl
theorem y5 : TY.isInt Try.prog 3 = some .i64 := by kernel_rfl
theorem I2 : TY.isInt Try.prog 5 = some .u8 := by kernel_rfl
theorem sK : TY.isInt Try.prog 66 = some .u64 := by kernel_rfl
theorem I3 : aG Try.prog 108 = true := by kernel_rfl
theorem I4 : aG Try.prog 109 = true := by kernel_rfl
theorem qP : aG Try.prog 117 = true := by kernel_rfl
theorem ug : aG Try.prog 118 = true := by kernel_rfl
theorem Az : aG Try.prog 123 = true := by kernel_rfl
theorem I5 : aG Try.prog 153 = true := by kernel_rfl
theorem AA : aG Try.prog 154 = true := by kernel_rfl
theorem AB : aG Try.prog 155 = true := by kernel_rfl
theorem qQ : aG Try.prog 156 = true := by kernel_rfl
theorem Eb : aG Try.prog 157 = true := by kernel_rfl
theorem I6 : aG Try.prog 158 = true := by kernel_rfl
theorem I7 : aG Try.prog 159 = true := by kernel_rfl
theorem I8 : aG Try.prog 160 = true := by kernel_rfl
theorem I9 : aG Try.prog 161 = true := by kernel_rfl
theorem IA : aG Try.prog 162 = true := by kernel_rfl
theorem IB : aG Try.prog 163 = true := by kernel_rfl
theorem IC : aG Try.prog 164 = true := by kernel_rfl
theorem ID : aG Try.prog 167 = true := by kernel_rfl
theorem uh : aG Try.prog 174 = true := by kernel_rfl
theorem IE : aG Try.prog 184 = true := by kernel_rfl
theorem IF : aG Try.prog 185 = true := by kernel_rfl
theorem AD : aG Try.prog 186 = true := by kernel_rfl
theorem IG : aG Try.prog 187 = true := by kernel_rfl
theorem IH : aG Try.prog 188 = true := by kernel_rfl
theorem II : aG Try.prog 189 = true := by kernel_rfl
theorem IJ : aG Try.prog 190 = true := by kernel_rfl
theorem IK : aG Try.prog 194 = true := by kernel_rfl
theorem IL : aG Try.prog 197 = true := by kernel_rfl
theorem LJ : aG Try.prog 42 = true := by kernel_rfl
theorem LK : aG Try.prog 44 = true := by kernel_rfl
theorem LL : aG Try.prog 52 = true := by kernel_rfl
theorem IM : aG Try.prog 62 = true := by kernel_rfl
theorem FN : aG Try.prog 72 = true := by kernel_rfl
theorem FO : aG Try.prog 73 = true := by kernel_rfl
theorem sL : aG Try.prog 80 = true := by kernel_rfl
theorem sM : aG Try.prog 81 = true := by kernel_rfl
theorem LM : aG Try.prog 86 = true := by kernel_rfl
theorem LN : aG Try.prog 87 = true := by kernel_rfl
theorem IN : aG Try.prog 88 = true := by kernel_rfl
theorem FP : aG Try.prog 93 = true := by kernel_rfl
theorem oZ : TY.jP Try.prog 100 = some [(0, 1), (1, 1), (2, 1), (3, 1), (4, 1), (5, 1)] := by kernel_rfl
theorem FQ : TY.jP Try.prog 73 = some [(0, 1), (1, 1), (2, 1), (3, 1), (4, 1), (5, 1)] := by kernel_rfl
theorem cA : TY.shape Try.prog 100 = some (some 6) := by kernel_rfl
theorem IP : TY.shape Try.prog 128 = some (some 5) := by kernel_rfl
theorem Ec : TY.shape Try.prog 130 = some (some 3) := by kernel_rfl
theorem dr : TY.shape Try.prog 22 = some none := by kernel_rfl
theorem pg : TY.shape Try.prog 23 = some none := by kernel_rfl
theorem xV : TY.shape Try.prog 24 = some none := by kernel_rfl
theorem ph : TY.shape Try.prog 25 = some none := by kernel_rfl
theorem xW : TY.shape Try.prog 27 = some (some 11) := by kernel_rfl
theorem bg : TY.shape Try.prog 3 = some none := by kernel_rfl
theorem r9 : TY.shape Try.prog 4 = some none := by kernel_rfl
theorem fo : TY.shape Try.prog 66 = some none := by kernel_rfl
theorem sN : TY.shape Try.prog 73 = some (some 6) := by kernel_rfl
theorem LO : TY.shape Try.prog 9 = some none := by kernel_rfl
theorem vL : TY.shape Try.prog 98 = some none := by kernel_rfl
theorem bQ : TY.size Try.prog 100 = some 6 := by kernel_rfl
theorem IQ : TY.size Try.prog 128 = some 5 := by kernel_rfl
theorem Ed : TY.size Try.prog 130 = some 3 := by kernel_rfl
theorem Dg : TY.size Try.prog 22 = some 1 := by kernel_rfl
theorem FT : TY.size Try.prog 23 = some 1 := by kernel_rfl
theorem dh : TY.size Try.prog 3 = some 1 := by kernel_rfl
theorem Pe : TY.size Try.prog 4 = some 1 := by kernel_rfl
theorem Dh : TY.size Try.prog 73 = some 6 := by kernel_rfl
theorem LP : TY.size Try.prog 98 = some 1 := by kernel_rfl
theorem jy : TY.slice Try.prog 105 = some (22, 1, 24) := by kernel_rfl
theorem a7 : TY.slice Try.prog 22 = some (3, 1, 8) := by kernel_rfl
theorem kq : TY.slice Try.prog 23 = some (73, 6, 64) := by kernel_rfl
theorem vM : TY.slice Try.prog 24 = some (128, 5, 48) := by kernel_rfl
theorem nU : TY.slice Try.prog 25 = some (130, 3, 32) := by kernel_rfl
theorem ja : TY.slice Try.prog 62 = some (4, 1, 1) := by kernel_rfl
theorem LQ : Try.prog.underlying 4 = some .bool := by kernel_rfl
theorem Kt : Try.prog.underlying 9 = some .string := by kernel_rfl
theorem jL : TY.zero Try.prog 100 = some [.int .i64 0, .int .i64 0, .int .i64 0, .int .i64 0, .int .i64 0, .int .i64 0] := by kernel_rfl
theorem IS : TY.zero Try.prog 128 = some [.string ByteArray.empty, .int .i64 0, .int .i64 0, .int .i64 0, .int .i64 0] := by kernel_rfl
theorem Ee : TY.zero Try.prog 130 = some [.string ByteArray.empty, .int .i64 0, .bool false] := by kernel_rfl
theorem Di : TY.zero Try.prog 22 = some [.slice none 0 0] := by kernel_rfl
theorem er : TY.zero Try.prog 3 = some [.int .i64 0] := by kernel_rfl
theorem FU : TY.zero Try.prog 4 = some [.bool false] := by kernel_rfl
theorem oF : TY.zero Try.prog 73 = some [.int .i64 0, .int .i64 0, .int .i64 0, .slice none 0 0, .int .u64 0, .int .i64 0] := by kernel_rfl
theorem LR : TY.zero Try.prog 98 = some [.nilFunc] := by kernel_rfl
open Go Go.AW Go.Proofs
theorem IT : TY.array Try.prog 81 = some (2, 5, 1) := by kernel_rfl
theorem LS : TY.array Try.prog 82 = some (3, 66, 1) := by kernel_rfl
theorem dD : TY.jY Try.prog 114 0 = some (0, 3) := by kernel_rfl
theorem fE : TY.jY Try.prog 114 1 = some (1, 3) := by kernel_rfl
theorem dg : TY.jY Try.prog 114 2 = some (2, 3) := by kernel_rfl
theorem pA : TY.jY Try.prog 159 0 = some (0, 85) := by kernel_rfl
theorem jM : TY.jY Try.prog 221 0 = some (0, 3) := by kernel_rfl
theorem jb : TY.jY Try.prog 221 1 = some (1, 3) := by kernel_rfl
theorem Pf : TY.isInt Try.prog 2 = some .i64 := by kernel_rfl
theorem Ef : aG Try.prog 124 = true := by kernel_rfl
theorem qR : aG Try.prog 125 = true := by kernel_rfl
theorem IU : aG Try.prog 126 = true := by kernel_rfl
theorem IV : aG Try.prog 127 = true := by kernel_rfl
theorem AE : aG Try.prog 128 = true := by kernel_rfl
theorem AF : aG Try.prog 129 = true := by kernel_rfl
theorem Eg : aG Try.prog 130 = true := by kernel_rfl
theorem xo : aG Try.prog 131 = true := by kernel_rfl
theorem IW : aG Try.prog 132 = true := by kernel_rfl
theorem AG : aG Try.prog 133 = true := by kernel_rfl
theorem Eh : aG Try.prog 134 = true := by kernel_rfl
theorem IX : aG Try.prog 136 = true := by kernel_rfl
theorem AH : aG Try.prog 137 = true := by kernel_rfl
theorem Ei : aG Try.prog 138 = true := by kernel_rfl
theorem rZ : aG Try.prog 139 = true := by kernel_rfl
theorem xp : aG Try.prog 140 = true := by kernel_rfl
theorem Ej : aG Try.prog 142 = true := by kernel_rfl
theorem ui : aG Try.prog 143 = true := by kernel_rfl
theorem sa : aG Try.prog 175 = true := by kernel_rfl
theorem Ek : aG Try.prog 176 = true := by kernel_rfl
theorem IY : aG Try.prog 177 = true := by kernel_rfl
theorem AI : aG Try.prog 178 = true := by kernel_rfl
theorem IZ : aG Try.prog 179 = true := by kernel_rfl
theorem Ja : aG Try.prog 195 = true := by kernel_rfl
theorem El : aG Try.prog 198 = true := by kernel_rfl
theorem LU : aG Try.prog 30 = true := by kernel_rfl
theorem LV : aG Try.prog 31 = true := by kernel_rfl
theorem Jb : aG Try.prog 32 = true := by kernel_rfl
theorem LW : aG Try.prog 33 = true := by kernel_rfl
theorem LX : aG Try.prog 34 = true := by kernel_rfl
theorem xX : aG Try.prog 35 = true := by kernel_rfl
theorem Jc : aG Try.prog 36 = true := by kernel_rfl
theorem Jd : aG Try.prog 37 = true := by kernel_rfl
theorem LY : aG Try.prog 38 = true := by kernel_rfl
theorem LZ : aG Try.prog 39 = true := by kernel_rfl
theorem Ma : aG Try.prog 40 = true := by kernel_rfl
theorem Mb : aG Try.prog 74 = true := by kernel_rfl
theorem Mc : aG Try.prog 75 = true := by kernel_rfl
theorem Md : aG Try.prog 76 = true := by kernel_rfl
theorem Me : aG Try.prog 77 = true := by kernel_rfl
theorem Mf : aG Try.prog 78 = true := by kernel_rfl
theorem Mg : aG Try.prog 79 = true := by kernel_rfl
theorem FV : aG Try.prog 82 = true := by kernel_rfl
theorem Mh : aG Try.prog 83 = true := by kernel_rfl
theorem sO : aG Try.prog 95 = true := by kernel_rfl
theorem rA : aG Try.prog 96 = true := by kernel_rfl
theorem FW : aG Try.prog 97 = true := by kernel_rfl
theorem Je : TY.jP Try.prog 114 = some [(0, 1), (1, 1), (2, 1)] := by kernel_rfl
theorem Jf : TY.jP Try.prog 152 = some [(0, 11)] := by kernel_rfl
theorem Jg : TY.jP Try.prog 159 = some [(0, 1)] := by kernel_rfl
theorem xq : TY.jP Try.prog 221 = some [(0, 1), (1, 1)] := by kernel_rfl
theorem Em : TY.shape Try.prog 114 = some (some 3) := by kernel_rfl
theorem AJ : TY.shape Try.prog 221 = some (some 2) := by kernel_rfl
theorem Pg : TY.shape Try.prog 5 = some none := by kernel_rfl
theorem Mi : TY.shape Try.prog 81 = some (some 2) := by kernel_rfl
theorem FX : TY.shape Try.prog 85 = some none := by kernel_rfl
theorem En : TY.size Try.prog 114 = some 3 := by kernel_rfl
theorem xr : TY.size Try.prog 221 = some 2 := by kernel_rfl
theorem Mj : TY.size Try.prog 85 = some 1 := by kernel_rfl
theorem cV : TY.slice Try.prog 219 = some (221, 2, 16) := by kernel_rfl
theorem rB : TY.slice Try.prog 28 = some (66, 1, 8) := by kernel_rfl
theorem qS : TY.slice Try.prog 85 = some (114, 3, 24) := by kernel_rfl
theorem uj : TY.zero Try.prog 114 = some [.int .i64 0, .int .i64 0, .int .i64 0] := by kernel_rfl
theorem Jh : TY.zero Try.prog 152 = some [.string ByteArray.empty, .slice none 0 0, .slice none 0 0, .slice none 0 0, .slice none 0 0, .slice none 0 0, .slice none 0 0, .slice none 0 0, .int .i64 0, .int .i64 0, .slice none 0 0] := by kernel_rfl
theorem Ji : TY.zero Try.prog 159 = some [.slice none 0 0] := by kernel_rfl
theorem gr : TY.zero Try.prog 221 = some [.int .i64 0, .int .i64 0] := by kernel_rfl
theorem Jj : TY.zero Try.prog 66 = some [.int .u64 0] := by kernel_rfl
open Go Go.AW Go.Proofs
theorem oG {w : Int} : ak Try.prog 155 [vi w] [] [] (fun r o => r = .v (.bool (decide (cw w))) ∧ o = []) := by
 refine ak.of Try.func155 rfl rfl rfl (n := 9) ag (bN rfl) (.sr ?_)
 refine .an ?_
 refine .nil (.sr ?_)
 refine .mv ?_
 refine .vl (Y.qp rfl rfl) ?_
 refine .mv ?_
 refine .ax (d := 5) rfl (fun c5 => ?_) (fun c5 => ?_)
 refine .gw 5 (Y.zf rfl rfl) (.gw 5 (Y.qy rfl rfl) ?_)
 refine .pk ?_
 refine .an ?_
 refine .nil (.ret ?_)
 exact .rb rfl (dd (by (simp only [cw]) <;> (first | omega | grind)))
 refine .gz 5 (.gz 5 ?_)
 refine .pk ?_
 refine .an ?_
 refine .nil (.ret ?_)
 exact .rb rfl (df (by (simp only [cw]) <;> (first | omega | grind)))
theorem mW {s : ByteArray} (hs : s.size ≤ 140737488351232) : ak Try.prog 154 [.v (.string s)] [] [] (fun r o => r = .v (.bool (decide (oW s))) ∧ o = []) := by
 refine ak.of Try.func154 rfl rfl rfl (n := 44) ag (bN rfl) (.sr ?_)
 refine .an ?_
 refine .nil (.seq (.sr ?_))
 refine .mv ?_
 refine .vl (Y.qx Kt rfl) ?_
 refine .mv ?_
 refine .nil (.block ?_)
 refine .jD (fun (bD : Nat) => ⟨[(0, .v (.string s)), (6, vi s.size), (7, vi bD)], []⟩) (fun bD => ((bD : Int) ≤ (s.size : Int)) ∧ (∀ j, j < bD → jr (bl s j))) (fun bD => ((s.size : Int) - (bD : Int)).toNat) 0 (⟨om, by intro j h; omega⟩) (Le.mk (.c2 (.cons (ai rfl aZ) .nil)) .nil) (fun bD xC => ?_)
 obtain ⟨yv, hb⟩ := xC
 refine .sr (.vl (Y.zb rfl rfl) (.nil ?_))
 refine .seq ?_
 refine .ay rfl (fun c8 => ?_) (fun c8 => ?_)
 refine .skip ?_
 refine .pR (⟨[(0, .v (.string s)), (6, vi s.size), (7, vi bD)], []⟩) (((97 ≤ ((bl s bD : Nat) : Int)) ∧ (((bl s bD : Nat) : Int) ≤ 122)) ∨ ((97 ≤ ((bl s bD : Nat) : Int)) ∧ (¬ (((bl s bD : Nat) : Int) ≤ 122)) ∧ (65 ≤ ((bl s bD : Nat) : Int)) ∧ (((bl s bD : Nat) : Int) ≤ 90)) ∨ ((97 ≤ ((bl s bD : Nat) : Int)) ∧ (¬ (((bl s bD : Nat) : Int) ≤ 122)) ∧ (65 ≤ ((bl s bD : Nat) : Int)) ∧ (¬ (((bl s bD : Nat) : Int) ≤ 90)) ∧ (48 ≤ ((bl s bD : Nat) : Int)) ∧ (((bl s bD : Nat) : Int) ≤ 57)) ∨ ((97 ≤ ((bl s bD : Nat) : Int)) ∧ (¬ (((bl s bD : Nat) : Int) ≤ 122)) ∧ (65 ≤ ((bl s bD : Nat) : Int)) ∧ (¬ (((bl s bD : Nat) : Int) ≤ 90)) ∧ (48 ≤ ((bl s bD : Nat) : Int)) ∧ (¬ (((bl s bD : Nat) : Int) ≤ 57)) ∧ (((bl s bD : Nat) : Int) = 95)) ∨ ((97 ≤ ((bl s bD : Nat) : Int)) ∧ (¬ (((bl s bD : Nat) : Int) ≤ 122)) ∧ (65 ≤ ((bl s bD : Nat) : Int)) ∧ (¬ (((bl s bD : Nat) : Int) ≤ 90)) ∧ (¬ (48 ≤ ((bl s bD : Nat) : Int))) ∧ (((bl s bD : Nat) : Int) = 95)) ∨ ((97 ≤ ((bl s bD : Nat) : Int)) ∧ (¬ (((bl s bD : Nat) : Int) ≤ 122)) ∧ (¬ (65 ≤ ((bl s bD : Nat) : Int))) ∧ (48 ≤ ((bl s bD : Nat) : Int)) ∧ (((bl s bD : Nat) : Int) ≤ 57)) ∨ ((97 ≤ ((bl s bD : Nat) : Int)) ∧ (¬ (((bl s bD : Nat) : Int) ≤ 122)) ∧ (¬ (65 ≤ ((bl s bD : Nat) : Int))) ∧ (48 ≤ ((bl s bD : Nat) : Int)) ∧ (¬ (((bl s bD : Nat) : Int) ≤ 57)) ∧ (((bl s bD : Nat) : Int) = 95)) ∨ ((97 ≤ ((bl s bD : Nat) : Int)) ∧ (¬ (((bl s bD : Nat) : Int) ≤ 122)) ∧ (¬ (65 ≤ ((bl s bD : Nat) : Int))) ∧ (¬ (48 ≤ ((bl s bD : Nat) : Int))) ∧ (((bl s bD : Nat) : Int) = 95)) ∨ ((¬ (97 ≤ ((bl s bD : Nat) : Int))) ∧ (65 ≤ ((bl s bD : Nat) : Int)) ∧ (((bl s bD : Nat) : Int) ≤ 90)) ∨ ((¬ (97 ≤ ((bl s bD : Nat) : Int))) ∧ (65 ≤ ((bl s bD : Nat) : Int)) ∧ (¬ (((bl s bD : Nat) : Int) ≤ 90)) ∧ (48 ≤ ((bl s bD : Nat) : Int)) ∧ (((bl s bD : Nat) : Int) ≤ 57)) ∨ ((¬ (97 ≤ ((bl s bD : Nat) : Int))) ∧ (65 ≤ ((bl s bD : Nat) : Int)) ∧ (¬ (((bl s bD : Nat) : Int) ≤ 90)) ∧ (48 ≤ ((bl s bD : Nat) : Int)) ∧ (¬ (((bl s bD : Nat) : Int) ≤ 57)) ∧ (((bl s bD : Nat) : Int) = 95)) ∨ ((¬ (97 ≤ ((bl s bD : Nat) : Int))) ∧ (65 ≤ ((bl s bD : Nat) : Int)) ∧ (¬ (((bl s bD : Nat) : Int) ≤ 90)) ∧ (¬ (48 ≤ ((bl s bD : Nat) : Int))) ∧ (((bl s bD : Nat) : Int) = 95)) ∨ ((¬ (97 ≤ ((bl s bD : Nat) : Int))) ∧ (¬ (65 ≤ ((bl s bD : Nat) : Int))) ∧ (48 ≤ ((bl s bD : Nat) : Int)) ∧ (((bl s bD : Nat) : Int) ≤ 57)) ∨ ((¬ (97 ≤ ((bl s bD : Nat) : Int))) ∧ (¬ (65 ≤ ((bl s bD : Nat) : Int))) ∧ (48 ≤ ((bl s bD : Nat) : Int)) ∧ (¬ (((bl s bD : Nat) : Int) ≤ 57)) ∧ (((bl s bD : Nat) : Int) = 95)) ∨ ((¬ (97 ≤ ((bl s bD : Nat) : Int))) ∧ (¬ (65 ≤ ((bl s bD : Nat) : Int))) ∧ (¬ (48 ≤ ((bl s bD : Nat) : Int))) ∧ (((bl s bD : Nat) : Int) = 95))) ?_ (fun Ku => ?_)
 refine .block (.sr ?_)
 refine .mv ?_
 refine .an ?_
 refine .nil (.sr ?_)
 refine .mv ?_
 refine .mv ?_
 refine .vl (Y.qv (m := bD) Kt rfl rfl aZ om) ?_
 refine .an ?_
 refine .nil (.sr ?_)
 refine .mv ?_
 refine .vl (Y.qp rfl rfl) ?_
 refine .mv ?_
 refine .ax (d := 15) rfl (fun pB => ?_) (fun pB => ?_)
 refine .gw 15 (Y.zf rfl rfl) (.gw 15 (Y.qy rfl rfl) ?_)
 refine .pk ?_
 refine .mv ?_
 refine .ax (d := 19) rfl (fun sP => ?_) (fun sP => ?_)
 refine .gz 19 (.gz 19 (.gz 19 ?_))
 refine .gz 22 (.gz 22 (.gz 19 ?_))
 refine .pk ?_
 refine .mv ?_
 refine .gz 27 (.gz 27 (.gz 27 ?_))
 refine .gz 30 (.gz 30 (.gz 27 ?_))
 refine .pk ?_
 refine .mv ?_
 refine .gz 35 (.gz 35 ?_)
 refine .pk ?_
 refine .vl (Y.zo rfl) (.nil (.cj rfl ?_))
 refine .skip (⟨.inl ⟨pB, sP⟩, Le.mk (.c2 (.c .nil)) .nil⟩)
 refine .gw 19 (Y.zf rfl rfl) (.gw 19 (Y.qp rfl rfl) (.gw 19 (Y.zf rfl rfl) ?_))
 refine .ax (d := 22) rfl (fun mj => ?_) (fun mj => ?_)
 refine .gw 22 (Y.zf rfl rfl) (.gw 22 (Y.qy rfl rfl) (.gw 19 (Y.zp rfl rfl rfl) ?_))
 refine .pk ?_
 refine .mv ?_
 refine .ax (d := 27) rfl (fun AK => ?_) (fun AK => ?_)
 refine .gz 27 (.gz 27 (.gz 27 ?_))
 refine .gz 30 (.gz 30 (.gz 27 ?_))
 refine .pk ?_
 refine .mv ?_
 refine .gz 35 (.gz 35 ?_)
 refine .pk ?_
 refine .vl (Y.zo rfl) (.nil (.cj rfl ?_))
 refine .skip (⟨.inr (.inl ⟨pB, sP, mj, AK⟩), Le.mk (.c2 (.c .nil)) .nil⟩)
 refine .gw 27 (Y.zf rfl rfl) (.gw 27 (Y.qp rfl rfl) (.gw 27 (Y.zf rfl rfl) ?_))
 refine .ax (d := 30) rfl (fun nt => ?_) (fun nt => ?_)
 refine .gw 30 (Y.zf rfl rfl) (.gw 30 (Y.qy rfl rfl) (.gw 27 (Y.zp rfl rfl rfl) ?_))
 refine .pk ?_
 refine .mv ?_
 refine .ax (d := 35) rfl (fun qT => ?_) (fun qT => ?_)
 refine .gz 35 (.gz 35 ?_)
 refine .pk ?_
 refine .vl (Y.zo rfl) (.nil (.cj rfl ?_))
 refine .skip (⟨.inr (.inr (.inl ⟨pB, sP, mj, AK, nt, qT⟩)), Le.mk (.c2 (.c .nil)) .nil⟩)
 refine .gw 35 (Y.zf rfl rfl) (.gw 35 (Y.ql rfl rfl) ?_)
 refine .pk ?_
 refine .vl (Y.zo rfl) (.nil ?_)
 refine .jC rfl (fun oH => ?_) (fun oH => ?_)
 refine .sr ?_
 refine .an ?_
 refine .nil (.ret ?_)
 exact .rb rfl (df (fun h => by have h1 := h.1 bD om; unfold jr at h1; omega))
 refine .skip (⟨.inr (.inr (.inr (.inl ⟨pB, sP, mj, AK, nt, qT, oH⟩))), Le.mk (.c2 (.c .nil)) .nil⟩)
 refine .gz 30 (.gz 30 (.gw 27 (Y.zp rfl rfl rfl) ?_))
 refine .pk ?_
 refine .mv ?_
 refine .gw 35 (Y.zf rfl rfl) (.gw 35 (Y.ql rfl rfl) ?_)
 refine .pk ?_
 refine .vl (Y.zo rfl) (.nil ?_)
 refine .jC rfl (fun oH => ?_) (fun oH => ?_)
 refine .sr ?_
 refine .an ?_
 refine .nil (.ret ?_)
 exact .rb rfl (df (fun h => by have h1 := h.1 bD om; unfold jr at h1; omega))
 refine .skip (⟨.inr (.inr (.inr (.inr (.inl ⟨pB, sP, mj, AK, nt, oH⟩)))), Le.mk (.c2 (.c .nil)) .nil⟩)
 refine .gz 22 (.gz 22 (.gw 19 (Y.zp rfl rfl rfl) ?_))
 refine .pk ?_
 refine .mv ?_
 refine .gw 27 (Y.zf rfl rfl) (.gw 27 (Y.qp rfl rfl) (.gw 27 (Y.zf rfl rfl) ?_))
 refine .ax (d := 30) rfl (fun nt => ?_) (fun nt => ?_)
 refine .gw 30 (Y.zf rfl rfl) (.gw 30 (Y.qy rfl rfl) (.gw 27 (Y.zp rfl rfl rfl) ?_))
 refine .pk ?_
 refine .mv ?_
 refine .ax (d := 35) rfl (fun qT => ?_) (fun qT => ?_)
 refine .gz 35 (.gz 35 ?_)
 refine .pk ?_
 refine .vl (Y.zo rfl) (.nil (.cj rfl ?_))
 refine .skip (⟨.inr (.inr (.inr (.inr (.inr (.inl ⟨pB, sP, mj, nt, qT⟩))))), Le.mk (.c2 (.c .nil)) .nil⟩)
 refine .gw 35 (Y.zf rfl rfl) (.gw 35 (Y.ql rfl rfl) ?_)
 refine .pk ?_
 refine .vl (Y.zo rfl) (.nil ?_)
 refine .jC rfl (fun oH => ?_) (fun oH => ?_)
 refine .sr ?_
 refine .an ?_
 refine .nil (.ret ?_)
 exact .rb rfl (df (fun h => by have h1 := h.1 bD om; unfold jr at h1; omega))
 refine .skip (⟨.inr (.inr (.inr (.inr (.inr (.inr (.inl ⟨pB, sP, mj, nt, qT, oH⟩)))))), Le.mk (.c2 (.c .nil)) .nil⟩)
 refine .gz 30 (.gz 30 (.gw 27 (Y.zp rfl rfl rfl) ?_))
 refine .pk ?_
 refine .mv ?_
 refine .gw 35 (Y.zf rfl rfl) (.gw 35 (Y.ql rfl rfl) ?_)
 refine .pk ?_
 refine .vl (Y.zo rfl) (.nil ?_)
 refine .jC rfl (fun oH => ?_) (fun oH => ?_)
 refine .sr ?_
 refine .an ?_
 refine .nil (.ret ?_)
 exact .rb rfl (df (fun h => by have h1 := h.1 bD om; unfold jr at h1; omega))
 refine .skip (⟨.inr (.inr (.inr (.inr (.inr (.inr (.inr (.inl ⟨pB, sP, mj, nt, oH⟩))))))), Le.mk (.c2 (.c .nil)) .nil⟩)
 refine .gz 15 (.gz 15 ?_)
 refine .pk ?_
 refine .mv ?_
 refine .gw 19 (Y.zf rfl rfl) (.gw 19 (Y.qp rfl rfl) (.gw 19 (Y.zf rfl rfl) ?_))
 refine .ax (d := 22) rfl (fun mj => ?_) (fun mj => ?_)
 refine .gw 22 (Y.zf rfl rfl) (.gw 22 (Y.qy rfl rfl) (.gw 19 (Y.zp rfl rfl rfl) ?_))
 refine .pk ?_
 refine .mv ?_
 refine .ax (d := 27) rfl (fun AK => ?_) (fun AK => ?_)
 refine .gz 27 (.gz 27 (.gz 27 ?_))
 refine .gz 30 (.gz 30 (.gz 27 ?_))
 refine .pk ?_
 refine .mv ?_
 refine .gz 35 (.gz 35 ?_)
 refine .pk ?_
 refine .vl (Y.zo rfl) (.nil (.cj rfl ?_))
 refine .skip (⟨.inr (.inr (.inr (.inr (.inr (.inr (.inr (.inr (.inl ⟨pB, mj, AK⟩)))))))), Le.mk (.c2 (.c .nil)) .nil⟩)
 refine .gw 27 (Y.zf rfl rfl) (.gw 27 (Y.qp rfl rfl) (.gw 27 (Y.zf rfl rfl) ?_))
 refine .ax (d := 30) rfl (fun nt => ?_) (fun nt => ?_)
 refine .gw 30 (Y.zf rfl rfl) (.gw 30 (Y.qy rfl rfl) (.gw 27 (Y.zp rfl rfl rfl) ?_))
 refine .pk ?_
 refine .mv ?_
 refine .ax (d := 35) rfl (fun qT => ?_) (fun qT => ?_)
 refine .gz 35 (.gz 35 ?_)
 refine .pk ?_
 refine .vl (Y.zo rfl) (.nil (.cj rfl ?_))
 refine .skip (⟨.inr (.inr (.inr (.inr (.inr (.inr (.inr (.inr (.inr (.inl ⟨pB, mj, AK, nt, qT⟩))))))))), Le.mk (.c2 (.c .nil)) .nil⟩)
 refine .gw 35 (Y.zf rfl rfl) (.gw 35 (Y.ql rfl rfl) ?_)
 refine .pk ?_
 refine .vl (Y.zo rfl) (.nil ?_)
 refine .jC rfl (fun oH => ?_) (fun oH => ?_)
 refine .sr ?_
 refine .an ?_
 refine .nil (.ret ?_)
 exact .rb rfl (df (fun h => by have h1 := h.1 bD om; unfold jr at h1; omega))
 refine .skip (⟨.inr (.inr (.inr (.inr (.inr (.inr (.inr (.inr (.inr (.inr (.inl ⟨pB, mj, AK, nt, qT, oH⟩)))))))))), Le.mk (.c2 (.c .nil)) .nil⟩)
 refine .gz 30 (.gz 30 (.gw 27 (Y.zp rfl rfl rfl) ?_))
 refine .pk ?_
 refine .mv ?_
 refine .gw 35 (Y.zf rfl rfl) (.gw 35 (Y.ql rfl rfl) ?_)
 refine .pk ?_
 refine .vl (Y.zo rfl) (.nil ?_)
 refine .jC rfl (fun oH => ?_) (fun oH => ?_)
 refine .sr ?_
 refine .an ?_
 refine .nil (.ret ?_)
 exact .rb rfl (df (fun h => by have h1 := h.1 bD om; unfold jr at h1; omega))
 refine .skip (⟨.inr (.inr (.inr (.inr (.inr (.inr (.inr (.inr (.inr (.inr (.inr (.inl ⟨pB, mj, AK, nt, oH⟩))))))))))), Le.mk (.c2 (.c .nil)) .nil⟩)
 refine .gz 22 (.gz 22 (.gw 19 (Y.zp rfl rfl rfl) ?_))
 refine .pk ?_
 refine .mv ?_
 refine .gw 27 (Y.zf rfl rfl) (.gw 27 (Y.qp rfl rfl) (.gw 27 (Y.zf rfl rfl) ?_))
 refine .ax (d := 30) rfl (fun nt => ?_) (fun nt => ?_)
 refine .gw 30 (Y.zf rfl rfl) (.gw 30 (Y.qy rfl rfl) (.gw 27 (Y.zp rfl rfl rfl) ?_))
 refine .pk ?_
 refine .mv ?_
 refine .ax (d := 35) rfl (fun qT => ?_) (fun qT => ?_)
 refine .gz 35 (.gz 35 ?_)
 refine .pk ?_
 refine .vl (Y.zo rfl) (.nil (.cj rfl ?_))
 refine .skip (⟨.inr (.inr (.inr (.inr (.inr (.inr (.inr (.inr (.inr (.inr (.inr (.inr (.inl ⟨pB, mj, nt, qT⟩)))))))))))), Le.mk (.c2 (.c .nil)) .nil⟩)
 refine .gw 35 (Y.zf rfl rfl) (.gw 35 (Y.ql rfl rfl) ?_)
 refine .pk ?_
 refine .vl (Y.zo rfl) (.nil ?_)
 refine .jC rfl (fun oH => ?_) (fun oH => ?_)
 refine .sr ?_
 refine .an ?_
 refine .nil (.ret ?_)
 exact .rb rfl (df (fun h => by have h1 := h.1 bD om; unfold jr at h1; omega))
 refine .skip (⟨.inr (.inr (.inr (.inr (.inr (.inr (.inr (.inr (.inr (.inr (.inr (.inr (.inr (.inl ⟨pB, mj, nt, qT, oH⟩))))))))))))), Le.mk (.c2 (.c .nil)) .nil⟩)
 refine .gz 30 (.gz 30 (.gw 27 (Y.zp rfl rfl rfl) ?_))
 refine .pk ?_
 refine .mv ?_
 refine .gw 35 (Y.zf rfl rfl) (.gw 35 (Y.ql rfl rfl) ?_)
 refine .pk ?_
 refine .vl (Y.zo rfl) (.nil ?_)
 refine .jC rfl (fun oH => ?_) (fun oH => ?_)
 refine .sr ?_
 refine .an ?_
 refine .nil (.ret ?_)
 exact .rb rfl (df (fun h => by have h1 := h.1 bD om; unfold jr at h1; omega))
 refine .skip (⟨.inr (.inr (.inr (.inr (.inr (.inr (.inr (.inr (.inr (.inr (.inr (.inr (.inr (.inr (⟨pB, mj, nt, oH⟩)))))))))))))), Le.mk (.c2 (.c .nil)) .nil⟩)
 refine .region (.vl (Y.qb rfl rfl aB) ?_)
 refine .mv ?_
 refine .nil (⟨bD + 1, ⟨om, vp hb (by unfold jr; omega)⟩, om, Le.mk (.c2 (.cons (ai rfl aZ) .nil)) .nil⟩)
 refine .exit (.sr ?_)
 refine .mv ?_
 refine .vl (Y.qx Kt rfl) (.vl (Y.qy rfl rfl) ?_)
 refine .an ?_
 refine .nil (.ret ?_)
 exact .rb rfl (dd ⟨fun h => ⟨fun j hj => hb j om, om⟩, fun h => by have := h.2; omega⟩)
theorem jT {op : Int} : ak Try.prog 186 [vi op] [] [] (fun r o => r = (vi (bE op)) ∧ o = []) := by
 refine ak.of Try.func186 rfl rfl rfl (n := 25) ag (bN rfl) (.sr ?_)
 refine .an ?_
 refine .nil (.seq (.sr ?_))
 refine .mv ?_
 refine .nil (.block (.seq ?_))
 refine .sr (.vl (Y.ql rfl rfl) ?_)
 refine .an ?_
 refine .nil ?_
 refine .bh rfl (fun c4 => ?_) (fun c4 => ?_)
 refine .skip (.aI rfl (.sr ?_))
 refine .an ?_
 refine .nil (.ret ?_)
 exact .ri rfl (by simp only [bE]; omega)
 refine .sr (.vl (Y.ql rfl rfl) ?_)
 refine .an ?_
 refine .nil ?_
 refine .bh rfl (fun c4 => ?_) (fun c4 => ?_)
 refine .skip (.aI rfl (.sr ?_))
 refine .an ?_
 refine .nil (.ret ?_)
 exact .ri rfl (by simp only [bE]; omega)
 refine .sr (.vl (Y.ql rfl rfl) ?_)
 refine .an ?_
 refine .nil ?_
 refine .bh rfl (fun c4 => ?_) (fun c4 => ?_)
 refine .skip (.aI rfl (.sr ?_))
 refine .an ?_
 refine .nil (.ret ?_)
 exact .ri rfl (by simp only [bE]; omega)
 refine .sr (.vl (Y.ql rfl rfl) ?_)
 refine .an ?_
 refine .nil ?_
 refine .bh rfl (fun c4 => ?_) (fun c4 => ?_)
 refine .skip (.aI rfl (.sr ?_))
 refine .an ?_
 refine .nil (.ret ?_)
 exact .ri rfl (by simp only [bE]; omega)
 refine .sr (.vl (Y.ql rfl rfl) ?_)
 refine .an ?_
 refine .nil ?_
 refine .bh rfl (fun c4 => ?_) (fun c4 => ?_)
 refine .skip (.aI rfl (.sr ?_))
 refine .an ?_
 refine .nil (.ret ?_)
 exact .ri rfl (by simp only [bE]; omega)
 refine .sr (.vl (Y.ql rfl rfl) ?_)
 refine .an ?_
 refine .nil ?_
 refine .bh rfl (fun c4 => ?_) (fun c4 => ?_)
 refine .skip (.aI rfl (.sr ?_))
 refine .an ?_
 refine .nil (.ret ?_)
 exact .ri rfl (by simp only [bE]; omega)
 refine .sr (.vl (Y.ql rfl rfl) ?_)
 refine .an ?_
 refine .nil ?_
 refine .bh rfl (fun c4 => ?_) (fun c4 => ?_)
 refine .skip (.aI rfl (.sr ?_))
 refine .an ?_
 refine .nil (.ret ?_)
 exact .ri rfl (by simp only [bE]; omega)
 refine .sr (.vl (Y.ql rfl rfl) ?_)
 refine .an ?_
 refine .nil ?_
 refine .bh rfl (fun c4 => ?_) (fun c4 => ?_)
 refine .skip (.aI rfl (.sr ?_))
 refine .an ?_
 refine .nil (.ret ?_)
 exact .ri rfl (by simp only [bE]; omega)
 refine .sr (.vl (Y.ql rfl rfl) ?_)
 refine .an ?_
 refine .nil ?_
 refine .bh rfl (fun c4 => ?_) (fun c4 => ?_)
 refine .skip (.aI rfl (.sr ?_))
 refine .an ?_
 refine .nil (.ret ?_)
 exact .ri rfl (by simp only [bE]; omega)
 refine .sr (.vl (Y.ql rfl rfl) ?_)
 refine .an ?_
 refine .nil ?_
 refine .bh rfl (fun c4 => ?_) (fun c4 => ?_)
 refine .skip (.aI rfl (.sr ?_))
 refine .an ?_
 refine .nil (.ret ?_)
 exact .ri rfl (by simp only [bE]; omega)
 refine .sr (.vl (Y.ql rfl rfl) ?_)
 refine .an ?_
 refine .nil ?_
 refine .bh rfl (fun c4 => ?_) (fun c4 => ?_)
 refine .skip (.aI rfl (.sr ?_))
 refine .an ?_
 refine .nil (.ret ?_)
 exact .ri rfl (by simp only [bE]; omega)
 refine .sr (.vl (Y.ql rfl rfl) ?_)
 refine .an ?_
 refine .nil ?_
 refine .bh rfl (fun c4 => ?_) (fun c4 => ?_)
 refine .skip (.aI rfl (.sr ?_))
 refine .an ?_
 refine .nil (.ret ?_)
 exact .ri rfl (by simp only [bE]; omega)
 refine .sr (.vl (Y.ql rfl rfl) ?_)
 refine .an ?_
 refine .nil ?_
 refine .bh rfl (fun c4 => ?_) (fun c4 => ?_)
 refine .skip (.aI rfl (.sr ?_))
 refine .an ?_
 refine .nil (.ret ?_)
 exact .ri rfl (by simp only [bE]; omega)
 refine .region (.vl (Y.ql rfl rfl) ?_)
 refine .an ?_
 refine .nil ?_
 refine .bh rfl (fun c4 => ?_) (fun c4 => ?_)
 refine .sr ?_
 refine .an ?_
 refine .nil (.ret ?_)
 exact .ri rfl (by simp only [bE]; omega)
 refine .sr (.vl (Y.ql rfl rfl) ?_)
 refine .an ?_
 refine .nil ?_
 refine .ay rfl (fun sP => ?_) (fun sP => ?_)
 refine .sr ?_
 refine .an ?_
 refine .nil (.ret ?_)
 exact .ri rfl (by simp only [bE]; omega)
 refine .seq (.sr (.vl (Y.ql rfl rfl) ?_))
 refine .an ?_
 refine .nil ?_
 refine .bh rfl (fun vN => ?_) (fun vN => ?_)
 refine .skip (.aI rfl (.sr ?_))
 refine .an ?_
 refine .nil (.ret ?_)
 exact .ri rfl (by simp only [bE]; omega)
 refine .sr (.vl (Y.ql rfl rfl) ?_)
 refine .an ?_
 refine .nil ?_
 refine .bh rfl (fun vN => ?_) (fun vN => ?_)
 refine .skip (.aI rfl (.sr ?_))
 refine .an ?_
 refine .nil (.ret ?_)
 exact .ri rfl (by simp only [bE]; omega)
 refine .region (.vl (Y.ql rfl rfl) ?_)
 refine .an ?_
 refine .nil ?_
 refine .bh rfl (fun vN => ?_) (fun vN => ?_)
 refine .sr ?_
 refine .an ?_
 refine .nil (.ret ?_)
 exact .ri rfl (by simp only [bE]; omega)
 refine .skip (.sr ?_)
 refine .an ?_
 refine .nil (.ret ?_)
 exact .ri rfl (by simp only [bE]; omega)
open Go Go.AW Go.Proofs
theorem uk {w : Int} : ak Try.prog 190 [vi w] [] [] (fun r o => r = (vi ((aM w : Nat) : Int)) ∧ o = []) := by
 refine ak.of Try.func190 rfl rfl rfl (n := 6) ag (bN rfl) (.sr ?_)
 refine .an ?_
 refine .nil (.sr ?_)
 refine .mv ?_
 refine .vl (Y.zd rfl rfl rfl) (.vl (Y.ze rfl rfl rfl) ?_)
 refine .an ?_
 refine .nil (.ret ?_)
 exact .ri rfl (by unfold aM; (repeat' split) <;> omega)
theorem iz {w : Int} : ak Try.prog 118 [vi w] [] [] (fun r o => r = (vi ((aM w : Nat) : Int)) ∧ o = []) := by
 refine ak.of Try.func118 rfl rfl rfl (n := 6) ag (bN rfl) (.sr ?_)
 refine .an ?_
 refine .nil (.sr ?_)
 refine .mv ?_
 refine .vl (Y.zd rfl rfl rfl) (.vl (Y.ze rfl rfl rfl) ?_)
 refine .an ?_
 refine .nil (.ret ?_)
 exact .ri rfl (by unfold aM; (repeat' split) <;> omega)
theorem xY {w : Int} : ak Try.prog 167 [vi w] [] [] (fun r o => r = .v (.int .u64 ((2 ^ aM w - 1 : Nat) : Int)) ∧ o = []) := by
 refine ak.of Try.func167 rfl rfl rfl (n := 10) ag (bN rfl) ?_
 have hl := eC w
 refine .sr ?_
 refine .an ?_
 refine .nil (.seq (.sr ?_))
 refine .mv ?_
 refine .aR IJ (uk (w := w)) rfl (.ao rfl rfl .nil) ag rfl ?_
 refine .an ?_
 refine .nil (.sr ?_)
 refine .mv ?_
 refine .vl (Y.ql rfl rfl) (.nil ?_)
 refine .ay rfl (fun c6 => ?_) (fun c6 => ?_)
 refine .sr ?_
 refine .an ?_
 refine .nil (.ret ?_)
 exact .ri rfl (by rw [show aM w = 0 by omega]; rfl)
 refine .skip (.sr ?_)
 refine .mv ?_
 refine .vl (Y.wd rfl rfl aB) (.vl (Y.zy (a := 18446744073709551615) ((64 - ((aM w : Nat) : Int)).toNat) rfl rfl om om) ?_)
 refine .an ?_
 refine .nil (.ret ?_)
 exact .ri rfl (by rw [show ((64 : Int) - ((aM w : Nat) : Int)).toNat = 64 - aM w by omega, Cq])
theorem gZ {w : Int} {x : Nat} (hx : x < 18446744073709551616) : ak Try.prog 117 [vi w, .v (.int .u64 (x : Int))] [] [] (fun r o => r = .v (.int .u64 ((dK w x : Nat) : Int)) ∧ o = []) := by
 refine ak.of Try.func117 rfl rfl rfl (n := 9) ag (bN rfl) ?_
 have hm := Cr w
 refine .sr ?_
 refine .an ?_
 refine .nil (.sr ?_)
 refine .mv ?_
 refine .mv ?_
 refine .aR ID (xY (w := w)) rfl (.ao rfl rfl .nil) ag rfl (.vl (Y.qe (a := x) (b := (2 ^ aM w - 1)) rfl rfl om) ?_)
 refine .an ?_
 refine .nil (.ret ?_)
 exact .ri rfl (by rw [zA])
theorem qU {w : Int} : ak Try.prog 189 [vi w] [] [] (fun r o => r = .v (.bool (decide (gK w))) ∧ o = []) := by
 refine ak.of Try.func189 rfl rfl rfl (n := 9) ag (bN rfl) (.sr ?_)
 refine .an ?_
 refine .nil (.sr ?_)
 refine .mv ?_
 refine .vl (Y.qp rfl rfl) ?_
 refine .mv ?_
 refine .ax (d := 5) rfl (fun c5 => ?_) (fun c5 => ?_)
 refine .gw 5 (Y.zf rfl rfl) (.gw 5 (Y.qy rfl rfl) ?_)
 refine .pk ?_
 refine .an ?_
 refine .nil (.ret ?_)
 exact .rb rfl (dd (by (simp only [gK]) <;> (first | omega | grind)))
 refine .gz 5 (.gz 5 ?_)
 refine .pk ?_
 refine .an ?_
 refine .nil (.ret ?_)
 exact .rb rfl (df (by (simp only [gK]) <;> (first | omega | grind)))
theorem nV {w : Int} : ak Try.prog 42 [vi w] [] [] (fun r o => r = .v (.bool (decide (gK w))) ∧ o = []) := by
 refine ak.of Try.func42 rfl rfl rfl (n := 9) ag (bN rfl) (.sr ?_)
 refine .an ?_
 refine .nil (.sr ?_)
 refine .mv ?_
 refine .vl (Y.qp rfl rfl) ?_
 refine .mv ?_
 refine .ax (d := 5) rfl (fun c5 => ?_) (fun c5 => ?_)
 refine .gw 5 (Y.zf rfl rfl) (.gw 5 (Y.qy rfl rfl) ?_)
 refine .pk ?_
 refine .an ?_
 refine .nil (.ret ?_)
 exact .rb rfl (dd (by (simp only [gK]) <;> (first | omega | grind)))
 refine .gz 5 (.gz 5 ?_)
 refine .pk ?_
 refine .an ?_
 refine .nil (.ret ?_)
 exact .rb rfl (df (by (simp only [gK]) <;> (first | omega | grind)))
theorem rC {w : Int} : ak Try.prog 86 [vi w] [] [] (fun r o => r = .v (.bool (decide (wP w))) ∧ o = []) := by
 refine ak.of Try.func86 rfl rfl rfl (n := 9) ag (bN rfl) (.sr ?_)
 refine .an ?_
 refine .nil (.sr ?_)
 refine .mv ?_
 refine .vl (Y.qp rfl rfl) ?_
 refine .mv ?_
 refine .ax (d := 5) rfl (fun c5 => ?_) (fun c5 => ?_)
 refine .gw 5 (Y.zf rfl rfl) (.gw 5 (Y.qy rfl rfl) ?_)
 refine .pk ?_
 refine .an ?_
 refine .nil (.ret ?_)
 exact .rb rfl (dd (by (simp only [wP]) <;> (first | omega | grind)))
 refine .gz 5 (.gz 5 ?_)
 refine .pk ?_
 refine .an ?_
 refine .nil (.ret ?_)
 exact .rb rfl (df (by (simp only [wP]) <;> (first | omega | grind)))
theorem qV {w : Int} : ak Try.prog 88 [vi w] [] [] (fun r o => r = .v (.bool (decide (Unary w))) ∧ o = []) := by
 refine ak.of Try.func88 rfl rfl rfl (n := 13) ag (bN rfl) (.sr ?_)
 refine .an ?_
 refine .nil (.sr ?_)
 refine .mv ?_
 refine .vl (Y.ql rfl rfl) ?_
 refine .mv ?_
 refine .ax (d := 5) rfl (fun c5 => ?_) (fun c5 => ?_)
 refine .gz 5 (.gz 5 ?_)
 refine .pk ?_
 refine .mv ?_
 refine .gz 9 (.gz 9 ?_)
 refine .pk ?_
 refine .an ?_
 refine .nil (.ret ?_)
 exact .rb rfl (dt (by (simp only [Unary]) <;> (first | omega | grind)))
 refine .gw 5 (Y.zf rfl rfl) (.gw 5 (Y.ql rfl rfl) ?_)
 refine .pk ?_
 refine .mv ?_
 refine .ax (d := 9) rfl (fun c9 => ?_) (fun c9 => ?_)
 refine .gz 9 (.gz 9 ?_)
 refine .pk ?_
 refine .an ?_
 refine .nil (.ret ?_)
 exact .rb rfl (dt (by (simp only [Unary]) <;> (first | omega | grind)))
 refine .gw 9 (Y.zf rfl rfl) (.gw 9 (Y.ql rfl rfl) ?_)
 refine .pk ?_
 refine .an ?_
 refine .nil (.ret ?_)
 exact .rb rfl (dd (by (simp only [Unary]) <;> (first | omega | grind)))
theorem pj {w : Int} : ak Try.prog 87 [vi w] [] [] (fun r o => r = .v (.bool (decide (Seq w))) ∧ o = []) := by
 refine ak.of Try.func87 rfl rfl rfl (n := 9) ag (bN rfl) (.sr ?_)
 refine .an ?_
 refine .nil (.sr ?_)
 refine .mv ?_
 refine .vl (Y.qp rfl rfl) ?_
 refine .mv ?_
 refine .ax (d := 5) rfl (fun c5 => ?_) (fun c5 => ?_)
 refine .gw 5 (Y.zf rfl rfl) (.gw 5 (Y.qy rfl rfl) ?_)
 refine .pk ?_
 refine .an ?_
 refine .nil (.ret ?_)
 exact .rb rfl (dd (by (simp only [Seq]) <;> (first | omega | grind)))
 refine .gz 5 (.gz 5 ?_)
 refine .pk ?_
 refine .an ?_
 refine .nil (.ret ?_)
 exact .rb rfl (df (by (simp only [Seq]) <;> (first | omega | grind)))
theorem oI {w : Int} : ak Try.prog 93 [vi w] [] [] (fun r o => r = .v (.bool (decide (dk w))) ∧ o = []) := by
 refine ak.of Try.func93 rfl rfl rfl (n := 13) ag (bN rfl) (.sr ?_)
 refine .an ?_
 refine .nil (.sr ?_)
 refine .mv ?_
 refine .vl (Y.ql rfl rfl) ?_
 refine .mv ?_
 refine .ax (d := 5) rfl (fun c5 => ?_) (fun c5 => ?_)
 refine .gz 5 (.gz 5 ?_)
 refine .pk ?_
 refine .mv ?_
 refine .gz 9 (.gz 9 ?_)
 refine .pk ?_
 refine .an ?_
 refine .nil (.ret ?_)
 exact .rb rfl (dt (by (simp only [dk]) <;> (first | omega | grind)))
 refine .gw 5 (Y.zf rfl rfl) (.gw 5 (Y.ql rfl rfl) ?_)
 refine .pk ?_
 refine .mv ?_
 refine .ax (d := 9) rfl (fun c9 => ?_) (fun c9 => ?_)
 refine .gz 9 (.gz 9 ?_)
 refine .pk ?_
 refine .an ?_
 refine .nil (.ret ?_)
 exact .rb rfl (dt (by (simp only [dk]) <;> (first | omega | grind)))
 refine .gw 9 (Y.zf rfl rfl) (.gw 9 (Y.ql rfl rfl) ?_)
 refine .pk ?_
 refine .an ?_
 refine .nil (.ret ?_)
 exact .rb rfl (dd (by (simp only [dk]) <;> (first | omega | grind)))
theorem vO {w : Int} : ak Try.prog 44 [vi w] [] [] (fun r o => r = .v (.bool (decide (Plain w))) ∧ o = []) := by
 refine ak.of Try.func44 rfl rfl rfl (n := 18) ag (bN rfl) (.sr ?_)
 refine .an ?_
 refine .nil (.sr ?_)
 refine .mv ?_
 refine .aR LM (rC (w := w)) rfl (.ao rfl rfl .nil) ag rfl ?_
 refine .mv ?_
 refine .ax (d := 5) rfl (fun c5 => ?_) (fun c5 => ?_)
 refine .gw 5 (Y.zf rfl rfl) (.aQ (d := 5) rfl ag rfl (.aR LN (pj (w := w)) rfl (.ao rfl rfl .nil) ag rfl ?_))
 refine .gw 5 (Y.zo rfl) ?_
 refine .pk ?_
 refine .mv ?_
 refine .mO (d := 10) rfl (fun Jk => ?_) (fun Jk => ?_)
 refine .gz 10 (.gz 10 ?_)
 refine .pk ?_
 refine .mv ?_
 refine .gz 14 (.gz 14 ?_)
 refine .pk ?_
 refine .an ?_
 refine .nil (.ret ?_)
 exact .rb rfl (dt (by (simp only [Plain]) <;> (first | omega | grind)))
 refine .gw 10 (Y.zf rfl rfl) (.gw 10 (Y.ql rfl rfl) ?_)
 refine .pk ?_
 refine .mv ?_
 refine .ax (d := 14) rfl (fun xZ => ?_) (fun xZ => ?_)
 refine .gz 14 (.gz 14 ?_)
 refine .pk ?_
 refine .an ?_
 refine .nil (.ret ?_)
 exact .rb rfl (dt (by (simp only [Plain]) <;> (first | omega | grind)))
 refine .gw 14 (Y.zf rfl rfl) (.aQ (d := 14) rfl ag rfl (.aR IN (qV (w := w)) rfl (.ao rfl rfl .nil) ag rfl ?_))
 refine .pk ?_
 refine .an ?_
 refine .nil (.ret ?_)
 exact .rb rfl (dd (by (simp only [Plain]) <;> (first | omega | grind)))
 refine .gz 5 (.gz 5 (.gz 5 ?_))
 refine .pk ?_
 refine .mv ?_
 refine .gw 10 (Y.zf rfl rfl) (.gw 10 (Y.ql rfl rfl) ?_)
 refine .pk ?_
 refine .mv ?_
 refine .ax (d := 14) rfl (fun xZ => ?_) (fun xZ => ?_)
 refine .gz 14 (.gz 14 ?_)
 refine .pk ?_
 refine .an ?_
 refine .nil (.ret ?_)
 exact .rb rfl (dt (by (simp only [Plain]) <;> (first | omega | grind)))
 refine .gw 14 (Y.zf rfl rfl) (.aQ (d := 14) rfl ag rfl (.aR IN (qV (w := w)) rfl (.ao rfl rfl .nil) ag rfl ?_))
 refine .pk ?_
 refine .an ?_
 refine .nil (.ret ?_)
 exact .rb rfl (dd (by (simp only [Plain]) <;> (first | omega | grind)))
open Go Go.AW Go.Proofs
theorem sb {w : Int} : ak Try.prog 62 [vi w] [] [] (fun r o => r = .v (.int .u64 ((2 ^ aM w - 1 : Nat) : Int)) ∧ o = []) := by
 refine ak.of Try.func62 rfl rfl rfl (n := 15) ag (bN rfl) ?_
 have hl := eC w
 refine .sr ?_
 refine .an ?_
 refine .nil (.sr ?_)
 refine .an ?_
 refine .nil (.seq (.sr ?_))
 refine .an ?_
 refine .nil (.block ?_)
 refine .ir (fun (lK : Nat) (eS : Nat) => ⟨[(0, vi w), (3, .v (.int .u64 (lK : Int))), (4, vi eS)], []⟩) (fun lK eS => ((eS : Int) ≤ ((aM w : Nat) : Int)) ∧ (lK = 2 ^ eS - 1)) (fun lK eS => (((aM w : Nat) : Int) - (eS : Int)).toNat) 0 0 (⟨om, rfl⟩) (Le.mk (.c (.cons (ai rfl aZ) (.cons (ai rfl aZ) .nil))) .nil) (fun lK eS nW => ?_)
 obtain ⟨AL, hx⟩ := nW
 refine .seq (.sr ?_)
 refine .mv ?_
 refine .mv ?_
 refine .aR ug (iz (w := w)) rfl (.ao rfl rfl .nil) ag rfl (.vl (Y.zb rfl rfl) (.nil ?_))
 refine .ay rfl (fun c8 => ?_) (fun c8 => ?_)
 refine .skip (.seq (.block ?_))
 refine .region ?_
 refine .mv ?_
 refine .vl (Y.zi (a := 2) (b := lK) rfl rfl) (.vl (Y.qc (a := ((2 * lK) % 18446744073709551616)) (b := 1) rfl rfl) ?_)
 refine .an ?_
 refine .nil (.region ?_)
 refine .mv ?_
 refine .vl (Y.qb rfl rfl aB) ?_
 refine .an ?_
 refine .nil (⟨(((2 * lK) % 18446744073709551616) + 1) % 18446744073709551616, eS + 1, ⟨om, xJ hx om⟩, om, Le.mk (.c (.cons (ai rfl aZ) (.cons (ai rfl aZ) .nil))) .nil⟩)
 refine .exit (.sr ?_)
 refine .mv ?_
 refine .an ?_
 refine .nil (.ret ?_)
 exact .ri rfl (by rw [hx, show eS = aM w by omega])
theorem fF {w : Int} {x : Nat} (hx : x < 18446744073709551616) : ak Try.prog 81 [vi w, .v (.int .u64 (x : Int))] [] [] (fun r o => r = .cX 1 ((aF (aM w) x).map al) ∧ o = []) := by
 refine ak.of Try.func81 rfl rfl rfl (n := 22) ag (bN rfl) ?_
 have hl := eC w
 refine .sr ?_
 refine .an ?_
 refine .nil (.sr ?_)
 refine .an ?_
 refine .sh (Sh.nil (d := 5) 105 1 rfl ag) (.nil (.seq ?_))
 refine .sr ?_
 refine .an ?_
 refine .nil (.block ?_)
 refine .eP (fun (po : Nat) (qW : Nat) (aO : List Int) => ⟨[(0, vi w), (1, .v (.int .u64 (po : Int))), (5, .aY 105 1 0 aO.length), (6, vi qW)], [(105, .rows 1 (aO.map al))]⟩) (fun po qW aO => ((qW : Int) ≤ ((aM w : Nat) : Int)) ∧ (aO.length = qW) ∧ (aO = aF qW x) ∧ (po = x / 2 ^ qW) ∧ (po < 18446744073709551616)) (fun po qW aO => (((aM w : Nat) : Int) - (qW : Int)).toNat) x 0 ([] : List Int) (⟨ni, rfl, rfl, by simp, hx⟩) (Le.mk (.c (.cons (ai rfl aZ) (.cons (a8 rfl aB) (.cons (ai rfl aZ) .nil)))) (.c .nil)) (fun po qW aO nW => ?_)
 obtain ⟨AL, hlen, hb, hv, hm⟩ := nW
 refine .seq (.sr ?_)
 refine .mv ?_
 refine .mv ?_
 refine .aR ug (iz (w := w)) rfl (.ao rfl rfl .nil) ag rfl (.vl (Y.zb rfl rfl) (.nil ?_))
 refine .ay rfl (fun Jk => ?_) (fun Jk => ?_)
 refine .skip (.seq (.block ?_))
 refine .sr ?_
 refine .mv ?_
 refine .mv ?_
 refine .vl (Y.zv (a := po) (b := 2) rfl rfl om) (.vl (Y.qk sK y5 rfl GM) ?_)
 refine .buildSlice (([((po % 2 : Nat) : Int)] : List Int).map al) a7 er rfl rfl rfl rfl rfl (az (s := 1) (f := al) (fun _ => rfl)) rfl rfl rfl ag ?_
 refine .xE al (aO ++ ([((po % 2 : Nat) : Int)] : List Int)) a7 er rfl rfl rfl rfl (b8 aB) (bm aB) (cb aB) aB aB ag ag ?_
 refine .an ?_
 refine .nil (.region ?_)
 refine .mv ?_
 refine .vl (Y.zs (a := po) (b := 2) rfl rfl om) ?_
 refine .an ?_
 refine .nil (.region ?_)
 refine .mv ?_
 refine .vl (Y.qb rfl rfl aB) ?_
 refine .an ?_
 refine .nil (⟨po / 2, qW + 1, aO ++ ([((po % 2 : Nat) : Int)] : List Int), ⟨om, by simp; omega, by rw [hb, vv, hv], by rw [hv, Nat.div_div_eq_div_mul, Nat.pow_succ], om⟩, om, Le.mk (.c (.cons (ai rfl aZ) (.cons (a8 rfl om) (.cons (ai rfl aZ) .nil)))) (.c .nil)⟩)
 refine .exit (.sr ?_)
 refine .mv ?_
 refine .an ?_
 refine .sh (Sh.cK (d := 4) (o := 105) rfl rfl (bn om) ag) ?_
 refine .nil (.ret ?_)
 exact ⟨_, _, rfl, rfl, (yw (fun (z0 : List Int) => X.cX 1 (z0.map al)) (by rw [hb, show qW = aM w by omega] : aO = aF (aM w) x) : X.cX 1 (aO.map al) = X.cX 1 ((aF (aM w) x).map al)), rfl⟩
theorem fG {l : List Int} (h1 : ∀ b ∈ l, 0 ≤ b ∧ b ≤ 1) (h2 : l.length ≤ 64) : ak Try.prog 80 [.fz 1 (l.map al)] [] [] (fun r o => r = .v (.int .u64 ((dP l : Nat) : Int)) ∧ o = []) := by
 refine ak.of Try.func80 rfl rfl rfl (n := 21) ag (bN rfl) (.sr ?_)
 refine .an ?_
 refine .nil (.sr ?_)
 refine .an ?_
 refine .nil (.seq (.sr ?_))
 refine .mv ?_
 refine .vl (Y.qw (n := l.length) a7 rfl iJ) (.vl (Y.wd rfl rfl aB) ?_)
 refine .an ?_
 refine .nil (.block ?_)
 refine .ir (fun (lK : Nat) (eS : Int) => ⟨[(0, .fz 1 (l.map al)), (3, .v (.int .u64 (lK : Int))), (4, vi eS)], []⟩) (fun lK eS => (-1 ≤ eS ∧ eS < (l.length : Int)) ∧ (lK = dP (l.drop (eS + 1).toNat))) (fun lK eS => (eS + 1).toNat) 0 ((l.length : Int) - 1) (⟨om, by rw [List.drop_eq_nil_of_le om]; rfl⟩) (Le.mk (.c (.cons (ai rfl aZ) (.cons (ai rfl aZ) .nil))) .nil) (fun lK eS nW => ?_)
 obtain ⟨hi, hx⟩ := nW
 refine .seq (.sr ?_)
 refine .mv ?_
 refine .vl (Y.qp rfl rfl) (.nil ?_)
 refine .ay rfl (fun c9 => ?_) (fun c9 => ?_)
 refine .skip (.seq (.block ?_))
 refine .region ?_
 refine .mv ?_
 refine .vl (Y.zi (a := 2) (b := lK) rfl rfl) ?_
 refine .mv ?_
 refine .mv ?_
 refine .vl (Y.qr (m := (eS).toNat) a7 rfl rfl om (aq (d := 0) om)) ?_
 have hb := h1 _ (cL (l := l) (i := eS.toNat) om)
 refine .ld bg ?_
 refine .vl (Y.qj y5 sK rfl (rQ _ om)) (.vl (Y.qc (a := ((2 * lK) % 18446744073709551616)) (b := ((l.getD ((eS).toNat) 0).toNat)) rfl rfl) ?_)
 refine .an ?_
 refine .nil (.region ?_)
 refine .mv ?_
 refine .vl (Y.wd rfl rfl aB) ?_
 refine .an ?_
 refine .nil (⟨(((2 * lK) % 18446744073709551616) + ((l.getD ((eS).toNat) 0).toNat)) % 18446744073709551616, eS - 1, ⟨om, xI h1 h2 om hx⟩, om, Le.mk (.c (.cons (ai rfl aZ) (.cons (ai rfl aZ) .nil))) .nil⟩)
 refine .exit (.sr ?_)
 refine .mv ?_
 refine .an ?_
 refine .nil (.ret ?_)
 exact .ri rfl (by rw [hx, show (eS + 1).toNat = 0 by omega, List.drop_zero])
theorem kr {w : Int} {x : Nat} (hx : x < 18446744073709551616) : ak Try.prog 35 [vi w, .v (.int .u64 (x : Int))] [] [] (fun r o => r = .v (.int .u64 ((dK w x : Nat) : Int)) ∧ o = []) := by
 refine ak.of Try.func35 rfl rfl rfl (n := 9) ag (bN rfl) (.sr ?_)
 refine .an ?_
 refine .nil (.sr ?_)
 refine .mv ?_
 refine .mv ?_
 refine .aR sM (fF (w := w) (x := x) (om)) rfl (.ao rfl rfl (.ao rfl rfl .nil)) ag rfl ?_
 refine .sh (Sh.bB (d := 7) ((aF (aM w) x).map al) rfl iW (cp.map bf)) (.aR sL (fG (l := (aF (aM w) x)) (lC _ _) (by rw [dL]; exact eC _)) rfl (.ao rfl rfl .nil) ag rfl ?_)
 refine .an ?_
 refine .nil (.ret ?_)
 exact .ri rfl (by rw [js]; rfl)
open Go Go.AW Go.Proofs
set_option maxRecDepth 4000 in
set_option maxHeartbeats 1000000 in
theorem sc {a b : List Int} {c0 : Int} {n : Nat} (ha : a.length = n) (hb : b.length = n) (hn : n ≤ 64) (h1 : ∀ x ∈ a, 0 ≤ x ∧ x ≤ 1) (h2 : ∀ x ∈ b, 0 ≤ x ∧ x ≤ 1) (hc : 0 ≤ c0 ∧ c0 ≤ 1) : ak Try.prog 134 [.fz 1 (a.map al), .fz 1 (b.map al), .v (.int .i64 c0)] [] [] (fun r o => ∃ l : List Int, l.length = n ∧ (∀ x ∈ l, 0 ≤ x ∧ x ≤ 1) ∧ dP l = (dP a + dP b + c0.toNat) % 2 ^ n ∧ r = .cX 1 (l.map al) ∧ o = []) := by
 refine ak.of Try.func134 rfl rfl rfl (n := 35) ag (Nat.le_of_ble_eq_true rfl) (ab.sr ?_)
 refine .an ?_
 refine aa.nil (ab.sr ?_)
 refine .an ?_
 refine aa.sh (Sh.nil (d := 7) 107 1 rfl ag) (aa.nil (ab.seq ?_))
 refine ab.sr ?_
 refine .an ?_
 refine aa.nil (ab.block ?_)
 refine ab.eP (fun (fY : Int) (eI : Nat) (kP : List Int) => ⟨[(0, .fz 1 (a.map al)), (1, .fz 1 (b.map al)), (2, .v (.int .i64 fY)), (7, .aY 107 1 0 kP.length), (8, .v (.int .i64 (eI : Int)))], [(107, .rows 1 (kP.map al))]⟩) (fun (fY : Int) (eI : Nat) (kP : List Int) => ((eI : Int) ≤ (a.length : Int)) ∧ (sF a b c0 eI kP fY)) (fun (fY : Int) (eI : Nat) (kP : List Int) => ((a.length : Int) - (eI : Int)).toNat) c0 0 ([] : List Int) (⟨ni, sF.init hc⟩) (Le.mk (.c (.c (.cons (ai rfl aZ) (.cons (a8 rfl aB) (.cons (ai rfl aZ) (.nil)))))) (.c (.nil))) (fun fY eI kP nW => ?_)
 obtain ⟨AL, hI⟩ := nW
 refine ab.seq (ab.sr ?_)
 refine .mv ?_
 refine .mv ?_
 refine .vl (Y.qw (n := a.length) a7 rfl (congrArg some (List.length_map ..))) (.vl (Y.zb rfl rfl) (aa.nil ?_))
 refine ab.ay rfl (fun y6 => ?_) (fun y6 => ?_)
 refine ab.skip (ab.seq (ab.block ?_))
 refine ab.seq ?_
 have hA := h1 _ (cL (l := a) (i := eI) om); have hB := h2 _ (cL (l := b) (i := eI) om); have hC := hI.Rf; have mu := hI.ol
 refine ab.gC rfl ba (a9.val (Y.zf rfl rfl) ag (a9.val (Y.zf rfl rfl) ag ?_))
 refine a9.val (Y.qr (m := eI) a7 rfl rfl aZ (aq (d := 0) om)) ag ?_
 refine a9.val (Y.qz bg rfl rfl rfl rfl) ag (a9.val (Y.zf rfl rfl) ag (a9.val (Y.zf rfl rfl) ag ?_))
 refine a9.val (Y.qr (m := eI) a7 rfl rfl aZ (aq (d := 0) om)) ag ?_
 refine a9.val (Y.qz bg rfl rfl rfl rfl) ag ?_
 refine a9.val (Y.qb rfl rfl om) ag ?_
 refine a9.val (Y.zf rfl rfl) ag ?_
 refine a9.val (Y.qb rfl rfl om) ag ?_
 refine a9.val (Y.qf rfl rfl) ag (a9.nil (ab.sr ?_))
 refine .mv ?_
 refine .mv ?_
 refine .vl (Y.zu rfl rfl om) ?_
 refine aa.buildSlice (([(((a.getD eI 0) + (b.getD eI 0)) + fY) % 2] : List Int).map al) a7 er rfl rfl rfl rfl rfl (az (s := 1) (f := al) (fun _ => rfl)) rfl rfl rfl ag ?_
 refine aa.bx ((kP ++ ([(((a.getD eI 0) + (b.getD eI 0)) + fY) % 2] : List Int)).map al) (kP ++ ([(((a.getD eI 0) + (b.getD eI 0)) + fY) % 2] : List Int)).length a7 er rfl rfl rfl rfl (b8 aB) (bm aB) (cb aB) aB aB ag ag ?_
 refine .an ?_
 refine aa.nil (ab.region ?_)
 refine .mv ?_
 refine .vl (Y.zr rfl rfl om) ?_
 refine .an ?_
 refine aa.nil (ab.region ?_)
 refine .mv ?_
 refine .vl (Y.qb rfl rfl aB) ?_
 refine .an ?_
 refine aa.nil ?_
 exact ⟨(((a.getD eI 0) + (b.getD eI 0)) + fY) / 2, eI + 1, kP ++ ([(((a.getD eI 0) + (b.getD eI 0)) + fY) % 2] : List Int), ⟨om, hI.step om om rfl rfl hA hB⟩, om, Le.mk (.c (.c (.cons (ai rfl aZ) (.cons (a8 rfl om) (.cons (ai rfl aZ) (.nil)))))) (.c (.nil))⟩
 refine ab.exit (ab.sr ?_)
 refine .mv ?_
 refine .an ?_
 refine aa.sh (Sh.cK (d := 6) (o := 107) rfl rfl (bn om) ag) ?_
 refine aa.nil (ab.ret ?_)
 obtain rfl : eI = n := by omega
 exact ⟨_, _, rfl, rfl, _, hI.ol, hI.QZ, hI.done ha hb, rfl, rfl⟩
set_option maxRecDepth 4000 in
set_option maxHeartbeats 1000000 in
theorem ya {w : Int} {x : Nat} (hw : 1 ≤ w ∧ w ≤ 64) (hx : x < 18446744073709551616) {n : Nat} (hn : n ≤ 64) : ak Try.prog 136 [.v (.int .i64 w), .v (.int .u64 (x : Int)), .v (.int .i64 (n : Int))] [] [] (fun r o => r = .v (.int .u64 ((gp (vE x n) w.toNat : Nat) : Int)) ∧ o = []) := by
 refine ak.of Try.func136 rfl rfl rfl (n := 36) ag (Nat.le_of_ble_eq_true rfl) ?_
 have nq : aM w = w.toNat := (by unfold aM; rw [if_neg om, if_neg om])
 refine ab.sr ?_
 refine .an ?_
 refine aa.nil (ab.sr ?_)
 refine .mv ?_
 refine .mv ?_
 refine aa.aR sM (fF (w := w) (x := x) (om)) rfl (.ao rfl rfl (.ao rfl rfl .nil)) ag rfl ?_
 refine aa.bd rfl ag (aa.sh (Sh.bB (d := 7) ((aF (aM w) x).map al) rfl iW (cp.map bf)) (aa.nil ?_))
 refine ab.sr ?_
 refine .an ?_
 refine aa.sh (Sh.nil (d := 8) 108 1 rfl ag) (aa.nil (ab.seq ?_))
 refine ab.sr ?_
 refine .an ?_
 refine aa.nil (ab.block ?_)
 refine ab.ir (fun (eJ : Nat) (dx : List Int) => ⟨[(2, .v (.int .i64 (n : Int))), (7, .fz 1 ((aF (aM w) x).map al)), (8, .aY 108 1 0 dx.length), (9, .v (.int .i64 (eJ : Int)))], [(108, .rows 1 (dx.map al))]⟩) (fun (eJ : Nat) (dx : List Int) => ((eJ : Int) ≤ (((aF (aM w) x).length : Nat) : Int)) ∧ (dx = ue (vE x n) eJ)) (fun (eJ : Nat) (dx : List Int) => ((((aF (aM w) x).length : Nat) : Int) - (eJ : Int)).toNat) 0 ([] : List Int) (⟨ni, rfl⟩) (Le.mk (.c (.c (.cons (a8 rfl aB) (.cons (ai rfl aZ) (.nil))))) (.c (.nil))) (fun eJ dx um => ?_)
 obtain ⟨y7, ho⟩ := um
 refine ab.seq (ab.seq ?_)
 have uR := dL (aM w) x
 refine ab.region ?_
 refine .mv ?_
 refine .mv ?_
 refine .vl (Y.qw (n := (aF (aM w) x).length) a7 rfl (congrArg some (List.length_map ..))) (.vl (Y.zb rfl rfl) (aa.nil ?_))
 refine ab.ay rfl (fun sQ => ?_) (fun sQ => ?_)
 refine ab.skip ?_
 refine ab.gO (fun (ml : List Int) => ⟨[(2, .v (.int .i64 (n : Int))), (7, .fz 1 ((aF (aM w) x).map al)), (8, .aY 108 1 0 ml.length), (9, .v (.int .i64 (eJ : Int)))], [(108, .rows 1 (ml.map al))]⟩) (fun (ml : List Int) => ml = ue (vE x n) (eJ + 1)) ?_ (fun ml Eo => ?_)
 refine ab.block (ab.seq ?_)
 have mu : dx.length = eJ := by rw [ho, gD]
 refine ab.region ?_
 refine .mv ?_
 refine .mv ?_
 refine .vl (Y.qp rfl rfl) (aa.nil ?_)
 refine ab.ay rfl (fun vN => ?_) (fun vN => ?_)
 refine ab.region ?_
 refine .mv ?_
 refine .mv ?_
 refine .mv ?_
 refine .mv ?_
 refine .vl (Y.wd rfl rfl aB) ?_
 refine .vl (Y.qr (m := ((eJ : Int) - (n : Int)).toNat) a7 rfl rfl om (aq (d := 0) om)) ?_
 refine .ld bg ?_
 refine aa.buildSlice (([(aF (aM w) x).getD (((eJ : Int) - (n : Int)).toNat) 0] : List Int).map al) a7 er rfl rfl rfl rfl rfl (az (s := 1) (f := al) (fun _ => rfl)) rfl rfl rfl ag ?_
 refine aa.bx ((dx ++ ([(aF (aM w) x).getD (((eJ : Int) - (n : Int)).toNat) 0] : List Int)).map al) (dx ++ ([(aF (aM w) x).getD (((eJ : Int) - (n : Int)).toNat) 0] : List Int)).length a7 er rfl rfl rfl rfl (b8 aB) (bm aB) (cb aB) aB aB ag ag ?_
 refine .an ?_
 refine aa.nil ?_
 exact ⟨dx ++ ([(aF (aM w) x).getD (((eJ : Int) - (n : Int)).toNat) 0] : List Int), by rw [ho]; exact iy (by rw [fC _ _ _ om, gE]; unfold vE; rw [if_pos om]; congr 3 <;> omega), Le.mk (.c (.c (.cons (a8 rfl om) (.c (.nil))))) (.c (.nil))⟩
 refine ab.region ?_
 refine .mv ?_
 refine aa.buildSlice (([0] : List Int).map al) a7 er rfl rfl rfl rfl rfl (az (s := 1) (f := al) (fun _ => rfl)) rfl rfl rfl ag ?_
 refine aa.bx ((dx ++ ([0] : List Int)).map al) (dx ++ ([0] : List Int)).length a7 er rfl rfl rfl rfl (b8 aB) (bm aB) (cb aB) aB aB ag ag ?_
 refine .an ?_
 refine aa.nil ?_
 exact ⟨dx ++ ([0] : List Int), by rw [ho]; exact iy (by unfold vE; rw [if_neg om]; rfl), Le.mk (.c (.c (.cons (a8 rfl om) (.c (.nil))))) (.c (.nil))⟩
 refine ab.region ?_
 refine .mv ?_
 refine .vl (Y.qb rfl rfl aB) ?_
 refine .an ?_
 refine aa.nil ?_
 exact ⟨eJ + 1, ml, ⟨om, by rw [Eo]⟩, om, Le.mk (.c (.c (.cons (a8 rfl om) (.cons (ai rfl aZ) (.nil))))) (.c (.nil))⟩
 refine ab.exit (ab.seq ?_)
 have mu : dx.length = eJ := by rw [ho, gD]
 refine ab.region ?_
 refine .mv ?_
 refine aa.kG [108] sL (fG (l := dx) (by rw [ho]; exact oC _ _) (aB)) rfl (.en rfl rfl (iU aB) (iV aB) .nil) (n9 rfl (gB bf)) ag rfl trivial ?_
 refine .an ?_
 refine aa.nil (ab.ret ?_)
 exact .ri rfl (by rw [ho, gX, show eJ = w.toNat by omega])
set_option maxRecDepth 4000 in
set_option maxHeartbeats 1000000 in
theorem sd {w : Int} {x : Nat} (hw : 1 ≤ w ∧ w ≤ 64) (hx : x < 18446744073709551616) {n : Nat} {f : Bool} {fi : Int} (hn : n ≤ 64) (hf : fi = (f.toNat : Int)) : ak Try.prog 138 [.v (.int .i64 w), .v (.int .u64 (x : Int)), .v (.int .i64 (n : Int)), .v (.int .i64 fi)] [] [] (fun r o => r = .v (.int .u64 ((gp (sG w.toNat x n f) w.toNat : Nat) : Int)) ∧ o = []) := by
 refine ak.of Try.func138 rfl rfl rfl (n := 42) ag (Nat.le_of_ble_eq_true rfl) ?_
 have nq : aM w = w.toNat := (by unfold aM; rw [if_neg om, if_neg om])
 refine ab.sr ?_
 refine .an ?_
 refine aa.nil (ab.sr ?_)
 refine .mv ?_
 refine .mv ?_
 refine aa.aR sM (fF (w := w) (x := x) (om)) rfl (.ao rfl rfl (.ao rfl rfl .nil)) ag rfl ?_
 refine aa.bd rfl ag (aa.sh (Sh.bB (d := 9) ((aF (aM w) x).map al) rfl iW (cp.map bf)) (aa.nil ?_))
 refine ab.sr ?_
 refine .an ?_
 refine aa.sh (Sh.nil (d := 10) 110 1 rfl ag) (aa.nil (ab.seq ?_))
 refine ab.sr ?_
 refine .an ?_
 refine aa.nil (ab.block ?_)
 refine ab.ir (fun (gP : Nat) (eK : List Int) => ⟨[(2, .v (.int .i64 (n : Int))), (3, .v (.int .i64 fi)), (9, .fz 1 ((aF (aM w) x).map al)), (10, .aY 110 1 0 eK.length), (11, .v (.int .i64 (gP : Int)))], [(110, .rows 1 (eK.map al))]⟩) (fun (gP : Nat) (eK : List Int) => ((gP : Int) ≤ (((aF (aM w) x).length : Nat) : Int)) ∧ (eK = ue (sG w.toNat x n f) gP)) (fun (gP : Nat) (eK : List Int) => ((((aF (aM w) x).length : Nat) : Int) - (gP : Int)).toNat) 0 ([] : List Int) (⟨ni, rfl⟩) (Le.mk (.c (.c (.c (.cons (a8 rfl aB) (.cons (ai rfl aZ) (.nil)))))) (.c (.nil))) (fun gP eK um => ?_)
 obtain ⟨y7, ho⟩ := um
 refine ab.seq (ab.seq ?_)
 have uR := dL (aM w) x
 refine ab.region ?_
 refine .mv ?_
 refine .mv ?_
 refine .vl (Y.qw (n := (aF (aM w) x).length) a7 rfl (congrArg some (List.length_map ..))) (.vl (Y.zb rfl rfl) (aa.nil ?_))
 refine ab.ay rfl (fun Jl => ?_) (fun Jl => ?_)
 refine ab.skip ?_
 refine ab.gO (fun (ks : List Int) => ⟨[(2, .v (.int .i64 (n : Int))), (3, .v (.int .i64 fi)), (9, .fz 1 ((aF (aM w) x).map al)), (10, .aY 110 1 0 ks.length), (11, .v (.int .i64 (gP : Int)))], [(110, .rows 1 (ks.map al))]⟩) (fun (ks : List Int) => ks = ue (sG w.toNat x n f) (gP + 1)) ?_ (fun ks Eo => ?_)
 refine ab.block (ab.seq ?_)
 have mu : eK.length = gP := by rw [ho, gD]
 refine ab.region ?_
 refine .mv ?_
 refine .mv ?_
 refine .vl (Y.qb rfl rfl aB) ?_
 refine .mv ?_
 refine .vl (Y.qw (n := (aF (aM w) x).length) a7 rfl (congrArg some (List.length_map ..))) (.vl (Y.zb rfl rfl) (aa.nil ?_))
 refine ab.ay rfl (fun yb => ?_) (fun yb => ?_)
 refine ab.region ?_
 refine .mv ?_
 refine .mv ?_
 refine .mv ?_
 refine .mv ?_
 refine .vl (Y.qb rfl rfl aB) ?_
 refine .vl (Y.qr (m := gP + n) a7 rfl rfl aZ (aq (d := 0) om)) ?_
 refine .ld bg ?_
 refine aa.buildSlice (([(aF (aM w) x).getD (gP + n) 0] : List Int).map al) a7 er rfl rfl rfl rfl rfl (az (s := 1) (f := al) (fun _ => rfl)) rfl rfl rfl ag ?_
 refine aa.bx ((eK ++ ([(aF (aM w) x).getD (gP + n) 0] : List Int)).map al) (eK ++ ([(aF (aM w) x).getD (gP + n) 0] : List Int)).length a7 er rfl rfl rfl rfl (b8 aB) (bm aB) (cb aB) aB aB ag ag ?_
 refine .an ?_
 refine aa.nil ?_
 exact ⟨eK ++ ([(aF (aM w) x).getD (gP + n) 0] : List Int), by rw [ho]; exact iy (by rw [fC _ _ _ om, gE]; unfold sG; rw [if_pos om]), Le.mk (.c (.c (.c (.cons (a8 rfl om) (.c (.nil)))))) (.c (.nil))⟩
 refine ab.region ?_
 refine .mv ?_
 refine .mv ?_
 refine aa.buildSlice (([fi] : List Int).map al) a7 er rfl rfl rfl rfl rfl (az (s := 1) (f := al) (fun _ => rfl)) rfl rfl rfl ag ?_
 refine aa.bx ((eK ++ ([fi] : List Int)).map al) (eK ++ ([fi] : List Int)).length a7 er rfl rfl rfl rfl (b8 aB) (bm aB) (cb aB) aB aB ag ag ?_
 refine .an ?_
 refine aa.nil ?_
 exact ⟨eK ++ ([fi] : List Int), by rw [ho]; exact iy (by rw [hf]; unfold sG; rw [if_neg om]), Le.mk (.c (.c (.c (.cons (a8 rfl om) (.c (.nil)))))) (.c (.nil))⟩
 refine ab.region ?_
 refine .mv ?_
 refine .vl (Y.qb rfl rfl aB) ?_
 refine .an ?_
 refine aa.nil ?_
 exact ⟨gP + 1, ks, ⟨om, by rw [Eo]⟩, om, Le.mk (.c (.c (.c (.cons (a8 rfl om) (.cons (ai rfl aZ) (.nil)))))) (.c (.nil))⟩
 refine ab.exit (ab.seq ?_)
 have mu : eK.length = gP := by rw [ho, gD]
 refine ab.region ?_
 refine .mv ?_
 refine aa.kG [110] sL (fG (l := eK) (by rw [ho]; exact oC _ _) (aB)) rfl (.en rfl rfl (iU aB) (iV aB) .nil) (n9 rfl (gB bf)) ag rfl trivial ?_
 refine .an ?_
 refine aa.nil (ab.ret ?_)
 exact .ri rfl (by rw [ho, gX, show gP = w.toNat by omega])
set_option maxRecDepth 4000 in
set_option maxHeartbeats 1000000 in
theorem kQ {w : Int} {x : Nat} (hw : 1 ≤ w ∧ w ≤ 64) (hx : x < 18446744073709551616) : ak Try.prog 137 [.v (.int .i64 w), .v (.int .u64 (x : Int))] [] [] (fun r o => r = .v (.int .i64 ((min x w.toNat : Nat) : Int)) ∧ o = []) := by
 refine ak.of Try.func137 rfl rfl rfl (n := 14) ag (Nat.le_of_ble_eq_true rfl) ?_
 have nq : aM w = w.toNat := (by unfold aM; rw [if_neg om, if_neg om])
 refine ab.sr ?_
 refine .an ?_
 refine aa.nil (ab.seq (ab.sr ?_))
 refine .mv ?_
 refine .mv ?_
 refine aa.aR ug (iz (w := w)) rfl (.ao rfl rfl .nil) ag rfl ?_
 refine .vl (Y.qk y5 sK rfl (by first | rfl | exact IntWalk.u64_in _ om)) ?_
 refine .vl (Y.qp rfl rfl) (aa.nil ?_)
 refine ab.ay rfl (fun c9 => ?_) (fun c9 => ?_)
 refine ab.sr ?_
 refine .mv ?_
 refine aa.aR ug (iz (w := w)) rfl (.ao rfl rfl .nil) ag rfl ?_
 refine .an ?_
 refine aa.nil (ab.ret ?_)
 exact .ri rfl om
 refine ab.skip (ab.sr ?_)
 refine .mv ?_
 refine .vl (Y.qk sK y5 rfl GM) ?_
 refine .an ?_
 refine aa.nil (ab.ret ?_)
 exact .ri rfl om
set_option maxRecDepth 4000 in
set_option maxHeartbeats 1000000 in
theorem oJ {w : Int} {x : Nat} (hw : 1 ≤ w ∧ w ≤ 64) (hx : x < 18446744073709551616) : ak Try.prog 133 [.v (.int .i64 w), .v (.int .u64 (x : Int))] [] [] (fun r o => r = .v (.bool (decide (x.testBit (w.toNat - 1) = true))) ∧ o = []) := by
 refine ak.of Try.func133 rfl rfl rfl (n := 21) ag (Nat.le_of_ble_eq_true rfl) ?_
 have nq : aM w = w.toNat := (by unfold aM; rw [if_neg om, if_neg om])
 refine ab.sr ?_
 refine .an ?_
 refine aa.nil (ab.sr ?_)
 refine .mv ?_
 refine .mv ?_
 refine aa.aR sM (fF (w := w) (x := x) (om)) rfl (.ao rfl rfl (.ao rfl rfl .nil)) ag rfl ?_
 refine aa.bd rfl ag (aa.sh (Sh.bB (d := 5) ((aF (aM w) x).map al) rfl iW (cp.map bf)) (aa.nil ?_))
 refine ab.seq ?_
 have uR := dL (aM w) x
 refine ab.region ?_
 refine .mv ?_
 refine .vl (Y.qw (n := (aF (aM w) x).length) a7 rfl (congrArg some (List.length_map ..))) (.vl (Y.qq rfl rfl) ?_)
 refine .mv ?_
 refine aa.ax (d := 12) rfl (fun uS => ?_) (fun uS => ?_)
 refine .gw 12 (Y.zf rfl rfl) (.gw 12 (Y.zf rfl rfl) (.gw 12 (Y.qw (n := (aF (aM w) x).length) a7 rfl (congrArg some (List.length_map ..))) ?_))
 refine .gw 12 (Y.wd rfl rfl om) ?_
 refine .gw 12 (Y.qr (m := ((((aF (aM w) x).length : Nat) : Int) - 1).toNat) a7 rfl rfl om (aq (d := 0) om)) ?_
 refine .gw 12 (Y.qz bg rfl rfl rfl rfl) (.gw 12 (Y.ql rfl rfl) ?_)
 refine .pk ?_
 refine .an ?_
 refine aa.nil (ab.ret ?_)
 exact .rb rfl (dd (by rw [fC _ _ _ om, gE, CR, show (((aF (aM w) x).length : Int) - 1).toNat = w.toNat - 1 by omega]))
 refine .gz 12 (.gz 12 (.gz 12 ?_))
 refine .gz 12 (.gz 12 (.gz 12 ?_))
 refine .gz 12 ?_
 refine .pk ?_
 refine .an ?_
 refine aa.nil (ab.ret ?_)
 exact .rb rfl (by exfalso; omega)
set_option maxRecDepth 4000 in
set_option maxHeartbeats 1000000 in
theorem jh {b : Bool} : ak Try.prog 139 [.v (.bool b)] [] [] (fun r o => r = .v (.int .u64 (b.toNat : Int)) ∧ o = []) := by
 refine ak.of Try.func139 rfl rfl rfl (n := 4) ag (Nat.le_of_ble_eq_true rfl) (ab.sr ?_)
 refine .an ?_
 refine aa.nil (ab.seq (ab.sr ?_))
 refine .mv ?_
 refine aa.nil ?_
 refine ab.cond rfl (fun c3 => ?_) (fun c3 => ?_)
 refine ab.sr ?_
 refine .an ?_
 refine aa.nil (ab.ret ?_)
 exact .ri rfl (by cases b <;> simp_all)
 refine ab.skip (ab.sr ?_)
 refine .an ?_
 refine aa.nil (ab.ret ?_)
 exact .ri rfl (by cases b <;> simp_all)
open Go Go.AW Go.Proofs
set_option maxRecDepth 4000 in
set_option maxHeartbeats 1000000 in
theorem uo {w : Int} {x : Nat} (hw : 1 ≤ w ∧ w ≤ 64) (hx : x < 18446744073709551616) (hm : x.testBit (w.toNat - 1) = true) : ak Try.prog 179 [.v (.int .i64 w), .v (.int .u64 (x : Int))] [] [] (fun r o => r = .v (.int .u64 ((2 ^ w.toNat - x % 2 ^ w.toNat : Nat) : Int)) ∧ o = []) := by
 refine ak.of Try.func179 rfl rfl rfl (n := 14) ag (Nat.le_of_ble_eq_true rfl) ?_
 have nq : aM w = w.toNat := (by unfold aM; rw [if_neg om, if_neg om]); have hp := dX w.toNat om; have rp := nD w x; rw [nq] at rp; have Ks : dK w x = x % 2 ^ w.toNat := (by unfold dK; rw [nq]); have LH := (oD (k := w.toNat) om).1 hm; have Pb := Nat.two_pow_pos (w.toNat - 1)
 refine ab.sr ?_
 refine .an ?_
 refine aa.nil (ab.sr ?_)
 refine .mv ?_
 refine .mv ?_
 refine aa.aR IM (sb (w := w)) rfl (.ao rfl rfl .nil) ag rfl ?_
 refine .mv ?_
 refine .mv ?_
 refine aa.aR xX (kr (w := w) (x := x) (om)) rfl (.ao rfl rfl (.ao rfl rfl .nil)) ag rfl ?_
 refine .vl (Y.we (a := (2 ^ aM w - 1)) (b := (dK w x)) rfl rfl aB) ?_
 refine .vl (Y.qc (a := (((2 ^ aM w - 1) + (18446744073709551616 - (dK w x))) % 18446744073709551616)) (b := 1) rfl rfl) ?_
 refine aa.aR xX (kr (w := w) (x := (((((2 ^ aM w - 1) + (18446744073709551616 - (dK w x))) % 18446744073709551616) + 1) % 18446744073709551616)) (om)) rfl (.ao rfl rfl (.ao rfl rfl .nil)) ag rfl ?_
 refine .an ?_
 refine aa.nil (ab.ret ?_)
 exact .ri rfl (by rw [vD om nq hm])
set_option maxRecDepth 4000 in
set_option maxHeartbeats 1000000 in
theorem jc {w : Int} {x : Nat} (hw : 1 ≤ w ∧ w ≤ 64) (hx : x < 18446744073709551616) : ak Try.prog 140 [.v (.int .i64 w), .v (.int .u64 (x : Int))] [] [] (fun r o => r = .v (.int .i64 (nS w.toNat x)) ∧ o = []) := by
 refine ak.of Try.func140 rfl rfl rfl (n := 19) ag (Nat.le_of_ble_eq_true rfl) ?_
 have nq : aM w = w.toNat := (by unfold aM; rw [if_neg om, if_neg om]); have hp := dX w.toNat om; have rp := nD w x; rw [nq] at rp; have Ks : dK w x = x % 2 ^ w.toNat := (by unfold dK; rw [nq])
 refine ab.sr ?_
 refine .an ?_
 refine aa.nil (ab.seq (ab.sr ?_))
 refine .mv ?_
 refine .mv ?_
 refine aa.aR AG (oJ (w := w) (x := x) hw (om)) rfl (.ao rfl rfl (.ao rfl rfl .nil)) ag rfl ?_
 refine aa.nil ?_
 refine ab.ay rfl (fun c7 => ?_) (fun c7 => ?_)
 refine ab.seq ?_
 have LH := (oD (k := w.toNat) om).1 c7; have Pb := Nat.two_pow_pos (w.toNat - 1); have FY : 2 ^ w.toNat = 2 * 2 ^ (w.toNat - 1) := (by rw [← Nat.pow_succ']; congr 1; omega)
 refine ab.region ?_
 refine .mv ?_
 refine .mv ?_
 refine aa.aR IZ (uo (w := w) (x := x) hw (om) c7) rfl (.ao rfl rfl (.ao rfl rfl .nil)) ag rfl ?_
 refine .vl (Y.we (a := (2 ^ w.toNat - x % 2 ^ w.toNat)) (b := 1) rfl rfl om) ?_
 refine .vl (Y.qk sK Pf rfl (IntWalk.i64_in _ om)) ?_
 refine .vl (Y.zk rfl aB) ?_
 refine .vl (Y.wd rfl rfl aB) ?_
 refine .an ?_
 refine aa.nil (ab.ret ?_)
 exact .ri rfl (by rw [CS om c7]; omega)
 refine ab.skip (ab.seq ?_)
 have LH : ¬ 2 ^ (w.toNat - 1) ≤ x % 2 ^ w.toNat := (fun q => c7 ((oD (k := w.toNat) om).2 q)); have FY : 2 ^ w.toNat = 2 * 2 ^ (w.toNat - 1) := (by rw [← Nat.pow_succ']; congr 1; omega)
 refine ab.region ?_
 refine .mv ?_
 refine .mv ?_
 refine aa.aR xX (kr (w := w) (x := x) (om)) rfl (.ao rfl rfl (.ao rfl rfl .nil)) ag rfl ?_
 refine .vl (Y.qk sK Pf rfl (IntWalk.i64_in _ om)) ?_
 refine .an ?_
 refine aa.nil (ab.ret ?_)
 exact .ri rfl (by rw [CT om c7, Ks])
open Go Go.AW Go.Proofs
set_option maxRecDepth 4000 in
set_option maxHeartbeats 1000000 in
theorem kR {w width : Int} {x : Nat} {s : Bool} (hw : 1 ≤ w ∧ w ≤ 64) (hd : 1 ≤ width ∧ width ≤ 64) (hx : x < 18446744073709551616) : ak Try.prog 82 [.v (.int .i64 w), .v (.int .i64 width), .v (.int .u64 (x : Int)), .v (.bool s)] [] [] (fun r o => r = .v (.int .u64 ((gp (As w.toNat x s) width.toNat : Nat) : Int)) ∧ o = []) := by
 refine ak.of Try.func82 rfl rfl rfl (n := 45) ag (Nat.le_of_ble_eq_true rfl) ?_
 have nq : aM w = w.toNat := (by unfold aM; rw [if_neg om, if_neg om]); have Th : aM width = width.toNat := (by unfold aM; rw [if_neg om, if_neg om])
 refine ab.sr ?_
 refine .an ?_
 refine aa.nil (ab.sr ?_)
 refine .mv ?_
 refine .mv ?_
 refine aa.aR sM (fF (w := w) (x := x) (om)) rfl (.ao rfl rfl (.ao rfl rfl .nil)) ag rfl ?_
 refine aa.bd rfl ag (aa.sh (Sh.bB (d := 9) ((aF (aM w) x).map al) rfl iW (cp.map bf)) (aa.nil ?_))
 refine ab.sr ?_
 refine .an ?_
 refine aa.nil ?_
 refine ab.gO (fun (eW : Nat) => ⟨[(1, .v (.int .i64 width)), (9, .fz 1 ((aF (aM w) x).map al)), (10, .v (.int .i64 (eW : Int)))], []⟩) (fun (eW : Nat) => eW = (((s && x.testBit (w.toNat - 1)).toNat : Nat) : Int)) ?_ (fun eW Eo => ?_)
 refine ab.sr ?_
 refine .mv ?_
 refine .mv ?_
 refine aa.split (d := 17) rfl (fun GS => ?_) (fun GS => ?_)
 refine .gw 17 (Y.zf rfl rfl) (.gw 17 (Y.zf rfl rfl) (aa.aQ (d := 17) rfl ag rfl ?_))
 refine aa.aR AG (oJ (w := w) (x := x) hw (om)) rfl (.ao rfl rfl (.ao rfl rfl .nil)) ag rfl ?_
 refine .pk ?_
 refine aa.nil ?_
 refine ab.ay rfl (fun vN => ?_) (fun vN => ?_)
 refine ab.region ?_
 refine .an ?_
 refine aa.nil ?_
 exact ⟨1, by simp_all, Le.mk (.c (.c (.cons (ai rfl aZ) (.nil)))) (.nil)⟩
 refine ab.skip ?_
 exact ⟨0, by simp_all, Le.mk (.c (.c (.cons (ai rfl aZ) (.nil)))) (.nil)⟩
 refine .gz 17 (.gz 17 (.gz 17 ?_))
 refine .pk ?_
 refine aa.nil (ab.cj rfl (ab.skip ?_))
 exact ⟨0, by simp_all, Le.mk (.c (.c (.cons (ai rfl aZ) (.nil)))) (.nil)⟩
 refine ab.sr ?_
 refine .an ?_
 refine aa.sh (Sh.nil (d := 11) 111 1 rfl ag) (aa.nil (ab.seq ?_))
 refine ab.sr ?_
 refine .an ?_
 refine aa.nil (ab.block ?_)
 refine ab.ir (fun (gQ : Nat) (eL : List Int) => ⟨[(1, .v (.int .i64 width)), (9, .fz 1 ((aF (aM w) x).map al)), (10, .v (.int .i64 (eW : Int))), (11, .aY 111 1 0 eL.length), (12, .v (.int .i64 (gQ : Int)))], [(111, .rows 1 (eL.map al))]⟩) (fun (gQ : Nat) (eL : List Int) => ((gQ : Int) ≤ ((aM width : Nat) : Int)) ∧ (eL = ue (As w.toNat x s) gQ)) (fun (gQ : Nat) (eL : List Int) => (((aM width : Nat) : Int) - (gQ : Int)).toNat) 0 ([] : List Int) (⟨ni, rfl⟩) (Le.mk (.c (.c (.c (.cons (a8 rfl aB) (.cons (ai rfl aZ) (.nil)))))) (.c (.nil))) (fun gQ eL Jm => ?_)
 obtain ⟨Rm, ho⟩ := Jm
 refine ab.seq (ab.seq ?_)
 have uR := dL (aM w) x
 refine ab.region ?_
 refine .mv ?_
 refine .mv ?_
 refine aa.aR ug (iz (w := width)) rfl (.ao rfl rfl .nil) ag rfl (.vl (Y.zb rfl rfl) (aa.nil ?_))
 refine ab.ay rfl (fun Jn => ?_) (fun Jn => ?_)
 refine ab.skip ?_
 refine ab.gO (fun (kt : List Int) => ⟨[(1, .v (.int .i64 width)), (9, .fz 1 ((aF (aM w) x).map al)), (10, .v (.int .i64 (eW : Int))), (11, .aY 111 1 0 kt.length), (12, .v (.int .i64 (gQ : Int)))], [(111, .rows 1 (kt.map al))]⟩) (fun (kt : List Int) => kt = ue (As w.toNat x s) (gQ + 1)) ?_ (fun kt Ep => ?_)
 refine ab.block (ab.seq ?_)
 have mu : eL.length = gQ := by rw [ho, gD]
 refine ab.region ?_
 refine .mv ?_
 refine .mv ?_
 refine .vl (Y.qw (n := (aF (aM w) x).length) a7 rfl (congrArg some (List.length_map ..))) (.vl (Y.zb rfl rfl) (aa.nil ?_))
 refine ab.ay rfl (fun Er => ?_) (fun Er => ?_)
 refine ab.region ?_
 refine .mv ?_
 refine .mv ?_
 refine .mv ?_
 refine .vl (Y.qr (m := gQ) a7 rfl rfl aZ (aq (d := 0) om)) ?_
 refine .ld bg ?_
 refine aa.buildSlice (([(aF (aM w) x).getD gQ 0] : List Int).map al) a7 er rfl rfl rfl rfl rfl (az (s := 1) (f := al) (fun _ => rfl)) rfl rfl rfl ag ?_
 refine aa.bx ((eL ++ ([(aF (aM w) x).getD gQ 0] : List Int)).map al) (eL ++ ([(aF (aM w) x).getD gQ 0] : List Int)).length a7 er rfl rfl rfl rfl (b8 aB) (bm aB) (cb aB) aB aB ag ag ?_
 refine .an ?_
 refine aa.nil ?_
 exact ⟨eL ++ ([(aF (aM w) x).getD gQ 0] : List Int), by rw [ho]; exact iy (by rw [fC _ _ _ om, gE]; unfold As; rw [if_pos om]), Le.mk (.c (.c (.c (.cons (a8 rfl om) (.c (.nil)))))) (.c (.nil))⟩
 refine ab.region ?_
 refine .mv ?_
 refine .mv ?_
 refine aa.buildSlice (([(eW : Int)] : List Int).map al) a7 er rfl rfl rfl rfl rfl (az (s := 1) (f := al) (fun _ => rfl)) rfl rfl rfl ag ?_
 refine aa.bx ((eL ++ ([(eW : Int)] : List Int)).map al) (eL ++ ([(eW : Int)] : List Int)).length a7 er rfl rfl rfl rfl (b8 aB) (bm aB) (cb aB) aB aB ag ag ?_
 refine .an ?_
 refine aa.nil ?_
 exact ⟨eL ++ ([(eW : Int)] : List Int), by rw [ho]; exact iy (by unfold As; rw [if_neg om, Eo]), Le.mk (.c (.c (.c (.cons (a8 rfl om) (.c (.nil)))))) (.c (.nil))⟩
 refine ab.region ?_
 refine .mv ?_
 refine .vl (Y.qb rfl rfl aB) ?_
 refine .an ?_
 refine aa.nil ?_
 exact ⟨gQ + 1, kt, ⟨om, by rw [Ep]⟩, om, Le.mk (.c (.c (.c (.cons (a8 rfl om) (.cons (ai rfl aZ) (.nil)))))) (.c (.nil))⟩
 refine ab.exit (ab.seq ?_)
 have mu : eL.length = gQ := by rw [ho, gD]
 refine ab.region ?_
 refine .mv ?_
 refine aa.kG [111] sL (fG (l := eL) (by rw [ho]; exact oC _ _) (om)) rfl (.en rfl rfl (iU om) (iV om) .nil) (n9 rfl (gB bf)) ag rfl trivial ?_
 refine .an ?_
 refine aa.nil (ab.ret ?_)
 exact .ri rfl (by rw [ho, gX, show gQ = width.toNat by omega])
theorem qX {w : Int} {x : Nat} (hx : x < 2 ^ aM w) : ak Try.prog 35 [.v (.int .i64 w), .v (.int .u64 (x : Int))] [] [] (fun r o => r = .v (.int .u64 (x : Int)) ∧ o = []) := by
  have hp := dX (aM w) (by have := eC w; omega)
  have h1 := kr (w := w) (x := x) om
  rwa [show dK w x = x from Nat.mod_eq_of_lt hx] at h1
open Go Go.AW Go.Proofs
set_option maxRecDepth 4000 in
set_option maxHeartbeats 1000000 in
theorem sR {op w width : Int} {x y z : Nat} (hw : 1 ≤ w ∧ w ≤ 64) (hx : x < 2 ^ w.toNat) (hy : y < 2 ^ w.toNat) (ho : (2 ≤ op ∧ op ≤ 3) ∨ (9 ≤ op ∧ op ≤ 20)) : ak Try.prog 83 [.v (.int .i64 op), .v (.int .i64 w), .v (.int .u64 (x : Int)), .v (.int .u64 (y : Int))] [] [] (fun r o => r = .v (.int .u64 ((fN op w.toNat width.toNat x y z : Nat) : Int)) ∧ o = []) := by
 refine ak.of Try.func83 rfl rfl rfl (n := 209) ag (Nat.le_of_ble_eq_true rfl) ?_
 have nq : aM w = w.toNat := (by unfold aM; rw [if_neg om, if_neg om]); have hp := dX w.toNat om
 refine ab.sr ?_
 refine .an ?_
 refine aa.nil (ab.sr ?_)
 refine .mv ?_
 refine .mv ?_
 refine aa.aR xX (qX (w := w) (x := x) (by rw [nq]; assumption)) rfl (.ao rfl rfl (.ao rfl rfl .nil)) ag rfl ?_
 refine .an ?_
 refine aa.nil (ab.sr ?_)
 refine .mv ?_
 refine .mv ?_
 refine aa.aR xX (qX (w := w) (x := y) (by rw [nq]; assumption)) rfl (.ao rfl rfl (.ao rfl rfl .nil)) ag rfl ?_
 refine .an ?_
 refine aa.nil (ab.sr ?_)
 refine .mv ?_
 refine .mv ?_
 refine aa.aR sM (fF (w := w) (x := x) (om)) rfl (.ao rfl rfl (.ao rfl rfl .nil)) ag rfl ?_
 refine .mv ?_
 refine .mv ?_
 refine aa.aR sM (fF (w := w) (x := y) (om)) rfl (.ao rfl rfl (.ao rfl rfl .nil)) ag rfl ?_
 refine aa.bd rfl ag (aa.sh (Sh.bB (d := 9) ((aF (aM w) x).map al) rfl iW (cp.map bf)) (aa.bd rfl ag ?_))
 refine aa.sh (Sh.bB (d := 10) ((aF (aM w) y).map al) rfl iW (cp.map bf)) (aa.nil (ab.sr ?_))
 refine .an ?_
 refine aa.sh (Sh.nil (d := 11) 111 1 rfl ag) (aa.nil (ab.seq ?_))
 refine ab.sr ?_
 refine .an ?_
 refine aa.nil (ab.block ?_)
 refine ab.ir (fun (bO : Nat) (cS : List Int) => ⟨[(0, .v (.int .i64 op)), (1, .v (.int .i64 w)), (2, .v (.int .u64 (x : Int))), (3, .v (.int .u64 (y : Int))), (9, .fz 1 ((aF (aM w) x).map al)), (10, .fz 1 ((aF (aM w) y).map al)), (11, .aY 111 1 0 cS.length), (12, .v (.int .i64 (bO : Int)))], [(111, .rows 1 (cS.map al))]⟩) (fun (bO : Nat) (cS : List Int) => ((bO : Int) ≤ (((aF (aM w) x).length : Nat) : Int)) ∧ (cS = if 9 ≤ op ∧ op ≤ 11 then ue (BH op x y) bO else [])) (fun (bO : Nat) (cS : List Int) => ((((aF (aM w) x).length : Nat) : Int) - (bO : Int)).toNat) 0 ([] : List Int) (⟨ni, by split <;> rfl⟩) (Le.mk (.c (.c (.c (.c (.c (.c (.cons (a8 rfl aB) (.cons (ai rfl aZ) (.nil))))))))) (.c (.nil))) (fun bO cS Jo => ?_)
 obtain ⟨Rn, hb⟩ := Jo
 refine ab.seq (ab.seq ?_)
 have Ph := dL (aM w) x; have BN := dL (aM w) y
 refine ab.region ?_
 refine .mv ?_
 refine .mv ?_
 refine .vl (Y.qw (n := (aF (aM w) x).length) a7 rfl (congrArg some (List.length_map ..))) (.vl (Y.zb rfl rfl) (aa.nil ?_))
 refine ab.ay rfl (fun Er => ?_) (fun Er => ?_)
 refine ab.skip ?_
 refine ab.gO (fun (ku : List Int) => ⟨[(0, .v (.int .i64 op)), (1, .v (.int .i64 w)), (2, .v (.int .u64 (x : Int))), (3, .v (.int .u64 (y : Int))), (9, .fz 1 ((aF (aM w) x).map al)), (10, .fz 1 ((aF (aM w) y).map al)), (11, .aY 111 1 0 ku.length), (12, .v (.int .i64 (bO : Int)))], [(111, .rows 1 (ku.map al))]⟩) (fun (ku : List Int) => ku = if 9 ≤ op ∧ op ≤ 11 then ue (BH op x y) (bO + 1) else []) ?_ (fun ku Ku => ?_)
 refine ab.block (ab.seq ?_)
 have lu := CU (k := aM w) (x := x) (y := y) (i := bO) om; have mu : cS.length ≤ bO := by rw [hb]; split; exact Nat.le_of_eq (gD _ _); exact Nat.zero_le _
 refine ab.region ?_
 refine .mv ?_
 refine aa.nil (ab.block (ab.sr ?_))
 refine .vl (Y.ql rfl rfl) ?_
 refine .an ?_
 refine aa.nil ?_
 refine ab.ay rfl (fun qT => ?_) (fun qT => ?_)
 refine ab.cv rfl (aT.blind 0 rfl ba (aL.move rfl rfl) ag (aT.bp (n := 3) [1, 2, 3, 4, 5, 6, 7, 8, 9] [10, 11, 12] 10 rfl ba ?_))
 refine .cn 1 rfl (Y.zf rfl rfl) (.cn 2 rfl (Y.zf rfl rfl) ?_)
 refine .cn 3 rfl (Y.qr (m := bO) a7 rfl rfl aZ (aq (d := 0) om)) ?_
 refine .cn 4 rfl (Y.qz bg rfl rfl rfl rfl) (.cn 5 rfl (Y.zf rfl rfl) (.cn 6 rfl (Y.zf rfl rfl) ?_))
 refine .cn 7 rfl (Y.qr (m := bO) a7 rfl rfl aZ (aq (d := 0) om)) ?_
 refine .cn 8 rfl (Y.qz bg rfl rfl rfl rfl) ?_
 refine .cn 9 rfl (Y.zh rfl rfl aB) ?_
 refine AQ.nil (aT.one 10 rfl ba ?_)
 refine aa.buildSlice (([((aF (aM w) x).getD bO 0) * ((aF (aM w) y).getD bO 0)] : List Int).map al) a7 er rfl rfl rfl rfl rfl (az (s := 1) (f := al) (fun _ => rfl)) rfl rfl rfl ag ?_
 refine aa.nil ⟨rfl, ?_⟩
 refine aT.one 11 rfl ba ?_
 refine aa.bx ((cS ++ ([((aF (aM w) x).getD bO 0) * ((aF (aM w) y).getD bO 0)] : List Int)).map al) (cS ++ ([((aF (aM w) x).getD bO 0) * ((aF (aM w) y).getD bO 0)] : List Int)).length a7 er rfl rfl rfl rfl (b8 aB) (bm aB) (cb aB) aB aB ag ag ?_
 refine aa.nil ⟨rfl, ?_⟩
 refine aT.bp (n := 0) [12] [] 0 rfl ba (.cn 12 rfl (Y.qf rfl rfl) (AQ.nil ?_))
 refine aT.done ba ?_
 exact ⟨cS ++ ([((aF (aM w) x).getD bO 0) * ((aF (aM w) y).getD bO 0)] : List Int), by first | exact gd hb om (.inl ⟨om, rfl⟩) | exact gd hb om (.inr (.inl ⟨om, rfl⟩)) | exact gd hb om (.inr (.inr ⟨om, rfl⟩)) | (rw [hb, if_neg om, if_neg om]), Le.mk (.c (.c (.c (.c (.c (.c (.cons (a8 rfl om) (.c (.nil))))))))) (.c (.nil))⟩
 refine ab.sr (.vl (Y.ql rfl rfl) ?_)
 refine .an ?_
 refine aa.nil ?_
 refine ab.ay rfl (fun Ro => ?_) (fun Ro => ?_)
 refine ab.cv rfl (aT.blind 0 rfl ba (aL.move rfl rfl) ag (aT.bp (n := 3) [1, 2, 3, 4, 5, 6, 7, 8, 9] [10, 11, 12] 10 rfl ba ?_))
 refine .cn 1 rfl (Y.zf rfl rfl) (.cn 2 rfl (Y.zf rfl rfl) ?_)
 refine .cn 3 rfl (Y.qr (m := bO) a7 rfl rfl aZ (aq (d := 0) om)) ?_
 refine .cn 4 rfl (Y.qz bg rfl rfl rfl rfl) (.cn 5 rfl (Y.zf rfl rfl) (.cn 6 rfl (Y.zf rfl rfl) ?_))
 refine .cn 7 rfl (Y.qr (m := bO) a7 rfl rfl aZ (aq (d := 0) om)) ?_
 refine .cn 8 rfl (Y.qz bg rfl rfl rfl rfl) (.cn 9 rfl (Y.zd rfl rfl rfl) (AQ.nil ?_))
 refine aT.one 10 rfl ba ?_
 refine aa.buildSlice (([if ((aF (aM w) y).getD bO 0) > ((aF (aM w) x).getD bO 0) then ((aF (aM w) y).getD bO 0) else ((aF (aM w) x).getD bO 0)] : List Int).map al) a7 er rfl rfl rfl rfl rfl (az (s := 1) (f := al) (fun _ => rfl)) rfl rfl rfl ag ?_
 refine aa.nil ⟨rfl, ?_⟩
 refine aT.one 11 rfl ba ?_
 refine aa.bx ((cS ++ ([if ((aF (aM w) y).getD bO 0) > ((aF (aM w) x).getD bO 0) then ((aF (aM w) y).getD bO 0) else ((aF (aM w) x).getD bO 0)] : List Int)).map al) (cS ++ ([if ((aF (aM w) y).getD bO 0) > ((aF (aM w) x).getD bO 0) then ((aF (aM w) y).getD bO 0) else ((aF (aM w) x).getD bO 0)] : List Int)).length a7 er rfl rfl rfl rfl (b8 aB) (bm aB) (cb aB) aB aB ag ag ?_
 refine aa.nil ⟨rfl, ?_⟩
 refine aT.bp (n := 0) [12] [] 0 rfl ba (.cn 12 rfl (Y.qf rfl rfl) (AQ.nil ?_))
 refine aT.done ba ?_
 exact ⟨cS ++ ([if ((aF (aM w) y).getD bO 0) > ((aF (aM w) x).getD bO 0) then ((aF (aM w) y).getD bO 0) else ((aF (aM w) x).getD bO 0)] : List Int), by first | exact gd hb om (.inl ⟨om, rfl⟩) | exact gd hb om (.inr (.inl ⟨om, rfl⟩)) | exact gd hb om (.inr (.inr ⟨om, rfl⟩)) | (rw [hb, if_neg om, if_neg om]), Le.mk (.c (.c (.c (.c (.c (.c (.cons (a8 rfl aB) (.c (.nil))))))))) (.c (.nil))⟩
 refine ab.sr (.vl (Y.ql rfl rfl) ?_)
 refine .an ?_
 refine aa.nil ?_
 refine ab.ay rfl (fun ru => ?_) (fun ru => ?_)
 refine ab.cv rfl (aT.blind 0 rfl ba (aL.move rfl rfl) ag (aT.bp (n := 3) [1, 2, 3, 4, 5, 6, 7, 8, 9, 10] [11, 12, 13] 11 rfl ba ?_))
 refine .cn 1 rfl (Y.zf rfl rfl) (.cn 2 rfl (Y.zf rfl rfl) ?_)
 refine .cn 3 rfl (Y.qr (m := bO) a7 rfl rfl aZ (aq (d := 0) om)) ?_
 refine .cn 4 rfl (Y.qz bg rfl rfl rfl rfl) (.cn 5 rfl (Y.zf rfl rfl) (.cn 6 rfl (Y.zf rfl rfl) ?_))
 refine .cn 7 rfl (Y.qr (m := bO) a7 rfl rfl aZ (aq (d := 0) om)) ?_
 refine .cn 8 rfl (Y.qz bg rfl rfl rfl rfl) ?_
 refine .cn 9 rfl (Y.qb rfl rfl aB) ?_
 refine .cn 10 rfl (Y.zu rfl rfl aB) ?_
 refine AQ.nil (aT.one 11 rfl ba ?_)
 refine aa.buildSlice (([(((aF (aM w) x).getD bO 0) + ((aF (aM w) y).getD bO 0)) % 2] : List Int).map al) a7 er rfl rfl rfl rfl rfl (az (s := 1) (f := al) (fun _ => rfl)) rfl rfl rfl ag ?_
 refine aa.nil ⟨rfl, ?_⟩
 refine aT.one 12 rfl ba ?_
 refine aa.bx ((cS ++ ([(((aF (aM w) x).getD bO 0) + ((aF (aM w) y).getD bO 0)) % 2] : List Int)).map al) (cS ++ ([(((aF (aM w) x).getD bO 0) + ((aF (aM w) y).getD bO 0)) % 2] : List Int)).length a7 er rfl rfl rfl rfl (b8 aB) (bm aB) (cb aB) aB aB ag ag ?_
 refine aa.nil ⟨rfl, ?_⟩
 refine aT.bp (n := 0) [13] [] 0 rfl ba (.cn 13 rfl (Y.qf rfl rfl) (AQ.nil ?_))
 refine aT.done ba ?_
 exact ⟨cS ++ ([(((aF (aM w) x).getD bO 0) + ((aF (aM w) y).getD bO 0)) % 2] : List Int), by first | exact gd hb om (.inl ⟨om, rfl⟩) | exact gd hb om (.inr (.inl ⟨om, rfl⟩)) | exact gd hb om (.inr (.inr ⟨om, rfl⟩)) | (rw [hb, if_neg om, if_neg om]), Le.mk (.c (.c (.c (.c (.c (.c (.cons (a8 rfl om) (.c (.nil))))))))) (.c (.nil))⟩
 refine ab.skip ?_
 exact ⟨cS, by first | exact gd hb om (.inl ⟨om, rfl⟩) | exact gd hb om (.inr (.inl ⟨om, rfl⟩)) | exact gd hb om (.inr (.inr ⟨om, rfl⟩)) | (rw [hb, if_neg om, if_neg om]), Le.mk (.c (.c (.c (.c (.c (.c (.cons (a8 rfl om) (.c (.nil))))))))) (.c (.nil))⟩
 refine ab.region ?_
 refine .mv ?_
 refine .vl (Y.qb rfl rfl aB) ?_
 refine .an ?_
 refine aa.nil ?_
 exact ⟨bO + 1, ku, ⟨om, by rw [Ku]⟩, om, Le.mk (.c (.c (.c (.c (.c (.c (.cons (a8 rfl om) (.cons (ai rfl aZ) (.nil))))))))) (.c (.nil))⟩
 refine ab.exit (ab.sr ?_)
 refine .an ?_
 refine aa.nil ?_
 refine ab.gO (fun (jz : Nat) => ⟨[(0, .v (.int .i64 op)), (1, .v (.int .i64 w)), (2, .v (.int .u64 (x : Int))), (3, .v (.int .u64 (y : Int))), (9, .fz 1 ((aF (aM w) x).map al)), (10, .fz 1 ((aF (aM w) y).map al)), (11, .aY 111 1 0 cS.length), (13, .v (.int .i64 (jz : Int)))], [(111, .rows 1 (cS.map al))]⟩) (fun (jz : Nat) => jz = (((x.testBit (w.toNat - 1)).toNat : Nat) : Int)) ?_ (fun jz Mk => ?_)
 refine ab.sr ?_
 refine .mv ?_
 refine .mv ?_
 refine aa.aR AG (oJ (w := w) (x := x) hw (om)) rfl (.ao rfl rfl (.ao rfl rfl .nil)) ag rfl ?_
 refine aa.nil ?_
 refine ab.ay rfl (fun GU => ?_) (fun GU => ?_)
 refine ab.region ?_
 refine .an ?_
 refine aa.nil ?_
 exact ⟨1, by simp_all, Le.mk (.c (.c (.c (.c (.c (.c (.c (.cons (ai rfl aZ) (.nil))))))))) (.c (.nil))⟩
 refine ab.skip ?_
 exact ⟨0, by simp_all, Le.mk (.c (.c (.c (.c (.c (.c (.c (.cons (ai rfl aZ) (.nil))))))))) (.c (.nil))⟩
 refine ab.seq (ab.sr ?_)
 refine .mv ?_
 refine aa.nil (ab.block (ab.seq ?_))
 refine ab.sr (.vl (Y.ql rfl rfl) ?_)
 refine .an ?_
 refine aa.nil ?_
 refine ab.bh rfl (fun Jp => ?_) (fun Jp => ?_)
 refine ab.skip (ab.aI rfl (ab.sr ?_))
 refine .mv ?_
 refine aa.kG [111] sL (fG (l := cS) (by rw [hb, if_pos om]; exact oC _ _) (by rw [hb, if_pos om, gD]; omega)) rfl (.en rfl rfl (iU om) (iV om) .nil) (n9 rfl (gB bf)) ag rfl trivial ?_
 refine .an ?_
 refine aa.nil (ab.ret ?_)
 exact .ri rfl (by rw [hb, if_pos om, gX, show bO = w.toNat by omega, At (width := width.toNat) (z := z) om hx hy])
 refine ab.sr (.vl (Y.ql rfl rfl) ?_)
 refine .an ?_
 refine aa.nil ?_
 refine ab.bh rfl (fun Jp => ?_) (fun Jp => ?_)
 refine ab.skip (ab.aI rfl (ab.sr ?_))
 refine .mv ?_
 refine aa.kG [111] sL (fG (l := cS) (by rw [hb, if_pos om]; exact oC _ _) (by rw [hb, if_pos om, gD]; omega)) rfl (.en rfl rfl (iU om) (iV om) .nil) (n9 rfl (gB bf)) ag rfl trivial ?_
 refine .an ?_
 refine aa.nil (ab.ret ?_)
 exact .ri rfl (by rw [hb, if_pos om, gX, show bO = w.toNat by omega, At (width := width.toNat) (z := z) om hx hy])
 refine ab.region (.vl (Y.ql rfl rfl) ?_)
 refine .an ?_
 refine aa.nil ?_
 refine ab.bh rfl (fun Jp => ?_) (fun Jp => ?_)
 refine ab.sr ?_
 refine .mv ?_
 refine aa.kG [111] sL (fG (l := cS) (by rw [hb, if_pos om]; exact oC _ _) (by rw [hb, if_pos om, gD]; omega)) rfl (.en rfl rfl (iU om) (iV om) .nil) (n9 rfl (gB bf)) ag rfl trivial ?_
 refine .an ?_
 refine aa.nil (ab.ret ?_)
 exact .ri rfl (by rw [hb, if_pos om, gX, show bO = w.toNat by omega, At (width := width.toNat) (z := z) om hx hy])
 refine ab.sr (.vl (Y.ql rfl rfl) ?_)
 refine .an ?_
 refine aa.nil ?_
 refine ab.ay rfl (fun ln => ?_) (fun ln => ?_)
 refine ab.sr ?_
 refine .mv ?_
 refine .mv ?_
 refine aa.n8 Eh (sc (a := (aF (aM w) x)) (b := (aF (aM w) y)) (c0 := 0) (n := aM w) (dL _ _) (dL _ _) (eC _) (lC _ _) (lC _ _) ag) rfl (.ao rfl rfl (.ao rfl rfl (.ao rfl rfl .nil))) ag ?_
 rintro _ ⟨Jq, Ml, Mm, Mn, rfl, _⟩
 refine ⟨rfl, ?_⟩
 refine aa.sh (Sh.bB (d := 92) (Jq.map al) rfl iW (cp.map bf)) (aa.aR sL (fG (l := Jq) Mm (by rw [Ml]; exact eC _)) rfl (.ao rfl rfl .nil) ag rfl ?_)
 refine .an ?_
 refine aa.nil (ab.ret ?_)
 exact .ri rfl (by obtain rfl : op = 2 := om; rw [Mn, js, js, nq, Nat.mod_eq_of_lt hx, Nat.mod_eq_of_lt hy]; exact congrArg _ (FF hx hy))
 refine ab.sr (.vl (Y.ql rfl rfl) ?_)
 refine .an ?_
 refine aa.nil ?_
 refine ab.ay rfl (fun mx => ?_) (fun mx => ?_)
 refine ab.sr ?_
 refine .mv ?_
 refine .mv ?_
 refine .mv ?_
 refine aa.aR IM (sb (w := w)) rfl (.ao rfl rfl .nil) ag rfl ?_
 refine .mv ?_
 refine .vl (Y.we (a := (2 ^ aM w - 1)) (b := y) rfl rfl om) ?_
 refine aa.aR sM (fF (w := w) (x := (((2 ^ aM w - 1) + (18446744073709551616 - y)) % 18446744073709551616)) (om)) rfl (.ao rfl rfl (.ao rfl rfl .nil)) ag rfl ?_
 refine aa.sh (Sh.bB (d := 102) ((aF (aM w) (((2 ^ aM w - 1) + (18446744073709551616 - y)) % 18446744073709551616)).map al) rfl iW (cp.map bf)) ?_
 refine aa.n8 Eh (sc (a := (aF (aM w) x)) (b := (aF (aM w) (((2 ^ aM w - 1) + (18446744073709551616 - y)) % 18446744073709551616))) (c0 := 1) (n := aM w) (dL _ _) (dL _ _) (eC _) (lC _ _) (lC _ _) ag) rfl (.ao rfl rfl (.ao rfl rfl (.ao rfl rfl .nil))) ag ?_
 rintro _ ⟨Es, Jr, Js, Jt, rfl, _⟩
 refine ⟨rfl, ?_⟩
 refine aa.sh (Sh.bB (d := 103) (Es.map al) rfl iW (cp.map bf)) (aa.aR sL (fG (l := Es) Js (by rw [Jr]; exact eC _)) rfl (.ao rfl rfl .nil) ag rfl ?_)
 refine .an ?_
 refine aa.nil (ab.ret ?_)
 exact .ri rfl (by obtain rfl : op = 3 := om; rw [Jt, js, Au om nq hy, nq, Nat.mod_eq_of_lt hx]; exact congrArg _ (FG hx hy))
 refine ab.sr (.vl (Y.ql rfl rfl) ?_)
 refine .an ?_
 refine aa.nil ?_
 refine ab.ay rfl (fun FZ => ?_) (fun FZ => ?_)
 exfalso; omega
 refine ab.sr (.vl (Y.ql rfl rfl) ?_)
 refine .an ?_
 refine aa.nil ?_
 refine ab.ay rfl (fun sS => ?_) (fun sS => ?_)
 refine ab.sr ?_
 refine .mv ?_
 refine .mv ?_
 refine .mv ?_
 refine .mv ?_
 refine aa.aR AH (kQ (w := w) (x := y) hw (om)) rfl (.ao rfl rfl (.ao rfl rfl .nil)) ag rfl ?_
 refine aa.aR IX (ya (w := w) (x := x) (n := (min y w.toNat)) hw (om) (om)) rfl (.ao rfl rfl (.ao rfl rfl (.ao rfl rfl .nil))) ag rfl ?_
 refine .an ?_
 refine aa.nil (ab.ret ?_)
 exact .ri rfl (by obtain rfl : op = 12 := om; rw [FH (width := width.toNat) (z := z)])
 refine ab.sr (.vl (Y.ql rfl rfl) ?_)
 refine .an ?_
 refine aa.nil ?_
 refine ab.ay rfl (fun Mo => ?_) (fun Mo => ?_)
 refine ab.sr ?_
 refine .mv ?_
 refine .mv ?_
 refine .mv ?_
 refine .mv ?_
 refine aa.aR AH (kQ (w := w) (x := y) hw (om)) rfl (.ao rfl rfl (.ao rfl rfl .nil)) ag rfl ?_
 refine aa.aR Ei (sd (w := w) (x := x) (n := (min y w.toNat)) (f := false) (fi := 0) hw (aB) (aB) rfl) rfl (.ao rfl rfl (.ao rfl rfl (.ao rfl rfl (.ao rfl rfl .nil)))) ag rfl ?_
 refine .an ?_
 refine aa.nil (ab.ret ?_)
 exact .ri rfl (by obtain rfl : op = 13 := om; rw [FI (width := width.toNat) (z := z) hx])
 refine ab.sr (.vl (Y.ql rfl rfl) ?_)
 refine .an ?_
 refine aa.nil ?_
 refine ab.ay rfl (fun Mp => ?_) (fun Mp => ?_)
 refine ab.sr ?_
 refine .mv ?_
 refine .mv ?_
 refine .mv ?_
 refine .mv ?_
 refine aa.aR AH (kQ (w := w) (x := y) hw (om)) rfl (.ao rfl rfl (.ao rfl rfl .nil)) ag rfl ?_
 refine .mv ?_
 refine aa.aR Ei (sd (w := w) (x := x) (n := (min y w.toNat)) (f := x.testBit (w.toNat - 1)) (fi := (jz : Int)) hw (om) (om) Mk) rfl (.ao rfl rfl (.ao rfl rfl (.ao rfl rfl (.ao rfl rfl .nil)))) ag rfl ?_
 refine .an ?_
 refine aa.nil (ab.ret ?_)
 exact .ri rfl (by obtain rfl : op = 14 := om; rw [FJ (width := width.toNat) (z := z) om])
 refine ab.sr (.vl (Y.ql rfl rfl) ?_)
 refine .an ?_
 refine aa.nil ?_
 refine ab.ay rfl (fun Mq => ?_) (fun Mq => ?_)
 refine ab.sr ?_
 refine .mv ?_
 refine .mv ?_
 refine .vl (Y.ql rfl rfl) (aa.aR rZ (jh (b := (decide ((x : Int) = (y : Int))))) rfl (.ao rfl rfl .nil) ag rfl ?_)
 refine .an ?_
 refine aa.nil (ab.ret ?_)
 exact .ri rfl (by rw [p8.1 om])
 refine ab.sr (.vl (Y.ql rfl rfl) ?_)
 refine .an ?_
 refine aa.nil ?_
 refine ab.ay rfl (fun vP => ?_) (fun vP => ?_)
 refine ab.sr ?_
 refine .mv ?_
 refine .mv ?_
 refine .vl (Y.zl rfl rfl) (aa.aR rZ (jh (b := (decide ((x : Int) ≠ (y : Int))))) rfl (.ao rfl rfl .nil) ag rfl ?_)
 refine .an ?_
 refine aa.nil (ab.ret ?_)
 exact .ri rfl (by rw [p8.2.1 om])
 refine ab.sr (.vl (Y.ql rfl rfl) ?_)
 refine .an ?_
 refine aa.nil ?_
 refine ab.ay rfl (fun Mr => ?_) (fun Mr => ?_)
 refine ab.sr ?_
 refine .mv ?_
 refine .mv ?_
 refine .vl (Y.zb rfl rfl) (aa.aR rZ (jh (b := (decide ((x : Int) < (y : Int))))) rfl (.ao rfl rfl .nil) ag rfl ?_)
 refine .an ?_
 refine aa.nil (ab.ret ?_)
 exact .ri rfl (by rw [p8.2.2.1 om])
 refine ab.sr (.vl (Y.ql rfl rfl) ?_)
 refine .an ?_
 refine aa.nil ?_
 refine ab.ay rfl (fun Ms => ?_) (fun Ms => ?_)
 refine ab.sr ?_
 refine .mv ?_
 refine .mv ?_
 refine .vl (Y.qy rfl rfl) (aa.aR rZ (jh (b := (decide ((x : Int) ≤ (y : Int))))) rfl (.ao rfl rfl .nil) ag rfl ?_)
 refine .an ?_
 refine aa.nil (ab.ret ?_)
 exact .ri rfl (by rw [p8.2.2.2 om])
 refine ab.sr (.vl (Y.ql rfl rfl) ?_)
 refine .an ?_
 refine aa.nil ?_
 refine ab.ay rfl (fun Mt => ?_) (fun Mt => ?_)
 refine ab.sr ?_
 refine .mv ?_
 refine .mv ?_
 refine aa.aR xp (jc (w := w) (x := x) hw (om)) rfl (.ao rfl rfl (.ao rfl rfl .nil)) ag rfl ?_
 refine .mv ?_
 refine .mv ?_
 refine aa.aR xp (jc (w := w) (x := y) hw (om)) rfl (.ao rfl rfl (.ao rfl rfl .nil)) ag rfl ?_
 refine .vl (Y.zb rfl rfl) (aa.aR rZ (jh (b := (decide ((nS w.toNat x) < (nS w.toNat y))))) rfl (.ao rfl rfl .nil) ag rfl ?_)
 refine .an ?_
 refine aa.nil (ab.ret ?_)
 exact .ri rfl (by rw [vF.2.2.2.2.1 om])
 refine ab.sr (.vl (Y.ql rfl rfl) ?_)
 refine .an ?_
 refine aa.nil ?_
 refine ab.ay rfl (fun Mu => ?_) (fun Mu => ?_)
 refine ab.sr ?_
 refine .mv ?_
 refine .mv ?_
 refine aa.aR xp (jc (w := w) (x := x) hw (om)) rfl (.ao rfl rfl (.ao rfl rfl .nil)) ag rfl ?_
 refine .mv ?_
 refine .mv ?_
 refine aa.aR xp (jc (w := w) (x := y) hw (om)) rfl (.ao rfl rfl (.ao rfl rfl .nil)) ag rfl ?_
 refine .vl (Y.qy rfl rfl) (aa.aR rZ (jh (b := (decide ((nS w.toNat x) ≤ (nS w.toNat y))))) rfl (.ao rfl rfl .nil) ag rfl ?_)
 refine .an ?_
 refine aa.nil (ab.ret ?_)
 exact .ri rfl (by rw [vF.2.2.2.2.2 om])
 refine ab.seq (ab.sr (.vl (Y.ql rfl rfl) ?_))
 refine .an ?_
 refine aa.nil ?_
 refine ab.bh rfl (fun Dj => ?_) (fun Dj => ?_)
 exfalso; omega
 exfalso; omega
open Go Go.AW Go.Proofs
set_option maxRecDepth 4000 in
set_option maxHeartbeats 1000000 in
theorem yc {l : List Gate} {ins : List Bool} (hg : Good l) (hn : ins.length = iO l) (hl : l.length ≤ 1000000) : ak Try.prog 39 [.fz 3 (l.map Gate.row), .fz 1 (ins.map eb)] [] [] (fun r o => r = .cX 1 ((outs l ins l.length).map eb) ∧ o = []) := by
 refine ak.of Try.func39 rfl rfl rfl (n := 86) ag (Nat.le_of_ble_eq_true rfl) (ab.sr ?_)
 refine .an ?_
 refine aa.nil (ab.sr ?_)
 refine .an ?_
 refine aa.sh (Sh.nil (d := 5) 105 1 rfl ag) (aa.nil (ab.sr ?_))
 refine .an ?_
 refine aa.nil (ab.seq (ab.sr ?_))
 refine .an ?_
 refine aa.nil (ab.block ?_)
 refine ab.eP (fun (lL : Nat) (dT : Nat) (cB : List Bool) => ⟨[(0, .fz 3 (l.map Gate.row)), (1, .fz 1 (ins.map eb)), (5, .aY 105 1 0 cB.length), (6, .v (.int .i64 (lL : Int))), (7, .v (.int .i64 (dT : Int)))], [(105, .rows 1 (cB.map eb))]⟩) (fun (lL : Nat) (dT : Nat) (cB : List Bool) => ((dT : Int) ≤ (l.length : Int)) ∧ (cB = outs l ins dT ∧ lL = iO (l.take dT))) (fun (lL : Nat) (dT : Nat) (cB : List Bool) => ((l.length : Int) - (dT : Int)).toNat) 0 0 ([] : List Bool) (⟨ni, ⟨rfl, rfl⟩⟩) (Le.mk (.c (.c (.cons (a8 rfl aB) (.cons (ai rfl aZ) (.cons (ai rfl aZ) (.nil)))))) (.c (.nil))) (fun lL dT cB um => ?_)
 obtain ⟨y7, hO⟩ := um
 refine ab.seq (ab.sr ?_)
 refine .mv ?_
 refine .mv ?_
 refine .vl (Y.qw (n := l.length) qS rfl (congrArg some (List.length_map ..))) (.vl (Y.zb rfl rfl) (aa.nil ?_))
 refine ab.ay rfl (fun y6 => ?_) (fun y6 => ?_)
 refine ab.skip (ab.seq (ab.block ?_))
 refine ab.seq ?_
 obtain ⟨AM, sT⟩ := hO; have ov := aN.1 (hg.d dT om); have mu : cB.length = dT := (by rw [AM, uf om]); have Rp := vx (l.take dT); rw [List.length_take] at Rp
 refine ab.region ?_
 refine .mv ?_
 refine .mv ?_
 refine .vl (Y.qr (m := dT) qS rfl rfl aZ (aq (d := default) om)) ?_
 refine .vl (Y.za Em rfl rfl (Nat.le_of_ble_eq_true rfl) rfl rfl) (aa.alloc 108 uj rfl rfl ag (aa.aw En rfl rfl rfl rfl rfl rfl (Nat.le_of_ble_eq_true rfl) rfl ?_))
 refine aa.nil (ab.sr ?_)
 refine .an ?_
 refine aa.nil ?_
 refine ab.m5 (fun (qY : Nat) (lM : Bool) => ⟨[(0, .fz 3 (l.map Gate.row)), (1, .fz 1 (ins.map eb)), (5, .aY 105 1 0 cB.length), (6, .v (.int .i64 (qY : Int))), (7, .v (.int .i64 (dT : Int))), (9, .v (.bool lM))], [(105, .rows 1 (cB.map eb))]⟩) (fun (qY : Nat) (lM : Bool) => lM = valOf cB ins lL (l.getD dT default) ∧ qY = iO (l.take (dT + 1))) ?_ (fun qY lM AN => ?_)
 refine ab.sr ?_
 refine .fa dD ?_
 refine .ld bg ?_
 refine aa.nil (ab.block (ab.sr ?_))
 refine .vl (Y.ql rfl rfl) ?_
 refine .an ?_
 refine aa.nil ?_
 refine ab.ay rfl (fun mj => ?_) (fun mj => ?_)
 refine ab.region ?_
 refine .an ?_
 refine aa.nil ?_
 exact ⟨lL, true, ⟨(Rg om).symm, by rw [eR om, if_neg om, sT, Nat.add_zero]⟩, Le.mk (.c (.c (.c (.cons (ai rfl aZ) (.c (.cons (au rfl dz) (.nil))))))) (.c (.nil))⟩
 refine ab.sr (.vl (Y.ql rfl rfl) ?_)
 refine .an ?_
 refine aa.nil ?_
 refine ab.ay rfl (fun yd => ?_) (fun yd => ?_)
 have wG := CP (l := l) (i := dT) om yd
 refine ab.sr ?_
 refine .mv ?_
 refine .mv ?_
 refine .vl (Y.qr (m := lL) ja rfl rfl aZ (aq (d := false) om)) ?_
 refine .ld r9 ?_
 refine .an ?_
 refine aa.nil (ab.region ?_)
 refine .mv ?_
 refine .vl (Y.qb rfl rfl aB) ?_
 refine .an ?_
 refine aa.nil ?_
 exact ⟨lL + 1, ins.getD lL false, ⟨(Rh om).symm, by rw [eR om, if_pos om, sT]⟩, Le.mk (.c (.c (.c (.cons (ai rfl aZ) (.c (.cons (au rfl dz) (.nil))))))) (.c (.nil))⟩
 refine ab.sr (.vl (Y.ql rfl rfl) ?_)
 refine .an ?_
 refine aa.nil ?_
 refine ab.ay rfl (fun Ju => ?_) (fun Ju => ?_)
 refine ab.region ?_
 refine .mv ?_
 refine .fa fE ?_
 refine .ld bg ?_
 refine .vl (Y.qs (m := ((l.getD dT default).a).toNat) ja rfl rfl om om) ?_
 refine .vl (Y.qz r9 rfl (aV (d := false) om) rfl rfl) ?_
 refine .vl (Y.zo rfl) ?_
 refine .an ?_
 refine aa.nil ?_
 exact ⟨lL, (!(cB.getD (((l.getD dT default).a).toNat) false)), ⟨(Ri om).symm, by rw [eR om, if_neg om, sT, Nat.add_zero]⟩, Le.mk (.c (.c (.c (.cons (ai rfl aZ) (.c (.cons (au rfl dz) (.nil))))))) (.c (.nil))⟩
 refine ab.sr (.vl (Y.ql rfl rfl) ?_)
 refine .an ?_
 refine aa.nil ?_
 refine ab.ay rfl (fun vQ => ?_) (fun vQ => ?_)
 refine ab.region ?_
 refine .mv ?_
 refine .fa fE ?_
 refine .ld bg ?_
 refine .vl (Y.qs (m := ((l.getD dT default).a).toNat) ja rfl rfl om om) ?_
 refine .vl (Y.qz r9 rfl (aV (d := false) om) rfl rfl) ?_
 refine .mv ?_
 refine aa.split (d := 47) rfl (fun Et => ?_) (fun Et => ?_)
 refine .gw 47 (Y.zf rfl rfl) (.gw 47 (Y.qo dg rfl rfl) (.gw 47 (Y.qz bg rfl rfl rfl rfl) ?_))
 refine .gw 47 (Y.qs (m := ((l.getD dT default).b).toNat) ja rfl rfl om om) ?_
 refine .gw 47 (Y.qz r9 rfl (aV (d := false) om) rfl rfl) ?_
 refine .pk ?_
 refine .an ?_
 refine aa.nil ?_
 exact ⟨lL, cB.getD (((l.getD dT default).b).toNat) false, ⟨by rw [Pc om, Et]; rfl, by rw [eR om, if_neg om, sT, Nat.add_zero]⟩, Le.mk (.c (.c (.c (.cons (ai rfl aZ) (.c (.cons (au rfl dz) (.nil))))))) (.c (.nil))⟩
 refine .gz 47 (.gz 47 (.gz 47 ?_))
 refine .gz 47 (.gz 47 ?_)
 refine .pk ?_
 refine .an ?_
 refine aa.nil ?_
 exact ⟨lL, false, ⟨by rw [Pc om, Et]; rfl, by rw [eR om, if_neg om, sT, Nat.add_zero]⟩, Le.mk (.c (.c (.c (.cons (ai rfl aZ) (.c (.cons (au rfl dz) (.nil))))))) (.c (.nil))⟩
 refine ab.sr (.vl (Y.ql rfl rfl) ?_)
 refine .an ?_
 refine aa.nil ?_
 refine ab.ay rfl (fun BL => ?_) (fun BL => ?_)
 refine ab.region ?_
 refine .mv ?_
 refine .fa fE ?_
 refine .ld bg ?_
 refine .vl (Y.qs (m := ((l.getD dT default).a).toNat) ja rfl rfl om om) ?_
 refine .vl (Y.qz r9 rfl (aV (d := false) om) rfl rfl) ?_
 refine .mv ?_
 refine aa.split (d := 61) rfl (fun Mv => ?_) (fun Mv => ?_)
 refine .gz 61 (.gz 61 (.gz 61 ?_))
 refine .gz 61 (.gz 61 ?_)
 refine .pk ?_
 refine .an ?_
 refine aa.nil ?_
 exact ⟨lL, true, ⟨by rw [Pd om, Mv]; rfl, by rw [eR om, if_neg om, sT, Nat.add_zero]⟩, Le.mk (.c (.c (.c (.cons (ai rfl aZ) (.c (.cons (au rfl dz) (.nil))))))) (.c (.nil))⟩
 refine .gw 61 (Y.zf rfl rfl) (.gw 61 (Y.qo dg rfl rfl) (.gw 61 (Y.qz bg rfl rfl rfl rfl) ?_))
 refine .gw 61 (Y.qs (m := ((l.getD dT default).b).toNat) ja rfl rfl om om) ?_
 refine .gw 61 (Y.qz r9 rfl (aV (d := false) om) rfl rfl) ?_
 refine .pk ?_
 refine .an ?_
 refine aa.nil ?_
 exact ⟨lL, cB.getD (((l.getD dT default).b).toNat) false, ⟨by rw [Pd om, Mv]; rfl, by rw [eR om, if_neg om, sT, Nat.add_zero]⟩, Le.mk (.c (.c (.c (.cons (ai rfl aZ) (.c (.cons (au rfl dz) (.nil))))))) (.c (.nil))⟩
 refine ab.sr (.vl (Y.ql rfl rfl) ?_)
 refine .an ?_
 refine aa.nil ?_
 refine ab.ay rfl (fun xt => ?_) (fun xt => ?_)
 refine ab.gC rfl ba (a9.val (Y.zf rfl rfl) ag (a9.val (Y.qo fE rfl rfl) ag ?_))
 refine a9.val (Y.qz bg rfl rfl rfl rfl) ag ?_
 refine a9.val (Y.qs (m := ((l.getD dT default).a).toNat) ja rfl rfl om om) ag ?_
 refine a9.val (Y.qz r9 rfl (aV (d := false) om) rfl rfl) ag ?_
 refine a9.val (Y.zf rfl rfl) ag (a9.val (Y.qo dg rfl rfl) ag (a9.val (Y.qz bg rfl rfl rfl rfl) ag ?_))
 refine a9.val (Y.qs (m := ((l.getD dT default).b).toNat) ja rfl rfl om om) ag ?_
 refine a9.val (Y.qz r9 rfl (aV (d := false) om) rfl rfl) ag ?_
 refine a9.val (Y.zm LQ rfl rfl) ag (a9.val (Y.qf rfl rfl) ag (a9.nil ?_))
 exact ⟨lL, (cB.getD (((l.getD dT default).a).toNat) false) != (cB.getD (((l.getD dT default).b).toNat) false), ⟨(Rj om).symm, by rw [eR om, if_neg om, sT, Nat.add_zero]⟩, Le.mk (.c (.c (.c (.cons (ai rfl aZ) (.c (.cons (au rfl dz) (.nil))))))) (.c (.nil))⟩
 refine ab.skip ?_
 exact ⟨lL, false, ⟨(Rl om).symm, by rw [eR om, if_neg om, sT, Nat.add_zero]⟩, Le.mk (.c (.c (.c (.cons (ai rfl aZ) (.c (.cons (au rfl dz) (.nil))))))) (.c (.nil))⟩
 refine ab.region ?_
 refine .mv ?_
 refine .mv ?_
 refine aa.buildSlice (([lM] : List Bool).map eb) ja FU rfl rfl rfl rfl rfl (az (s := 1) (f := eb) (fun _ => rfl)) rfl rfl rfl ag ?_
 refine aa.bx ((cB ++ ([lM] : List Bool)).map eb) (cB ++ ([lM] : List Bool)).length ja FU rfl rfl rfl rfl (b8 aB) (bm aB) (cb aB) aB aB ag ag ?_
 refine .an ?_
 refine aa.nil (ab.region ?_)
 refine .mv ?_
 refine .vl (Y.qb rfl rfl aB) ?_
 refine .an ?_
 refine aa.nil ?_
 exact ⟨qY, dT + 1, cB ++ ([lM] : List Bool), ⟨ni, ⟨by rw [xU om, ← AM, AN.1, sT], AN.2⟩⟩, om, Le.mk (.c (.c (.cons (a8 rfl aB) (.cons (ai rfl aZ) (.cons (ai rfl aZ) (.nil)))))) (.c (.nil))⟩
 refine ab.exit (ab.sr ?_)
 refine .mv ?_
 refine .an ?_
 refine aa.sh (Sh.cK (d := 4) (o := 105) rfl rfl (bn om) ag) ?_
 refine aa.nil (ab.ret ?_)
 exact ⟨_, _, rfl, rfl, by rw [hO.1, show dT = l.length by omega]; rfl, rfl⟩
open Go Go.AW Go.Proofs
set_option maxRecDepth 4000 in
set_option maxHeartbeats 1000000 in
theorem pa {w : Int} {x : Nat} (hx : x < 18446744073709551616) : ak Try.prog 36 [.v (.int .i64 w), .v (.int .u64 (x : Int))] [] [] (fun r o => r = .cX 1 ((bL (Nat.testBit x) (aM w)).map eb) ∧ o = []) := by
 refine ak.of Try.func36 rfl rfl rfl (n := 26) ag (Nat.le_of_ble_eq_true rfl) ?_
 have nq := eC w
 refine ab.sr ?_
 refine .an ?_
 refine aa.nil (ab.sr ?_)
 refine .an ?_
 refine aa.sh (Sh.nil (d := 5) 105 1 rfl ag) (aa.nil (ab.sr ?_))
 refine .mv ?_
 refine .mv ?_
 refine aa.aR sM (fF (w := w) (x := x) (om)) rfl (.ao rfl rfl (.ao rfl rfl .nil)) ag rfl ?_
 refine aa.bd rfl ag (aa.sh (Sh.bB (d := 6) ((aF (aM w) x).map al) rfl iW (cp.map bf)) (aa.nil ?_))
 refine ab.seq (ab.sr ?_)
 refine .an ?_
 refine aa.nil (ab.block ?_)
 refine ab.ir (fun (dT : Nat) (cB : List Bool) => ⟨[(5, .aY 105 1 0 cB.length), (6, .fz 1 ((aF (aM w) x).map al)), (7, .v (.int .i64 (dT : Int)))], [(105, .rows 1 (cB.map eb))]⟩) (fun (dT : Nat) (cB : List Bool) => ((dT : Int) ≤ (((aF (aM w) x).length : Nat) : Int)) ∧ (cB = bL (Nat.testBit x) dT)) (fun (dT : Nat) (cB : List Bool) => ((((aF (aM w) x).length : Nat) : Int) - (dT : Int)).toNat) 0 ([] : List Bool) (⟨ni, rfl⟩) (Le.mk (.cons (a8 rfl aB) (.c (.cons (ai rfl aZ) (.nil)))) (.c (.nil))) (fun dT cB um => ?_)
 obtain ⟨y7, ho⟩ := um
 refine ab.seq (ab.seq ?_)
 have uR := dL (aM w) x
 refine ab.region ?_
 refine .mv ?_
 refine .mv ?_
 refine .vl (Y.qw (n := (aF (aM w) x).length) a7 rfl (congrArg some (List.length_map ..))) (.vl (Y.zb rfl rfl) (aa.nil ?_))
 refine ab.ay rfl (fun xZ => ?_) (fun xZ => ?_)
 refine ab.skip (ab.seq (ab.block ?_))
 have mu : cB.length = dT := by rw [ho, qM]
 refine ab.region ?_
 refine .mv ?_
 refine .mv ?_
 refine .mv ?_
 refine .vl (Y.qr (m := dT) a7 rfl rfl aZ (aq (d := 0) om)) ?_
 refine .ld bg ?_
 refine .vl (Y.ql rfl rfl) ?_
 refine aa.buildSlice (([decide (((aF (aM w) x).getD dT 0) = 1)] : List Bool).map eb) ja FU rfl rfl rfl rfl rfl (az (s := 1) (f := eb) (fun _ => rfl)) rfl rfl rfl ag ?_
 refine aa.bx ((cB ++ ([decide (((aF (aM w) x).getD dT 0) = 1)] : List Bool)).map eb) (cB ++ ([decide (((aF (aM w) x).getD dT 0) = 1)] : List Bool)).length ja FU rfl rfl rfl rfl (b8 aB) (bm aB) (cb aB) aB aB ag ag ?_
 refine .an ?_
 refine aa.nil (ab.region ?_)
 refine .mv ?_
 refine .vl (Y.qb rfl rfl aB) ?_
 refine .an ?_
 refine aa.nil ?_
 exact ⟨dT + 1, cB ++ ([decide (((aF (aM w) x).getD dT 0) = 1)] : List Bool), ⟨om, by rw [ho]; exact CX (Ax om)⟩, om, Le.mk (.cons (a8 rfl om) (.c (.cons (ai rfl aZ) (.nil)))) (.c (.nil))⟩
 refine ab.exit (ab.sr ?_)
 refine .mv ?_
 refine .an ?_
 refine aa.sh (Sh.cK (d := 4) (o := 105) rfl rfl (bn om) ag) ?_
 refine aa.nil (ab.ret ?_)
 exact ⟨_, _, rfl, rfl, (yw (fun (z0 : List Bool) => X.cX 1 (z0.map eb)) (by rw [ho, show dT = aM w by omega] : cB = bL (Nat.testBit x) (aM w)) : X.cX 1 (cB.map eb) = X.cX 1 ((bL (Nat.testBit x) (aM w)).map eb)), rfl⟩
set_option maxRecDepth 4000 in
set_option maxHeartbeats 1000000 in
theorem vR {kB : List Bool} {cO : List Int} {x : Nat} (hx : x < 18446744073709551616) (hl : cO.length ≤ 64) (hp : ∀ j, j < cO.length → 0 ≤ cO.getD j 0 ∧ cO.getD j 0 < (kB.length : Int)) : ak Try.prog 38 [.fz 1 (kB.map eb), .fz 1 (cO.map al), .v (.int .u64 (x : Int))] [] [] (fun r o => r = .v (.bool (decide (vH kB cO x))) ∧ o = []) := by
 refine ak.of Try.func38 rfl rfl rfl (n := 31) ag (Nat.le_of_ble_eq_true rfl) ?_
 have Ti : aM (cO.length : Int) = cO.length := (by unfold aM; rw [if_neg om, if_neg om]; rfl)
 refine ab.sr ?_
 refine .an ?_
 refine aa.nil (ab.sr ?_)
 refine .mv ?_
 refine .vl (Y.qw (n := cO.length) a7 rfl (congrArg some (List.length_map ..))) ?_
 refine .mv ?_
 refine aa.aR Jc (pa (w := (cO.length : Int)) (x := x) (om)) rfl (.ao rfl rfl (.ao rfl rfl .nil)) ag rfl ?_
 refine aa.bd rfl ag (aa.sh (Sh.bB (d := 7) ((bL (Nat.testBit x) (aM (cO.length : Int))).map eb) rfl iW (cp.map kK)) (aa.nil ?_))
 refine ab.seq (ab.sr ?_)
 refine .an ?_
 refine aa.nil (ab.block ?_)
 refine ab.jD (fun (eI : Nat) => ⟨[(0, .fz 1 (kB.map eb)), (1, .fz 1 (cO.map al)), (7, .fz 1 ((bL (Nat.testBit x) (aM (cO.length : Int))).map eb)), (8, .v (.int .i64 (eI : Int)))], []⟩) (fun (eI : Nat) => ((eI : Int) ≤ (cO.length : Int)) ∧ (∀ j, j < eI → kB.getD (cO.getD j 0).toNat false = x.testBit j)) (fun (eI : Nat) => ((cO.length : Int) - (eI : Int)).toNat) 0 (⟨om, fun j hj => by omega⟩) (Le.mk (.c (.c (.c (.cons (ai rfl aZ) (.nil))))) (.nil)) (fun eI nW => ?_)
 obtain ⟨AL, hs⟩ := nW
 refine ab.seq (ab.sr ?_)
 refine .mv ?_
 refine .mv ?_
 refine .vl (Y.qw (n := cO.length) a7 rfl (congrArg some (List.length_map ..))) (.vl (Y.zb rfl rfl) (aa.nil ?_))
 refine ab.ay rfl (fun sQ => ?_) (fun sQ => ?_)
 refine ab.skip (ab.seq (ab.block ?_))
 refine ab.seq ?_
 have Tj := hp eI om; have uR := qM (Nat.testBit x) (aM (cO.length : Int))
 refine ab.gC rfl ba (a9.val (Y.zf rfl rfl) ag (a9.val (Y.zf rfl rfl) ag ?_))
 refine a9.val (Y.zf rfl rfl) ag ?_
 refine a9.val (Y.qr (m := eI) a7 rfl rfl aZ (aq (d := 0) om)) ag ?_
 refine a9.val (Y.qz bg rfl rfl rfl rfl) ag ?_
 refine a9.val (Y.qr (m := (cO.getD eI 0).toNat) ja rfl rfl om (aq (d := false) om)) ag ?_
 refine a9.val (Y.qz r9 rfl rfl rfl rfl) ag (a9.val (Y.zf rfl rfl) ag (a9.val (Y.zf rfl rfl) ag ?_))
 refine a9.val (Y.qr (m := eI) ja rfl rfl aZ (aq (d := false) om)) ag ?_
 refine a9.val (Y.qz r9 rfl rfl rfl rfl) ag (a9.val (Y.zm LQ rfl rfl) ag (a9.nil ?_))
 refine ab.cond rfl (fun nt => ?_) (fun nt => ?_)
 refine ab.sr ?_
 refine .an ?_
 refine aa.nil (ab.ret ?_)
 exact .rb rfl (df (fun h => by have h1 := vG (f := Nat.testBit x) (n := aM (cO.length : Int)) (i := eI) om; have h2 := h eI om; rw [h2, h1] at nt; simp at nt))
 refine ab.skip (ab.region ?_)
 refine .mv ?_
 refine .vl (Y.qb rfl rfl aB) ?_
 refine .an ?_
 refine aa.nil ?_
 exact ⟨eI + 1, ⟨om, e8 hs (by have h1 := vG (f := Nat.testBit x) (n := aM (cO.length : Int)) (i := eI) om; rw [← h1]; simpa using nt)⟩, om, Le.mk (.c (.c (.c (.cons (ai rfl aZ) (.nil))))) (.nil)⟩
 refine ab.exit (ab.sr ?_)
 refine .an ?_
 refine aa.nil (ab.ret ?_)
 exact .rb rfl (dt (fun j hj => hs j om))
set_option maxRecDepth 4000 in
set_option maxHeartbeats 1000000 in
theorem vS {op width : Int} {a : List Nat} {ws : List Int} (hD : ko op ws width) (ha : a.length = ws.length) (hv : ∀ j, j < ws.length → a.getD j 0 < 2 ^ (ws.getD j 0).toNat) : ak Try.prog 40 [.v (.int .i64 op), .v (.int .i64 width), .fz 1 (a.map mS), .fz 1 (ws.map al)] [] [] (fun r o => r = .v (.int .u64 ((BK op width ws a : Nat) : Int)) ∧ o = []) := by
 refine ak.of Try.func40 rfl rfl rfl (n := 54) ag (Nat.le_of_ble_eq_true rfl) ?_
 have tj := qK hD.2.2.2.1 hD.2.2.2.2.1; have hlen := hD.len; have h0 := hv 0 om; have Rq := hD.2.1 (ws.getD 0 0) (getD_in om); have uP := hD.2.2.1; have hf := hD.2.2.2.2.2; unfold cw at Rq uP; unfold cx gK at hf; have Tk := dX (ws.getD 0 0).toNat om
 refine ab.sr ?_
 refine .an ?_
 refine aa.nil (ab.seq (ab.sr ?_))
 refine .mv ?_
 refine aa.nil (ab.block (ab.sr ?_))
 refine .vl (Y.ql rfl rfl) ?_
 refine .an ?_
 refine aa.nil ?_
 refine ab.ay rfl (fun Jk => ?_) (fun Jk => ?_)
 refine ab.seq (ab.sr ?_)
 refine .mv ?_
 refine .vl (Y.qr (m := 0) rB rfl rfl aZ (aq (d := 0) om)) ?_
 refine .ld fo ?_
 refine .vl (Y.ql rfl rfl) (aa.nil ?_)
 refine ab.ay rfl (fun pB => ?_) (fun pB => ?_)
 refine ab.sr ?_
 refine .mv ?_
 refine .vl (Y.qr (m := 1) rB rfl rfl aZ (aq (d := 0) om)) ?_
 refine .ld fo ?_
 refine .an ?_
 refine aa.nil (ab.ret ?_)
 exact .ri rfl (by obtain rfl : op = 21 := om; unfold BK; rw [← Aw, if_pos om])
 refine ab.skip (ab.sr ?_)
 refine .mv ?_
 refine .vl (Y.qr (m := 2) rB rfl rfl aZ (aq (d := 0) om)) ?_
 refine .ld fo ?_
 refine .an ?_
 refine aa.nil (ab.ret ?_)
 exact .ri rfl (by obtain rfl : op = 21 := om; unfold BK; rw [← Aw, if_neg om])
 refine ab.seq (ab.sr (.vl (Y.ql rfl rfl) ?_))
 refine .an ?_
 refine aa.nil ?_
 refine ab.bh rfl (fun mj => ?_) (fun mj => ?_)
 refine ab.skip (ab.aI rfl (ab.seq ?_))
 refine ab.iT 7 rfl ba (a9.val (Y.zf rfl rfl) ag ?_)
 refine a9.val (Y.qr (m := 0) a7 rfl rfl aZ (aq (d := 0) om)) ag ?_
 refine a9.val (Y.qz bg rfl rfl rfl rfl) ag (a9.val (Y.zf rfl rfl) ag (a9.val (Y.zf rfl rfl) ag ?_))
 refine a9.val (Y.qr (m := 0) rB rfl rfl aZ (aq (d := 0) om)) ag ?_
 refine a9.val (Y.qz fo rfl rfl rfl rfl) ag (a9.nil ?_)
 refine aa.aR FV (kR (w := (ws.getD 0 0)) (width := width) (x := (a.getD 0 0)) (s := false) (om) (om) (om)) rfl (.ao rfl rfl (.ao rfl rfl (.ao rfl rfl (.ao rfl rfl .nil)))) ag rfl ?_
 refine .an ?_
 refine aa.nil (ab.ret ?_)
 exact .ri rfl (by obtain rfl : op = 22 := om; exact congrArg _ (CV h0 om))
 refine ab.region (.vl (Y.ql rfl rfl) ?_)
 refine .an ?_
 refine aa.nil ?_
 refine ab.bh rfl (fun mj => ?_) (fun mj => ?_)
 refine ab.seq (ab.iT 7 rfl ba (a9.val (Y.zf rfl rfl) ag ?_))
 refine a9.val (Y.qr (m := 0) a7 rfl rfl aZ (aq (d := 0) om)) ag ?_
 refine a9.val (Y.qz bg rfl rfl rfl rfl) ag (a9.val (Y.zf rfl rfl) ag (a9.val (Y.zf rfl rfl) ag ?_))
 refine a9.val (Y.qr (m := 0) rB rfl rfl aZ (aq (d := 0) om)) ag ?_
 refine a9.val (Y.qz fo rfl rfl rfl rfl) ag (a9.nil ?_)
 refine aa.aR FV (kR (w := (ws.getD 0 0)) (width := width) (x := (a.getD 0 0)) (s := false) (om) (om) (om)) rfl (.ao rfl rfl (.ao rfl rfl (.ao rfl rfl (.ao rfl rfl .nil)))) ag rfl ?_
 refine .an ?_
 refine aa.nil (ab.ret ?_)
 exact .ri rfl (by obtain rfl : op = 24 := om; exact congrArg _ (Av om))
 refine ab.sr (.vl (Y.ql rfl rfl) ?_)
 refine .an ?_
 refine aa.nil ?_
 refine ab.ay rfl (fun vT => ?_) (fun vT => ?_)
 refine ab.seq (ab.iT 7 rfl ba (a9.val (Y.zf rfl rfl) ag ?_))
 refine a9.val (Y.qr (m := 0) a7 rfl rfl aZ (aq (d := 0) om)) ag ?_
 refine a9.val (Y.qz bg rfl rfl rfl rfl) ag (a9.val (Y.zf rfl rfl) ag (a9.val (Y.zf rfl rfl) ag ?_))
 refine a9.val (Y.qr (m := 0) rB rfl rfl aZ (aq (d := 0) om)) ag ?_
 refine a9.val (Y.qz fo rfl rfl rfl rfl) ag (a9.nil ?_)
 refine aa.aR FV (kR (w := (ws.getD 0 0)) (width := width) (x := (a.getD 0 0)) (s := true) (om) (om) (om)) rfl (.ao rfl rfl (.ao rfl rfl (.ao rfl rfl (.ao rfl rfl .nil)))) ag rfl ?_
 refine .an ?_
 refine aa.nil (ab.ret ?_)
 exact .ri rfl (by obtain rfl : op = 23 := om; exact congrArg _ (CW om))
 refine ab.skip (ab.seq ?_)
 have h1 := hv 1 om; have Rr : ws.getD 1 0 = ws.getD 0 0 := by omega
 refine ab.iT 10 rfl ba (a9.val (Y.zf rfl rfl) ag (a9.val (Y.zf rfl rfl) ag ?_))
 refine a9.val (Y.qr (m := 0) a7 rfl rfl aZ (aq (d := 0) om)) ag ?_
 refine a9.val (Y.qz bg rfl rfl rfl rfl) ag (a9.val (Y.zf rfl rfl) ag ?_)
 refine a9.val (Y.qr (m := 0) rB rfl rfl aZ (aq (d := 0) om)) ag ?_
 refine a9.val (Y.qz fo rfl rfl rfl rfl) ag (a9.val (Y.zf rfl rfl) ag ?_)
 refine a9.val (Y.qr (m := 1) rB rfl rfl aZ (aq (d := 0) om)) ag ?_
 refine a9.val (Y.qz fo rfl rfl rfl rfl) ag (a9.nil ?_)
 refine aa.aR Mh (sR (op := op) (w := (ws.getD 0 0)) (width := width) (x := (a.getD 0 0)) (y := (a.getD 1 0)) (z := a.getD 2 0) (om) h0 (by rw [← Rr]; exact h1) (om)) rfl (.ao rfl rfl (.ao rfl rfl (.ao rfl rfl (.ao rfl rfl .nil)))) ag rfl ?_
 refine .an ?_
 refine aa.nil (ab.ret ?_)
 exact .ri rfl (rfl)
open Go Go.AW
def xv (n : ae) (k : Nat) (kn : List Bool) : Prop := ∀ w : Int, In w n.aj.length → (kn.getD w.toNat false = true ↔ ∃ j, cQ n j w ∧ j < k ∧ ¬ dk (n.cell j).kind)
theorem xv.init (n : ae) : xv n 0 (List.replicate n.aj.length false) := by
 intro w hw
 unfold In at hw
 rw [List.getD_eq_getElem?_getD, List.getElem?_replicate, if_pos om]
 exact ⟨fun h => (by cases h), fun ⟨j, h1, h2, _⟩ => (by have := h1.1; omega)⟩
theorem xv.skip {n : ae} {k : Nat} {l : List Bool} (h : xv n k l) (hc : dk (n.cells.getD k default).kind ∨ (n.cells.getD k default).kind = 7) : xv n (k + 1) l := by
 intro w hw
 rw [h w hw]
 constructor
 ·rintro ⟨j, h1, h2, h3⟩; exact ⟨j, h1, om, h3⟩
 ·rintro ⟨j, h1, h2, h3⟩
  refine ⟨j, h1, ?_, h3⟩
  rcases Int.lt_or_eq_of_le (show j ≤ k by omega) with h' | h'
  ·exact h'
  ·subst h'
   rcases hc with hc | hc
   ·exact absurd hc h3
   ·exact absurd hc h1.2.1
theorem xv.step {n : ae} {k : Nat} {l : List Bool} (h : xv n k l) (hk : k < n.cells.length) (hl : l.length = n.aj.length) (hc : ¬ dk (n.cells.getD k default).kind) (h7 : (n.cells.getD k default).kind ≠ 7) (ho : In (n.cells.getD k default).out n.aj.length) :
  xv n (k + 1) (l.set (n.cells.getD k default).out.toNat true) := by
 intro w hw
 unfold In at ho
 have pf := hw
 unfold In at pf
 rw [bM]
 by_cases e : (n.cells.getD k default).out = w
 ·rw [if_pos ⟨om, om⟩]
  exact ⟨fun _ => ⟨(k : Int), ⟨⟨om, om⟩, h7, e⟩, om, hc⟩, fun _ => rfl⟩
 ·rw [if_neg om, h w hw]
  constructor
  ·rintro ⟨j, h1, h2, h3⟩; exact ⟨j, h1, om, h3⟩
  ·rintro ⟨j, h1, h2, h3⟩
   refine ⟨j, h1, ?_, h3⟩
   rcases Int.lt_or_eq_of_le (show j ≤ k by omega) with h' | h'
   ·exact h'
   ·subst h'; exact absurd h1.2.2 e
structure LD (n : ae) (done : List Int) (kn : List Bool) (left : Int) : Prop where
 nd : done.Nodup
 cm : ∀ x ∈ done, bo n x
 kn : ∀ w, In w n.aj.length → (kn.getD w.toNat false = true ↔ ¬ Open n done w)
 left : left = (n.cells.length : Int) - ((g5 n n.cells.length).length : Int) - (done.length : Int)
 mw : ∀ p i s, done = p ++ i :: s → de n p i = 0
section
variable {n : ae} (hf : b5 n)
include hf
theorem LD.init {kn : List Bool} (h : xv n n.cells.length kn) : LD n [] kn ((n.cells.length : Int) - ((g5 n n.cells.length).length : Int)) where
 nd := List.nodup_nil
 cm := fun _ h => (by cases h)
 kn := fun w hw => by
  rw [h w hw]
  constructor
  ·rintro ⟨j, h1, h2, h3⟩ ⟨⟨i, hi, e⟩, _⟩
   have := hf.unique h1 (e ▸ hi.iK)
   subst this; exact h3 hi.2
  ·intro ho
   obtain ⟨j, hj⟩ := hf.q6 hw
   refine ⟨j, hj, by have := hj.1; omega, fun hc => ho ⟨⟨j, ⟨hj.1, hc⟩, hj.2.2⟩, fun _ h => (by cases h)⟩⟩
 left := by simp
 mw := fun p i s h => by simp at h
theorem LD.step {done : List Int} {kn : List Bool} {left i : Int} (h : LD n done kn left) (hl : kn.length = n.aj.length) (hi : bo n i) (hk : kn.getD (n.cell i).out.toNat false = false) (hz : de n done i = 0) :
  LD n (done ++ [i]) (kn.set (n.cell i).out.toNat true) (left - 1) := by
 have Gb := hf.jG hi.iK
 have GN : Open n done (n.cell i).out := Classical.byContradiction fun hh => by
  have := (h.kn _ Gb).2 hh
  rw [hk] at this; cases this
 have Ly : i ∉ done := fun hm => GN.2 i hm rfl
 refine ⟨?_, fun x hx => ?_, fun w hw => ?_, ?_, fun p j s e => ?_⟩
 ·rw [List.nodup_append]
  exact ⟨h.nd, by simp, fun a ha b hb e => Ly (by rw [← List.mem_singleton.1 hb, ← e]; exact ha)⟩
 ·rcases List.mem_append.1 hx with hx | hx
  ·exact h.cm x hx
  ·rw [List.mem_singleton.1 hx]; exact hi
 ·unfold In at Gb
  have pf := hw
  unfold In at pf
  have ho : Open n (done ++ [i]) w ↔ Open n done w ∧ (n.cell i).out ≠ w := by
   constructor
   ·rintro ⟨a, b⟩
    exact ⟨⟨a, fun j hj => b j (by simp [hj])⟩, b i (by simp)⟩
   ·rintro ⟨⟨a, b⟩, c⟩
    refine ⟨a, fun j hj => ?_⟩
    rcases List.mem_append.1 hj with hj | hj
    ·exact b j hj
    ·rw [List.mem_singleton.1 hj]; exact c
  rw [bM, ho]
  by_cases e : (n.cell i).out = w
  ·rw [if_pos ⟨om, om⟩]
   exact ⟨fun _ h => h.2 e, fun _ => rfl⟩
  ·rw [if_neg om, h.kn w hw]
   exact ⟨fun h1 h2 => h1 h2.1, fun h1 h2 => h1 ⟨h2, e⟩⟩
 ·rw [h.left, List.length_append]; simp; omega
 ·rcases List.eq_nil_or_concat s with rfl | ⟨s', x, rfl⟩
  ·obtain ⟨rfl, e3⟩ := List.append_inj' (t₁ := [i]) (t₂ := [j]) e rfl
   cases e3
   exact hz
  ·have e2 := List.append_inj' (s₁ := done) (s₂ := p ++ j :: s') (t₁ := [i]) (t₂ := [x]) (by rw [e]; simp) rfl
   exact h.mw p j s' e2.1
theorem LD.known {done : List Int} {kn : List Bool} {left : Int} (h : LD n done kn left) {i : Int} (hi : 0 ≤ i ∧ i < n.cells.length) : (∀ x ∈ (n.cell i).args, kn.getD x.toNat false = true) ↔ de n done i = 0 := by
 unfold de
 rw [List.countP_eq_zero]
 constructor
 ·intro hh x hx ho
  exact (h.kn x (hf.rS hi hx)).1 (hh x hx) (of_decide_eq_true ho)
 ·intro hh x hx
  exact (h.kn x (hf.rS hi hx)).2 (fun ho => hh x hx (decide_eq_true ho))
def Ev (n : ae) (k : Int) (done : List Int) : Prop := ∀ i, bo n i → i < k → Open n done (n.cell i).out → de n done i ≠ 0
theorem LD.ki {done : List Int} {kn : List Bool} {left : Int} (h : LD n done kn left) (hs : Ev n n.cells.length done) : KI n done [] ((List.range n.cells.length).map (fun (i : Nat) => (de n done (i : Int) : Int))) where
 nd := by simpa using h.nd
 cm := fun x hx => h.cm x (by simpa using hx)
 kj := fun i hi => by
  have hb := hi.1
  rw [List.getD_eq_getElem?_getD, List.getElem?_map, List.getElem?_range om]
  simp only [Option.map_some, Option.getD_some]
  rw [show (i.toNat : Int) = i by omega]
 full := fun i hi => by
  rw [List.append_nil]
  constructor
  ·intro hm
   obtain ⟨p, s, e⟩ := List.append_of_mem hm
   have := h.mw p i s e
   rw [ma] at this ⊢
   intro x hx hc
   obtain ⟨j, hj, e2⟩ := this x hx hc
   exact ⟨j, by rw [e]; simp [hj], e2⟩
  ·intro hz
   refine Classical.byContradiction fun hn => hs i hi hi.1.2 ⟨⟨i, hi, rfl⟩, fun j hj e => hn ?_⟩ hz
   have := hf.unique (h.cm j hj).iK (e ▸ hi.iK)
   exact this ▸ hj
 mw := h.mw
end
theorem LD.pos {n : ae} {done : List Int} {kn : List Bool} {left : Int} (h : LD n done kn left) : 0 ≤ left ∧ left ≤ n.cells.length := by
 have jA : (g5 n n.cells.length ++ done).Nodup := by
  rw [List.nodup_append]
  refine ⟨q7 _ _, h.nd, fun a ha b hb e => ?_⟩
  subst e
  exact (iv.1 ha).2 (h.cm a hb).2
 have := length_le_of_subset (m := (List.range n.cells.length).map (fun (i : Nat) => (i : Int))) jA (fun x hx => by
  have j5 : 0 ≤ x ∧ x < n.cells.length := by
   rcases List.mem_append.1 hx with hx | hx
   ·exact (iv.1 hx).1
   ·exact (h.cm x hx).1
  exact List.mem_map.2 ⟨x.toNat, List.mem_range.2 om, om⟩)
 rw [List.length_append, List.length_map, List.length_range] at this
 have hl := h.left
 omega
def Dk (n : ae) (k mD : Int) (kn : List Bool) (left : Int) (more : Bool) : Prop := ∃ done, LD n done kn left ∧ left ≤ mD ∧ (more = true → left < mD) ∧ (more = false → Ev n k done)
theorem Dk.seq {n : ae} {k : Nat} {mD left : Int} {kn : List Bool} {more : Bool} (h : Dk n k mD kn left more) (hc : ¬ dk (n.cells.getD k default).kind) : Dk n ((k + 1 : Nat) : Int) mD kn left more := by
 obtain ⟨done, h1, h2, h3, h4⟩ := h
 refine ⟨done, h1, h2, h3, fun hm i hi h0 => h4 hm i hi (kM hc hi h0)⟩
section
variable {n : ae} (hf : b5 n) {k : Nat} {mD left : Int} {kn : List Bool} {more : Bool}
include hf
theorem Dk.skip (h : Dk n k mD kn left more) (hk : k < n.cells.length) (hc : kn.getD (n.cells.getD k default).out.toNat false = true ∨ ¬ ∀ x ∈ (n.cells.getD k default).args, kn.getD x.toNat false = true) (yz : dk (n.cells.getD k default).kind) : Dk n ((k + 1 : Nat) : Int) mD kn left more := by
 obtain ⟨done, h1, h2, h3, h4⟩ := h
 have hi : bo n (k : Int) := ⟨⟨om, om⟩, yz⟩
 refine ⟨done, h1, h2, h3, fun hm i R3 h0 => ?_⟩
 by_cases e : i = k
 ·subst e
  intro ho hz
  rcases hc with hc | hc
  ·exact (h1.kn _ (hf.jG hi.iK)).1 hc ho
  ·exact hc ((h1.known hf hi.1).2 hz)
 ·exact h4 hm i R3 om
theorem Dk.step (h : Dk n k mD kn left more) (hk : k < n.cells.length) (hl : kn.length = n.aj.length) (h1 : kn.getD (n.cells.getD k default).out.toNat false = false) (h2 : ∀ x ∈ (n.cells.getD k default).args, kn.getD x.toNat false = true) (yz : dk (n.cells.getD k default).kind) :
  Dk n ((k + 1 : Nat) : Int) mD (kn.set (n.cells.getD k default).out.toNat true) (left - 1) true := by
 obtain ⟨done, a1, a2, a3, a4⟩ := h
 have hi : bo n (k : Int) := ⟨⟨om, om⟩, yz⟩
 refine ⟨done ++ [(k : Int)], a1.step hf hl hi h1 ((a1.known hf hi.1).1 h2), om, fun _ => by omega, fun h => (by cases h)⟩
end
theorem xv.next {n : ae} (hf : b5 n) {k : Nat} {kn : List Bool} (h : xv n k kn) (hk : k < n.cells.length) (hl : kn.length = n.aj.length) :
  (¬ dk (n.cells.getD k default).kind → 0 ≤ (n.cells.getD k default).out → xv n (k + 1) (kn.set (n.cells.getD k default).out.toNat true)) ∧ (dk (n.cells.getD k default).kind → xv n (k + 1) kn ∧ 0 ≤ (n.cells.getD k default).out) ∧
  (¬ 0 ≤ (n.cells.getD k default).out → xv n (k + 1) kn) ∧ (0 ≤ (n.cells.getD k default).out → (n.cells.getD k default).out < n.aj.length) := by
 obtain ⟨_, _, a3, a4⟩ := hf.cells k hk
 refine ⟨fun hc ho => ?_, fun hc => ⟨h.skip (.inl hc), ?_⟩, fun ho => ?_, fun ho => ?_⟩
 ·have h7 : (n.cells.getD k default).kind ≠ 7 := fun h7 => by have := a3 h7; omega
  exact h.step hk hl hc h7 (a4 h7)
 ·have h7 : (n.cells.getD k default).kind ≠ 7 := fun h7 => by rw [h7] at hc; revert hc; unfold dk; omega
  exact (a4 h7).1
 ·have h7 : (n.cells.getD k default).kind = 7 := Classical.byContradiction fun h7 => ho (a4 h7).1
  exact h.skip (.inr h7)
 ·have h7 : (n.cells.getD k default).kind ≠ 7 := fun h7 => by have := a3 h7; omega
  exact (a4 h7).2
open Go Go.AW
end Go.Proofs.Ytlimckldnjmabaa
namespace Go.Proofs.Ytlimckldnjmabaa
open Go Go.AW Go.Proofs
open Go Go.AW Go.Proofs
end Go.Proofs.Ytlimckldnjmabaa
