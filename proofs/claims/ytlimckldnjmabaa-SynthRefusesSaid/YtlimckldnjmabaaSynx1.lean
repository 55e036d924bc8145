/- The words that operators of gates compute, in plain Lean. -/
import Derived.Test.YtlimckldnjmabaaSynx0
set_option linter.unusedSimpArgs false
set_option linter.unusedVariables false
set_option linter.unusedSectionVars false
set_option maxRecDepth 4000
set_option maxHeartbeats 8000000
namespace Go.Proofs.Ytlimckldnjmabaa
open Go Go.AW
section
variable {c : Int} {g0 g1 gl : List Gate} {a b r : List Int} {w : Nat} {A B : List Bool → BitVec w} {t u : Int}
theorem sum_add (hl : r.length = w) (h : Ws c gl r (tc (fun ins => (A ins).getLsbD 0 ^^ (B ins).getLsbD 0) (fun k ins => (A ins).getLsbD k && (B ins).getLsbD k) (fun k ins => (A ins).getLsbD k ^^ (B ins).getLsbD k)) u) :
  Wd c gl r w (fun ins => A ins + B ins) u := h.wd hl fun k hk ins => by
 unfold tc
 rw [yM hk]
 by_cases h0 : k = 0
 ·subst h0; simp [ca]
 ·rw [if_neg h0]
theorem z2 (hl : r.length = w) (h : Ws c gl r (tc (fun ins => (A ins).getLsbD 0 ^^ (B ins).getLsbD 0) (fun k ins => if k = 0 then (A ins).getLsbD 0 || !(B ins).getLsbD 0 else (A ins).getLsbD k && !(B ins).getLsbD k) (fun k ins => (A ins).getLsbD k ^^ !(B ins).getLsbD k)) u) :
  Wd c gl r w (fun ins => A ins - B ins) u := h.wd hl fun k hk ins => by
 unfold tc
 by_cases h0 : k = 0
 ·subst h0; rw [if_pos rfl, wE hk]
 ·rw [if_neg h0, yP hk om]; rfl
theorem z3 {s : Bool} (hw : 0 < w) (ins : List Bool) :
  ca (fun k => if s = true ∧ k + 1 = w then !(B ins).getLsbD k && (A ins).getLsbD k else !(A ins).getLsbD k && (B ins).getLsbD k) (fun k => !((A ins).getLsbD k ^^ (B ins).getLsbD k)) 0 w false = if s then (A ins).slt (B ins) else (A ins).ult (B ins) := by
 cases s
 ·rw [if_neg ag, ← wV]
  exact lL (fun i _ => by simp [AE]) (fun _ _ => rfl)
 ·rw [if_pos rfl, ← BX hw]
  exact lL (fun i _ => by unfold wW AE; simp) (fun _ _ => rfl)
theorem xc {s : Bool} {i : Nat} (ha : Wd c gl a w A t) (hb : Wd c gl b w B t) (hi : i < w) {x y : Int} (hx : x = if s = true ∧ i + 1 = w then b.getD i 0 else a.getD i 0) (hy : y = if s = true ∧ i + 1 = w then a.getD i 0 else b.getD i 0) :
  Wr c gl x (fun ins => if s = true ∧ i + 1 = w then (B ins).getLsbD i else (A ins).getLsbD i) t ∧ Wr c gl y (fun ins => if s = true ∧ i + 1 = w then (A ins).getLsbD i else (B ins).getLsbD i) t := by
 subst hx hy
 by_cases q : s = true ∧ i + 1 = w
 ·simp only [if_pos q]; exact ⟨hb.bit i hi, ha.bit i hi⟩
 ·simp only [if_neg q]; exact ⟨ha.bit i hi, hb.bit i hi⟩
theorem pg.tree {s : Bool} {ps : List aG} (hw : 0 < w) (h : pg c g0 gl (fun k ins => (A ins).getLsbD k) (fun k ins => (B ins).getLsbD k) s w u ps w) :
  ug c gl (fun ins => if s then (A ins).slt (B ins) else (A ins).ult (B ins)) w u gl ps := by
 have h1 := ug.init h.ext.dz h.wp (by rw [h.pl]; omega)
 rw [h.pl] at h1
 have h2 : (fun ins => ca (fun k => if s = true ∧ k + 1 = w then !(B ins).getLsbD k && (A ins).getLsbD k else !(A ins).getLsbD k && (B ins).getLsbD k) (fun k => !((A ins).getLsbD k ^^ (B ins).getLsbD k)) 0 w false) = (fun ins => if s then (A ins).slt (B ins) else (A ins).ult (B ins)) := funext fun ins => z3 hw ins
 rw [h2] at h1
 exact h1
theorem Cd (hr : r.length = w) (h : Ws c gl r (fun i ins => !g7 (fun j => (B ins).getLsbD (cg w + j)) (w - cg w) && nD true w (A ins).getLsbD false ((B ins).toNat % 2 ^ cg w) i) u) : Wd c gl r w (fun ins => A ins <<< (B ins).toNat) u :=
 h.wd hr fun k hk ins => (yX (mB w) hk).symm
theorem Ce (hr : r.length = w) (h : Ws c gl r (fun i ins => !g7 (fun j => (B ins).getLsbD (cg w + j)) (w - cg w) && nD false w (A ins).getLsbD false ((B ins).toNat % 2 ^ cg w) i) u) : Wd c gl r w (fun ins => A ins >>> (B ins).toNat) u :=
 h.wd hr fun k hk ins => (yY (mB w) hk).symm
theorem Cf (hr : r.length = w) (h : Ws c gl r (fun i ins => if g7 (fun j => (B ins).getLsbD (cg w + j)) (w - cg w) then (A ins).msb else nD false w (A ins).getLsbD (A ins).msb ((B ins).toNat % 2 ^ cg w) i) u) : Wd c gl r w (fun ins => (A ins).sshiftRight (B ins).toNat) u :=
 h.wd hr fun k hk ins => (yZ (mB w) hk).symm
theorem Wd.msb (h : Wd c gl a w A t) (hw : 0 < w) : Wr c gl (a.getD (w - 1) 0) (fun ins => (A ins).msb) t := (h.bit (w - 1) om).as fun ins => by rw [BitVec.msb_eq_getLsbD_last]
end
structure Wk (c : Int) (l : List Gate) (a : List Int) (w : Nat) (N : List Bool → Nat) (t : Int) : Prop where
 len : a.length = w
 lt : ∀ ins, N ins < 2 ^ w
 bit : ∀ k, k < w → Wr c l (a.getD k 0) (fun ins => (N ins).testBit k) t
theorem Wd.wk {c : Int} {l : List Gate} {a : List Int} {w : Nat} {A : List Bool → BitVec w} {t : Int} (h : Wd c l a w A t) : Wk c l a w (fun ins => (A ins).toNat) t := ⟨h.len, fun ins => (A ins).isLt, h.bit⟩
theorem Wk.wd {c : Int} {l : List Gate} {a : List Int} {w : Nat} {N : List Bool → Nat} {t : Int} (h : Wk c l a w N t) : Wd c l a w (fun ins => BitVec.ofNat w (N ins)) t :=
 ⟨h.len, fun k hk => (h.bit k hk).as fun ins => by rw [BitVec.getLsbD_ofNat]; simp [hk]⟩
theorem Wk.as {c : Int} {l : List Gate} {a : List Int} {w : Nat} {N M : List Bool → Nat} {t : Int} (h : Wk c l a w N t) (he : ∀ ins, N ins = M ins) : Wk c l a w M t := by
 obtain rfl : N = M := funext he
 exact h
theorem Wk.ext {c : Int} {l l' : List Gate} {a : List Int} {w : Nat} {N : List Bool → Nat} {t : Int} (h : Wk c l a w N t) (he : Ext l l') : Wk c l' a w N t := ⟨h.len, h.lt, fun k hk => (h.bit k hk).ext he⟩
theorem Wk.late {c : Int} {l : List Gate} {a : List Int} {w : Nat} {N : List Bool → Nat} {t t' : Int} (h : Wk c l a w N t) (ht : t ≤ t') : Wk c l a w N t' := ⟨h.len, h.lt, fun k hk => (h.bit k hk).late ht⟩
theorem Wr.CX {c : Int} {l : List Gate} {x : Int} {f : List Bool → Bool} {t : Int} (h : Wr c l x f t) : Wk c l [x] 1 (fun ins => (f ins).toNat) t :=
 ⟨rfl, fun ins => by cases f ins <;> decide, fun k hk => by
  obtain rfl : k = 0 := by omega
  exact h.as fun ins => by cases f ins <;> rfl⟩
def qC (op : Int) (w width x y z : Nat) : Nat :=
 if op = 2 then (BitVec.ofNat w x + BitVec.ofNat w y).toNat else if op = 3 then (BitVec.ofNat w x - BitVec.ofNat w y).toNat
 else if op = 9 then x &&& y else if op = 10 then x ||| y else if op = 11 then x ^^^ y
 else if op = 12 then (BitVec.ofNat w x <<< y).toNat else if op = 13 then (BitVec.ofNat w x >>> y).toNat else if op = 14 then ((BitVec.ofNat w x).sshiftRight y).toNat
 else if op = 15 then (decide (x = y)).toNat else if op = 16 then (decide (x ≠ y)).toNat
 else if op = 17 then (decide (x < y)).toNat else if op = 18 then (decide (x ≤ y)).toNat
 else if op = 19 then ((BitVec.ofNat w x).slt (BitVec.ofNat w y)).toNat else if op = 20 then ((BitVec.ofNat w x).sle (BitVec.ofNat w y)).toNat
 else if op = 21 then (if x = 1 then y else z) else if op = 22 then x else if op = 23 then ((BitVec.ofNat w x).signExtend width).toNat else x % 2 ^ width
open Go Go.AW
theorem qE {op a b d a' b' d' w : Int} (h0 : a = a') (h1 : op < 22 ∨ 24 < op → b = b') (h2 : op = 21 → d = d') : bR op a b d w ↔ bR op a' b' d' w := by
 subst h0
 unfold bR eo
 by_cases e : op = 21
 ·rw [h1 om, h2 e]
 ·by_cases e2 : op < 22 ∨ 24 < op
  ·rw [h1 e2]; omega
  ·omega
open Go Go.AW
def ui (n : ab) (k : Nat) (kn : List Bool) : Prop := ∀ w : Int, In w n.ai.length → (kn.getD w.toNat false = true ↔ ∃ j, cy n j w ∧ j < k ∧ ¬ cM (n.cell j).kind)
theorem ui.init (n : ab) : ui n 0 (List.replicate n.ai.length false) := by
 intro w hw
 unfold In at hw
 rw [List.getD_eq_getElem?_getD, List.getElem?_replicate, if_pos om]
 exact ⟨fun h => (by cases h), fun ⟨j, h1, h2, _⟩ => (by have := h1.1; omega)⟩
theorem ui.skip {n : ab} {k : Nat} {l : List Bool} (h : ui n k l) (hc : cM (n.cells.getD k default).kind ∨ (n.cells.getD k default).kind = 7) : ui n (k + 1) l := by
 intro w hw
 rw [h w hw]
 constructor
 ·rintro ⟨j, h1, h2, h3⟩; exact ⟨j, h1, om, h3⟩
 ·rintro ⟨j, h1, h2, h3⟩
  refine ⟨j, h1, ?_, h3⟩
  rcases Int.lt_or_eq_of_le (show j ≤ k by omega) with h' | h'
  ·exact h'
  ·subst h'
   rcases hc with hc | hc
   ·exact absurd hc h3
   ·exact absurd hc h1.2.1
theorem ui.step {n : ab} {k : Nat} {l : List Bool} (h : ui n k l) (hk : k < n.cells.length) (hl : l.length = n.ai.length) (hc : ¬ cM (n.cells.getD k default).kind) (h7 : (n.cells.getD k default).kind ≠ 7) (ho : In (n.cells.getD k default).out n.ai.length) :
  ui n (k + 1) (l.set (n.cells.getD k default).out.toNat true) := by
 intro w hw
 unfold In at ho
 have mw := hw
 unfold In at mw
 rw [bD]
 by_cases e : (n.cells.getD k default).out = w
 ·rw [if_pos ⟨om, om⟩]
  exact ⟨fun _ => ⟨(k : Int), ⟨⟨om, om⟩, h7, e⟩, om, hc⟩, fun _ => rfl⟩
 ·rw [if_neg om, h w hw]
  constructor
  ·rintro ⟨j, h1, h2, h3⟩; exact ⟨j, h1, om, h3⟩
  ·rintro ⟨j, h1, h2, h3⟩
   refine ⟨j, h1, ?_, h3⟩
   rcases Int.lt_or_eq_of_le (show j ≤ k by omega) with h' | h'
   ·exact h'
   ·subst h'; exact absurd h1.2.2 e
structure LD (n : ab) (done : List Int) (kn : List Bool) (left : Int) : Prop where
 nd : done.Nodup
 cm : ∀ x ∈ done, aX n x
 kn : ∀ w, In w n.ai.length → (kn.getD w.toNat false = true ↔ ¬ Open n done w)
 left : left = (n.cells.length : Int) - ((fm n n.cells.length).length : Int) - (done.length : Int)
 kF : ∀ p i s, done = p ++ i :: s → cI n p i = 0
section
variable {n : ab} (hf : bn n)
include hf
theorem LD.init {kn : List Bool} (h : ui n n.cells.length kn) : LD n [] kn ((n.cells.length : Int) - ((fm n n.cells.length).length : Int)) where
 nd := List.nodup_nil
 cm := fun _ h => (by cases h)
 kn := fun w hw => by
  rw [h w hw]
  constructor
  ·rintro ⟨j, h1, h2, h3⟩ ⟨⟨i, hi, e⟩, _⟩
   have := hf.unique h1 (e ▸ hi.g6)
   subst this; exact h3 hi.2
  ·intro ho
   obtain ⟨j, hj⟩ := hf.o0 hw
   refine ⟨j, hj, by have := hj.1; omega, fun hc => ho ⟨⟨j, ⟨hj.1, hc⟩, hj.2.2⟩, fun _ h => (by cases h)⟩⟩
 left := by simp
 kF := fun p i s h => by simp at h
theorem LD.step {done : List Int} {kn : List Bool} {left i : Int} (h : LD n done kn left) (hl : kn.length = n.ai.length) (hi : aX n i) (hk : kn.getD (n.cell i).out.toNat false = false) (hz : cI n done i = 0) :
  LD n (done ++ [i]) (kn.set (n.cell i).out.toNat true) (left - 1) := by
 have Cg := hf.iG hi.g6
 have CT : Open n done (n.cell i).out := Classical.byContradiction fun hh => by
  have := (h.kn _ Cg).2 hh
  rw [hk] at this; cases this
 have Im : i ∉ done := fun hm => CT.2 i hm rfl
 refine ⟨?_, fun x hx => ?_, fun w hw => ?_, ?_, fun p j s e => ?_⟩
 ·rw [List.nodup_append]
  exact ⟨h.nd, by simp, fun a ha b hb e => Im (by rw [← List.mem_singleton.1 hb, ← e]; exact ha)⟩
 ·rcases List.mem_append.1 hx with hx | hx
  ·exact h.cm x hx
  ·rw [List.mem_singleton.1 hx]; exact hi
 ·unfold In at Cg
  have mw := hw
  unfold In at mw
  have ho : Open n (done ++ [i]) w ↔ Open n done w ∧ (n.cell i).out ≠ w := by
   constructor
   ·rintro ⟨a, b⟩
    exact ⟨⟨a, fun j hj => b j (by simp [hj])⟩, b i (by simp)⟩
   ·rintro ⟨⟨a, b⟩, c⟩
    refine ⟨a, fun j hj => ?_⟩
    rcases List.mem_append.1 hj with hj | hj
    ·exact b j hj
    ·rw [List.mem_singleton.1 hj]; exact c
  rw [bD, ho]
  by_cases e : (n.cell i).out = w
  ·rw [if_pos ⟨om, om⟩]
   exact ⟨fun _ h => h.2 e, fun _ => rfl⟩
  ·rw [if_neg om, h.kn w hw]
   exact ⟨fun h1 h2 => h1 h2.1, fun h1 h2 => h1 ⟨h2, e⟩⟩
 ·rw [h.left, List.length_append]; simp; omega
 ·rcases List.eq_nil_or_concat s with rfl | ⟨s', x, rfl⟩
  ·obtain ⟨rfl, e3⟩ := List.append_inj' (t₁ := [i]) (t₂ := [j]) e rfl
   cases e3
   exact hz
  ·have e2 := List.append_inj' (s₁ := done) (s₂ := p ++ j :: s') (t₁ := [i]) (t₂ := [x]) (by rw [e]; simp) rfl
   exact h.kF p j s' e2.1
theorem LD.known {done : List Int} {kn : List Bool} {left : Int} (h : LD n done kn left) {i : Int} (hi : 0 ≤ i ∧ i < n.cells.length) : (∀ x ∈ (n.cell i).args, kn.getD x.toNat false = true) ↔ cI n done i = 0 := by
 unfold cI
 rw [List.countP_eq_zero]
 constructor
 ·intro hh x hx ho
  exact (h.kn x (hf.pD hi hx)).1 (hh x hx) (of_decide_eq_true ho)
 ·intro hh x hx
  exact (h.kn x (hf.pD hi hx)).2 (fun ho => hh x hx (decide_eq_true ho))
def AH (n : ab) (k : Int) (done : List Int) : Prop := ∀ i, aX n i → i < k → Open n done (n.cell i).out → cI n done i ≠ 0
theorem LD.ki {done : List Int} {kn : List Bool} {left : Int} (h : LD n done kn left) (hs : AH n n.cells.length done) : KI n done [] ((List.range n.cells.length).map (fun (i : Nat) => (cI n done (i : Int) : Int))) where
 nd := by simpa using h.nd
 cm := fun x hx => h.cm x (by simpa using hx)
 ja := fun i hi => by
  have hb := hi.1
  rw [List.getD_eq_getElem?_getD, List.getElem?_map, List.getElem?_range om]
  simp only [Option.map_some, Option.getD_some]
  rw [show (i.toNat : Int) = i by omega]
 full := fun i hi => by
  rw [List.append_nil]
  constructor
  ·intro hm
   obtain ⟨p, s, e⟩ := List.append_of_mem hm
   have := h.kF p i s e
   rw [kz] at this ⊢
   intro x hx hc
   obtain ⟨j, hj, e2⟩ := this x hx hc
   exact ⟨j, by rw [e]; simp [hj], e2⟩
  ·intro hz
   refine Classical.byContradiction fun hn => hs i hi hi.1.2 ⟨⟨i, hi, rfl⟩, fun j hj e => hn ?_⟩ hz
   have := hf.unique (h.cm j hj).g6 (e ▸ hi.g6)
   exact this ▸ hj
 kF := h.kF
end
theorem LD.pos {n : ab} {done : List Int} {kn : List Bool} {left : Int} (h : LD n done kn left) : 0 ≤ left ∧ left ≤ n.cells.length := by
 have iw : (fm n n.cells.length ++ done).Nodup := by
  rw [List.nodup_append]
  refine ⟨o3 _ _, h.nd, fun a ha b hb e => ?_⟩
  subst e
  exact (gf.1 ha).2 (h.cm a hb).2
 have := length_le_of_subset (m := (List.range n.cells.length).map (fun (i : Nat) => (i : Int))) iw (fun x hx => by
  have im : 0 ≤ x ∧ x < n.cells.length := by
   rcases List.mem_append.1 hx with hx | hx
   ·exact (gf.1 hx).1
   ·exact (h.cm x hx).1
  exact List.mem_map.2 ⟨x.toNat, List.mem_range.2 om, om⟩)
 rw [List.length_append, List.length_map, List.length_range] at this
 have hl := h.left
 omega
def z4 (n : ab) (k kR : Int) (kn : List Bool) (left : Int) (more : Bool) : Prop := ∃ done, LD n done kn left ∧ left ≤ kR ∧ (more = true → left < kR) ∧ (more = false → AH n k done)
theorem z4.seq {n : ab} {k : Nat} {kR left : Int} {kn : List Bool} {more : Bool} (h : z4 n k kR kn left more) (hc : ¬ cM (n.cells.getD k default).kind) : z4 n ((k + 1 : Nat) : Int) kR kn left more := by
 obtain ⟨done, h1, h2, h3, h4⟩ := h
 refine ⟨done, h1, h2, h3, fun hm i hi h0 => h4 hm i hi (jv hc hi h0)⟩
section
variable {n : ab} (hf : bn n) {k : Nat} {kR left : Int} {kn : List Bool} {more : Bool}
include hf
theorem z4.skip (h : z4 n k kR kn left more) (hk : k < n.cells.length) (hc : kn.getD (n.cells.getD k default).out.toNat false = true ∨ ¬ ∀ x ∈ (n.cells.getD k default).args, kn.getD x.toNat false = true) (vw : cM (n.cells.getD k default).kind) : z4 n ((k + 1 : Nat) : Int) kR kn left more := by
 obtain ⟨done, h1, h2, h3, h4⟩ := h
 have hi : aX n (k : Int) := ⟨⟨om, om⟩, vw⟩
 refine ⟨done, h1, h2, h3, fun hm i MX h0 => ?_⟩
 by_cases e : i = k
 ·subst e
  intro ho hz
  rcases hc with hc | hc
  ·exact (h1.kn _ (hf.iG hi.g6)).1 hc ho
  ·exact hc ((h1.known hf hi.1).2 hz)
 ·exact h4 hm i MX om
theorem z4.step (h : z4 n k kR kn left more) (hk : k < n.cells.length) (hl : kn.length = n.ai.length) (h1 : kn.getD (n.cells.getD k default).out.toNat false = false) (h2 : ∀ x ∈ (n.cells.getD k default).args, kn.getD x.toNat false = true) (vw : cM (n.cells.getD k default).kind) :
  z4 n ((k + 1 : Nat) : Int) kR (kn.set (n.cells.getD k default).out.toNat true) (left - 1) true := by
 obtain ⟨done, a1, a2, a3, a4⟩ := h
 have hi : aX n (k : Int) := ⟨⟨om, om⟩, vw⟩
 refine ⟨done ++ [(k : Int)], a1.step hf hl hi h1 ((a1.known hf hi.1).1 h2), om, fun _ => by omega, fun h => (by cases h)⟩
end
theorem ui.next {n : ab} (hf : bn n) {k : Nat} {kn : List Bool} (h : ui n k kn) (hk : k < n.cells.length) (hl : kn.length = n.ai.length) :
  (¬ cM (n.cells.getD k default).kind → 0 ≤ (n.cells.getD k default).out → ui n (k + 1) (kn.set (n.cells.getD k default).out.toNat true)) ∧ (cM (n.cells.getD k default).kind → ui n (k + 1) kn ∧ 0 ≤ (n.cells.getD k default).out) ∧
  (¬ 0 ≤ (n.cells.getD k default).out → ui n (k + 1) kn) ∧ (0 ≤ (n.cells.getD k default).out → (n.cells.getD k default).out < n.ai.length) := by
 obtain ⟨_, _, a3, a4⟩ := hf.cells k hk
 refine ⟨fun hc ho => ?_, fun hc => ⟨h.skip (.inl hc), ?_⟩, fun ho => ?_, fun ho => ?_⟩
 ·have h7 : (n.cells.getD k default).kind ≠ 7 := fun h7 => by have := a3 h7; omega
  exact h.step hk hl hc h7 (a4 h7)
 ·have h7 : (n.cells.getD k default).kind ≠ 7 := fun h7 => by rw [h7] at hc; revert hc; unfold cM; omega
  exact (a4 h7).1
 ·have h7 : (n.cells.getD k default).kind = 7 := Classical.byContradiction fun h7 => ho (a4 h7).1
  exact h.skip (.inr h7)
 ·have h7 : (n.cells.getD k default).kind ≠ 7 := fun h7 => by have := a3 h7; omega
  exact (a4 h7).2
open Go Go.AW
end Go.Proofs.Ytlimckldnjmabaa
namespace Go.Proofs.Ytlimckldnjmabaa
open Go Go.AW Go.Proofs
theorem mE {w : Int} : ak Try.prog 155 [vi w] [] [] (fun r o => r = .v (.bool (decide (dL w))) ∧ o = []) := by
 refine ak.of Try.func155 rfl rfl rfl (n := 9) ag (bE rfl) (.sr ?_)
 refine .an ?_
 refine .nil (.sr ?_)
 refine .mv ?_
 refine .vl (Y.qo rfl rfl) ?_
 refine .mv ?_
 refine .aw (d := 5) rfl (fun c5 => ?_) (fun c5 => ?_)
 refine .gw 5 (Y.zd rfl rfl) (.gw 5 (Y.qw rfl rfl) ?_)
 refine .pk ?_
 refine .an ?_
 refine .nil (.ret ?_)
 exact .rb rfl (dd (by (simp only [dL]) <;> (first | omega | grind)))
 refine .gz 5 (.gz 5 ?_)
 refine .pk ?_
 refine .an ?_
 refine .nil (.ret ?_)
 exact .rb rfl (df (by (simp only [dL]) <;> (first | omega | grind)))
theorem oB {w : Int} : ak Try.prog 90 [vi w] [] [] (fun r o => r = .v (.bool (decide (dL w))) ∧ o = []) := by
 refine ak.of Try.func90 rfl rfl rfl (n := 9) ag (bE rfl) (.sr ?_)
 refine .an ?_
 refine .nil (.sr ?_)
 refine .mv ?_
 refine .vl (Y.qo rfl rfl) ?_
 refine .mv ?_
 refine .aw (d := 5) rfl (fun c5 => ?_) (fun c5 => ?_)
 refine .gw 5 (Y.zd rfl rfl) (.gw 5 (Y.qw rfl rfl) ?_)
 refine .pk ?_
 refine .an ?_
 refine .nil (.ret ?_)
 exact .rb rfl (dd (by (simp only [dL]) <;> (first | omega | grind)))
 refine .gz 5 (.gz 5 ?_)
 refine .pk ?_
 refine .an ?_
 refine .nil (.ret ?_)
 exact .rb rfl (df (by (simp only [dL]) <;> (first | omega | grind)))
theorem lr {s : ByteArray} (hs : s.size ≤ 140737488351232) : ak Try.prog 154 [.v (.string s)] [] [] (fun r o => r = .v (.bool (decide (nc s))) ∧ o = []) := by
 refine ak.of Try.func154 rfl rfl rfl (n := 44) ag (bE rfl) (.sr ?_)
 refine .an ?_
 refine .nil (.seq (.sr ?_))
 refine .mv ?_
 refine .vl (Y.qv Gz rfl) ?_
 refine .mv ?_
 refine .nil (.block ?_)
 refine .j7 (fun (b6 : Nat) => ⟨[(0, .v (.string s)), (6, vi s.size), (7, vi b6)], []⟩) (fun b6 => ((b6 : Int) ≤ (s.size : Int)) ∧ (∀ j, j < b6 → gY (aV s j))) (fun b6 => ((s.size : Int) - (b6 : Int)).toNat) 0 (⟨om, by intro j h; omega⟩) (Le.mk (.c2 (.cons (aq rfl bj) .nil)) .nil) (fun b6 vQ => ?_)
 obtain ⟨xS, hb⟩ := vQ
 refine .sr (.vl (Y.qz rfl rfl) (.nil ?_))
 refine .seq ?_
 refine .a9 rfl (fun c8 => ?_) (fun c8 => ?_)
 refine .skip ?_
 refine .nU (⟨[(0, .v (.string s)), (6, vi s.size), (7, vi b6)], []⟩) (((97 ≤ ((aV s b6 : Nat) : Int)) ∧ (((aV s b6 : Nat) : Int) ≤ 122)) ∨ ((97 ≤ ((aV s b6 : Nat) : Int)) ∧ (¬ (((aV s b6 : Nat) : Int) ≤ 122)) ∧ (65 ≤ ((aV s b6 : Nat) : Int)) ∧ (((aV s b6 : Nat) : Int) ≤ 90)) ∨ ((97 ≤ ((aV s b6 : Nat) : Int)) ∧ (¬ (((aV s b6 : Nat) : Int) ≤ 122)) ∧ (65 ≤ ((aV s b6 : Nat) : Int)) ∧ (¬ (((aV s b6 : Nat) : Int) ≤ 90)) ∧ (48 ≤ ((aV s b6 : Nat) : Int)) ∧ (((aV s b6 : Nat) : Int) ≤ 57)) ∨ ((97 ≤ ((aV s b6 : Nat) : Int)) ∧ (¬ (((aV s b6 : Nat) : Int) ≤ 122)) ∧ (65 ≤ ((aV s b6 : Nat) : Int)) ∧ (¬ (((aV s b6 : Nat) : Int) ≤ 90)) ∧ (48 ≤ ((aV s b6 : Nat) : Int)) ∧ (¬ (((aV s b6 : Nat) : Int) ≤ 57)) ∧ (((aV s b6 : Nat) : Int) = 95)) ∨ ((97 ≤ ((aV s b6 : Nat) : Int)) ∧ (¬ (((aV s b6 : Nat) : Int) ≤ 122)) ∧ (65 ≤ ((aV s b6 : Nat) : Int)) ∧ (¬ (((aV s b6 : Nat) : Int) ≤ 90)) ∧ (¬ (48 ≤ ((aV s b6 : Nat) : Int))) ∧ (((aV s b6 : Nat) : Int) = 95)) ∨ ((97 ≤ ((aV s b6 : Nat) : Int)) ∧ (¬ (((aV s b6 : Nat) : Int) ≤ 122)) ∧ (¬ (65 ≤ ((aV s b6 : Nat) : Int))) ∧ (48 ≤ ((aV s b6 : Nat) : Int)) ∧ (((aV s b6 : Nat) : Int) ≤ 57)) ∨ ((97 ≤ ((aV s b6 : Nat) : Int)) ∧ (¬ (((aV s b6 : Nat) : Int) ≤ 122)) ∧ (¬ (65 ≤ ((aV s b6 : Nat) : Int))) ∧ (48 ≤ ((aV s b6 : Nat) : Int)) ∧ (¬ (((aV s b6 : Nat) : Int) ≤ 57)) ∧ (((aV s b6 : Nat) : Int) = 95)) ∨ ((97 ≤ ((aV s b6 : Nat) : Int)) ∧ (¬ (((aV s b6 : Nat) : Int) ≤ 122)) ∧ (¬ (65 ≤ ((aV s b6 : Nat) : Int))) ∧ (¬ (48 ≤ ((aV s b6 : Nat) : Int))) ∧ (((aV s b6 : Nat) : Int) = 95)) ∨ ((¬ (97 ≤ ((aV s b6 : Nat) : Int))) ∧ (65 ≤ ((aV s b6 : Nat) : Int)) ∧ (((aV s b6 : Nat) : Int) ≤ 90)) ∨ ((¬ (97 ≤ ((aV s b6 : Nat) : Int))) ∧ (65 ≤ ((aV s b6 : Nat) : Int)) ∧ (¬ (((aV s b6 : Nat) : Int) ≤ 90)) ∧ (48 ≤ ((aV s b6 : Nat) : Int)) ∧ (((aV s b6 : Nat) : Int) ≤ 57)) ∨ ((¬ (97 ≤ ((aV s b6 : Nat) : Int))) ∧ (65 ≤ ((aV s b6 : Nat) : Int)) ∧ (¬ (((aV s b6 : Nat) : Int) ≤ 90)) ∧ (48 ≤ ((aV s b6 : Nat) : Int)) ∧ (¬ (((aV s b6 : Nat) : Int) ≤ 57)) ∧ (((aV s b6 : Nat) : Int) = 95)) ∨ ((¬ (97 ≤ ((aV s b6 : Nat) : Int))) ∧ (65 ≤ ((aV s b6 : Nat) : Int)) ∧ (¬ (((aV s b6 : Nat) : Int) ≤ 90)) ∧ (¬ (48 ≤ ((aV s b6 : Nat) : Int))) ∧ (((aV s b6 : Nat) : Int) = 95)) ∨ ((¬ (97 ≤ ((aV s b6 : Nat) : Int))) ∧ (¬ (65 ≤ ((aV s b6 : Nat) : Int))) ∧ (48 ≤ ((aV s b6 : Nat) : Int)) ∧ (((aV s b6 : Nat) : Int) ≤ 57)) ∨ ((¬ (97 ≤ ((aV s b6 : Nat) : Int))) ∧ (¬ (65 ≤ ((aV s b6 : Nat) : Int))) ∧ (48 ≤ ((aV s b6 : Nat) : Int)) ∧ (¬ (((aV s b6 : Nat) : Int) ≤ 57)) ∧ (((aV s b6 : Nat) : Int) = 95)) ∨ ((¬ (97 ≤ ((aV s b6 : Nat) : Int))) ∧ (¬ (65 ≤ ((aV s b6 : Nat) : Int))) ∧ (¬ (48 ≤ ((aV s b6 : Nat) : Int))) ∧ (((aV s b6 : Nat) : Int) = 95))) ?_ (fun KU => ?_)
 refine .block (.sr ?_)
 refine .mv ?_
 refine .an ?_
 refine .nil (.sr ?_)
 refine .mv ?_
 refine .mv ?_
 refine .vl (Y.qt (m := b6) Gz rfl rfl bj om) ?_
 refine .an ?_
 refine .nil (.sr ?_)
 refine .mv ?_
 refine .vl (Y.qo rfl rfl) ?_
 refine .mv ?_
 refine .aw (d := 15) rfl (fun nG => ?_) (fun nG => ?_)
 refine .gw 15 (Y.zd rfl rfl) (.gw 15 (Y.qw rfl rfl) ?_)
 refine .pk ?_
 refine .mv ?_
 refine .aw (d := 19) rfl (fun rL => ?_) (fun rL => ?_)
 refine .gz 19 (.gz 19 (.gz 19 ?_))
 refine .gz 22 (.gz 22 (.gz 19 ?_))
 refine .pk ?_
 refine .mv ?_
 refine .gz 27 (.gz 27 (.gz 27 ?_))
 refine .gz 30 (.gz 30 (.gz 27 ?_))
 refine .pk ?_
 refine .mv ?_
 refine .gz 35 (.gz 35 ?_)
 refine .pk ?_
 refine .vl (Y.zi rfl) (.nil (.cT rfl ?_))
 refine .skip (⟨.inl ⟨nG, rL⟩, Le.mk (.c2 (.c .nil)) .nil⟩)
 refine .gw 19 (Y.zd rfl rfl) (.gw 19 (Y.qo rfl rfl) (.gw 19 (Y.zd rfl rfl) ?_))
 refine .aw (d := 22) rfl (fun ni => ?_) (fun ni => ?_)
 refine .gw 22 (Y.zd rfl rfl) (.gw 22 (Y.qw rfl rfl) (.gw 19 (Y.zj rfl rfl rfl) ?_))
 refine .pk ?_
 refine .mv ?_
 refine .aw (d := 27) rfl (fun xf => ?_) (fun xf => ?_)
 refine .gz 27 (.gz 27 (.gz 27 ?_))
 refine .gz 30 (.gz 30 (.gz 27 ?_))
 refine .pk ?_
 refine .mv ?_
 refine .gz 35 (.gz 35 ?_)
 refine .pk ?_
 refine .vl (Y.zi rfl) (.nil (.cT rfl ?_))
 refine .skip (⟨.inr (.inl ⟨nG, rL, ni, xf⟩), Le.mk (.c2 (.c .nil)) .nil⟩)
 refine .gw 27 (Y.zd rfl rfl) (.gw 27 (Y.qo rfl rfl) (.gw 27 (Y.zd rfl rfl) ?_))
 refine .aw (d := 30) rfl (fun nu => ?_) (fun nu => ?_)
 refine .gw 30 (Y.zd rfl rfl) (.gw 30 (Y.qw rfl rfl) (.gw 27 (Y.zj rfl rfl rfl) ?_))
 refine .pk ?_
 refine .mv ?_
 refine .aw (d := 35) rfl (fun nv => ?_) (fun nv => ?_)
 refine .gz 35 (.gz 35 ?_)
 refine .pk ?_
 refine .vl (Y.zi rfl) (.nil (.cT rfl ?_))
 refine .skip (⟨.inr (.inr (.inl ⟨nG, rL, ni, xf, nu, nv⟩)), Le.mk (.c2 (.c .nil)) .nil⟩)
 refine .gw 35 (Y.zd rfl rfl) (.gw 35 (Y.qk rfl rfl) ?_)
 refine .pk ?_
 refine .vl (Y.zi rfl) (.nil ?_)
 refine .gT rfl (fun mF => ?_) (fun mF => ?_)
 refine .sr ?_
 refine .an ?_
 refine .nil (.ret ?_)
 exact .rb rfl (df (fun h => by have h1 := h.1 b6 om; unfold gY at h1; omega))
 refine .skip (⟨.inr (.inr (.inr (.inl ⟨nG, rL, ni, xf, nu, nv, mF⟩))), Le.mk (.c2 (.c .nil)) .nil⟩)
 refine .gz 30 (.gz 30 (.gw 27 (Y.zj rfl rfl rfl) ?_))
 refine .pk ?_
 refine .mv ?_
 refine .gw 35 (Y.zd rfl rfl) (.gw 35 (Y.qk rfl rfl) ?_)
 refine .pk ?_
 refine .vl (Y.zi rfl) (.nil ?_)
 refine .gT rfl (fun mF => ?_) (fun mF => ?_)
 refine .sr ?_
 refine .an ?_
 refine .nil (.ret ?_)
 exact .rb rfl (df (fun h => by have h1 := h.1 b6 om; unfold gY at h1; omega))
 refine .skip (⟨.inr (.inr (.inr (.inr (.inl ⟨nG, rL, ni, xf, nu, mF⟩)))), Le.mk (.c2 (.c .nil)) .nil⟩)
 refine .gz 22 (.gz 22 (.gw 19 (Y.zj rfl rfl rfl) ?_))
 refine .pk ?_
 refine .mv ?_
 refine .gw 27 (Y.zd rfl rfl) (.gw 27 (Y.qo rfl rfl) (.gw 27 (Y.zd rfl rfl) ?_))
 refine .aw (d := 30) rfl (fun nu => ?_) (fun nu => ?_)
 refine .gw 30 (Y.zd rfl rfl) (.gw 30 (Y.qw rfl rfl) (.gw 27 (Y.zj rfl rfl rfl) ?_))
 refine .pk ?_
 refine .mv ?_
 refine .aw (d := 35) rfl (fun nv => ?_) (fun nv => ?_)
 refine .gz 35 (.gz 35 ?_)
 refine .pk ?_
 refine .vl (Y.zi rfl) (.nil (.cT rfl ?_))
 refine .skip (⟨.inr (.inr (.inr (.inr (.inr (.inl ⟨nG, rL, ni, nu, nv⟩))))), Le.mk (.c2 (.c .nil)) .nil⟩)
 refine .gw 35 (Y.zd rfl rfl) (.gw 35 (Y.qk rfl rfl) ?_)
 refine .pk ?_
 refine .vl (Y.zi rfl) (.nil ?_)
 refine .gT rfl (fun mF => ?_) (fun mF => ?_)
 refine .sr ?_
 refine .an ?_
 refine .nil (.ret ?_)
 exact .rb rfl (df (fun h => by have h1 := h.1 b6 om; unfold gY at h1; omega))
 refine .skip (⟨.inr (.inr (.inr (.inr (.inr (.inr (.inl ⟨nG, rL, ni, nu, nv, mF⟩)))))), Le.mk (.c2 (.c .nil)) .nil⟩)
 refine .gz 30 (.gz 30 (.gw 27 (Y.zj rfl rfl rfl) ?_))
 refine .pk ?_
 refine .mv ?_
 refine .gw 35 (Y.zd rfl rfl) (.gw 35 (Y.qk rfl rfl) ?_)
 refine .pk ?_
 refine .vl (Y.zi rfl) (.nil ?_)
 refine .gT rfl (fun mF => ?_) (fun mF => ?_)
 refine .sr ?_
 refine .an ?_
 refine .nil (.ret ?_)
 exact .rb rfl (df (fun h => by have h1 := h.1 b6 om; unfold gY at h1; omega))
 refine .skip (⟨.inr (.inr (.inr (.inr (.inr (.inr (.inr (.inl ⟨nG, rL, ni, nu, mF⟩))))))), Le.mk (.c2 (.c .nil)) .nil⟩)
 refine .gz 15 (.gz 15 ?_)
 refine .pk ?_
 refine .mv ?_
 refine .gw 19 (Y.zd rfl rfl) (.gw 19 (Y.qo rfl rfl) (.gw 19 (Y.zd rfl rfl) ?_))
 refine .aw (d := 22) rfl (fun ni => ?_) (fun ni => ?_)
 refine .gw 22 (Y.zd rfl rfl) (.gw 22 (Y.qw rfl rfl) (.gw 19 (Y.zj rfl rfl rfl) ?_))
 refine .pk ?_
 refine .mv ?_
 refine .aw (d := 27) rfl (fun xf => ?_) (fun xf => ?_)
 refine .gz 27 (.gz 27 (.gz 27 ?_))
 refine .gz 30 (.gz 30 (.gz 27 ?_))
 refine .pk ?_
 refine .mv ?_
 refine .gz 35 (.gz 35 ?_)
 refine .pk ?_
 refine .vl (Y.zi rfl) (.nil (.cT rfl ?_))
 refine .skip (⟨.inr (.inr (.inr (.inr (.inr (.inr (.inr (.inr (.inl ⟨nG, ni, xf⟩)))))))), Le.mk (.c2 (.c .nil)) .nil⟩)
 refine .gw 27 (Y.zd rfl rfl) (.gw 27 (Y.qo rfl rfl) (.gw 27 (Y.zd rfl rfl) ?_))
 refine .aw (d := 30) rfl (fun nu => ?_) (fun nu => ?_)
 refine .gw 30 (Y.zd rfl rfl) (.gw 30 (Y.qw rfl rfl) (.gw 27 (Y.zj rfl rfl rfl) ?_))
 refine .pk ?_
 refine .mv ?_
 refine .aw (d := 35) rfl (fun nv => ?_) (fun nv => ?_)
 refine .gz 35 (.gz 35 ?_)
 refine .pk ?_
 refine .vl (Y.zi rfl) (.nil (.cT rfl ?_))
 refine .skip (⟨.inr (.inr (.inr (.inr (.inr (.inr (.inr (.inr (.inr (.inl ⟨nG, ni, xf, nu, nv⟩))))))))), Le.mk (.c2 (.c .nil)) .nil⟩)
 refine .gw 35 (Y.zd rfl rfl) (.gw 35 (Y.qk rfl rfl) ?_)
 refine .pk ?_
 refine .vl (Y.zi rfl) (.nil ?_)
 refine .gT rfl (fun mF => ?_) (fun mF => ?_)
 refine .sr ?_
 refine .an ?_
 refine .nil (.ret ?_)
 exact .rb rfl (df (fun h => by have h1 := h.1 b6 om; unfold gY at h1; omega))
 refine .skip (⟨.inr (.inr (.inr (.inr (.inr (.inr (.inr (.inr (.inr (.inr (.inl ⟨nG, ni, xf, nu, nv, mF⟩)))))))))), Le.mk (.c2 (.c .nil)) .nil⟩)
 refine .gz 30 (.gz 30 (.gw 27 (Y.zj rfl rfl rfl) ?_))
 refine .pk ?_
 refine .mv ?_
 refine .gw 35 (Y.zd rfl rfl) (.gw 35 (Y.qk rfl rfl) ?_)
 refine .pk ?_
 refine .vl (Y.zi rfl) (.nil ?_)
 refine .gT rfl (fun mF => ?_) (fun mF => ?_)
 refine .sr ?_
 refine .an ?_
 refine .nil (.ret ?_)
 exact .rb rfl (df (fun h => by have h1 := h.1 b6 om; unfold gY at h1; omega))
 refine .skip (⟨.inr (.inr (.inr (.inr (.inr (.inr (.inr (.inr (.inr (.inr (.inr (.inl ⟨nG, ni, xf, nu, mF⟩))))))))))), Le.mk (.c2 (.c .nil)) .nil⟩)
 refine .gz 22 (.gz 22 (.gw 19 (Y.zj rfl rfl rfl) ?_))
 refine .pk ?_
 refine .mv ?_
 refine .gw 27 (Y.zd rfl rfl) (.gw 27 (Y.qo rfl rfl) (.gw 27 (Y.zd rfl rfl) ?_))
 refine .aw (d := 30) rfl (fun nu => ?_) (fun nu => ?_)
 refine .gw 30 (Y.zd rfl rfl) (.gw 30 (Y.qw rfl rfl) (.gw 27 (Y.zj rfl rfl rfl) ?_))
 refine .pk ?_
 refine .mv ?_
 refine .aw (d := 35) rfl (fun nv => ?_) (fun nv => ?_)
 refine .gz 35 (.gz 35 ?_)
 refine .pk ?_
 refine .vl (Y.zi rfl) (.nil (.cT rfl ?_))
 refine .skip (⟨.inr (.inr (.inr (.inr (.inr (.inr (.inr (.inr (.inr (.inr (.inr (.inr (.inl ⟨nG, ni, nu, nv⟩)))))))))))), Le.mk (.c2 (.c .nil)) .nil⟩)
 refine .gw 35 (Y.zd rfl rfl) (.gw 35 (Y.qk rfl rfl) ?_)
 refine .pk ?_
 refine .vl (Y.zi rfl) (.nil ?_)
 refine .gT rfl (fun mF => ?_) (fun mF => ?_)
 refine .sr ?_
 refine .an ?_
 refine .nil (.ret ?_)
 exact .rb rfl (df (fun h => by have h1 := h.1 b6 om; unfold gY at h1; omega))
 refine .skip (⟨.inr (.inr (.inr (.inr (.inr (.inr (.inr (.inr (.inr (.inr (.inr (.inr (.inr (.inl ⟨nG, ni, nu, nv, mF⟩))))))))))))), Le.mk (.c2 (.c .nil)) .nil⟩)
 refine .gz 30 (.gz 30 (.gw 27 (Y.zj rfl rfl rfl) ?_))
 refine .pk ?_
 refine .mv ?_
 refine .gw 35 (Y.zd rfl rfl) (.gw 35 (Y.qk rfl rfl) ?_)
 refine .pk ?_
 refine .vl (Y.zi rfl) (.nil ?_)
 refine .gT rfl (fun mF => ?_) (fun mF => ?_)
 refine .sr ?_
 refine .an ?_
 refine .nil (.ret ?_)
 exact .rb rfl (df (fun h => by have h1 := h.1 b6 om; unfold gY at h1; omega))
 refine .skip (⟨.inr (.inr (.inr (.inr (.inr (.inr (.inr (.inr (.inr (.inr (.inr (.inr (.inr (.inr (⟨nG, ni, nu, mF⟩)))))))))))))), Le.mk (.c2 (.c .nil)) .nil⟩)
 refine .region (.vl (Y.qb rfl rfl aF) ?_)
 refine .mv ?_
 refine .nil (⟨b6 + 1, ⟨om, sL hb (by unfold gY; omega)⟩, om, Le.mk (.c2 (.cons (aq rfl bj) .nil)) .nil⟩)
 refine .exit (.sr ?_)
 refine .mv ?_
 refine .vl (Y.qv Gz rfl) (.vl (Y.qw rfl rfl) ?_)
 refine .an ?_
 refine .nil (.ret ?_)
 exact .rb rfl (dd ⟨fun h => ⟨fun j hj => hb j om, om⟩, fun h => by have := h.2; omega⟩)
theorem iP {op : Int} : ak Try.prog 186 [vi op] [] [] (fun r o => r = (vi (b5 op)) ∧ o = []) := by
 refine ak.of Try.func186 rfl rfl rfl (n := 25) ag (bE rfl) (.sr ?_)
 refine .an ?_
 refine .nil (.seq (.sr ?_))
 refine .mv ?_
 refine .nil (.block (.seq ?_))
 refine .sr (.vl (Y.qk rfl rfl) ?_)
 refine .an ?_
 refine .nil ?_
 refine .aZ rfl (fun c4 => ?_) (fun c4 => ?_)
 refine .skip (.aK rfl (.sr ?_))
 refine .an ?_
 refine .nil (.ret ?_)
 exact .ri rfl (by simp only [b5]; omega)
 refine .sr (.vl (Y.qk rfl rfl) ?_)
 refine .an ?_
 refine .nil ?_
 refine .aZ rfl (fun c4 => ?_) (fun c4 => ?_)
 refine .skip (.aK rfl (.sr ?_))
 refine .an ?_
 refine .nil (.ret ?_)
 exact .ri rfl (by simp only [b5]; omega)
 refine .sr (.vl (Y.qk rfl rfl) ?_)
 refine .an ?_
 refine .nil ?_
 refine .aZ rfl (fun c4 => ?_) (fun c4 => ?_)
 refine .skip (.aK rfl (.sr ?_))
 refine .an ?_
 refine .nil (.ret ?_)
 exact .ri rfl (by simp only [b5]; omega)
 refine .sr (.vl (Y.qk rfl rfl) ?_)
 refine .an ?_
 refine .nil ?_
 refine .aZ rfl (fun c4 => ?_) (fun c4 => ?_)
 refine .skip (.aK rfl (.sr ?_))
 refine .an ?_
 refine .nil (.ret ?_)
 exact .ri rfl (by simp only [b5]; omega)
 refine .sr (.vl (Y.qk rfl rfl) ?_)
 refine .an ?_
 refine .nil ?_
 refine .aZ rfl (fun c4 => ?_) (fun c4 => ?_)
 refine .skip (.aK rfl (.sr ?_))
 refine .an ?_
 refine .nil (.ret ?_)
 exact .ri rfl (by simp only [b5]; omega)
 refine .sr (.vl (Y.qk rfl rfl) ?_)
 refine .an ?_
 refine .nil ?_
 refine .aZ rfl (fun c4 => ?_) (fun c4 => ?_)
 refine .skip (.aK rfl (.sr ?_))
 refine .an ?_
 refine .nil (.ret ?_)
 exact .ri rfl (by simp only [b5]; omega)
 refine .sr (.vl (Y.qk rfl rfl) ?_)
 refine .an ?_
 refine .nil ?_
 refine .aZ rfl (fun c4 => ?_) (fun c4 => ?_)
 refine .skip (.aK rfl (.sr ?_))
 refine .an ?_
 refine .nil (.ret ?_)
 exact .ri rfl (by simp only [b5]; omega)
 refine .sr (.vl (Y.qk rfl rfl) ?_)
 refine .an ?_
 refine .nil ?_
 refine .aZ rfl (fun c4 => ?_) (fun c4 => ?_)
 refine .skip (.aK rfl (.sr ?_))
 refine .an ?_
 refine .nil (.ret ?_)
 exact .ri rfl (by simp only [b5]; omega)
 refine .sr (.vl (Y.qk rfl rfl) ?_)
 refine .an ?_
 refine .nil ?_
 refine .aZ rfl (fun c4 => ?_) (fun c4 => ?_)
 refine .skip (.aK rfl (.sr ?_))
 refine .an ?_
 refine .nil (.ret ?_)
 exact .ri rfl (by simp only [b5]; omega)
 refine .sr (.vl (Y.qk rfl rfl) ?_)
 refine .an ?_
 refine .nil ?_
 refine .aZ rfl (fun c4 => ?_) (fun c4 => ?_)
 refine .skip (.aK rfl (.sr ?_))
 refine .an ?_
 refine .nil (.ret ?_)
 exact .ri rfl (by simp only [b5]; omega)
 refine .sr (.vl (Y.qk rfl rfl) ?_)
 refine .an ?_
 refine .nil ?_
 refine .aZ rfl (fun c4 => ?_) (fun c4 => ?_)
 refine .skip (.aK rfl (.sr ?_))
 refine .an ?_
 refine .nil (.ret ?_)
 exact .ri rfl (by simp only [b5]; omega)
 refine .sr (.vl (Y.qk rfl rfl) ?_)
 refine .an ?_
 refine .nil ?_
 refine .aZ rfl (fun c4 => ?_) (fun c4 => ?_)
 refine .skip (.aK rfl (.sr ?_))
 refine .an ?_
 refine .nil (.ret ?_)
 exact .ri rfl (by simp only [b5]; omega)
 refine .sr (.vl (Y.qk rfl rfl) ?_)
 refine .an ?_
 refine .nil ?_
 refine .aZ rfl (fun c4 => ?_) (fun c4 => ?_)
 refine .skip (.aK rfl (.sr ?_))
 refine .an ?_
 refine .nil (.ret ?_)
 exact .ri rfl (by simp only [b5]; omega)
 refine .region (.vl (Y.qk rfl rfl) ?_)
 refine .an ?_
 refine .nil ?_
 refine .aZ rfl (fun c4 => ?_) (fun c4 => ?_)
 refine .sr ?_
 refine .an ?_
 refine .nil (.ret ?_)
 exact .ri rfl (by simp only [b5]; omega)
 refine .sr (.vl (Y.qk rfl rfl) ?_)
 refine .an ?_
 refine .nil ?_
 refine .a9 rfl (fun rL => ?_) (fun rL => ?_)
 refine .sr ?_
 refine .an ?_
 refine .nil (.ret ?_)
 exact .ri rfl (by simp only [b5]; omega)
 refine .seq (.sr (.vl (Y.qk rfl rfl) ?_))
 refine .an ?_
 refine .nil ?_
 refine .aZ rfl (fun uT => ?_) (fun uT => ?_)
 refine .skip (.aK rfl (.sr ?_))
 refine .an ?_
 refine .nil (.ret ?_)
 exact .ri rfl (by simp only [b5]; omega)
 refine .sr (.vl (Y.qk rfl rfl) ?_)
 refine .an ?_
 refine .nil ?_
 refine .aZ rfl (fun uT => ?_) (fun uT => ?_)
 refine .skip (.aK rfl (.sr ?_))
 refine .an ?_
 refine .nil (.ret ?_)
 exact .ri rfl (by simp only [b5]; omega)
 refine .region (.vl (Y.qk rfl rfl) ?_)
 refine .an ?_
 refine .nil ?_
 refine .aZ rfl (fun uT => ?_) (fun uT => ?_)
 refine .sr ?_
 refine .an ?_
 refine .nil (.ret ?_)
 exact .ri rfl (by simp only [b5]; omega)
 refine .skip (.sr ?_)
 refine .an ?_
 refine .nil (.ret ?_)
 exact .ri rfl (by simp only [b5]; omega)
open Go Go.AW Go.Proofs
theorem rM {w : Int} : ak Try.prog 190 [vi w] [] [] (fun r o => r = (vi ((jY w : Nat) : Int)) ∧ o = []) := by
 refine ak.of Try.func190 rfl rfl rfl (n := 6) ag (bE rfl) (.sr ?_)
 refine .an ?_
 refine .nil (.sr ?_)
 refine .mv ?_
 refine .vl (Y.zb rfl rfl rfl) (.vl (Y.zc rfl rfl rfl) ?_)
 refine .an ?_
 refine .nil (.ret ?_)
 exact .ri rfl (by unfold jY; (repeat' split) <;> omega)
theorem uU {w : Int} : ak Try.prog 167 [vi w] [] [] (fun r o => r = .v (.int .u64 ((2 ^ jY w - 1 : Nat) : Int)) ∧ o = []) := by
 refine ak.of Try.func167 rfl rfl rfl (n := 10) ag (bE rfl) ?_
 have hl := q5 w
 refine .sr ?_
 refine .an ?_
 refine .nil (.seq (.sr ?_))
 refine .mv ?_
 refine .br E6 (rM (w := w)) rfl (.au rfl rfl .nil) ag rfl ?_
 refine .an ?_
 refine .nil (.sr ?_)
 refine .mv ?_
 refine .vl (Y.qk rfl rfl) (.nil ?_)
 refine .a9 rfl (fun c6 => ?_) (fun c6 => ?_)
 refine .sr ?_
 refine .an ?_
 refine .nil (.ret ?_)
 exact .ri rfl (by rw [show jY w = 0 by omega]; rfl)
 refine .skip (.sr ?_)
 refine .mv ?_
 refine .vl (Y.zv rfl rfl aF) (.vl (Y.zq (a := 18446744073709551615) ((64 - ((jY w : Nat) : Int)).toNat) rfl rfl om om) ?_)
 refine .an ?_
 refine .nil (.ret ?_)
 exact .ri rfl (by rw [show ((64 : Int) - ((jY w : Nat) : Int)).toNat = 64 - jY w by omega, yQ])
theorem fQ {w : Int} {x : Nat} (hx : x < 18446744073709551616) : ak Try.prog 117 [vi w, .v (.int .u64 (x : Int))] [] [] (fun r o => r = .v (.int .u64 ((kE w x : Nat) : Int)) ∧ o = []) := by
 refine ak.of Try.func117 rfl rfl rfl (n := 9) ag (bE rfl) ?_
 have hm := yR w
 refine .sr ?_
 refine .an ?_
 refine .nil (.sr ?_)
 refine .mv ?_
 refine .mv ?_
 refine .br Ev (uU (w := w)) rfl (.au rfl rfl .nil) ag rfl (.vl (Y.qd (a := x) (b := (2 ^ jY w - 1)) rfl rfl om) ?_)
 refine .an ?_
 refine .nil (.ret ?_)
 exact .ri rfl (by rw [wG])
theorem oC {w : Int} : ak Try.prog 189 [vi w] [] [] (fun r o => r = .v (.bool (decide (eo w))) ∧ o = []) := by
 refine ak.of Try.func189 rfl rfl rfl (n := 9) ag (bE rfl) (.sr ?_)
 refine .an ?_
 refine .nil (.sr ?_)
 refine .mv ?_
 refine .vl (Y.qo rfl rfl) ?_
 refine .mv ?_
 refine .aw (d := 5) rfl (fun c5 => ?_) (fun c5 => ?_)
 refine .gw 5 (Y.zd rfl rfl) (.gw 5 (Y.qw rfl rfl) ?_)
 refine .pk ?_
 refine .an ?_
 refine .nil (.ret ?_)
 exact .rb rfl (dd (by (simp only [eo]) <;> (first | omega | grind)))
 refine .gz 5 (.gz 5 ?_)
 refine .pk ?_
 refine .an ?_
 refine .nil (.ret ?_)
 exact .rb rfl (df (by (simp only [eo]) <;> (first | omega | grind)))
theorem lU {w : Int} : ak Try.prog 42 [vi w] [] [] (fun r o => r = .v (.bool (decide (eo w))) ∧ o = []) := by
 refine ak.of Try.func42 rfl rfl rfl (n := 9) ag (bE rfl) (.sr ?_)
 refine .an ?_
 refine .nil (.sr ?_)
 refine .mv ?_
 refine .vl (Y.qo rfl rfl) ?_
 refine .mv ?_
 refine .aw (d := 5) rfl (fun c5 => ?_) (fun c5 => ?_)
 refine .gw 5 (Y.zd rfl rfl) (.gw 5 (Y.qw rfl rfl) ?_)
 refine .pk ?_
 refine .an ?_
 refine .nil (.ret ?_)
 exact .rb rfl (dd (by (simp only [eo]) <;> (first | omega | grind)))
 refine .gz 5 (.gz 5 ?_)
 refine .pk ?_
 refine .an ?_
 refine .nil (.ret ?_)
 exact .rb rfl (df (by (simp only [eo]) <;> (first | omega | grind)))
theorem ph {w : Int} : ak Try.prog 86 [vi w] [] [] (fun r o => r = .v (.bool (decide (uM w))) ∧ o = []) := by
 refine ak.of Try.func86 rfl rfl rfl (n := 9) ag (bE rfl) (.sr ?_)
 refine .an ?_
 refine .nil (.sr ?_)
 refine .mv ?_
 refine .vl (Y.qo rfl rfl) ?_
 refine .mv ?_
 refine .aw (d := 5) rfl (fun c5 => ?_) (fun c5 => ?_)
 refine .gw 5 (Y.zd rfl rfl) (.gw 5 (Y.qw rfl rfl) ?_)
 refine .pk ?_
 refine .an ?_
 refine .nil (.ret ?_)
 exact .rb rfl (dd (by (simp only [uM]) <;> (first | omega | grind)))
 refine .gz 5 (.gz 5 ?_)
 refine .pk ?_
 refine .an ?_
 refine .nil (.ret ?_)
 exact .rb rfl (df (by (simp only [uM]) <;> (first | omega | grind)))
theorem jx {w : Int} : ak Try.prog 88 [vi w] [] [] (fun r o => r = .v (.bool (decide (Unary w))) ∧ o = []) := by
 refine ak.of Try.func88 rfl rfl rfl (n := 13) ag (bE rfl) (.sr ?_)
 refine .an ?_
 refine .nil (.sr ?_)
 refine .mv ?_
 refine .vl (Y.qk rfl rfl) ?_
 refine .mv ?_
 refine .aw (d := 5) rfl (fun c5 => ?_) (fun c5 => ?_)
 refine .gz 5 (.gz 5 ?_)
 refine .pk ?_
 refine .mv ?_
 refine .gz 9 (.gz 9 ?_)
 refine .pk ?_
 refine .an ?_
 refine .nil (.ret ?_)
 exact .rb rfl (dt (by (simp only [Unary]) <;> (first | omega | grind)))
 refine .gw 5 (Y.zd rfl rfl) (.gw 5 (Y.qk rfl rfl) ?_)
 refine .pk ?_
 refine .mv ?_
 refine .aw (d := 9) rfl (fun c9 => ?_) (fun c9 => ?_)
 refine .gz 9 (.gz 9 ?_)
 refine .pk ?_
 refine .an ?_
 refine .nil (.ret ?_)
 exact .rb rfl (dt (by (simp only [Unary]) <;> (first | omega | grind)))
 refine .gw 9 (Y.zd rfl rfl) (.gw 9 (Y.qk rfl rfl) ?_)
 refine .pk ?_
 refine .an ?_
 refine .nil (.ret ?_)
 exact .rb rfl (dd (by (simp only [Unary]) <;> (first | omega | grind)))
theorem nw {w : Int} : ak Try.prog 87 [vi w] [] [] (fun r o => r = .v (.bool (decide (Seq w))) ∧ o = []) := by
 refine ak.of Try.func87 rfl rfl rfl (n := 9) ag (bE rfl) (.sr ?_)
 refine .an ?_
 refine .nil (.sr ?_)
 refine .mv ?_
 refine .vl (Y.qo rfl rfl) ?_
 refine .mv ?_
 refine .aw (d := 5) rfl (fun c5 => ?_) (fun c5 => ?_)
 refine .gw 5 (Y.zd rfl rfl) (.gw 5 (Y.qw rfl rfl) ?_)
 refine .pk ?_
 refine .an ?_
 refine .nil (.ret ?_)
 exact .rb rfl (dd (by (simp only [Seq]) <;> (first | omega | grind)))
 refine .gz 5 (.gz 5 ?_)
 refine .pk ?_
 refine .an ?_
 refine .nil (.ret ?_)
 exact .rb rfl (df (by (simp only [Seq]) <;> (first | omega | grind)))
theorem mG {w : Int} : ak Try.prog 93 [vi w] [] [] (fun r o => r = .v (.bool (decide (cM w))) ∧ o = []) := by
 refine ak.of Try.func93 rfl rfl rfl (n := 13) ag (bE rfl) (.sr ?_)
 refine .an ?_
 refine .nil (.sr ?_)
 refine .mv ?_
 refine .vl (Y.qk rfl rfl) ?_
 refine .mv ?_
 refine .aw (d := 5) rfl (fun c5 => ?_) (fun c5 => ?_)
 refine .gz 5 (.gz 5 ?_)
 refine .pk ?_
 refine .mv ?_
 refine .gz 9 (.gz 9 ?_)
 refine .pk ?_
 refine .an ?_
 refine .nil (.ret ?_)
 exact .rb rfl (dt (by (simp only [cM]) <;> (first | omega | grind)))
 refine .gw 5 (Y.zd rfl rfl) (.gw 5 (Y.qk rfl rfl) ?_)
 refine .pk ?_
 refine .mv ?_
 refine .aw (d := 9) rfl (fun c9 => ?_) (fun c9 => ?_)
 refine .gz 9 (.gz 9 ?_)
 refine .pk ?_
 refine .an ?_
 refine .nil (.ret ?_)
 exact .rb rfl (dt (by (simp only [cM]) <;> (first | omega | grind)))
 refine .gw 9 (Y.zd rfl rfl) (.gw 9 (Y.qk rfl rfl) ?_)
 refine .pk ?_
 refine .an ?_
 refine .nil (.ret ?_)
 exact .rb rfl (dd (by (simp only [cM]) <;> (first | omega | grind)))
theorem oD {w : Int} : ak Try.prog 44 [vi w] [] [] (fun r o => r = .v (.bool (decide (Plain w))) ∧ o = []) := by
 refine ak.of Try.func44 rfl rfl rfl (n := 18) ag (bE rfl) (.sr ?_)
 refine .an ?_
 refine .nil (.sr ?_)
 refine .mv ?_
 refine .br HT (ph (w := w)) rfl (.au rfl rfl .nil) ag rfl ?_
 refine .mv ?_
 refine .aw (d := 5) rfl (fun c5 => ?_) (fun c5 => ?_)
 refine .gw 5 (Y.zd rfl rfl) (.aH (d := 5) rfl ag rfl (.br HU (nw (w := w)) rfl (.au rfl rfl .nil) ag rfl ?_))
 refine .gw 5 (Y.zi rfl) ?_
 refine .pk ?_
 refine .mv ?_
 refine .lf (d := 10) rfl (fun MY => ?_) (fun MY => ?_)
 refine .gz 10 (.gz 10 ?_)
 refine .pk ?_
 refine .mv ?_
 refine .gz 14 (.gz 14 ?_)
 refine .pk ?_
 refine .an ?_
 refine .nil (.ret ?_)
 exact .rb rfl (dt (by (simp only [Plain]) <;> (first | omega | grind)))
 refine .gw 10 (Y.zd rfl rfl) (.gw 10 (Y.qk rfl rfl) ?_)
 refine .pk ?_
 refine .mv ?_
 refine .aw (d := 14) rfl (fun qF => ?_) (fun qF => ?_)
 refine .gz 14 (.gz 14 ?_)
 refine .pk ?_
 refine .an ?_
 refine .nil (.ret ?_)
 exact .rb rfl (dt (by (simp only [Plain]) <;> (first | omega | grind)))
 refine .gw 14 (Y.zd rfl rfl) (.aH (d := 14) rfl ag rfl (.br yG (jx (w := w)) rfl (.au rfl rfl .nil) ag rfl ?_))
 refine .pk ?_
 refine .an ?_
 refine .nil (.ret ?_)
 exact .rb rfl (dd (by (simp only [Plain]) <;> (first | omega | grind)))
 refine .gz 5 (.gz 5 (.gz 5 ?_))
 refine .pk ?_
 refine .mv ?_
 refine .gw 10 (Y.zd rfl rfl) (.gw 10 (Y.qk rfl rfl) ?_)
 refine .pk ?_
 refine .mv ?_
 refine .aw (d := 14) rfl (fun qF => ?_) (fun qF => ?_)
 refine .gz 14 (.gz 14 ?_)
 refine .pk ?_
 refine .an ?_
 refine .nil (.ret ?_)
 exact .rb rfl (dt (by (simp only [Plain]) <;> (first | omega | grind)))
 refine .gw 14 (Y.zd rfl rfl) (.aH (d := 14) rfl ag rfl (.br yG (jx (w := w)) rfl (.au rfl rfl .nil) ag rfl ?_))
 refine .pk ?_
 refine .an ?_
 refine .nil (.ret ?_)
 exact .rb rfl (dd (by (simp only [Plain]) <;> (first | omega | grind)))
open Go Go.AW Go.Proofs
end Go.Proofs.Ytlimckldnjmabaa
namespace Go.Proofs.Ytlimckldnjmabaa
open Go Go.AW Go.Proofs
theorem mH {op w : Int} {a : List Int} (h1 : 1 ≤ a.length) (h2 : op < 22 ∨ 24 < op → 2 ≤ a.length) (h3 : op = 21 → 3 ≤ a.length) (ha : a.length ≤ 17592186043904) : ak Try.prog 91 [vi op, .fz 1 (a.map al), vi w] [] [] (fun r o => r = .v (.bool (decide (bR op (a.getD 0 0) (a.getD 1 0) (a.getD 2 0) w))) ∧ o = []) := by
 refine ak.of Try.func91 rfl rfl rfl (n := 70) ag (bE rfl) (.sr ?_)
 refine .an ?_
 refine .nil (.seq (.block ?_))
 refine .sr ?_
 refine .mv ?_
 refine .vl (Y.qk rfl rfl) ?_
 refine .an ?_
 refine .nil ?_
 refine .a9 rfl (fun c7 => ?_) (fun c7 => ?_)
 refine .sr ?_
 refine .mv ?_
 refine .vl (Y.qq (m := 0) az rfl rfl bj (ao (d := 0) (by first | omega | (unfold Unary eo at *; omega)))) ?_
 refine .ld bw ?_
 refine .vl (Y.qk rfl rfl) ?_
 refine .mv ?_
 refine .aw (d := 14) rfl (fun qF => ?_) (fun qF => ?_)
 refine .gw 14 (Y.zd rfl rfl) (.gw 14 (Y.qq (m := 1) az rfl rfl bj (ao (d := 0) (by first | omega | (unfold Unary eo at *; omega)))) (.gw 14 (Y.qx bw rfl rfl rfl rfl) ?_))
 refine .gw 14 (Y.zd rfl rfl) (.gw 14 (Y.qk rfl rfl) ?_)
 refine .pk ?_
 refine .mv ?_
 refine .aw (d := 21) rfl (fun uT => ?_) (fun uT => ?_)
 refine .gw 21 (Y.zd rfl rfl) (.gw 21 (Y.qq (m := 2) az rfl rfl bj (ao (d := 0) (by first | omega | (unfold Unary eo at *; omega)))) (.gw 21 (Y.qx bw rfl rfl rfl rfl) ?_))
 refine .gw 21 (Y.zd rfl rfl) (.gw 21 (Y.qk rfl rfl) ?_)
 refine .pk ?_
 refine .an ?_
 refine .nil (.ret ?_)
 exact .rb rfl (dd (by unfold bR eo; (try unfold Unary at *); (try unfold eo at *); (first | omega | grind)))
 refine .gz 21 (.gz 21 (.gz 21 ?_))
 refine .gz 21 (.gz 21 ?_)
 refine .pk ?_
 refine .an ?_
 refine .nil (.ret ?_)
 exact .rb rfl (df (by unfold bR eo; (try unfold Unary at *); (try unfold eo at *); (first | omega | grind)))
 refine .gz 14 (.gz 14 (.gz 14 ?_))
 refine .gz 14 (.gz 14 ?_)
 refine .pk ?_
 refine .mv ?_
 refine .gz 21 (.gz 21 (.gz 21 ?_))
 refine .gz 21 (.gz 21 ?_)
 refine .pk ?_
 refine .an ?_
 refine .nil (.ret ?_)
 exact .rb rfl (df (by unfold bR eo; (try unfold Unary at *); (try unfold eo at *); (first | omega | grind)))
 refine .sr ?_
 refine .mv ?_
 refine .vl (Y.qk rfl rfl) ?_
 refine .an ?_
 refine .nil ?_
 refine .a9 rfl (fun qG => ?_) (fun qG => ?_)
 refine .sr ?_
 refine .mv ?_
 refine .vl (Y.qq (m := 0) az rfl rfl bj (ao (d := 0) (by first | omega | (unfold Unary eo at *; omega)))) ?_
 refine .ld bw ?_
 refine .mv ?_
 refine .vl (Y.qo rfl rfl) ?_
 refine .an ?_
 refine .nil (.ret ?_)
 exact .rb rfl (dd (by unfold bR eo; (try unfold Unary at *); (try unfold eo at *); (first | omega | grind)))
 refine .sr ?_
 refine .mv ?_
 refine .br yG (jx (w := op)) rfl (.au rfl rfl .nil) ag rfl ?_
 refine .an ?_
 refine .nil ?_
 refine .a9 rfl (fun CZ => ?_) (fun CZ => ?_)
 refine .sr ?_
 refine .mv ?_
 refine .vl (Y.qq (m := 0) az rfl rfl bj (ao (d := 0) (by first | omega | (unfold Unary eo at *; omega)))) ?_
 refine .ld bw ?_
 refine .mv ?_
 refine .vl (Y.qw rfl rfl) ?_
 refine .an ?_
 refine .nil (.ret ?_)
 exact .rb rfl (dd (by unfold bR eo; (try unfold Unary at *); (try unfold eo at *); (first | omega | grind)))
 refine .sr ?_
 refine .mv ?_
 refine .br HR (lU (w := op)) rfl (.au rfl rfl .nil) ag rfl ?_
 refine .an ?_
 refine .nil ?_
 refine .a9 rfl (fun MZ => ?_) (fun MZ => ?_)
 refine .seq (.iz rfl aU (.val (Y.zd rfl rfl) ag ?_))
 refine .val (Y.qq (m := 0) az rfl rfl bj (ao (d := 0) (by first | omega | (unfold Unary eo at *; omega)))) ag (.val (Y.qx bw rfl rfl rfl rfl) ag (.val (Y.zd rfl rfl) ag ?_))
 refine .val (Y.qq (m := 1) az rfl rfl bj (ao (d := 0) (by first | omega | (unfold Unary eo at *; omega)))) ag (.val (Y.qx bw rfl rfl rfl rfl) ag (.val (Y.qk rfl rfl) ag ?_))
 refine .val (Y.zd rfl rfl) ag ?_
 refine .aw (d := 54) rfl (fun Ch => ?_) (fun Ch => ?_)
 refine .aH (d := 54) rfl ag rfl (.val (Y.zd rfl rfl) ag (.aH (d := 54) rfl ag rfl ?_))
 refine .val (Y.qk rfl rfl) ag (.val (Y.zj rfl rfl rfl) ag (.val (Y.qe rfl rfl) ag ?_))
 refine .nil (.ret ?_)
 exact .rb rfl (dd (by unfold bR eo; (try unfold Unary at *); (try unfold eo at *); (first | omega | grind)))
 refine .aA (d := 54) rfl ag ag rfl rfl (.aA (d := 54) rfl ag ag rfl rfl (.val (Y.zj rfl rfl rfl) ag ?_))
 refine .val (Y.qe rfl rfl) ag (.nil (.ret ?_))
 exact .rb rfl (df (by unfold bR eo; (try unfold Unary at *); (try unfold eo at *); (first | omega | grind)))
 refine .skip (.sr ?_)
 refine .mv ?_
 refine .vl (Y.qq (m := 0) az rfl rfl bj (ao (d := 0) (by first | omega | (unfold Unary eo at *; omega)))) ?_
 refine .ld bw ?_
 refine .mv ?_
 refine .vl (Y.qk rfl rfl) ?_
 refine .mv ?_
 refine .aw (d := 63) rfl (fun Da => ?_) (fun Da => ?_)
 refine .gw 63 (Y.zd rfl rfl) (.gw 63 (Y.qq (m := 1) az rfl rfl bj (ao (d := 0) (by first | omega | (unfold Unary eo at *; omega)))) (.gw 63 (Y.qx bw rfl rfl rfl rfl) ?_))
 refine .gw 63 (Y.zd rfl rfl) (.gw 63 (Y.qk rfl rfl) ?_)
 refine .pk ?_
 refine .an ?_
 refine .nil (.ret ?_)
 exact .rb rfl (dd (by unfold bR eo; (try unfold Unary at *); (try unfold eo at *); (first | omega | grind)))
 refine .gz 63 (.gz 63 (.gz 63 ?_))
 refine .gz 63 (.gz 63 ?_)
 refine .pk ?_
 refine .an ?_
 refine .nil (.ret ?_)
 exact .rb rfl (df (by unfold bR eo; (try unfold Unary at *); (try unfold eo at *); (first | omega | grind)))
open Go Go.AW Go.Proofs
end Go.Proofs.Ytlimckldnjmabaa
namespace Go.Proofs.Ytlimckldnjmabaa
open Go Go.AW Go.Proofs
theorem rN {n : ab} {c : Cell} (hs : n.Small) (hc : c.args.length ≤ 17592186043904) : ak Try.prog 160 [.agg (ab.row n), .agg (Cell.row c)] [] [] (fun r o => r = .v (.bool (decide (Shaped n c))) ∧ o = []) := by
 refine ak.of Try.func160 rfl rfl rfl (n := 132) ag (bE rfl) ?_
 have GG := hs.ins; have GH := hs.bh; have I2 := hs.streams
 refine .sr (.box 102 rfl rfl rfl rfl rfl ag (.box 103 rfl rfl rfl rfl rfl ag ?_))
 refine .an ?_
 refine .nil (.sr ?_)
 refine .an ?_
 refine .an ?_
 refine .an ?_
 refine .an ?_
 refine .nil (.seq (.sr ?_))
 refine .fa iM ?_
 refine .ld bw ?_
 refine .nil (.block (.sr ?_))
 refine .vl (Y.qk rfl rfl) ?_
 refine .an ?_
 refine .nil ?_
 refine .a9 rfl (fun Db => ?_) (fun Db => ?_)
 refine .region ?_
 refine .an ?_
 refine .nil ?_
 refine .nU (⟨[(2, .ptr 102 0 0 0), (3, .ptr 103 0 0 0), (8, vi (-1))], [(102, .cells (ab.row n)), (103, .cells (Cell.row c))]⟩) (((¬ ((c.args.length : Int) ≠ 0)) ∧ (¬ (c.op ≠ 0)) ∧ ((c.num : Int) ≠ 0)) ∨ ((¬ ((c.args.length : Int) ≠ 0)) ∧ (¬ (c.op ≠ 0)) ∧ (¬ ((c.num : Int) ≠ 0)))) ?_ (fun Ci => ?_)
 refine .sr ?_
 refine .fa dZ ?_
 refine .ld cQ ?_
 refine .vl (Y.qu (n := c.args.length) az rfl gx) ?_
 refine .mv ?_
 refine .vl (Y.zg rfl rfl) ?_
 refine .mv ?_
 refine .aw (d := 88) rfl (fun kf => ?_) (fun kf => ?_)
 refine .gz 88 (.gz 88 (.gz 88 ?_))
 refine .gz 88 ?_
 refine .pk ?_
 refine .mv ?_
 refine .gz 94 (.gz 94 (.gz 94 ?_))
 refine .gz 94 (.gz 98 (.gz 98 ?_))
 refine .gz 94 ?_
 refine .pk ?_
 refine .nil (.aK rfl (.sr ?_))
 refine .an ?_
 refine .nil (.ret ?_)
 exact .rb rfl (df eB)
 refine .gw 88 (Y.qn dY rfl rfl) (.gw 88 (Y.qx bw rfl rfl rfl rfl) (.gw 88 (Y.zd rfl rfl) ?_))
 refine .gw 88 (Y.zg rfl rfl) ?_
 refine .pk ?_
 refine .mv ?_
 refine .aw (d := 94) rfl (fun lu => ?_) (fun lu => ?_)
 refine .gz 94 (.gz 94 (.gz 94 ?_))
 refine .gz 94 (.gz 98 (.gz 98 ?_))
 refine .gz 94 ?_
 refine .pk ?_
 refine .nil (.aK rfl (.sr ?_))
 refine .an ?_
 refine .nil (.ret ?_)
 exact .rb rfl (df eB)
 refine .gw 94 (Y.qn dQ rfl rfl) (.gw 94 (Y.qx gb rfl rfl rfl rfl) (.gw 94 (Y.zg rfl rfl) ?_))
 refine .gw 94 (Y.zd rfl rfl) ?_
 refine .aw (d := 98) rfl (fun kg => ?_) (fun kg => ?_)
 refine .gw 98 (Y.zd rfl rfl) (.gw 98 (Y.zi rfl) (.gw 94 (Y.zj rfl rfl rfl) ?_))
 refine .pk ?_
 refine .nil (.cT rfl (.skip ?_))
 exact ⟨.inl ⟨kf, lu, kg⟩, Le.mk (.c2 (.c .nil)) (.c (.c .nil))⟩
 refine .gz 98 (.gz 98 (.gw 94 (Y.zj rfl rfl rfl) ?_))
 refine .pk ?_
 refine .nil (.cT rfl (.skip ?_))
 exact ⟨.inr (⟨kf, lu, kg⟩), Le.mk (.c2 (.c .nil)) (.c (.c .nil))⟩
 refine .seq (.sr ?_)
 refine .mv ?_
 refine .vl (Y.qz rfl rfl) (.nil (.aK rfl ?_))
 refine .sr ?_
 refine .fa cE ?_
 refine .ld bw ?_
 refine .vl (Y.qk rfl rfl) ?_
 refine .an ?_
 refine .nil (.ret ?_)
 exact .rb rfl (dd eB)
 refine .sr (.vl (Y.qk rfl rfl) ?_)
 refine .an ?_
 refine .nil ?_
 refine .a9 rfl (fun AI => ?_) (fun AI => ?_)
 refine .seq (.cC rfl (.blind 0 rfl aU (aE.fieldAddr dY rfl rfl) ag ?_))
 refine .blind 3 rfl aU (aE.fieldAddr dY rfl rfl) ag ?_
 refine .two 1 4 rfl rfl aU ?_ ?_
 refine .ld bw ?_
 refine .nil ⟨rfl, ?_⟩
 refine .two 2 4 rfl rfl aU ?_ ?_
 refine .br wx (iP (op := c.op)) rfl (.au rfl rfl .nil) ag rfl ?_
 refine .nil ⟨rfl, ?_⟩
 refine .bl (n := 0) [4, 5, 6] [] 0 rfl aU (.cn 4 rfl (Y.qx bw rfl rfl rfl rfl) (.cn 5 rfl (Y.qe rfl rfl) ?_))
 refine .cn 6 rfl (Y.qe rfl rfl) (.nil (.done aU ?_))
 refine .sr ?_
 refine .mv ?_
 refine .vl (Y.qk rfl rfl) (.nil ?_)
 refine .a9 rfl (fun uT => ?_) (fun uT => ?_)
 refine .sr ?_
 refine .an ?_
 refine .nil (.ret ?_)
 exact .rb rfl (df eB)
 refine .skip (.seq (.sr ?_))
 refine .fa dZ ?_
 refine .ld cQ ?_
 refine .vl (Y.qu (n := c.args.length) az rfl gx) ?_
 refine .mv ?_
 refine .vl (Y.zg rfl rfl) ?_
 refine .mv ?_
 refine .aw (d := 88) rfl (fun kf => ?_) (fun kf => ?_)
 refine .gz 88 (.gz 88 (.gz 88 ?_))
 refine .gz 88 ?_
 refine .pk ?_
 refine .mv ?_
 refine .gz 94 (.gz 94 (.gz 94 ?_))
 refine .gz 94 (.gz 98 (.gz 98 ?_))
 refine .gz 94 ?_
 refine .pk ?_
 refine .nil (.aK rfl (.sr ?_))
 refine .an ?_
 refine .nil (.ret ?_)
 exact .rb rfl (df eB)
 refine .gw 88 (Y.qn dY rfl rfl) (.gw 88 (Y.qx bw rfl rfl rfl rfl) (.gw 88 (Y.zd rfl rfl) ?_))
 refine .gw 88 (Y.zg rfl rfl) ?_
 refine .pk ?_
 refine .mv ?_
 refine .aw (d := 94) rfl (fun lu => ?_) (fun lu => ?_)
 refine .gz 94 (.gz 94 (.gz 94 ?_))
 refine .gz 94 (.gz 98 (.gz 98 ?_))
 refine .gz 94 ?_
 refine .pk ?_
 refine .nil (.aK rfl (.sr ?_))
 refine .an ?_
 refine .nil (.ret ?_)
 exact .rb rfl (df eB)
 refine .gw 94 (Y.qn dQ rfl rfl) (.gw 94 (Y.qx gb rfl rfl rfl rfl) (.gw 94 (Y.zg rfl rfl) ?_))
 refine .gw 94 (Y.zd rfl rfl) ?_
 refine .aw (d := 98) rfl (fun kg => ?_) (fun kg => ?_)
 refine .gw 98 (Y.zd rfl rfl) (.gw 98 (Y.zi rfl) (.gw 94 (Y.zj rfl rfl rfl) ?_))
 refine .pk ?_
 refine .nil (.aK rfl (.sr ?_))
 refine .an ?_
 refine .nil (.ret ?_)
 exact .rb rfl (df eB)
 refine .gz 98 (.gz 98 (.gw 94 (Y.zj rfl rfl rfl) ?_))
 refine .pk ?_
 refine .nil (.cT rfl (.skip ?_))
 refine .seq (.sr ?_)
 refine .mv ?_
 refine .vl (Y.qz rfl rfl) (.nil (.aK rfl ?_))
 refine .sr ?_
 refine .fa cE ?_
 refine .ld bw ?_
 refine .vl (Y.qk rfl rfl) ?_
 refine .an ?_
 refine .nil (.ret ?_)
 exact .rb rfl (dd eB)
 refine .ld bw ?_
 refine .nil ⟨rfl, ?_⟩
 refine .one 2 rfl aU (.br wx (iP (op := c.op)) rfl (.au rfl rfl .nil) ag rfl ?_)
 refine .nil ⟨rfl, ?_⟩
 refine .bl (n := 0) [5, 6] [] 0 rfl aU (.cn 5 rfl (Y.qe rfl rfl) (.cn 6 rfl (Y.qe rfl rfl) ?_))
 refine .nil (.done aU (.sr ?_))
 refine .mv ?_
 refine .vl (Y.qk rfl rfl) (.nil ?_)
 refine .a9 rfl (fun uT => ?_) (fun uT => ?_)
 refine .sr ?_
 refine .an ?_
 refine .nil (.ret ?_)
 exact .rb rfl (df eB)
 refine .skip (.seq (.sr ?_))
 refine .fa dZ ?_
 refine .ld cQ ?_
 refine .vl (Y.qu (n := c.args.length) az rfl gx) ?_
 refine .mv ?_
 refine .vl (Y.zg rfl rfl) ?_
 refine .mv ?_
 refine .aw (d := 88) rfl (fun kf => ?_) (fun kf => ?_)
 refine .gz 88 (.gz 88 (.gz 88 ?_))
 refine .gz 88 ?_
 refine .pk ?_
 refine .mv ?_
 refine .gz 94 (.gz 94 (.gz 94 ?_))
 refine .gz 94 (.gz 98 (.gz 98 ?_))
 refine .gz 94 ?_
 refine .pk ?_
 refine .nil (.aK rfl (.sr ?_))
 refine .an ?_
 refine .nil (.ret ?_)
 exact .rb rfl (df eB)
 refine .gw 88 (Y.qn dY rfl rfl) (.gw 88 (Y.qx bw rfl rfl rfl rfl) (.gw 88 (Y.zd rfl rfl) ?_))
 refine .gw 88 (Y.zg rfl rfl) ?_
 refine .pk ?_
 refine .mv ?_
 refine .aw (d := 94) rfl (fun lu => ?_) (fun lu => ?_)
 refine .gz 94 (.gz 94 (.gz 94 ?_))
 refine .gz 94 (.gz 98 (.gz 98 ?_))
 refine .gz 94 ?_
 refine .pk ?_
 refine .nil (.aK rfl (.sr ?_))
 refine .an ?_
 refine .nil (.ret ?_)
 exact .rb rfl (df eB)
 refine .gw 94 (Y.qn dQ rfl rfl) (.gw 94 (Y.qx gb rfl rfl rfl rfl) (.gw 94 (Y.zg rfl rfl) ?_))
 refine .gw 94 (Y.zd rfl rfl) ?_
 refine .aw (d := 98) rfl (fun kg => ?_) (fun kg => ?_)
 refine .gw 98 (Y.zd rfl rfl) (.gw 98 (Y.zi rfl) (.gw 94 (Y.zj rfl rfl rfl) ?_))
 refine .pk ?_
 refine .nil (.aK rfl (.sr ?_))
 refine .an ?_
 refine .nil (.ret ?_)
 exact .rb rfl (df eB)
 refine .gz 98 (.gz 98 (.gw 94 (Y.zj rfl rfl rfl) ?_))
 refine .pk ?_
 refine .nil (.cT rfl (.skip ?_))
 refine .seq (.sr ?_)
 refine .mv ?_
 refine .vl (Y.qz rfl rfl) (.nil (.aK rfl ?_))
 refine .sr ?_
 refine .fa cE ?_
 refine .ld bw ?_
 refine .vl (Y.qk rfl rfl) ?_
 refine .an ?_
 refine .nil (.ret ?_)
 exact .rb rfl (dd eB)
 refine .ld bw ?_
 refine .nil ⟨rfl, ?_⟩
 refine .bl (n := 3) [1] [2, 5, 6] 2 rfl aU (.cn 1 rfl (Y.qx bw rfl rfl rfl rfl) (.nil ?_))
 refine .one 2 rfl aU (.br wx (iP (op := c.op)) rfl (.au rfl rfl .nil) ag rfl ?_)
 refine .nil ⟨rfl, ?_⟩
 refine .bl (n := 0) [5, 6] [] 0 rfl aU (.cn 5 rfl (Y.qe rfl rfl) (.cn 6 rfl (Y.qe rfl rfl) ?_))
 refine .nil (.done aU (.sr ?_))
 refine .mv ?_
 refine .vl (Y.qk rfl rfl) (.nil ?_)
 refine .a9 rfl (fun uT => ?_) (fun uT => ?_)
 refine .sr ?_
 refine .an ?_
 refine .nil (.ret ?_)
 exact .rb rfl (df eB)
 refine .skip (.seq (.sr ?_))
 refine .fa dZ ?_
 refine .ld cQ ?_
 refine .vl (Y.qu (n := c.args.length) az rfl gx) ?_
 refine .mv ?_
 refine .vl (Y.zg rfl rfl) ?_
 refine .mv ?_
 refine .aw (d := 88) rfl (fun kf => ?_) (fun kf => ?_)
 refine .gz 88 (.gz 88 (.gz 88 ?_))
 refine .gz 88 ?_
 refine .pk ?_
 refine .mv ?_
 refine .gz 94 (.gz 94 (.gz 94 ?_))
 refine .gz 94 (.gz 98 (.gz 98 ?_))
 refine .gz 94 ?_
 refine .pk ?_
 refine .nil (.aK rfl (.sr ?_))
 refine .an ?_
 refine .nil (.ret ?_)
 exact .rb rfl (df eB)
 refine .gw 88 (Y.qn dY rfl rfl) (.gw 88 (Y.qx bw rfl rfl rfl rfl) (.gw 88 (Y.zd rfl rfl) ?_))
 refine .gw 88 (Y.zg rfl rfl) ?_
 refine .pk ?_
 refine .mv ?_
 refine .aw (d := 94) rfl (fun lu => ?_) (fun lu => ?_)
 refine .gz 94 (.gz 94 (.gz 94 ?_))
 refine .gz 94 (.gz 98 (.gz 98 ?_))
 refine .gz 94 ?_
 refine .pk ?_
 refine .nil (.aK rfl (.sr ?_))
 refine .an ?_
 refine .nil (.ret ?_)
 exact .rb rfl (df eB)
 refine .gw 94 (Y.qn dQ rfl rfl) (.gw 94 (Y.qx gb rfl rfl rfl rfl) (.gw 94 (Y.zg rfl rfl) ?_))
 refine .gw 94 (Y.zd rfl rfl) ?_
 refine .aw (d := 98) rfl (fun kg => ?_) (fun kg => ?_)
 refine .gw 98 (Y.zd rfl rfl) (.gw 98 (Y.zi rfl) (.gw 94 (Y.zj rfl rfl rfl) ?_))
 refine .pk ?_
 refine .nil (.aK rfl (.sr ?_))
 refine .an ?_
 refine .nil (.ret ?_)
 exact .rb rfl (df eB)
 refine .gz 98 (.gz 98 (.gw 94 (Y.zj rfl rfl rfl) ?_))
 refine .pk ?_
 refine .nil (.cT rfl (.skip ?_))
 refine .seq (.sr ?_)
 refine .mv ?_
 refine .vl (Y.qz rfl rfl) (.nil (.aK rfl ?_))
 refine .sr ?_
 refine .fa cE ?_
 refine .ld bw ?_
 refine .vl (Y.qk rfl rfl) ?_
 refine .an ?_
 refine .nil (.ret ?_)
 exact .rb rfl (dd eB)
 refine .sr (.vl (Y.qk rfl rfl) ?_)
 refine .an ?_
 refine .nil ?_
 refine .a9 rfl (fun ni => ?_) (fun ni => ?_)
 refine .sr ?_
 refine .fa dZ ?_
 refine .ld cQ ?_
 refine .vl (Y.qu (n := c.args.length) az rfl gx) ?_
 refine .an ?_
 refine .nil (.sr ?_)
 refine .mv ?_
 refine .vl (Y.qz rfl rfl) ?_
 refine .mv ?_
 refine .aw (d := 29) rfl (fun I3 => ?_) (fun I3 => ?_)
 refine .gz 29 (.gz 29 (.gz 29 ?_))
 refine .pk ?_
 refine .nil (.aK rfl (.sr ?_))
 refine .an ?_
 refine .nil (.ret ?_)
 exact .rb rfl (df eB)
 refine .gw 29 (Y.zd rfl rfl) (.gw 29 (Y.zn rfl rfl om) (.gw 29 (Y.qk rfl rfl) ?_))
 refine .pk ?_
 refine .nil ?_
 refine .a9 rfl (fun uV => ?_) (fun uV => ?_)
 refine .sr ?_
 refine .an ?_
 refine .nil (.ret ?_)
 exact .rb rfl (df eB)
 refine .skip (.seq (.sr ?_))
 refine .fa dZ ?_
 refine .ld cQ ?_
 refine .vl (Y.qu (n := c.args.length) az rfl gx) ?_
 refine .mv ?_
 refine .vl (Y.zg rfl rfl) ?_
 refine .mv ?_
 refine .aw (d := 88) rfl (fun kf => ?_) (fun kf => ?_)
 refine .gz 88 (.gz 88 (.gz 88 ?_))
 refine .gz 88 ?_
 refine .pk ?_
 refine .mv ?_
 refine .gz 94 (.gz 94 (.gz 94 ?_))
 refine .gz 94 (.gz 98 (.gz 98 ?_))
 refine .gz 94 ?_
 refine .pk ?_
 refine .nil (.aK rfl (.sr ?_))
 refine .an ?_
 refine .nil (.ret ?_)
 exact .rb rfl (df eB)
 refine .gw 88 (Y.qn dY rfl rfl) (.gw 88 (Y.qx bw rfl rfl rfl rfl) (.gw 88 (Y.zd rfl rfl) ?_))
 refine .gw 88 (Y.zg rfl rfl) ?_
 refine .pk ?_
 refine .mv ?_
 refine .aw (d := 94) rfl (fun lu => ?_) (fun lu => ?_)
 refine .gz 94 (.gz 94 (.gz 94 ?_))
 refine .gz 94 (.gz 98 (.gz 98 ?_))
 refine .gz 94 ?_
 refine .pk ?_
 refine .nil (.aK rfl (.sr ?_))
 refine .an ?_
 refine .nil (.ret ?_)
 exact .rb rfl (df eB)
 refine .gw 94 (Y.qn dQ rfl rfl) (.gw 94 (Y.qx gb rfl rfl rfl rfl) (.gw 94 (Y.zg rfl rfl) ?_))
 refine .gw 94 (Y.zd rfl rfl) ?_
 refine .aw (d := 98) rfl (fun kg => ?_) (fun kg => ?_)
 refine .gw 98 (Y.zd rfl rfl) (.gw 98 (Y.zi rfl) (.gw 94 (Y.zj rfl rfl rfl) ?_))
 refine .pk ?_
 refine .nil (.aK rfl (.sr ?_))
 refine .an ?_
 refine .nil (.ret ?_)
 exact .rb rfl (df eB)
 refine .gz 98 (.gz 98 (.gw 94 (Y.zj rfl rfl rfl) ?_))
 refine .pk ?_
 refine .nil (.cT rfl (.skip ?_))
 refine .seq (.sr ?_)
 refine .mv ?_
 refine .vl (Y.qz rfl rfl) (.nil (.aK rfl ?_))
 refine .sr ?_
 refine .fa cE ?_
 refine .ld bw ?_
 refine .vl (Y.qk rfl rfl) ?_
 refine .an ?_
 refine .nil (.ret ?_)
 exact .rb rfl (dd eB)
 refine .sr (.vl (Y.qk rfl rfl) ?_)
 refine .an ?_
 refine .nil ?_
 refine .a9 rfl (fun Dc => ?_) (fun Dc => ?_)
 refine .region ?_
 refine .an ?_
 refine .an ?_
 refine .nil ?_
 refine .nU (⟨[(2, .ptr 102 0 0 0), (3, .ptr 103 0 0 0), (8, vi (-1))], [(102, .cells (ab.row n)), (103, .cells (Cell.row c))]⟩) (((¬ ((c.args.length : Int) ≠ 2)) ∧ (¬ (c.op ≠ 0)) ∧ ((c.num : Int) ≠ 0)) ∨ ((¬ ((c.args.length : Int) ≠ 2)) ∧ (¬ (c.op ≠ 0)) ∧ (¬ ((c.num : Int) ≠ 0)))) ?_ (fun Ci => ?_)
 refine .sr ?_
 refine .fa dZ ?_
 refine .ld cQ ?_
 refine .vl (Y.qu (n := c.args.length) az rfl gx) ?_
 refine .mv ?_
 refine .vl (Y.zg rfl rfl) ?_
 refine .mv ?_
 refine .aw (d := 88) rfl (fun kf => ?_) (fun kf => ?_)
 refine .gz 88 (.gz 88 (.gz 88 ?_))
 refine .gz 88 ?_
 refine .pk ?_
 refine .mv ?_
 refine .gz 94 (.gz 94 (.gz 94 ?_))
 refine .gz 94 (.gz 98 (.gz 98 ?_))
 refine .gz 94 ?_
 refine .pk ?_
 refine .nil (.aK rfl (.sr ?_))
 refine .an ?_
 refine .nil (.ret ?_)
 exact .rb rfl (df eB)
 refine .gw 88 (Y.qn dY rfl rfl) (.gw 88 (Y.qx bw rfl rfl rfl rfl) (.gw 88 (Y.zd rfl rfl) ?_))
 refine .gw 88 (Y.zg rfl rfl) ?_
 refine .pk ?_
 refine .mv ?_
 refine .aw (d := 94) rfl (fun lu => ?_) (fun lu => ?_)
 refine .gz 94 (.gz 94 (.gz 94 ?_))
 refine .gz 94 (.gz 98 (.gz 98 ?_))
 refine .gz 94 ?_
 refine .pk ?_
 refine .nil (.aK rfl (.sr ?_))
 refine .an ?_
 refine .nil (.ret ?_)
 exact .rb rfl (df eB)
 refine .gw 94 (Y.qn dQ rfl rfl) (.gw 94 (Y.qx gb rfl rfl rfl rfl) (.gw 94 (Y.zg rfl rfl) ?_))
 refine .gw 94 (Y.zd rfl rfl) ?_
 refine .aw (d := 98) rfl (fun kg => ?_) (fun kg => ?_)
 refine .gw 98 (Y.zd rfl rfl) (.gw 98 (Y.zi rfl) (.gw 94 (Y.zj rfl rfl rfl) ?_))
 refine .pk ?_
 refine .nil (.cT rfl (.skip ?_))
 exact ⟨.inl ⟨kf, lu, kg⟩, Le.mk (.c2 (.c .nil)) (.c (.c .nil))⟩
 refine .gz 98 (.gz 98 (.gw 94 (Y.zj rfl rfl rfl) ?_))
 refine .pk ?_
 refine .nil (.cT rfl (.skip ?_))
 exact ⟨.inr (⟨kf, lu, kg⟩), Le.mk (.c2 (.c .nil)) (.c (.c .nil))⟩
 refine .seq (.sr ?_)
 refine .mv ?_
 refine .vl (Y.qz rfl rfl) (.nil (.aK rfl ?_))
 refine .sr ?_
 refine .fa cE ?_
 refine .ld bw ?_
 refine .vl (Y.qk rfl rfl) ?_
 refine .an ?_
 refine .nil (.ret ?_)
 exact .rb rfl (dd eB)
 refine .sr (.vl (Y.qk rfl rfl) ?_)
 refine .an ?_
 refine .nil ?_
 refine .a9 rfl (fun CZ => ?_) (fun CZ => ?_)
 refine .seq (.iz rfl aU (.val (Y.qn dY rfl rfl) ag ?_))
 refine .val (Y.qx bw rfl rfl rfl rfl) ag (.val (Y.qe rfl rfl) ag (.val (Y.qe rfl rfl) ag ?_))
 refine .val (Y.qe rfl rfl) ag (.nil (.sr ?_))
 refine .fa dY ?_
 refine .ld bw ?_
 refine .vl (Y.qz rfl rfl) ?_
 refine .mv ?_
 refine .aw (d := 43) rfl (fun I4 => ?_) (fun I4 => ?_)
 refine .gz 43 (.gz 43 (.gz 43 ?_))
 refine .pk ?_
 refine .mv ?_
 refine .gz 48 (.gz 48 (.gz 48 ?_))
 refine .pk ?_
 refine .mv ?_
 refine .gz 53 (.gz 53 (.gz 53 ?_))
 refine .pk ?_
 refine .nil (.aK rfl (.sr ?_))
 refine .an ?_
 refine .nil (.ret ?_)
 exact .rb rfl (df eB)
 refine .gw 43 (Y.qn dY rfl rfl) (.gw 43 (Y.qx bw rfl rfl rfl rfl) (.gw 43 (Y.qp rfl rfl) ?_))
 refine .pk ?_
 refine .mv ?_
 refine .aw (d := 48) rfl (fun I5 => ?_) (fun I5 => ?_)
 refine .gz 48 (.gz 48 (.gz 48 ?_))
 refine .pk ?_
 refine .mv ?_
 refine .gz 53 (.gz 53 (.gz 53 ?_))
 refine .pk ?_
 refine .nil (.aK rfl (.sr ?_))
 refine .an ?_
 refine .nil (.ret ?_)
 exact .rb rfl (df eB)
 refine .gw 48 (Y.qn dQ rfl rfl) (.gw 48 (Y.qx gb rfl rfl rfl rfl) (.gw 48 (Y.qz rfl rfl) ?_))
 refine .pk ?_
 refine .mv ?_
 refine .aw (d := 53) rfl (fun I6 => ?_) (fun I6 => ?_)
 refine .gz 53 (.gz 53 (.gz 53 ?_))
 refine .pk ?_
 refine .nil (.aK rfl (.sr ?_))
 refine .an ?_
 refine .nil (.ret ?_)
 exact .rb rfl (df eB)
 refine .gw 53 (Y.qn dQ rfl rfl) (.gw 53 (Y.qx gb rfl rfl rfl rfl) (.gw 53 (Y.qp rfl rfl) ?_))
 refine .pk ?_
 refine .nil ?_
 refine .a9 rfl (fun uj => ?_) (fun uj => ?_)
 refine .sr ?_
 refine .an ?_
 refine .nil (.ret ?_)
 exact .rb rfl (df eB)
 refine .skip ?_
 refine .nU (⟨[(2, .ptr 102 0 0 0), (3, .ptr 103 0 0 0), (8, vi (-1))], [(102, .cells (ab.row n)), (103, .cells (Cell.row c))]⟩) (((¬ ((c.args.length : Int) ≠ 2)) ∧ (¬ (c.op ≠ c.op)) ∧ ((c.num : Int) ≠ 0)) ∨ ((¬ ((c.args.length : Int) ≠ 2)) ∧ (¬ (c.op ≠ c.op)) ∧ (¬ ((c.num : Int) ≠ 0)))) ?_ (fun Ci => ?_)
 refine .sr ?_
 refine .fa dZ ?_
 refine .ld cQ ?_
 refine .vl (Y.qu (n := c.args.length) az rfl gx) ?_
 refine .mv ?_
 refine .vl (Y.zg rfl rfl) ?_
 refine .mv ?_
 refine .aw (d := 88) rfl (fun kf => ?_) (fun kf => ?_)
 refine .gz 88 (.gz 88 (.gz 88 ?_))
 refine .gz 88 ?_
 refine .pk ?_
 refine .mv ?_
 refine .gz 94 (.gz 94 (.gz 94 ?_))
 refine .gz 94 (.gz 98 (.gz 98 ?_))
 refine .gz 94 ?_
 refine .pk ?_
 refine .nil (.aK rfl (.sr ?_))
 refine .an ?_
 refine .nil (.ret ?_)
 exact .rb rfl (df eB)
 refine .gw 88 (Y.qn dY rfl rfl) (.gw 88 (Y.qx bw rfl rfl rfl rfl) (.gw 88 (Y.zd rfl rfl) ?_))
 refine .gw 88 (Y.zg rfl rfl) ?_
 refine .pk ?_
 refine .mv ?_
 refine .aw (d := 94) rfl (fun lu => ?_) (fun lu => ?_)
 refine .gz 94 (.gz 94 (.gz 94 ?_))
 refine .gz 94 (.gz 98 (.gz 98 ?_))
 refine .gz 94 ?_
 refine .pk ?_
 refine .nil (.aK rfl (.sr ?_))
 refine .an ?_
 refine .nil (.ret ?_)
 exact .rb rfl (df eB)
 refine .gw 94 (Y.qn dQ rfl rfl) (.gw 94 (Y.qx gb rfl rfl rfl rfl) (.gw 94 (Y.zg rfl rfl) ?_))
 refine .gw 94 (Y.zd rfl rfl) ?_
 refine .aw (d := 98) rfl (fun kg => ?_) (fun kg => ?_)
 refine .gw 98 (Y.zd rfl rfl) (.gw 98 (Y.zi rfl) (.gw 94 (Y.zj rfl rfl rfl) ?_))
 refine .pk ?_
 refine .nil (.cT rfl (.skip ?_))
 exact ⟨.inl ⟨kf, lu, kg⟩, Le.mk (.c2 (.c .nil)) (.c (.c .nil))⟩
 refine .gz 98 (.gz 98 (.gw 94 (Y.zj rfl rfl rfl) ?_))
 refine .pk ?_
 refine .nil (.cT rfl (.skip ?_))
 exact ⟨.inr (⟨kf, lu, kg⟩), Le.mk (.c2 (.c .nil)) (.c (.c .nil))⟩
 refine .seq (.sr ?_)
 refine .mv ?_
 refine .vl (Y.qz rfl rfl) (.nil (.aK rfl ?_))
 refine .sr ?_
 refine .fa cE ?_
 refine .ld bw ?_
 refine .vl (Y.qk rfl rfl) ?_
 refine .an ?_
 refine .nil (.ret ?_)
 exact .rb rfl (dd eB)
 refine .sr (.vl (Y.qk rfl rfl) ?_)
 refine .an ?_
 refine .nil ?_
 refine .a9 rfl (fun GI => ?_) (fun GI => ?_)
 refine .iz rfl aU (.val (Y.qn m5 rfl rfl) ag (.val (Y.qx uI rfl rfl rfl rfl) ag ?_))
 refine .val (Y.qu (n := n.bh.length) sU rfl gx) ag (.val (Y.qe rfl rfl) ag (.val (Y.qe rfl rfl) ag ?_))
 refine .nil (.seq (.sr ?_))
 refine .fa dZ ?_
 refine .ld cQ ?_
 refine .vl (Y.qu (n := c.args.length) az rfl gx) ?_
 refine .mv ?_
 refine .vl (Y.zg rfl rfl) ?_
 refine .mv ?_
 refine .aw (d := 88) rfl (fun kf => ?_) (fun kf => ?_)
 refine .gz 88 (.gz 88 (.gz 88 ?_))
 refine .gz 88 ?_
 refine .pk ?_
 refine .mv ?_
 refine .gz 94 (.gz 94 (.gz 94 ?_))
 refine .gz 94 (.gz 98 (.gz 98 ?_))
 refine .gz 94 ?_
 refine .pk ?_
 refine .nil (.aK rfl (.sr ?_))
 refine .an ?_
 refine .nil (.ret ?_)
 exact .rb rfl (df eB)
 refine .gw 88 (Y.qn dY rfl rfl) (.gw 88 (Y.qx bw rfl rfl rfl rfl) (.gw 88 (Y.zd rfl rfl) ?_))
 refine .gw 88 (Y.zg rfl rfl) ?_
 refine .pk ?_
 refine .mv ?_
 refine .aw (d := 94) rfl (fun lu => ?_) (fun lu => ?_)
 refine .gz 94 (.gz 94 (.gz 94 ?_))
 refine .gz 94 (.gz 98 (.gz 98 ?_))
 refine .gz 94 ?_
 refine .pk ?_
 refine .nil (.aK rfl (.sr ?_))
 refine .an ?_
 refine .nil (.ret ?_)
 exact .rb rfl (df eB)
 refine .gw 94 (Y.qn dQ rfl rfl) (.gw 94 (Y.qx gb rfl rfl rfl rfl) (.gw 94 (Y.zg rfl rfl) ?_))
 refine .gw 94 (Y.zd rfl rfl) ?_
 refine .aw (d := 98) rfl (fun kg => ?_) (fun kg => ?_)
 refine .gw 98 (Y.zd rfl rfl) (.gw 98 (Y.zi rfl) (.gw 94 (Y.zj rfl rfl rfl) ?_))
 refine .pk ?_
 refine .nil (.aK rfl (.sr ?_))
 refine .an ?_
 refine .nil (.ret ?_)
 exact .rb rfl (df eB)
 refine .gz 98 (.gz 98 (.gw 94 (Y.zj rfl rfl rfl) ?_))
 refine .pk ?_
 refine .nil (.cT rfl (.skip ?_))
 refine .seq (.sr ?_)
 refine .mv ?_
 refine .vl (Y.qz rfl rfl) (.nil ?_)
 refine .a9 rfl (fun kh => ?_) (fun kh => ?_)
 refine .sr ?_
 refine .fa cE ?_
 refine .ld bw ?_
 refine .vl (Y.qk rfl rfl) ?_
 refine .an ?_
 refine .nil (.ret ?_)
 exact .rb rfl (dd eB)
 refine .skip (.sr ?_)
 refine .fa cE ?_
 refine .ld bw ?_
 refine .vl (Y.qo rfl rfl) ?_
 refine .mv ?_
 refine .aw (d := 111) rfl (fun tf => ?_) (fun tf => ?_)
 refine .gw 111 (Y.qn cE rfl rfl) (.gw 111 (Y.qx bw rfl rfl rfl rfl) (.gw 111 (Y.zd rfl rfl) ?_))
 refine .gw 111 (Y.qz rfl rfl) ?_
 refine .pk ?_
 refine .mv ?_
 refine .aw (d := 117) rfl (fun kG => ?_) (fun kG => ?_)
 refine .gw 117 (Y.qn iM rfl rfl) (.gw 117 (Y.qx bw rfl rfl rfl rfl) (.gw 117 (Y.zg rfl rfl) ?_))
 refine .gw 117 (Y.zd rfl rfl) ?_
 refine .aw (d := 121) rfl (fun tg => ?_) (fun tg => ?_)
 refine .gz 121 (.gz 121 (.gz 121 ?_))
 refine .gz 121 (.gz 121 (.gz 121 ?_))
 refine .gz 121 (.gz 121 (.gw 117 (Y.zj rfl rfl rfl) ?_))
 refine .pk ?_
 refine .an ?_
 refine .nil (.ret ?_)
 exact .rb rfl (dt eB)
 refine .gw 121 (Y.qn g5 rfl rfl) (.gw 121 (Y.qx nt rfl rfl rfl rfl) (.gw 121 (Y.qn cE rfl rfl) ?_))
 refine .gw 121 (Y.qx bw rfl rfl rfl rfl) (.gw 121 (Y.qq (m := (c.mem).toNat) lK rfl rfl om (ao (d := default) om)) ?_)
 refine .gw 121 (Y.qn iB rfl rfl) (.gw 121 (Y.qx wy rfl rfl rfl rfl) (.gw 121 (Y.zi rfl) ?_))
 refine .gw 117 (Y.zj rfl rfl rfl) ?_
 refine .pk ?_
 refine .an ?_
 refine .nil (.ret ?_)
 exact .rb rfl (db eB)
 refine .gz 117 (.gz 117 (.gz 117 ?_))
 refine .gz 117 (.gz 121 (.gz 121 ?_))
 refine .gz 121 (.gz 121 (.gz 121 ?_))
 refine .gz 121 (.gz 121 (.gz 121 ?_))
 refine .gz 117 ?_
 refine .pk ?_
 refine .an ?_
 refine .nil (.ret ?_)
 exact .rb rfl (df eB)
 refine .gz 111 (.gz 111 (.gz 111 ?_))
 refine .gz 111 ?_
 refine .pk ?_
 refine .mv ?_
 refine .gz 117 (.gz 117 (.gz 117 ?_))
 refine .gz 117 (.gz 121 (.gz 121 ?_))
 refine .gz 121 (.gz 121 (.gz 121 ?_))
 refine .gz 121 (.gz 121 (.gz 121 ?_))
 refine .gz 117 ?_
 refine .pk ?_
 refine .an ?_
 refine .nil (.ret ?_)
 exact .rb rfl (df eB)
 refine .sr (.vl (Y.qk rfl rfl) ?_)
 refine .an ?_
 refine .nil ?_
 refine .a9 rfl (fun Da => ?_) (fun Da => ?_)
 refine .iz rfl aU (.val (Y.qn m5 rfl rfl) ag (.val (Y.qx uI rfl rfl rfl rfl) ag ?_))
 refine .val (Y.qu (n := n.bh.length) sU rfl gx) ag (.val (Y.qe rfl rfl) ag (.val (Y.qe rfl rfl) ag ?_))
 refine .nil (.seq (.sr ?_))
 refine .fa dZ ?_
 refine .ld cQ ?_
 refine .vl (Y.qu (n := c.args.length) az rfl gx) ?_
 refine .mv ?_
 refine .vl (Y.zg rfl rfl) ?_
 refine .mv ?_
 refine .aw (d := 88) rfl (fun kf => ?_) (fun kf => ?_)
 refine .gz 88 (.gz 88 (.gz 88 ?_))
 refine .gz 88 ?_
 refine .pk ?_
 refine .mv ?_
 refine .gz 94 (.gz 94 (.gz 94 ?_))
 refine .gz 94 (.gz 98 (.gz 98 ?_))
 refine .gz 94 ?_
 refine .pk ?_
 refine .nil (.aK rfl (.sr ?_))
 refine .an ?_
 refine .nil (.ret ?_)
 exact .rb rfl (df eB)
 refine .gw 88 (Y.qn dY rfl rfl) (.gw 88 (Y.qx bw rfl rfl rfl rfl) (.gw 88 (Y.zd rfl rfl) ?_))
 refine .gw 88 (Y.zg rfl rfl) ?_
 refine .pk ?_
 refine .mv ?_
 refine .aw (d := 94) rfl (fun lu => ?_) (fun lu => ?_)
 refine .gz 94 (.gz 94 (.gz 94 ?_))
 refine .gz 94 (.gz 98 (.gz 98 ?_))
 refine .gz 94 ?_
 refine .pk ?_
 refine .nil (.aK rfl (.sr ?_))
 refine .an ?_
 refine .nil (.ret ?_)
 exact .rb rfl (df eB)
 refine .gw 94 (Y.qn dQ rfl rfl) (.gw 94 (Y.qx gb rfl rfl rfl rfl) (.gw 94 (Y.zg rfl rfl) ?_))
 refine .gw 94 (Y.zd rfl rfl) ?_
 refine .aw (d := 98) rfl (fun kg => ?_) (fun kg => ?_)
 refine .gw 98 (Y.zd rfl rfl) (.gw 98 (Y.zi rfl) (.gw 94 (Y.zj rfl rfl rfl) ?_))
 refine .pk ?_
 refine .nil (.aK rfl (.sr ?_))
 refine .an ?_
 refine .nil (.ret ?_)
 exact .rb rfl (df eB)
 refine .gz 98 (.gz 98 (.gw 94 (Y.zj rfl rfl rfl) ?_))
 refine .pk ?_
 refine .nil (.cT rfl (.skip ?_))
 refine .seq (.sr ?_)
 refine .mv ?_
 refine .vl (Y.qz rfl rfl) (.nil ?_)
 refine .a9 rfl (fun kh => ?_) (fun kh => ?_)
 refine .sr ?_
 refine .fa cE ?_
 refine .ld bw ?_
 refine .vl (Y.qk rfl rfl) ?_
 refine .an ?_
 refine .nil (.ret ?_)
 exact .rb rfl (dd eB)
 refine .skip (.sr ?_)
 refine .fa cE ?_
 refine .ld bw ?_
 refine .vl (Y.qo rfl rfl) ?_
 refine .mv ?_
 refine .aw (d := 111) rfl (fun tf => ?_) (fun tf => ?_)
 refine .gw 111 (Y.qn cE rfl rfl) (.gw 111 (Y.qx bw rfl rfl rfl rfl) (.gw 111 (Y.zd rfl rfl) ?_))
 refine .gw 111 (Y.qz rfl rfl) ?_
 refine .pk ?_
 refine .mv ?_
 refine .aw (d := 117) rfl (fun kG => ?_) (fun kG => ?_)
 refine .gw 117 (Y.qn iM rfl rfl) (.gw 117 (Y.qx bw rfl rfl rfl rfl) (.gw 117 (Y.zg rfl rfl) ?_))
 refine .gw 117 (Y.zd rfl rfl) ?_
 refine .aw (d := 121) rfl (fun tg => ?_) (fun tg => ?_)
 refine .gz 121 (.gz 121 (.gz 121 ?_))
 refine .gz 121 (.gz 121 (.gz 121 ?_))
 refine .gz 121 (.gz 121 (.gw 117 (Y.zj rfl rfl rfl) ?_))
 refine .pk ?_
 refine .an ?_
 refine .nil (.ret ?_)
 exact .rb rfl (dt eB)
 refine .gw 121 (Y.qn g5 rfl rfl) (.gw 121 (Y.qx nt rfl rfl rfl rfl) (.gw 121 (Y.qn cE rfl rfl) ?_))
 refine .gw 121 (Y.qx bw rfl rfl rfl rfl) (.gw 121 (Y.qq (m := (c.mem).toNat) lK rfl rfl om (ao (d := default) om)) ?_)
 refine .gw 121 (Y.qn iB rfl rfl) (.gw 121 (Y.qx wy rfl rfl rfl rfl) (.gw 121 (Y.zi rfl) ?_))
 refine .gw 117 (Y.zj rfl rfl rfl) ?_
 refine .pk ?_
 refine .an ?_
 refine .nil (.ret ?_)
 exact .rb rfl (db eB)
 refine .gz 117 (.gz 117 (.gz 117 ?_))
 refine .gz 117 (.gz 121 (.gz 121 ?_))
 refine .gz 121 (.gz 121 (.gz 121 ?_))
 refine .gz 121 (.gz 121 (.gz 121 ?_))
 refine .gz 117 ?_
 refine .pk ?_
 refine .an ?_
 refine .nil (.ret ?_)
 exact .rb rfl (df eB)
 refine .gz 111 (.gz 111 (.gz 111 ?_))
 refine .gz 111 ?_
 refine .pk ?_
 refine .mv ?_
 refine .gz 117 (.gz 117 (.gz 117 ?_))
 refine .gz 117 (.gz 121 (.gz 121 ?_))
 refine .gz 121 (.gz 121 (.gz 121 ?_))
 refine .gz 121 (.gz 121 (.gz 121 ?_))
 refine .gz 117 ?_
 refine .pk ?_
 refine .an ?_
 refine .nil (.ret ?_)
 exact .rb rfl (df eB)
 refine .sr (.vl (Y.qk rfl rfl) ?_)
 refine .an ?_
 refine .nil ?_
 refine .a9 rfl (fun vx => ?_) (fun vx => ?_)
 refine .sr ?_
 refine .an ?_
 refine .nil (.sr ?_)
 refine .fa dQ ?_
 refine .ld gb ?_
 refine .fa oh ?_
 refine .ld cQ ?_
 refine .vl (Y.qu (n := n.ins.length) az rfl gx) (.vl (Y.qj Ej Bx rfl (by first | rfl | exact IntWalk.u64_in _ om)) ?_)
 refine .vl (Y.qo rfl rfl) (.nil ?_)
 refine .a9 rfl (fun Fs => ?_) (fun Fs => ?_)
 refine .sr ?_
 refine .an ?_
 refine .nil (.ret ?_)
 exact .rb rfl (df eB)
 refine .skip ?_
 refine .nU (⟨[(2, .ptr 102 0 0 0), (3, .ptr 103 0 0 0), (8, vi (-1))], [(102, .cells (ab.row n)), (103, .cells (Cell.row c))]⟩) (((¬ ((c.args.length : Int) ≠ 0)) ∧ (¬ (c.op ≠ 0)) ∧ ((c.num : Int) ≠ 0)) ∨ ((¬ ((c.args.length : Int) ≠ 0)) ∧ (¬ (c.op ≠ 0)) ∧ (¬ ((c.num : Int) ≠ 0)))) ?_ (fun Ci => ?_)
 refine .sr ?_
 refine .fa dZ ?_
 refine .ld cQ ?_
 refine .vl (Y.qu (n := c.args.length) az rfl gx) ?_
 refine .mv ?_
 refine .vl (Y.zg rfl rfl) ?_
 refine .mv ?_
 refine .aw (d := 88) rfl (fun kf => ?_) (fun kf => ?_)
 refine .gz 88 (.gz 88 (.gz 88 ?_))
 refine .gz 88 ?_
 refine .pk ?_
 refine .mv ?_
 refine .gz 94 (.gz 94 (.gz 94 ?_))
 refine .gz 94 (.gz 98 (.gz 98 ?_))
 refine .gz 94 ?_
 refine .pk ?_
 refine .nil (.aK rfl (.sr ?_))
 refine .an ?_
 refine .nil (.ret ?_)
 exact .rb rfl (df eB)
 refine .gw 88 (Y.qn dY rfl rfl) (.gw 88 (Y.qx bw rfl rfl rfl rfl) (.gw 88 (Y.zd rfl rfl) ?_))
 refine .gw 88 (Y.zg rfl rfl) ?_
 refine .pk ?_
 refine .mv ?_
 refine .aw (d := 94) rfl (fun lu => ?_) (fun lu => ?_)
 refine .gz 94 (.gz 94 (.gz 94 ?_))
 refine .gz 94 (.gz 98 (.gz 98 ?_))
 refine .gz 94 ?_
 refine .pk ?_
 refine .nil (.aK rfl (.sr ?_))
 refine .an ?_
 refine .nil (.ret ?_)
 exact .rb rfl (df eB)
 refine .gw 94 (Y.qn dQ rfl rfl) (.gw 94 (Y.qx gb rfl rfl rfl rfl) (.gw 94 (Y.zg rfl rfl) ?_))
 refine .gw 94 (Y.zd rfl rfl) ?_
 refine .aw (d := 98) rfl (fun kg => ?_) (fun kg => ?_)
 refine .gw 98 (Y.zd rfl rfl) (.gw 98 (Y.zi rfl) (.gw 94 (Y.zj rfl rfl rfl) ?_))
 refine .pk ?_
 refine .nil (.cT rfl (.skip ?_))
 exact ⟨.inl ⟨kf, lu, kg⟩, Le.mk (.c2 (.c .nil)) (.c (.c .nil))⟩
 refine .gz 98 (.gz 98 (.gw 94 (Y.zj rfl rfl rfl) ?_))
 refine .pk ?_
 refine .nil (.cT rfl (.skip ?_))
 exact ⟨.inr (⟨kf, lu, kg⟩), Le.mk (.c2 (.c .nil)) (.c (.c .nil))⟩
 refine .seq (.sr ?_)
 refine .mv ?_
 refine .vl (Y.qz rfl rfl) (.nil (.aK rfl ?_))
 refine .sr ?_
 refine .fa cE ?_
 refine .ld bw ?_
 refine .vl (Y.qk rfl rfl) ?_
 refine .an ?_
 refine .nil (.ret ?_)
 exact .rb rfl (dd eB)
 refine .seq (.sr (.vl (Y.qk rfl rfl) ?_))
 refine .an ?_
 refine .nil ?_
 refine .aZ rfl (fun Ft => ?_) (fun Ft => ?_)
 refine .skip (.aK rfl (.region ?_))
 refine .fa g5 ?_
 refine .ld nt ?_
 refine .vl (Y.qu (n := n.streams.length) lK rfl gx) ?_
 refine .an ?_
 refine .nil (.seq (.sr ?_))
 refine .fa dZ ?_
 refine .ld cQ ?_
 refine .vl (Y.qu (n := c.args.length) az rfl gx) ?_
 refine .mv ?_
 refine .vl (Y.zg rfl rfl) ?_
 refine .mv ?_
 refine .aw (d := 88) rfl (fun kf => ?_) (fun kf => ?_)
 refine .gz 88 (.gz 88 (.gz 88 ?_))
 refine .gz 88 ?_
 refine .pk ?_
 refine .mv ?_
 refine .gz 94 (.gz 94 (.gz 94 ?_))
 refine .gz 94 (.gz 98 (.gz 98 ?_))
 refine .gz 94 ?_
 refine .pk ?_
 refine .nil (.aK rfl (.sr ?_))
 refine .an ?_
 refine .nil (.ret ?_)
 exact .rb rfl (df eB)
 refine .gw 88 (Y.qn dY rfl rfl) (.gw 88 (Y.qx bw rfl rfl rfl rfl) (.gw 88 (Y.zd rfl rfl) ?_))
 refine .gw 88 (Y.zg rfl rfl) ?_
 refine .pk ?_
 refine .mv ?_
 refine .aw (d := 94) rfl (fun lu => ?_) (fun lu => ?_)
 refine .gz 94 (.gz 94 (.gz 94 ?_))
 refine .gz 94 (.gz 98 (.gz 98 ?_))
 refine .gz 94 ?_
 refine .pk ?_
 refine .nil (.aK rfl (.sr ?_))
 refine .an ?_
 refine .nil (.ret ?_)
 exact .rb rfl (df eB)
 refine .gw 94 (Y.qn dQ rfl rfl) (.gw 94 (Y.qx gb rfl rfl rfl rfl) (.gw 94 (Y.zg rfl rfl) ?_))
 refine .gw 94 (Y.zd rfl rfl) ?_
 refine .aw (d := 98) rfl (fun kg => ?_) (fun kg => ?_)
 refine .gw 98 (Y.zd rfl rfl) (.gw 98 (Y.zi rfl) (.gw 94 (Y.zj rfl rfl rfl) ?_))
 refine .pk ?_
 refine .nil (.aK rfl (.sr ?_))
 refine .an ?_
 refine .nil (.ret ?_)
 exact .rb rfl (df eB)
 refine .gz 98 (.gz 98 (.gw 94 (Y.zj rfl rfl rfl) ?_))
 refine .pk ?_
 refine .nil (.cT rfl (.skip ?_))
 refine .seq (.sr ?_)
 refine .mv ?_
 refine .vl (Y.qz rfl rfl) (.nil ?_)
 refine .a9 rfl (fun kh => ?_) (fun kh => ?_)
 refine .sr ?_
 refine .fa cE ?_
 refine .ld bw ?_
 refine .vl (Y.qk rfl rfl) ?_
 refine .an ?_
 refine .nil (.ret ?_)
 exact .rb rfl (dd eB)
 refine .skip (.sr ?_)
 refine .fa cE ?_
 refine .ld bw ?_
 refine .vl (Y.qo rfl rfl) ?_
 refine .mv ?_
 refine .aw (d := 111) rfl (fun tf => ?_) (fun tf => ?_)
 refine .gw 111 (Y.qn cE rfl rfl) (.gw 111 (Y.qx bw rfl rfl rfl rfl) (.gw 111 (Y.zd rfl rfl) ?_))
 refine .gw 111 (Y.qz rfl rfl) ?_
 refine .pk ?_
 refine .mv ?_
 refine .aw (d := 117) rfl (fun kG => ?_) (fun kG => ?_)
 refine .gw 117 (Y.qn iM rfl rfl) (.gw 117 (Y.qx bw rfl rfl rfl rfl) (.gw 117 (Y.zg rfl rfl) ?_))
 refine .gw 117 (Y.zd rfl rfl) ?_
 refine .aw (d := 121) rfl (fun tg => ?_) (fun tg => ?_)
 refine .gz 121 (.gz 121 (.gz 121 ?_))
 refine .gz 121 (.gz 121 (.gz 121 ?_))
 refine .gz 121 (.gz 121 (.gw 117 (Y.zj rfl rfl rfl) ?_))
 refine .pk ?_
 refine .an ?_
 refine .nil (.ret ?_)
 exact .rb rfl (dt eB)
 refine .gw 121 (Y.qn g5 rfl rfl) (.gw 121 (Y.qx nt rfl rfl rfl rfl) (.gw 121 (Y.qn cE rfl rfl) ?_))
 refine .gw 121 (Y.qx bw rfl rfl rfl rfl) (.gw 121 (Y.qq (m := (c.mem).toNat) lK rfl rfl om (ao (d := default) om)) ?_)
 refine .gw 121 (Y.qn iB rfl rfl) (.gw 121 (Y.qx wy rfl rfl rfl rfl) (.gw 121 (Y.zi rfl) ?_))
 refine .gw 117 (Y.zj rfl rfl rfl) ?_
 refine .pk ?_
 refine .an ?_
 refine .nil (.ret ?_)
 exact .rb rfl (db eB)
 refine .gz 117 (.gz 117 (.gz 117 ?_))
 refine .gz 117 (.gz 121 (.gz 121 ?_))
 refine .gz 121 (.gz 121 (.gz 121 ?_))
 refine .gz 121 (.gz 121 (.gz 121 ?_))
 refine .gz 117 ?_
 refine .pk ?_
 refine .an ?_
 refine .nil (.ret ?_)
 exact .rb rfl (df eB)
 refine .gz 111 (.gz 111 (.gz 111 ?_))
 refine .gz 111 ?_
 refine .pk ?_
 refine .mv ?_
 refine .gz 117 (.gz 117 (.gz 117 ?_))
 refine .gz 117 (.gz 121 (.gz 121 ?_))
 refine .gz 121 (.gz 121 (.gz 121 ?_))
 refine .gz 121 (.gz 121 (.gz 121 ?_))
 refine .gz 117 ?_
 refine .pk ?_
 refine .an ?_
 refine .nil (.ret ?_)
 exact .rb rfl (df eB)
 refine .region (.vl (Y.qk rfl rfl) ?_)
 refine .an ?_
 refine .nil ?_
 refine .aZ rfl (fun Ft => ?_) (fun Ft => ?_)
 refine .region ?_
 refine .fa g5 ?_
 refine .ld nt ?_
 refine .vl (Y.qu (n := n.streams.length) lK rfl gx) ?_
 refine .an ?_
 refine .nil (.seq (.sr ?_))
 refine .fa dZ ?_
 refine .ld cQ ?_
 refine .vl (Y.qu (n := c.args.length) az rfl gx) ?_
 refine .mv ?_
 refine .vl (Y.zg rfl rfl) ?_
 refine .mv ?_
 refine .aw (d := 88) rfl (fun kf => ?_) (fun kf => ?_)
 refine .gz 88 (.gz 88 (.gz 88 ?_))
 refine .gz 88 ?_
 refine .pk ?_
 refine .mv ?_
 refine .gz 94 (.gz 94 (.gz 94 ?_))
 refine .gz 94 (.gz 98 (.gz 98 ?_))
 refine .gz 94 ?_
 refine .pk ?_
 refine .nil (.aK rfl (.sr ?_))
 refine .an ?_
 refine .nil (.ret ?_)
 exact .rb rfl (df eB)
 refine .gw 88 (Y.qn dY rfl rfl) (.gw 88 (Y.qx bw rfl rfl rfl rfl) (.gw 88 (Y.zd rfl rfl) ?_))
 refine .gw 88 (Y.zg rfl rfl) ?_
 refine .pk ?_
 refine .mv ?_
 refine .aw (d := 94) rfl (fun lu => ?_) (fun lu => ?_)
 refine .gz 94 (.gz 94 (.gz 94 ?_))
 refine .gz 94 (.gz 98 (.gz 98 ?_))
 refine .gz 94 ?_
 refine .pk ?_
 refine .nil (.aK rfl (.sr ?_))
 refine .an ?_
 refine .nil (.ret ?_)
 exact .rb rfl (df eB)
 refine .gw 94 (Y.qn dQ rfl rfl) (.gw 94 (Y.qx gb rfl rfl rfl rfl) (.gw 94 (Y.zg rfl rfl) ?_))
 refine .gw 94 (Y.zd rfl rfl) ?_
 refine .aw (d := 98) rfl (fun kg => ?_) (fun kg => ?_)
 refine .gw 98 (Y.zd rfl rfl) (.gw 98 (Y.zi rfl) (.gw 94 (Y.zj rfl rfl rfl) ?_))
 refine .pk ?_
 refine .nil (.aK rfl (.sr ?_))
 refine .an ?_
 refine .nil (.ret ?_)
 exact .rb rfl (df eB)
 refine .gz 98 (.gz 98 (.gw 94 (Y.zj rfl rfl rfl) ?_))
 refine .pk ?_
 refine .nil (.cT rfl (.skip ?_))
 refine .seq (.sr ?_)
 refine .mv ?_
 refine .vl (Y.qz rfl rfl) (.nil ?_)
 refine .a9 rfl (fun kh => ?_) (fun kh => ?_)
 refine .sr ?_
 refine .fa cE ?_
 refine .ld bw ?_
 refine .vl (Y.qk rfl rfl) ?_
 refine .an ?_
 refine .nil (.ret ?_)
 exact .rb rfl (dd eB)
 refine .skip (.sr ?_)
 refine .fa cE ?_
 refine .ld bw ?_
 refine .vl (Y.qo rfl rfl) ?_
 refine .mv ?_
 refine .aw (d := 111) rfl (fun tf => ?_) (fun tf => ?_)
 refine .gw 111 (Y.qn cE rfl rfl) (.gw 111 (Y.qx bw rfl rfl rfl rfl) (.gw 111 (Y.zd rfl rfl) ?_))
 refine .gw 111 (Y.qz rfl rfl) ?_
 refine .pk ?_
 refine .mv ?_
 refine .aw (d := 117) rfl (fun kG => ?_) (fun kG => ?_)
 refine .gw 117 (Y.qn iM rfl rfl) (.gw 117 (Y.qx bw rfl rfl rfl rfl) (.gw 117 (Y.zg rfl rfl) ?_))
 refine .gw 117 (Y.zd rfl rfl) ?_
 refine .aw (d := 121) rfl (fun tg => ?_) (fun tg => ?_)
 refine .gz 121 (.gz 121 (.gz 121 ?_))
 refine .gz 121 (.gz 121 (.gz 121 ?_))
 refine .gz 121 (.gz 121 (.gw 117 (Y.zj rfl rfl rfl) ?_))
 refine .pk ?_
 refine .an ?_
 refine .nil (.ret ?_)
 exact .rb rfl (dt eB)
 refine .gw 121 (Y.qn g5 rfl rfl) (.gw 121 (Y.qx nt rfl rfl rfl rfl) (.gw 121 (Y.qn cE rfl rfl) ?_))
 refine .gw 121 (Y.qx bw rfl rfl rfl rfl) (.gw 121 (Y.qq (m := (c.mem).toNat) lK rfl rfl om (ao (d := default) om)) ?_)
 refine .gw 121 (Y.qn iB rfl rfl) (.gw 121 (Y.qx wy rfl rfl rfl rfl) (.gw 121 (Y.zi rfl) ?_))
 refine .gw 117 (Y.zj rfl rfl rfl) ?_
 refine .pk ?_
 refine .an ?_
 refine .nil (.ret ?_)
 exact .rb rfl (db eB)
 refine .gz 117 (.gz 117 (.gz 117 ?_))
 refine .gz 117 (.gz 121 (.gz 121 ?_))
 refine .gz 121 (.gz 121 (.gz 121 ?_))
 refine .gz 121 (.gz 121 (.gz 121 ?_))
 refine .gz 117 ?_
 refine .pk ?_
 refine .an ?_
 refine .nil (.ret ?_)
 exact .rb rfl (df eB)
 refine .gz 111 (.gz 111 (.gz 111 ?_))
 refine .gz 111 ?_
 refine .pk ?_
 refine .mv ?_
 refine .gz 117 (.gz 117 (.gz 117 ?_))
 refine .gz 117 (.gz 121 (.gz 121 ?_))
 refine .gz 121 (.gz 121 (.gz 121 ?_))
 refine .gz 121 (.gz 121 (.gz 121 ?_))
 refine .gz 117 ?_
 refine .pk ?_
 refine .an ?_
 refine .nil (.ret ?_)
 exact .rb rfl (df eB)
 refine .sr ?_
 refine .an ?_
 refine .nil (.ret ?_)
 exact .rb rfl (df (by (simp only [Shaped, Db, AI, ni, Dc, CZ, GI, Da, vx, Ft, Ft, Int.reduceEq, Bool.not_eq_true, false_and, true_and, and_true, and_false, or_false, false_or, ne_eq]) <;> (first | omega | grind)))
open Go Go.AW Go.Proofs
theorem lV {l : List Int} {p : Int → Bool} {g : Nat} {row : List X} (hl : l.length ≤ 17592186043904) (mX : aJ Try.prog g = true) (hg : ∀ z ∈ l, ak Try.prog g [vi z, .fp row 0] [] [] (fun r o => r = .v (.bool (p z)) ∧ o = [])) : ak Try.prog 185 [.fz 1 (l.map al), .fH (.func g) [] [.fp row 0]] [] [] (fun r o => r = (vi (q6 p l)) ∧ o = []) := by
 refine ak.of Try.func185 rfl rfl rfl (n := 19) ag (bE rfl) (.sr ?_)
 refine .an ?_
 refine .nil (.seq (.sr ?_))
 refine .mv ?_
 refine .vl (Y.qu (n := l.length) az rfl gx) ?_
 refine .mv ?_
 refine .nil (.block ?_)
 refine .j7 (fun (fA : Nat) => ⟨[(0, .fz 1 (l.map al)), (1, .fH (.func g) [] [.fp row 0]), (7, vi l.length), (8, vi fA)], []⟩) (fun fA => ((fA : Int) ≤ (l.length : Int)) ∧ (∀ j, j < fA → p (l.getD j 0) = false)) (fun fA => ((l.length : Int) - (fA : Int)).toNat) 0 (⟨om, fun j hj => by omega⟩) (Le.mk (.c2 (.c (.cons (aq rfl bj) .nil))) .nil) (fun fA vQ => ?_)
 obtain ⟨xS, h0⟩ := vQ
 refine .sr (.vl (Y.qz rfl rfl) (.nil ?_))
 refine .seq ?_
 refine .a9 rfl (fun c9 => ?_) (fun c9 => ?_)
 refine .skip (.seq (.block ?_))
 refine .sr ?_
 refine .mv ?_
 refine .an ?_
 refine .nil (.sr ?_)
 refine .mv ?_
 refine .mv ?_
 refine .mv ?_
 refine .vl (Y.qq (m := fA) az rfl rfl bj (ao (d := 0) om)) ?_
 refine .ld bw ?_
 refine .js rfl mX (hg _ (eD om)) rfl (.au rfl rfl (.au rfl rfl .nil)) ag rfl (.nil ?_)
 refine .cond rfl (fun rO => ?_) (fun rO => ?_)
 refine .sr ?_
 refine .mv ?_
 refine .an ?_
 refine .nil (.ret ?_)
 exact .ri rfl (ln h0 om rO)
 refine .skip (.region ?_)
 refine .vl (Y.qb rfl rfl aF) ?_
 refine .mv ?_
 refine .nil (⟨fA + 1, ⟨om, jZ h0 rO⟩, om, Le.mk (.c2 (.c (.cons (aq rfl bj) .nil))) .nil⟩)
 refine .exit (.sr ?_)
 refine .an ?_
 refine .nil (.ret ?_)
 exact .ri rfl (m9 (fun j hj => h0 j om))
theorem gh {l : List Int} {p : Int → Bool} {g : Nat} {row : List X} (hl : l.length ≤ 17592186043904) (mX : aJ Try.prog g = true) (hg : ∀ z ∈ l, ak Try.prog g [vi z, .fp row 0] [] [] (fun r o => r = .v (.bool (p z)) ∧ o = [])) : ak Try.prog 157 [.fz 1 (l.map al), .fH (.func g) [] [.fp row 0]] [] [] (fun r o => r = .v (.bool (l.any p)) ∧ o = []) := by
 refine ak.of Try.func157 rfl rfl rfl (n := 9) ag (bE rfl) (.sr ?_)
 refine .an ?_
 refine .nil (.sr ?_)
 refine .mv ?_
 refine .mv ?_
 refine .br Ex (lV (l := l) hl mX hg) rfl (.au rfl rfl (.au rfl rfl .nil)) ag rfl (.vl (Y.qo rfl rfl) ?_)
 refine .an ?_
 refine .nil (.ret ?_)
 exact .rb rfl (oz)
theorem lv {l : List Cell} {p : Cell → Bool} {g : Nat} {row : List X} (hl : l.length ≤ 17592186043904) (mX : aJ Try.prog g = true) (hg : ∀ z ∈ l, ak Try.prog g [.agg (Cell.row z), .fp row 0] [] [] (fun r o => r = .v (.bool (p z)) ∧ o = [])) : ak Try.prog 188 [.fz 6 (l.map Cell.row), .fH (.func g) [] [.fp row 0]] [] [] (fun r o => r = (vi (q6 p l)) ∧ o = []) := by
 refine ak.of Try.func188 rfl rfl rfl (n := 19) ag (bE rfl) (.sr ?_)
 refine .an ?_
 refine .nil (.seq (.sr ?_))
 refine .mv ?_
 refine .vl (Y.qu (n := l.length) iZ rfl gx) ?_
 refine .mv ?_
 refine .nil (.block ?_)
 refine .j7 (fun (fA : Nat) => ⟨[(0, .fz 6 (l.map Cell.row)), (1, .fH (.func g) [] [.fp row 0]), (7, vi l.length), (8, vi fA)], []⟩) (fun fA => ((fA : Int) ≤ (l.length : Int)) ∧ (∀ j, j < fA → p (l.getD j default) = false)) (fun fA => ((l.length : Int) - (fA : Int)).toNat) 0 (⟨om, fun j hj => by omega⟩) (Le.mk (.c2 (.c (.cons (aq rfl bj) .nil))) .nil) (fun fA vQ => ?_)
 obtain ⟨xS, h0⟩ := vQ
 refine .sr (.vl (Y.qz rfl rfl) (.nil ?_))
 refine .seq ?_
 refine .a9 rfl (fun c9 => ?_) (fun c9 => ?_)
 refine .skip (.seq (.block ?_))
 refine .sr ?_
 refine .mv ?_
 refine .an ?_
 refine .nil (.sr ?_)
 refine .mv ?_
 refine .mv ?_
 refine .mv ?_
 refine .vl (Y.qq (m := fA) iZ rfl rfl bj (ao (d := default) om)) ?_
 refine .vl (Y.qy pZ rfl rfl (bE rfl) rfl rfl) (.js rfl mX (hg _ (eD om)) rfl (.au rfl rfl (.au rfl rfl .nil)) ag rfl (.nil ?_))
 refine .cond rfl (fun rO => ?_) (fun rO => ?_)
 refine .sr ?_
 refine .mv ?_
 refine .an ?_
 refine .nil (.ret ?_)
 exact .ri rfl (ln h0 om rO)
 refine .skip (.region ?_)
 refine .vl (Y.qb rfl rfl aF) ?_
 refine .mv ?_
 refine .nil (⟨fA + 1, ⟨om, jZ h0 rO⟩, om, Le.mk (.c2 (.c (.cons (aq rfl bj) .nil))) .nil⟩)
 refine .exit (.sr ?_)
 refine .an ?_
 refine .nil (.ret ?_)
 exact .ri rfl (m9 (fun j hj => h0 j om))
theorem jG {l : List Cell} {p : Cell → Bool} {g : Nat} {row : List X} (hl : l.length ≤ 17592186043904) (mX : aJ Try.prog g = true) (hg : ∀ z ∈ l, ak Try.prog g [.agg (Cell.row z), .fp row 0] [] [] (fun r o => r = .v (.bool (p z)) ∧ o = [])) : ak Try.prog 162 [.fz 6 (l.map Cell.row), .fH (.func g) [] [.fp row 0]] [] [] (fun r o => r = .v (.bool (l.any p)) ∧ o = []) := by
 refine ak.of Try.func162 rfl rfl rfl (n := 9) ag (bE rfl) (.sr ?_)
 refine .an ?_
 refine .nil (.sr ?_)
 refine .mv ?_
 refine .mv ?_
 refine .br Ez (lv (l := l) hl mX hg) rfl (.au rfl rfl (.au rfl rfl .nil)) ag rfl (.vl (Y.qo rfl rfl) ?_)
 refine .an ?_
 refine .nil (.ret ?_)
 exact .rb rfl (oz)
theorem oE {l : List Bool} {b : Bool} (hl : l.length ≤ 140737488351232) : ak Try.prog 187 [.fz 1 (l.map jE), .v (.bool b)] [] [] (fun r o => r = (vi (q6 (fun x => b == x) l)) ∧ o = []) := by
 refine ak.of Try.func187 rfl rfl rfl (n := 19) ag (bE rfl) (.sr ?_)
 refine .an ?_
 refine .nil (.seq (.sr ?_))
 refine .mv ?_
 refine .vl (Y.qu (n := l.length) r4 rfl gx) ?_
 refine .mv ?_
 refine .nil (.block ?_)
 refine .j7 (fun (fA : Nat) => ⟨[(0, .fz 1 (l.map jE)), (1, .v (.bool b)), (7, vi l.length), (8, vi fA)], []⟩) (fun fA => ((fA : Int) ≤ (l.length : Int)) ∧ (∀ j, j < fA → (fun x => b == x) (l.getD j false) = false)) (fun fA => ((l.length : Int) - (fA : Int)).toNat) 0 (⟨om, fun j hj => by omega⟩) (Le.mk (.c2 (.c (.cons (aq rfl bj) .nil))) .nil) (fun fA vQ => ?_)
 obtain ⟨xS, h0⟩ := vQ
 refine .sr (.vl (Y.qz rfl rfl) (.nil ?_))
 refine .seq ?_
 refine .a9 rfl (fun c9 => ?_) (fun c9 => ?_)
 refine .skip (.seq (.block ?_))
 refine .sr ?_
 refine .mv ?_
 refine .an ?_
 refine .nil (.sr ?_)
 refine .mv ?_
 refine .mv ?_
 refine .mv ?_
 refine .vl (Y.qq (m := fA) r4 rfl rfl bj (ao (d := false) om)) ?_
 refine .ld wy ?_
 refine .vl (Y.ql ME rfl rfl) (.nil ?_)
 refine .cond rfl (fun rO => ?_) (fun rO => ?_)
 refine .sr ?_
 refine .mv ?_
 refine .an ?_
 refine .nil (.ret ?_)
 exact .ri rfl (ln (d := false) h0 om rO)
 refine .skip (.region ?_)
 refine .vl (Y.qb rfl rfl aF) ?_
 refine .mv ?_
 refine .nil (⟨fA + 1, ⟨om, jZ h0 rO⟩, om, Le.mk (.c2 (.c (.cons (aq rfl bj) .nil))) .nil⟩)
 refine .exit (.sr ?_)
 refine .an ?_
 refine .nil (.ret ?_)
 exact .ri rfl (m9 (d := false) (fun j hj => h0 j om))
theorem lW {l : List Bool} {b : Bool} (hl : l.length ≤ 140737488351232) : ak Try.prog 161 [.fz 1 (l.map jE), .v (.bool b)] [] [] (fun r o => r = .v (.bool (l.any (fun x => b == x))) ∧ o = []) := by
 refine ak.of Try.func161 rfl rfl rfl (n := 9) ag (bE rfl) (.sr ?_)
 refine .an ?_
 refine .nil (.sr ?_)
 refine .mv ?_
 refine .mv ?_
 refine .br Ey (oE (l := l) (b := b) (om)) rfl (.au rfl rfl (.au rfl rfl .nil)) ag rfl (.vl (Y.qo rfl rfl) ?_)
 refine .an ?_
 refine .nil (.ret ?_)
 exact .rb rfl (oz)
open Go Go.AW Go.Proofs
theorem uW {n : Nat} (hn : n ≤ 35184372088832) : ak Try.prog 184 [vn, vi n] [] [] (fun r o => r = .cX 1 (([] : List Int).map al) ∧ o = []) := by
 refine ak.of Try.func184 rfl rfl rfl (n := 27) ag (bE rfl) (.sr ?_)
 refine .an ?_
 refine .nil (.seq (.sr ?_))
 refine .mv ?_
 refine .vl (Y.qz rfl rfl) (.nil ?_)
 refine .a9 rfl (fun c6 => ?_) (fun c6 => ?_)
 exfalso; omega
 refine .skip (.seq (.sr ?_))
 refine .mv ?_
 refine .mv ?_
 refine .vl (Y.qh az rfl) ?_
 refine .mv ?_
 refine .vl (Y.qu (n := 0) az rfl rfl) (.vl (Y.zv rfl rfl aF) (.vl (Y.zv rfl rfl aF) ?_))
 refine .an ?_
 refine .nil (.sr ?_)
 refine .mv ?_
 refine .vl (Y.qp rfl rfl) (.nil ?_)
 refine .a9 rfl (fun rO => ?_) (fun rO => ?_)
 refine .region ?_
 refine .mv ?_
 refine .mv ?_
 refine .vl (Y.qh az rfl) (.vl (Y.zs az rfl (.none _) (.some rfl)) ?_)
 refine .mv ?_
 refine .sN (n := (((n : Int) - (0 - 0)).toNat)) az fX rfl rfl Ej rfl (by first | rfl | (rw [show ((n : Int) - (0 - 0) : Int) = ((((n : Int) - (0 - 0)).toNat : Nat) : Int) by omega]; rfl)) om ag om om ag ?_
 refine .mv ?_
 refine .vl (Y.qu (n := 0) az rfl rfl) (.sh (Sh.fL (d := 22) (n := (List.replicate (((n : Int) - (0 - 0)).toNat) 0).length) 122 ((List.replicate (((n : Int) - (0 - 0)).toNat) 0).map al) rfl jV (bf rfl) ag) ?_)
 refine .vl (Y.zt (l := 0) (h := 0) az rfl (.none _) (.some rfl) om om) ?_
 refine .an ?_
 refine .nil (.sr ?_)
 refine .mv ?_
 refine .an ?_
 refine .sh (Sh.Al (d := 4) (o := 122) (([] : List Int).map al) rfl rfl (by simp) (by simp) ag) (.sh (Sh.cV (d := 4) (o := 122) rfl rfl (bf aF) ag) ?_)
 refine .nil (.ret ?_)
 exact ⟨_, _, rfl, rfl, (xW (fun (z0 : List Int) => X.cX 1 (z0.map al)) (rfl : ([] : List Int) = ([] : List Int)) : X.cX 1 (([] : List Int).map al) = X.cX 1 (([] : List Int).map al)), rfl⟩
 refine .skip (.sr ?_)
 refine .mv ?_
 refine .an ?_
 refine .nil (.sh (Sh.pb (d := 4) 1 rfl) (.ret ?_))
 exact ⟨_, _, rfl, rfl, (xW (fun (z0 : List Int) => X.cX 1 (z0.map al)) (rfl : ([] : List Int) = ([] : List Int)) : X.cX 1 (([] : List Int).map al) = X.cX 1 (([] : List Int).map al)), rfl⟩
theorem rP {ls : List (List Int)} (h1 : ls.length ≤ 1000) (hn : ls.flatten.length ≤ 17592186044416) : ak Try.prog 153 [.fz 1 (ls.map gy)] [] [] (fun r o => r = .cX 1 (ls.flatten.map al) ∧ o = []) := by
 refine ak.of Try.func153 rfl rfl rfl (n := 36) ag (bE rfl) (.sr ?_)
 refine .an ?_
 refine .nil (.sr ?_)
 refine .an ?_
 refine .nil (.seq (.sr ?_))
 refine .mv ?_
 refine .vl (Y.qu (n := ls.length) gX rfl gx) ?_
 refine .mv ?_
 refine .nil (.block ?_)
 refine .kJ (fun (jy : Nat) (dk : Nat) => ⟨[(0, .fz 1 (ls.map gy)), (3, vi jy), (9, .fz 1 (ls.map gy)), (10, vi ls.length), (11, vi dk)], []⟩) (fun jy dk => ((dk : Int) ≤ (ls.length : Int)) ∧ (jy = (ls.take dk).flatten.length)) (fun jy dk => ((ls.length : Int) - (dk : Int)).toNat) 0 0 (⟨om, rfl⟩) (Le.mk (.c (.cons (aq rfl bj) (.c2 (.cons (aq rfl bj) .nil)))) .nil) (fun jy dk qH => ?_)
 obtain ⟨Cj, hs⟩ := qH
 refine .sr (.vl (Y.qz rfl rfl) (.nil ?_))
 refine .seq ?_
 refine .a9 rfl (fun uk => ?_) (fun uk => ?_)
 refine .skip (.seq (.block ?_))
 refine .sr ?_
 have hf := congrArg List.length (pC (ls := ls) (i := dk) om)
 rw [List.length_append] at hf
 have Na := lM ls (dk + 1)
 have KV := lM ls dk
 refine .vl (Y.qq (m := dk) gX rfl rfl bj (ao (d := []) om)) ?_
 refine .ld cQ ?_
 refine .an ?_
 refine .nil (.sr ?_)
 refine .mv ?_
 refine .mv ?_
 refine .vl (Y.qu (n := (ls.getD dk []).length) az rfl gx) (.vl (Y.qb rfl rfl aF) ?_)
 refine .an ?_
 refine .nil (.sr ?_)
 refine .mv ?_
 refine .vl (Y.qz rfl rfl) (.nil ?_)
 refine .a9 rfl (fun Fu => ?_) (fun Fu => ?_)
 exfalso; omega
 refine .skip (.region ?_)
 refine .vl (Y.qb rfl rfl aF) ?_
 refine .mv ?_
 refine .nil (⟨jy + ((ls.getD dk []).length), dk + 1, ⟨om, om⟩, om, Le.mk (.c (.cons (aq rfl bj) (.c2 (.cons (aq rfl bj) .nil)))) .nil⟩)
 refine .exit (.sr ?_)
 have KV := lM ls dk
 refine .mv ?_
 refine .br Ew (uW (n := jy) (om)) rfl (.au rfl rfl (.au rfl rfl .nil)) ag rfl ?_
 refine .bx rfl ag (.sh (Sh.fL (d := 6) (n := ([] : List Int).length) 106 (([] : List Int).map al) rfl jV (bf rfl) ag) (.nil ?_))
 refine .seq (.sr ?_)
 refine .mv ?_
 refine .vl (Y.qu (n := ls.length) gX rfl gx) ?_
 refine .mv ?_
 refine .nil (.block ?_)
 refine .kJ (fun (eZ : Nat) (cw : List Int) => ⟨[(6, .aR 106 1 0 cw.length), (25, .fz 1 (ls.map gy)), (26, vi ls.length), (27, vi eZ)], [(106, .rows 1 (cw.map al))]⟩) (fun eZ cw => ((eZ : Int) ≤ (ls.length : Int)) ∧ (cw = (ls.take eZ).flatten)) (fun eZ cw => ((ls.length : Int) - (eZ : Int)).toNat) 0 ([] : List Int) (⟨om, rfl⟩) (Le.mk (.cons (aI rfl om) (.c2 (.cons (aq rfl bj) .nil))) (.c .nil)) (fun eZ cw Ck => ?_)
 obtain ⟨Nb, ht⟩ := Ck
 refine .sr (.vl (Y.qz rfl rfl) (.nil ?_))
 refine .seq ?_
 refine .a9 rfl (fun qG => ?_) (fun qG => ?_)
 refine .skip (.seq (.block ?_))
 refine .sr ?_
 have hf := pC (ls := ls) (i := eZ) om
 have Nc := congrArg List.length hf
 rw [List.length_append] at Nc
 have Na := lM ls (eZ + 1)
 have KV := lM ls eZ
 have OG := congrArg List.length ht
 refine .vl (Y.qq (m := eZ) gX rfl rfl bj (ao (d := []) om)) ?_
 refine .ld cQ ?_
 refine .an ?_
 refine .nil (.region ?_)
 refine .mv ?_
 refine .mv ?_
 refine .nT ((cw ++ (ls.getD eZ [])).map al) (cw ++ (ls.getD eZ [])).length az fX rfl rfl rfl rfl (bU aF) (bB aF) (da aF) aF aF ag ag ?_
 refine .an ?_
 refine .nil (.region ?_)
 refine .vl (Y.qb rfl rfl aF) ?_
 refine .mv ?_
 refine .nil (⟨eZ + 1, cw ++ (ls.getD eZ []), ⟨om, by rw [ht]; exact hf.symm⟩, om, Le.mk (.cons (aI rfl om) (.c2 (.cons (aq rfl bj) .nil))) (.c .nil)⟩)
 refine .exit (.sr ?_)
 refine .mv ?_
 refine .an ?_
 refine .sh (Sh.cV (d := 2) (o := 106) rfl rfl (bf om) ag) ?_
 refine .nil (.ret ?_)
 exact ⟨_, _, rfl, rfl, (xW (fun (z0 : List Int) => X.cX 1 (z0.map al)) (by rw [ht, List.take_of_length_le om] : cw = ls.flatten) : X.cX 1 (cw.map al) = X.cX 1 (ls.flatten.map al)), rfl⟩
open Go Go.AW Go.Proofs
theorem ec {i : Int} {n : ab} : ak Try.prog 156 [vi i, .fp (ab.row n) 0] [] [] (fun r o => r = .v (.bool (decide (In i n.ai.length))) ∧ o = []) := by
 refine ak.of Try.func156 rfl rfl rfl (n := 13) ag (bE rfl) (.sr ?_)
 refine .an ?_
 refine .nil (.sr ?_)
 refine .mv ?_
 refine .vl (Y.qo rfl rfl) ?_
 refine .mv ?_
 refine .aw (d := 6) rfl (fun c6 => ?_) (fun c6 => ?_)
 refine .gw 6 (Y.zd rfl rfl) (.gw 6 (Y.qn eY rfl rfl) (.gw 6 (Y.qx cQ rfl rfl rfl rfl) ?_))
 refine .gw 6 (Y.qu (n := n.ai.length) az rfl gx) (.gw 6 (Y.qz rfl rfl) ?_)
 refine .pk ?_
 refine .an ?_
 refine .nil (.ret ?_)
 exact .rb rfl (dd (by (simp only [In]) <;> (first | omega | grind)))
 refine .gz 6 (.gz 6 (.gz 6 ?_))
 refine .gz 6 (.gz 6 ?_)
 refine .pk ?_
 refine .an ?_
 refine .nil (.ret ?_)
 exact .rb rfl (df (by (simp only [In]) <;> (first | omega | grind)))
theorem qI {i : Int} {n : ab} : ak Try.prog 158 [vi i, .fp ([.fH (.func 156) [] [.fp (ab.row n) 0]]) 0] [] [] (fun r o => r = .v (.bool (!decide (In i n.ai.length))) ∧ o = []) := by
 refine ak.of Try.func158 rfl rfl rfl (n := 8) ag (bE rfl) (.sr ?_)
 refine .an ?_
 refine .nil (.sr ?_)
 refine .ld sT ?_
 refine .mv ?_
 refine .js rfl ot (ec (i := i)) rfl (.au rfl rfl (.au rfl rfl .nil)) ag rfl (.vl (Y.zi rfl) ?_)
 refine .an ?_
 refine .nil (.ret ?_)
 exact .rb rfl (rfl)
theorem qJ {i : Int} {n : ab} : ak Try.prog 159 [vi i, .fp ([.fH (.func 156) [] [.fp (ab.row n) 0]]) 0] [] [] (fun r o => r = .v (.bool (!decide (In i n.ai.length))) ∧ o = []) := by
 refine ak.of Try.func159 rfl rfl rfl (n := 8) ag (bE rfl) (.sr ?_)
 refine .an ?_
 refine .nil (.sr ?_)
 refine .ld sT ?_
 refine .mv ?_
 refine .js rfl ot (ec (i := i)) rfl (.au rfl rfl (.au rfl rfl .nil)) ag rfl (.vl (Y.zi rfl) ?_)
 refine .an ?_
 refine .nil (.ret ?_)
 exact .rb rfl (rfl)
theorem rQ {n : ab} (hs : n.Small) (GJ : n.ai.length + n.ins.length ≤ 17592186044416) : ak Try.prog 108 [.agg (ab.row n)] [] [] (fun r o => r = .v (.bool (decide (bn n))) ∧ o = []) := by
 refine ak.of Try.func108 rfl rfl rfl (n := 234) ag (bE rfl) ?_
 have KW := hs.name; have Nd := hs.ai; have Nf := hs.cells; have GG := hs.ins; have GH := hs.bh; have I2 := hs.streams; have Ng := hs.bQ; have OH := hs.data; have OI := hs.ee
 have Fv : ([n.ai, n.ins] : List (List Int)).flatten = n.ai ++ n.ins := by simp
 have pO : (([n.ai, n.ins] : List (List Int)).flatten).length = n.ai.length + n.ins.length := by simp
 refine .sr (.box 101 rfl rfl rfl rfl rfl ag ?_)
 refine .an ?_
 refine .nil (.seq (.sr ?_))
 refine .fa Bw ?_
 refine .ld HX ?_
 refine .br wo (lr (s := n.name) (by first | assumption | omega)) rfl (.au rfl rfl .nil) ag rfl (.vl (Y.zi rfl) ?_)
 refine .mv ?_
 refine .lf (d := 17) rfl (fun GK => ?_) (fun GK => ?_)
 refine .gz 17 (.gz 17 (.gz 17 ?_))
 refine .gz 17 ?_
 refine .pk ?_
 refine .mv ?_
 refine .gz 23 (.gz 23 (.gz 23 ?_))
 refine .gz 23 ?_
 refine .pk ?_
 refine .mv ?_
 refine .gz 29 (.gz 29 (.gz 29 ?_))
 refine .gz 29 ?_
 refine .pk ?_
 refine .mv ?_
 refine .gz 35 (.gz 35 (.gz 35 ?_))
 refine .gz 35 ?_
 refine .pk ?_
 refine .mv ?_
 refine .gz 41 (.gz 41 (.gz 41 ?_))
 refine .gz 41 (.gz 41 (.gz 41 ?_))
 refine .gz 41 ?_
 refine .pk ?_
 refine .mv ?_
 refine .gz 50 (.gz 50 (.gz 50 ?_))
 refine .gz 50 (.gz 50 (.gz 50 ?_))
 refine .gz 50 ?_
 refine .pk ?_
 refine .nil (.aK rfl (.sr ?_))
 refine .an ?_
 refine .nil (.ret ?_)
 exact .rb rfl (df (fun h => by have h1 := h.name; have h2 := h.ea; have h3 := h.dC; have h4 := h.iF; have h5 := h.cA; have h6 := h.dM; have h7 := h.ib; first | omega | contradiction))
 refine .gw 17 (Y.qn fM rfl rfl) (.gw 17 (Y.qx nq rfl rfl rfl rfl) (.gw 17 (Y.qu (n := n.cells.length) iZ rfl gx) ?_))
 refine .gw 17 (Y.qp rfl rfl) ?_
 refine .pk ?_
 refine .mv ?_
 refine .aw (d := 23) rfl (fun AJ => ?_) (fun AJ => ?_)
 refine .gz 23 (.gz 23 (.gz 23 ?_))
 refine .gz 23 ?_
 refine .pk ?_
 refine .mv ?_
 refine .gz 29 (.gz 29 (.gz 29 ?_))
 refine .gz 29 ?_
 refine .pk ?_
 refine .mv ?_
 refine .gz 35 (.gz 35 (.gz 35 ?_))
 refine .gz 35 ?_
 refine .pk ?_
 refine .mv ?_
 refine .gz 41 (.gz 41 (.gz 41 ?_))
 refine .gz 41 (.gz 41 (.gz 41 ?_))
 refine .gz 41 ?_
 refine .pk ?_
 refine .mv ?_
 refine .gz 50 (.gz 50 (.gz 50 ?_))
 refine .gz 50 (.gz 50 (.gz 50 ?_))
 refine .gz 50 ?_
 refine .pk ?_
 refine .nil (.aK rfl (.sr ?_))
 refine .an ?_
 refine .nil (.ret ?_)
 exact .rb rfl (df (fun h => by have h1 := h.name; have h2 := h.ea; have h3 := h.dC; have h4 := h.iF; have h5 := h.cA; have h6 := h.dM; have h7 := h.ib; first | omega | contradiction))
 refine .gw 23 (Y.qn eY rfl rfl) (.gw 23 (Y.qx cQ rfl rfl rfl rfl) (.gw 23 (Y.qu (n := n.ai.length) az rfl gx) ?_))
 refine .gw 23 (Y.qp rfl rfl) ?_
 refine .pk ?_
 refine .mv ?_
 refine .aw (d := 29) rfl (fun I3 => ?_) (fun I3 => ?_)
 refine .gz 29 (.gz 29 (.gz 29 ?_))
 refine .gz 29 ?_
 refine .pk ?_
 refine .mv ?_
 refine .gz 35 (.gz 35 (.gz 35 ?_))
 refine .gz 35 ?_
 refine .pk ?_
 refine .mv ?_
 refine .gz 41 (.gz 41 (.gz 41 ?_))
 refine .gz 41 (.gz 41 (.gz 41 ?_))
 refine .gz 41 ?_
 refine .pk ?_
 refine .mv ?_
 refine .gz 50 (.gz 50 (.gz 50 ?_))
 refine .gz 50 (.gz 50 (.gz 50 ?_))
 refine .gz 50 ?_
 refine .pk ?_
 refine .nil (.aK rfl (.sr ?_))
 refine .an ?_
 refine .nil (.ret ?_)
 exact .rb rfl (df (fun h => by have h1 := h.name; have h2 := h.ea; have h3 := h.dC; have h4 := h.iF; have h5 := h.cA; have h6 := h.dM; have h7 := h.ib; first | omega | contradiction))
 refine .gw 29 (Y.qn m5 rfl rfl) (.gw 29 (Y.qx uI rfl rfl rfl rfl) (.gw 29 (Y.qu (n := n.bh.length) sU rfl gx) ?_))
 refine .gw 29 (Y.qp rfl rfl) ?_
 refine .pk ?_
 refine .mv ?_
 refine .aw (d := 35) rfl (fun nv => ?_) (fun nv => ?_)
 refine .gz 35 (.gz 35 (.gz 35 ?_))
 refine .gz 35 ?_
 refine .pk ?_
 refine .mv ?_
 refine .gz 41 (.gz 41 (.gz 41 ?_))
 refine .gz 41 (.gz 41 (.gz 41 ?_))
 refine .gz 41 ?_
 refine .pk ?_
 refine .mv ?_
 refine .gz 50 (.gz 50 (.gz 50 ?_))
 refine .gz 50 (.gz 50 (.gz 50 ?_))
 refine .gz 50 ?_
 refine .pk ?_
 refine .nil (.aK rfl (.sr ?_))
 refine .an ?_
 refine .nil (.ret ?_)
 exact .rb rfl (df (fun h => by have h1 := h.name; have h2 := h.ea; have h3 := h.dC; have h4 := h.iF; have h5 := h.cA; have h6 := h.dM; have h7 := h.ib; first | omega | contradiction))
 refine .gw 35 (Y.qn g5 rfl rfl) (.gw 35 (Y.qx nt rfl rfl rfl rfl) (.gw 35 (Y.qu (n := n.streams.length) lK rfl gx) ?_))
 refine .gw 35 (Y.qp rfl rfl) ?_
 refine .pk ?_
 refine .mv ?_
 refine .aw (d := 41) rfl (fun I7 => ?_) (fun I7 => ?_)
 refine .gz 41 (.gz 41 (.gz 41 ?_))
 refine .gz 41 (.gz 41 (.gz 41 ?_))
 refine .gz 41 ?_
 refine .pk ?_
 refine .mv ?_
 refine .gz 50 (.gz 50 (.gz 50 ?_))
 refine .gz 50 (.gz 50 (.gz 50 ?_))
 refine .gz 50 ?_
 refine .pk ?_
 refine .nil (.aK rfl (.sr ?_))
 refine .an ?_
 refine .nil (.ret ?_)
 exact .rb rfl (df (fun h => by have h1 := h.name; have h2 := h.ea; have h3 := h.dC; have h4 := h.iF; have h5 := h.cA; have h6 := h.dM; have h7 := h.ib; first | omega | contradiction))
 refine .gw 41 (Y.qn sQ rfl rfl) (.gw 41 (Y.qx cQ rfl rfl rfl rfl) (.gw 41 (Y.qu (n := n.bQ.length) az rfl gx) ?_))
 refine .gw 41 (Y.qn g5 rfl rfl) (.gw 41 (Y.qx nt rfl rfl rfl rfl) (.gw 41 (Y.qu (n := n.streams.length) lK rfl gx) ?_))
 refine .gw 41 (Y.zg rfl rfl) ?_
 refine .pk ?_
 refine .mv ?_
 refine .aw (d := 50) rfl (fun Nh => ?_) (fun Nh => ?_)
 refine .gz 50 (.gz 50 (.gz 50 ?_))
 refine .gz 50 (.gz 50 (.gz 50 ?_))
 refine .gz 50 ?_
 refine .pk ?_
 refine .nil (.aK rfl (.sr ?_))
 refine .an ?_
 refine .nil (.ret ?_)
 exact .rb rfl (df (fun h => by have h1 := h.name; have h2 := h.ea; have h3 := h.dC; have h4 := h.iF; have h5 := h.cA; have h6 := h.dM; have h7 := h.ib; first | omega | contradiction))
 refine .gw 50 (Y.qn oo rfl rfl) (.gw 50 (Y.qx cQ rfl rfl rfl rfl) (.gw 50 (Y.qu (n := n.data.length) az rfl gx) ?_))
 refine .gw 50 (Y.qn g5 rfl rfl) (.gw 50 (Y.qx nt rfl rfl rfl rfl) (.gw 50 (Y.qu (n := n.streams.length) lK rfl gx) ?_))
 refine .gw 50 (Y.zg rfl rfl) ?_
 refine .pk ?_
 refine .nil ?_
 refine .a9 rfl (fun GI => ?_) (fun GI => ?_)
 refine .sr ?_
 refine .an ?_
 refine .nil (.ret ?_)
 exact .rb rfl (df (fun h => by have h1 := h.name; have h2 := h.ea; have h3 := h.dC; have h4 := h.iF; have h5 := h.cA; have h6 := h.dM; have h7 := h.ib; first | omega | contradiction))
 refine .skip (.seq (.sr ?_))
 refine .fa eY ?_
 refine .ld cQ ?_
 refine .fa oh ?_
 refine .ld cQ ?_
 refine .buildSlice (([n.ai, n.ins] : List (List Int)).map gy) gX yJ rfl rfl rfl rfl rfl (aD (s := 1) (f := gy) (fun _ => rfl)) rfl rfl rfl ag ?_
 refine .sh (Sh.c1 (d := 63) (([n.ai, n.ins] : List (List Int)).map gy) rfl jV (du.map oc)) (.br Em (rP (ls := ([n.ai, n.ins] : List (List Int))) (by simp) (by simp; omega)) rfl (.au rfl rfl .nil) ag rfl (.vl (Y.qu (n := (([n.ai, n.ins] : List (List Int)).flatten).length) az rfl gx) ?_))
 refine .mv ?_
 refine .nil (.block (.sh (Sh.c1 (d := 64) ((([n.ai, n.ins] : List (List Int)).flatten).map al) rfl jV (du.map cv)) ?_))
 refine .j7 (fun (kj : Nat) => ⟨[(1, .ptr 101 0 0 0), (64, .fz 1 ((([n.ai, n.ins] : List (List Int)).flatten).map al)), (65, vi (((([n.ai, n.ins] : List (List Int)).flatten).length : Nat) : Int)), (66, vi kj)], [(101, .cells (ab.row n))]⟩) (fun kj => ((kj : Int) ≤ (((([n.ai, n.ins] : List (List Int)).flatten).length : Nat) : Int)) ∧ (∀ j, j < kj → dL (([n.ai, n.ins] : List (List Int)).flatten.getD j 0))) (fun kj => ((((([n.ai, n.ins] : List (List Int)).flatten).length : Nat) : Int) - (kj : Int)).toNat) 0 (⟨om, fun j hj => by omega⟩) (Le.mk (.c2 (.c (.cons (aq rfl bj) .nil))) (.c .nil)) (fun kj z5 => ?_)
 obtain ⟨AK, hw⟩ := z5
 refine .sr (.vl (Y.qz rfl rfl) (.nil ?_))
 refine .seq ?_
 refine .a9 rfl (fun I8 => ?_) (fun I8 => ?_)
 refine .skip (.seq (.block ?_))
 refine .sr (.vl (Y.qq (m := kj) az rfl rfl bj (ao (d := 0) om)) ?_)
 refine .ld bw ?_
 refine .an ?_
 refine .nil (.sr ?_)
 refine .mv ?_
 refine .br wu (mE (w := ((([n.ai, n.ins] : List (List Int)).flatten).getD kj 0))) rfl (.au rfl rfl .nil) ag rfl (.vl (Y.zi rfl) (.nil ?_))
 refine .gT rfl (fun I9 => ?_) (fun I9 => ?_)
 refine .sr ?_
 refine .an ?_
 refine .nil (.ret ?_)
 exact .rb rfl (df (fun h => by have h1 := h.wide kj (by rw [List.length_append]; omega); rw [← Fv] at h1; contradiction))
 refine .skip (.region ?_)
 refine .vl (Y.qb rfl rfl om) ?_
 refine .mv ?_
 refine .nil (⟨kj + 1, ⟨om, fe hw ik⟩, om, Le.mk (.c2 (.c (.cons (aq rfl bj) .nil))) (.c .nil)⟩)
 refine .exit (.seq (.sr ?_))
 refine .fa m5 ?_
 refine .ld uI ?_
 refine .vl (Y.qu (n := n.bh.length) sU rfl gx) ?_
 refine .mv ?_
 refine .nil (.block ?_)
 refine .j7 (fun (ej : Nat) => ⟨[(1, .ptr 101 0 0 0), (75, .fz 5 (n.bh.map oW.row)), (76, vi n.bh.length), (77, vi ej)], [(101, .cells (ab.row n))]⟩) (fun ej => ((ej : Int) ≤ (n.bh.length : Int)) ∧ (∀ j, j < ej → kN (n.bh.getD j default))) (fun ej => ((n.bh.length : Int) - (ej : Int)).toNat) 0 (⟨om, fun j hj => by omega⟩) (Le.mk (.c2 (.c (.cons (aq rfl bj) .nil))) (.c .nil)) (fun ej Cl => ?_)
 obtain ⟨IA, hm⟩ := Cl
 refine .sr (.vl (Y.qz rfl rfl) (.nil ?_))
 refine .seq ?_
 refine .a9 rfl (fun z6 => ?_) (fun z6 => ?_)
 refine .skip (.seq (.block ?_))
 refine .sr (.vl (Y.qq (m := ej) sU rfl rfl bj (ao (d := default) om)) ?_)
 refine .vl (Y.qy EB rfl rfl (bE rfl) rfl rfl) (.alloc 106 ED rfl rfl ag (.aj EC rfl rfl rfl rfl rfl rfl (bE rfl) rfl ?_))
 refine .nil (.sr ?_)
 have OJ := hs.oe _ (eD (l := n.bh) (i := ej) (d := default) om)
 refine .fa yB ?_
 refine .ld HX ?_
 refine .br wo (lr (s := ((n.bh.getD ej default).name)) (by first | assumption | omega)) rfl (.au rfl rfl .nil) ag rfl (.vl (Y.zi rfl) ?_)
 refine .mv ?_
 refine .lf (d := 85) rfl (fun Ni => ?_) (fun Ni => ?_)
 refine .gz 85 (.gz 85 (.gz 85 ?_))
 refine .gz 85 ?_
 refine .pk ?_
 refine .mv ?_
 refine .gz 91 (.gz 91 (.gz 91 ?_))
 refine .pk ?_
 refine .mv ?_
 refine .gz 96 (.gz 96 (.gz 96 ?_))
 refine .pk ?_
 refine .mv ?_
 refine .gz 101 (.gz 101 (.gz 101 ?_))
 refine .pk ?_
 refine .mv ?_
 refine .gz 106 (.gz 106 (.gz 106 ?_))
 refine .pk ?_
 refine .nil (.aK rfl (.sr ?_))
 refine .an ?_
 refine .nil (.ret ?_)
 exact .rb rfl (df (fun h => by have h1 := h.bh ej om; unfold kN at h1; obtain ⟨a1, a2, a3, a4, a5, a6⟩ := h1; first | contradiction | omega))
 refine .gw 85 (Y.qn pX rfl rfl) (.gw 85 (Y.qx bw rfl rfl rfl rfl) (.aH (d := 85) rfl ag rfl ?_))
 refine .br wu (mE (w := ((n.bh.getD ej default).width))) rfl (.au rfl rfl .nil) ag rfl (.gw 85 (Y.zi rfl) ?_)
 refine .pk ?_
 refine .mv ?_
 refine .lf (d := 91) rfl (fun Nj => ?_) (fun Nj => ?_)
 refine .gz 91 (.gz 91 (.gz 91 ?_))
 refine .pk ?_
 refine .mv ?_
 refine .gz 96 (.gz 96 (.gz 96 ?_))
 refine .pk ?_
 refine .mv ?_
 refine .gz 101 (.gz 101 (.gz 101 ?_))
 refine .pk ?_
 refine .mv ?_
 refine .gz 106 (.gz 106 (.gz 106 ?_))
 refine .pk ?_
 refine .nil (.aK rfl (.sr ?_))
 refine .an ?_
 refine .nil (.ret ?_)
 exact .rb rfl (df (fun h => by have h1 := h.bh ej om; unfold kN at h1; obtain ⟨a1, a2, a3, a4, a5, a6⟩ := h1; first | contradiction | omega))
 refine .gw 91 (Y.qn tR rfl rfl) (.gw 91 (Y.qx bw rfl rfl rfl rfl) (.gw 91 (Y.qz rfl rfl) ?_))
 refine .pk ?_
 refine .mv ?_
 refine .aw (d := 96) rfl (fun IB => ?_) (fun IB => ?_)
 refine .gz 96 (.gz 96 (.gz 96 ?_))
 refine .pk ?_
 refine .mv ?_
 refine .gz 101 (.gz 101 (.gz 101 ?_))
 refine .pk ?_
 refine .mv ?_
 refine .gz 106 (.gz 106 (.gz 106 ?_))
 refine .pk ?_
 refine .nil (.aK rfl (.sr ?_))
 refine .an ?_
 refine .nil (.ret ?_)
 exact .rb rfl (df (fun h => by have h1 := h.bh ej om; unfold kN at h1; obtain ⟨a1, a2, a3, a4, a5, a6⟩ := h1; first | contradiction | omega))
 refine .gw 96 (Y.qn tR rfl rfl) (.gw 96 (Y.qx bw rfl rfl rfl rfl) (.gw 96 (Y.qp rfl rfl) ?_))
 refine .pk ?_
 refine .mv ?_
 refine .aw (d := 101) rfl (fun IC => ?_) (fun IC => ?_)
 refine .gz 101 (.gz 101 (.gz 101 ?_))
 refine .pk ?_
 refine .mv ?_
 refine .gz 106 (.gz 106 (.gz 106 ?_))
 refine .pk ?_
 refine .nil (.aK rfl (.sr ?_))
 refine .an ?_
 refine .nil (.ret ?_)
 exact .rb rfl (df (fun h => by have h1 := h.bh ej om; unfold kN at h1; obtain ⟨a1, a2, a3, a4, a5, a6⟩ := h1; first | contradiction | omega))
 refine .gw 101 (Y.qn yC rfl rfl) (.gw 101 (Y.qx bw rfl rfl rfl rfl) (.gw 101 (Y.zg rfl rfl) ?_))
 refine .pk ?_
 refine .mv ?_
 refine .aw (d := 106) rfl (fun ID => ?_) (fun ID => ?_)
 refine .gz 106 (.gz 106 (.gz 106 ?_))
 refine .pk ?_
 refine .nil (.aK rfl (.sr ?_))
 refine .an ?_
 refine .nil (.ret ?_)
 exact .rb rfl (df (fun h => by have h1 := h.bh ej om; unfold kN at h1; obtain ⟨a1, a2, a3, a4, a5, a6⟩ := h1; first | contradiction | omega))
 refine .gw 106 (Y.qn yD rfl rfl) (.gw 106 (Y.qx bw rfl rfl rfl rfl) (.gw 106 (Y.zg rfl rfl) ?_))
 refine .pk ?_
 refine .nil ?_
 refine .a9 rfl (fun xg => ?_) (fun xg => ?_)
 refine .sr ?_
 refine .an ?_
 refine .nil (.ret ?_)
 exact .rb rfl (df (fun h => by have h1 := h.bh ej om; unfold kN at h1; obtain ⟨a1, a2, a3, a4, a5, a6⟩ := h1; first | contradiction | omega))
 refine .skip (.region ?_)
 refine .vl (Y.qb rfl rfl om) ?_
 refine .mv ?_
 refine .nil ?_
 exact ⟨ej + 1, ⟨om, fe hm (by unfold kN; refine ⟨?_, ?_, ?_, ?_, ?_, ?_⟩ <;> first | assumption | omega)⟩, om, Le.mk (.c2 (.c (.cons (aq rfl bj) .nil))) (.c .nil)⟩
 refine .exit (.sr (.sh (Sh.pW 101 rfl rfl) ?_))
 refine .vl (Y.za rfl rfl rfl rfl) (.alloc 107 HZ rfl rfl ag (.aj HY rfl rfl rfl rfl rfl rfl (bE rfl) rfl ?_))
 refine .nil (.seq (.seq ?_))
 refine .sh (Sh.pW 107 rfl rfl) (.region ?_)
 refine .fa g5 ?_
 refine .ld nt ?_
 refine .vl (Y.qu (n := n.streams.length) lK rfl gx) ?_
 refine .mv ?_
 refine .nil (.block ?_)
 refine .j7 (fun (aP : Nat) => ⟨[(1, .fp (ab.row n) 0), (7, .fp ([.fH (.func 156) [] [.fp (ab.row n) 0]]) 0), (114, .fz 3 (n.streams.map gF.row)), (115, vi n.streams.length), (116, vi aP)], []⟩) (fun aP => ((aP : Int) ≤ (n.streams.length : Int)) ∧ (∀ j, j < aP → iE n j)) (fun aP => ((n.streams.length : Int) - (aP : Int)).toNat) 0 (⟨om, fun j hj => by omega⟩) (Le.mk (.c4 (.cons (aq rfl bj) .nil)) .nil) (fun aP IE => ?_)
 obtain ⟨Nk, vD⟩ := IE
 refine .sr (.vl (Y.qz rfl rfl) (.nil ?_))
 refine .seq ?_
 refine .a9 rfl (fun kG => ?_) (fun kG => ?_)
 refine .skip ?_
 refine .Aj (fun (oF : Bool) (oG : Bool) (oH : Bool) (oI : Bool) => ⟨[(1, .fp (ab.row n) 0), (7, .fp ([.fH (.func 156) [] [.fp (ab.row n) 0]]) 0), (114, .fz 3 (n.streams.map gF.row)), (115, vi n.streams.length), (116, vi aP), (126, .ptr 109 0 0 1), (127, vi ((n.streams.getD aP default).width)), (128, .v (.bool (decide (dL ((n.streams.getD aP default).width))))), (129, .v (.bool (!decide (dL ((n.streams.getD aP default).width))))), (132, .fH (.func 156) [] [.fp (ab.row n) 0]), (133, .fp (ab.row n) 6), (134, .fz 1 (n.bQ.map al)), (135, vi aP), (136, .fp (al (n.bQ.getD aP 0)) 0), (137, vi (n.bQ.getD aP 0)), (138, .v (.bool (decide (In (n.bQ.getD aP 0) n.ai.length)))), (139, .v (.bool (!decide (In (n.bQ.getD aP 0) n.ai.length)))), (142, .ptr 109 0 0 2), (143, .v (.bool ((n.streams.getD aP default).out))), (144, .v (.bool oF)), (153, .v (.bool oG)), (156, .ptr 109 0 0 2), (157, .v (.bool ((n.streams.getD aP default).out))), (158, .v (.bool (!((n.streams.getD aP default).out)))), (159, .v (.bool oH)), (166, .v (.bool oI))], [(109, .cells [.v (.string ((n.streams.getD aP default).name)), vi ((n.streams.getD aP default).width), .v (.bool ((n.streams.getD aP default).out))])]⟩) (fun oF oG oH oI => iE n aP) ?_ (fun oF oG oH oI IF => ?_)
 refine .block (.sr ?_)
 have OK := hs.og _ (eD (l := n.streams) (i := aP) (d := default) om)
 refine .mv ?_
 refine .vl (Y.qq (m := aP) lK rfl rfl bj (ao (d := default) om)) ?_
 refine .vl (Y.qy Ar rfl rfl (bE rfl) rfl rfl) (.alloc 109 At rfl rfl ag ?_)
 refine .an ?_
 refine .aj As rfl rfl rfl rfl rfl rfl (bE rfl) rfl (.nil (.seq ?_))
 refine .cC rfl (.bl (n := 45) [0, 1] [2, 3, 4, 5, 6, 7, 8, 9, 10, 11, 12, 13, 14, 15, 16, 17, 18, 19, 20, 21, 22, 23, 24, 25, 26, 27, 28, 29, 30, 31, 32, 33, 34, 35, 36, 37, 38, 39, 40, 41, 42, 43, 44, 45, 46] 2 rfl aU (.cn 0 rfl (Y.qn yE rfl rfl) ?_))
 refine .cn 1 rfl (Y.qx HX rfl rfl rfl rfl) (.nil (.one 2 rfl aU ?_))
 refine .br wo (lr (s := ((n.streams.getD aP default).name)) (by first | assumption | omega)) rfl (.au rfl rfl .nil) ag rfl ?_
 refine .nil ⟨rfl, ?_⟩
 refine .bl (n := 40) [3, 4, 5, 6] [7, 8, 9, 10, 11, 12, 13, 14, 15, 16, 17, 18, 19, 20, 21, 22, 23, 24, 25, 26, 27, 28, 29, 30, 31, 32, 33, 34, 35, 36, 37, 38, 39, 40, 41, 42, 43, 44, 45, 46] 7 rfl aU (.cn 3 rfl (Y.zi rfl) (.cn 4 rfl (Y.zd rfl rfl) ?_))
 refine .split (d := 125) rfl (fun xh => ?_) (fun xh => ?_)
 replace xh : ¬ (nc ((n.streams.getD aP default).name)) := by simpa using xh
 refine .sk 5 rfl rfl rfl rfl (.sk 6 rfl rfl rfl rfl (.nil ?_))
 refine .bH 7 rfl aU rfl ag ag rfl rfl (.bH 8 rfl aU rfl ag ag rfl rfl (.bl (n := 30) [9, 10, 11, 12, 13, 14, 15, 16] [17, 18, 19, 20, 21, 22, 23, 24, 25, 26, 27, 28, 29, 30, 31, 32, 33, 34, 35, 36, 37, 38, 39, 40, 41, 42, 43, 44, 45, 46] 17 rfl aU ?_))
 refine .cn 9 rfl (Y.zj rfl rfl rfl) (.cn 10 rfl (Y.zd rfl rfl) (.sk 11 rfl rfl rfl rfl ?_))
 refine .sk 12 rfl rfl rfl rfl (.sk 13 rfl rfl rfl rfl (.sk 14 rfl rfl rfl rfl ?_))
 refine .sk 15 rfl rfl rfl rfl (.sk 16 rfl rfl rfl rfl (.nil ?_))
 refine .bH 17 rfl aU rfl ag ag rfl rfl (.bH 18 rfl aU rfl ag ag rfl rfl (.bl (n := 17) [19, 20, 21, 22, 23, 24, 25, 26, 27, 28, 29] [30, 31, 32, 33, 34, 35, 36, 37, 38, 39, 40, 41, 42, 43, 44, 45, 46] 30 rfl aU ?_))
 refine .cn 19 rfl (Y.zj rfl rfl rfl) (.cn 20 rfl (Y.zd rfl rfl) (.sk 21 rfl rfl rfl rfl ?_))
 refine .sk 22 rfl rfl rfl rfl (.sk 23 rfl rfl rfl rfl (.sk 24 rfl rfl rfl rfl ?_))
 refine .sk 25 rfl rfl rfl rfl (.sk 26 rfl rfl rfl rfl (.sk 27 rfl rfl rfl rfl ?_))
 refine .sk 28 rfl rfl rfl rfl (.sk 29 rfl rfl rfl rfl (.nil ?_))
 refine .bH 30 rfl aU rfl ag ag rfl rfl (.bH 31 rfl aU rfl ag ag rfl rfl (.bH 32 rfl aU rfl ag ag rfl rfl ?_))
 refine .bl (n := 0) [33, 34, 35, 36, 37, 38, 39, 40, 41, 42, 43, 44, 45, 46] [] 0 rfl aU (.cn 33 rfl (Y.zj rfl rfl rfl) (.cn 34 rfl (Y.zd rfl rfl) ?_))
 refine .sk 35 rfl rfl rfl rfl (.sk 36 rfl rfl rfl rfl (.sk 37 rfl rfl rfl rfl ?_))
 refine .sk 38 rfl rfl rfl rfl (.sk 39 rfl rfl rfl rfl (.sk 40 rfl rfl rfl rfl ?_))
 refine .sk 41 rfl rfl rfl rfl (.sk 42 rfl rfl rfl rfl (.sk 43 rfl rfl rfl rfl ?_))
 refine .sk 44 rfl rfl rfl rfl (.sk 45 rfl rfl rfl rfl (.cn 46 rfl (Y.zj rfl rfl rfl) ?_))
 refine .nil (.done aU (.aK rfl ?_))
 refine .sr ?_
 refine .an ?_
 refine .nil (.ret ?_)
 exact .rb rfl (df (fun h => by have h1 := h.strs aP om; unfold iE at h1; obtain ⟨a1, a2, a3, a4, a5⟩ := h1; first | contradiction | grind))
 replace xh : nc ((n.streams.getD aP default).name) := by simpa using xh
 refine .rn 5 rfl rfl rfl (Y.qn pY rfl rfl) (.rn 6 rfl rfl rfl (Y.qx bw rfl rfl rfl rfl) (.nil ?_))
 refine .one 7 rfl aU (.aH (d := 125) rfl ag rfl (.br wu (mE (w := ((n.streams.getD aP default).width))) rfl (.au rfl rfl .nil) ag rfl ?_))
 refine .nil ⟨rfl, ?_⟩
 refine .bl (n := 30) [8, 9, 10, 11, 12, 13, 14, 15, 16] [17, 18, 19, 20, 21, 22, 23, 24, 25, 26, 27, 28, 29, 30, 31, 32, 33, 34, 35, 36, 37, 38, 39, 40, 41, 42, 43, 44, 45, 46] 17 rfl aU (.rn 8 rfl rfl rfl (Y.zi rfl) (.cn 9 rfl (Y.zj rfl rfl rfl) ?_))
 refine .cn 10 rfl (Y.zd rfl rfl) ?_
 refine .split (d := 131) rfl (fun qK => ?_) (fun qK => ?_)
 replace qK : ¬ (dL ((n.streams.getD aP default).width)) := by simpa using qK
 refine .sk 11 rfl rfl rfl rfl (.sk 12 rfl rfl rfl rfl (.sk 13 rfl rfl rfl rfl ?_))
 refine .sk 14 rfl rfl rfl rfl (.sk 15 rfl rfl rfl rfl (.sk 16 rfl rfl rfl rfl ?_))
 refine .nil (.bH 17 rfl aU rfl ag ag rfl rfl (.bH 18 rfl aU rfl ag ag rfl rfl ?_))
 refine .bl (n := 17) [19, 20, 21, 22, 23, 24, 25, 26, 27, 28, 29] [30, 31, 32, 33, 34, 35, 36, 37, 38, 39, 40, 41, 42, 43, 44, 45, 46] 30 rfl aU (.cn 19 rfl (Y.zj rfl rfl rfl) (.cn 20 rfl (Y.zd rfl rfl) ?_))
 refine .sk 21 rfl rfl rfl rfl (.sk 22 rfl rfl rfl rfl (.sk 23 rfl rfl rfl rfl ?_))
 refine .sk 24 rfl rfl rfl rfl (.sk 25 rfl rfl rfl rfl (.sk 26 rfl rfl rfl rfl ?_))
 refine .sk 27 rfl rfl rfl rfl (.sk 28 rfl rfl rfl rfl (.sk 29 rfl rfl rfl rfl ?_))
 refine .nil (.bH 30 rfl aU rfl ag ag rfl rfl (.bH 31 rfl aU rfl ag ag rfl rfl ?_))
 refine .bH 32 rfl aU rfl ag ag rfl rfl (.bl (n := 0) [33, 34, 35, 36, 37, 38, 39, 40, 41, 42, 43, 44, 45, 46] [] 0 rfl aU (.cn 33 rfl (Y.zj rfl rfl rfl) ?_))
 refine .cn 34 rfl (Y.zd rfl rfl) (.sk 35 rfl rfl rfl rfl (.sk 36 rfl rfl rfl rfl ?_))
 refine .sk 37 rfl rfl rfl rfl (.sk 38 rfl rfl rfl rfl (.sk 39 rfl rfl rfl rfl ?_))
 refine .sk 40 rfl rfl rfl rfl (.sk 41 rfl rfl rfl rfl (.sk 42 rfl rfl rfl rfl ?_))
 refine .sk 43 rfl rfl rfl rfl (.sk 44 rfl rfl rfl rfl (.sk 45 rfl rfl rfl rfl ?_))
 refine .cn 46 rfl (Y.zj rfl rfl rfl) (.nil (.done aU ?_))
 refine .aK rfl (.sr ?_)
 refine .an ?_
 refine .nil (.ret ?_)
 exact .rb rfl (df (fun h => by have h1 := h.strs aP om; unfold iE at h1; obtain ⟨a1, a2, a3, a4, a5⟩ := h1; first | contradiction | grind))
 replace qK : dL ((n.streams.getD aP default).width) := by simpa using qK
 refine .rn 11 rfl rfl rfl (Y.qx sT rfl rfl rfl rfl) (.rn 12 rfl rfl rfl (Y.qn sQ rfl rfl) (.rn 13 rfl rfl rfl (Y.qx cQ rfl rfl rfl rfl) ?_))
 refine .rn 14 rfl rfl rfl (Y.zd rfl rfl) (.rn 15 rfl rfl rfl (Y.qq (m := aP) az rfl rfl bj (ao (d := 0) om)) ?_)
 refine .rn 16 rfl rfl rfl (Y.qx bw rfl rfl rfl rfl) (.nil (.one 17 rfl aU ?_))
 refine .aH (d := 131) rfl ag rfl (.js rfl ot (ec (i := (n.bQ.getD aP 0))) rfl (.au rfl rfl (.au rfl rfl .nil)) ag rfl ?_)
 refine .nil ⟨rfl, ?_⟩
 refine .bl (n := 17) [18, 19, 20, 21, 22, 23, 24, 25, 26, 27, 28, 29] [30, 31, 32, 33, 34, 35, 36, 37, 38, 39, 40, 41, 42, 43, 44, 45, 46] 30 rfl aU (.rn 18 rfl rfl rfl (Y.zi rfl) (.cn 19 rfl (Y.zj rfl rfl rfl) ?_))
 refine .cn 20 rfl (Y.zd rfl rfl) ?_
 refine .split (d := 141) rfl (fun xi => ?_) (fun xi => ?_)
 replace xi : ¬ (In (n.bQ.getD aP 0) n.ai.length) := by simpa using xi
 refine .sk 21 rfl rfl rfl rfl (.sk 22 rfl rfl rfl rfl (.sk 23 rfl rfl rfl rfl ?_))
 refine .sk 24 rfl rfl rfl rfl (.sk 25 rfl rfl rfl rfl (.sk 26 rfl rfl rfl rfl ?_))
 refine .sk 27 rfl rfl rfl rfl (.sk 28 rfl rfl rfl rfl (.sk 29 rfl rfl rfl rfl ?_))
 refine .nil (.bH 30 rfl aU rfl ag ag rfl rfl (.bH 31 rfl aU rfl ag ag rfl rfl ?_))
 refine .bH 32 rfl aU rfl ag ag rfl rfl (.bl (n := 0) [33, 34, 35, 36, 37, 38, 39, 40, 41, 42, 43, 44, 45, 46] [] 0 rfl aU (.cn 33 rfl (Y.zj rfl rfl rfl) ?_))
 refine .cn 34 rfl (Y.zd rfl rfl) (.sk 35 rfl rfl rfl rfl (.sk 36 rfl rfl rfl rfl ?_))
 refine .sk 37 rfl rfl rfl rfl (.sk 38 rfl rfl rfl rfl (.sk 39 rfl rfl rfl rfl ?_))
 refine .sk 40 rfl rfl rfl rfl (.sk 41 rfl rfl rfl rfl (.sk 42 rfl rfl rfl rfl ?_))
 refine .sk 43 rfl rfl rfl rfl (.sk 44 rfl rfl rfl rfl (.sk 45 rfl rfl rfl rfl ?_))
 refine .cn 46 rfl (Y.zj rfl rfl rfl) (.nil (.done aU ?_))
 refine .aK rfl (.sr ?_)
 refine .an ?_
 refine .nil (.ret ?_)
 exact .rb rfl (df (fun h => by have h1 := h.strs aP om; unfold iE at h1; obtain ⟨a1, a2, a3, a4, a5⟩ := h1; first | contradiction | grind))
 replace xi : In (n.bQ.getD aP 0) n.ai.length := by simpa using xi
 refine .rn 21 rfl rfl rfl (Y.qn iB rfl rfl) (.rn 22 rfl rfl rfl (Y.qx wy rfl rfl rfl rfl) (.rn 23 rfl rfl rfl (Y.zd rfl rfl) ?_))
 refine .split (d := 144) rfl (fun z7 => ?_) (fun z7 => ?_)
 refine .rn 24 rfl rfl rfl (Y.qx sT rfl rfl rfl rfl) (.rn 25 rfl rfl rfl (Y.qn oo rfl rfl) (.rn 26 rfl rfl rfl (Y.qx cQ rfl rfl rfl rfl) ?_))
 refine .rn 27 rfl rfl rfl (Y.zd rfl rfl) (.rn 28 rfl rfl rfl (Y.qq (m := aP) az rfl rfl bj (ao (d := 0) om)) ?_)
 refine .rn 29 rfl rfl rfl (Y.qx bw rfl rfl rfl rfl) (.nil (.one 30 rfl aU ?_))
 refine .aH (d := 144) rfl ag rfl (.js rfl ot (ec (i := (n.data.getD aP 0))) rfl (.au rfl rfl (.au rfl rfl .nil)) ag rfl ?_)
 refine .nil ⟨rfl, ?_⟩
 refine .bl (n := 0) [31, 32, 33, 34, 35, 36, 37, 38, 39, 40, 41, 42, 43, 44, 45, 46] [] 0 rfl aU (.rn 31 rfl rfl rfl (Y.zi rfl) (.rn 32 rfl rfl rfl (Y.zj rfl rfl rfl) ?_))
 refine .cn 33 rfl (Y.zj rfl rfl rfl) (.cn 34 rfl (Y.zd rfl rfl) ?_)
 refine .split (d := 155) rfl (fun xj => ?_) (fun xj => ?_)
 replace xj : ¬ (In (n.data.getD aP 0) n.ai.length) := by simpa using xj
 refine .sk 35 rfl rfl rfl rfl (.sk 36 rfl rfl rfl rfl (.sk 37 rfl rfl rfl rfl ?_))
 refine .sk 38 rfl rfl rfl rfl (.sk 39 rfl rfl rfl rfl (.sk 40 rfl rfl rfl rfl ?_))
 refine .sk 41 rfl rfl rfl rfl (.sk 42 rfl rfl rfl rfl (.sk 43 rfl rfl rfl rfl ?_))
 refine .sk 44 rfl rfl rfl rfl (.sk 45 rfl rfl rfl rfl (.cn 46 rfl (Y.zj rfl rfl rfl) ?_))
 refine .nil (.done aU (.aK rfl ?_))
 refine .sr ?_
 refine .an ?_
 refine .nil (.ret ?_)
 exact .rb rfl (df (fun h => by have h1 := h.strs aP om; unfold iE at h1; obtain ⟨a1, a2, a3, a4, a5⟩ := h1; first | contradiction | grind))
 replace xj : In (n.data.getD aP 0) n.ai.length := by simpa using xj
 refine .rn 35 rfl rfl rfl (Y.qn iB rfl rfl) (.rn 36 rfl rfl rfl (Y.qx wy rfl rfl rfl rfl) (.rn 37 rfl rfl rfl (Y.zi rfl) ?_))
 refine .rn 38 rfl rfl rfl (Y.zd rfl rfl) ?_
 refine .split (d := 159) rfl (fun fR => ?_) (fun fR => ?_)
 replace fR : ((n.streams.getD aP default).out) = false := by simpa using fR
 refine .rn 39 rfl rfl rfl (Y.qn oo rfl rfl) (.rn 40 rfl rfl rfl (Y.qx cQ rfl rfl rfl rfl) (.rn 41 rfl rfl rfl (Y.zd rfl rfl) ?_))
 refine .rn 42 rfl rfl rfl (Y.qq (m := aP) az rfl rfl bj (ao (d := 0) om)) ?_
 refine .rn 43 rfl rfl rfl (Y.qx bw rfl rfl rfl rfl) (.rn 44 rfl rfl rfl (Y.zg rfl rfl) (.rn 45 rfl rfl rfl (Y.zj rfl rfl rfl) ?_))
 refine .cn 46 rfl (Y.zj rfl rfl rfl) (.nil (.done aU ?_))
 refine .a9 rfl (fun xk => ?_) (fun xk => ?_)
 refine .sr ?_
 refine .an ?_
 refine .nil (.ret ?_)
 exact .rb rfl (df (fun h => by have h1 := h.strs aP om; unfold iE at h1; obtain ⟨a1, a2, a3, a4, a5⟩ := h1; first | contradiction | grind))
 refine .skip ⟨true, (!decide (In (n.data.getD aP 0) n.ai.length)), true, decide ((n.data.getD aP 0) ≠ (-1)), by unfold iE; grind, Le.mk (.c8 (.c8 (.c2 (.c (.cons (bo rfl mi) (.cons (bo rfl mi) (.c2 (.c (.cons (bo rfl mi) (.cons (bo rfl mi) .nil)))))))))) (.c .nil)⟩
 replace fR : ((n.streams.getD aP default).out) = true := by simpa using fR
 refine .sk 39 rfl rfl rfl rfl (.sk 40 rfl rfl rfl rfl (.sk 41 rfl rfl rfl rfl ?_))
 refine .sk 42 rfl rfl rfl rfl (.sk 43 rfl rfl rfl rfl (.sk 44 rfl rfl rfl rfl ?_))
 refine .rn 45 rfl rfl rfl (Y.zj rfl rfl rfl) (.cn 46 rfl (Y.zj rfl rfl rfl) (.nil ?_))
 refine .done aU (.cT rfl (.skip ?_))
 exact ⟨true, (!decide (In (n.data.getD aP 0) n.ai.length)), false, false, by unfold iE; grind, Le.mk (.c8 (.c8 (.c2 (.c (.cons (bo rfl mi) (.cons (bo rfl mi) (.c2 (.c (.cons (bo rfl mi) (.cons (bo rfl mi) .nil)))))))))) (.c .nil)⟩
 refine .sk 24 rfl rfl rfl rfl (.sk 25 rfl rfl rfl rfl (.sk 26 rfl rfl rfl rfl ?_))
 refine .sk 27 rfl rfl rfl rfl (.sk 28 rfl rfl rfl rfl (.sk 29 rfl rfl rfl rfl ?_))
 refine .nil (.bH 30 rfl aU rfl ag ag rfl rfl (.bH 31 rfl aU rfl ag ag rfl rfl ?_))
 refine .bl (n := 0) [32, 33, 34, 35, 36, 37, 38, 39, 40, 41, 42, 43, 44, 45, 46] [] 0 rfl aU (.rn 32 rfl rfl rfl (Y.zj rfl rfl rfl) (.cn 33 rfl (Y.zj rfl rfl rfl) ?_))
 refine .cn 34 rfl (Y.zd rfl rfl) (.rn 35 rfl rfl rfl (Y.qn iB rfl rfl) (.rn 36 rfl rfl rfl (Y.qx wy rfl rfl rfl rfl) ?_))
 refine .rn 37 rfl rfl rfl (Y.zi rfl) (.rn 38 rfl rfl rfl (Y.zd rfl rfl) ?_)
 refine .split (d := 159) rfl (fun fR => ?_) (fun fR => ?_)
 replace fR : ((n.streams.getD aP default).out) = false := by simpa using fR
 refine .rn 39 rfl rfl rfl (Y.qn oo rfl rfl) (.rn 40 rfl rfl rfl (Y.qx cQ rfl rfl rfl rfl) (.rn 41 rfl rfl rfl (Y.zd rfl rfl) ?_))
 refine .rn 42 rfl rfl rfl (Y.qq (m := aP) az rfl rfl bj (ao (d := 0) om)) ?_
 refine .rn 43 rfl rfl rfl (Y.qx bw rfl rfl rfl rfl) (.rn 44 rfl rfl rfl (Y.zg rfl rfl) (.rn 45 rfl rfl rfl (Y.zj rfl rfl rfl) ?_))
 refine .cn 46 rfl (Y.zj rfl rfl rfl) (.nil (.done aU ?_))
 refine .a9 rfl (fun xk => ?_) (fun xk => ?_)
 refine .sr ?_
 refine .an ?_
 refine .nil (.ret ?_)
 exact .rb rfl (df (fun h => by have h1 := h.strs aP om; unfold iE at h1; obtain ⟨a1, a2, a3, a4, a5⟩ := h1; first | contradiction | grind))
 refine .skip ⟨false, false, true, decide ((n.data.getD aP 0) ≠ (-1)), by unfold iE; grind, Le.mk (.c8 (.c8 (.c2 (.c (.cons (bo rfl mi) (.cons (bo rfl mi) (.c2 (.c (.cons (bo rfl mi) (.cons (bo rfl mi) .nil)))))))))) (.c .nil)⟩
 replace fR : ((n.streams.getD aP default).out) = true := by simpa using fR
 refine .sk 39 rfl rfl rfl rfl (.sk 40 rfl rfl rfl rfl (.sk 41 rfl rfl rfl rfl ?_))
 refine .sk 42 rfl rfl rfl rfl (.sk 43 rfl rfl rfl rfl (.sk 44 rfl rfl rfl rfl ?_))
 refine .rn 45 rfl rfl rfl (Y.zj rfl rfl rfl) (.cn 46 rfl (Y.zj rfl rfl rfl) (.nil ?_))
 refine .done aU (.cT rfl (.skip ?_))
 exact ⟨false, false, false, false, by unfold iE; grind, Le.mk (.c8 (.c8 (.c2 (.c (.cons (bo rfl mi) (.cons (bo rfl mi) (.c2 (.c (.cons (bo rfl mi) (.cons (bo rfl mi) .nil)))))))))) (.c .nil)⟩
 refine .region (.vl (Y.qb rfl rfl om) ?_)
 refine .mv ?_
 refine .nil (⟨aP + 1, ⟨om, fe vD IF⟩, om, Le.mk (.c4 (.cons (aq rfl bj) .nil)) .nil⟩)
 refine .exit (.seq (.sr ?_))
 refine .ld sT ?_
 refine .fa sR ?_
 refine .ld bw ?_
 refine .js rfl ot (ec (i := n.freeze)) rfl (.au rfl rfl (.au rfl rfl .nil)) ag rfl (.vl (Y.zi rfl) ?_)
 refine .mv ?_
 refine .lf (d := 174) rfl (fun IG => ?_) (fun IG => ?_)
 refine .gz 174 (.gz 174 (.gz 174 ?_))
 refine .gz 174 (.gz 174 ?_)
 refine .pk ?_
 refine .mv ?_
 refine .gz 181 (.gz 181 (.gz 181 ?_))
 refine .gz 181 ?_
 refine .pk ?_
 refine .nil (.aK rfl (.sr ?_))
 refine .an ?_
 refine .nil (.ret ?_)
 exact .rb rfl (df (fun h => by have h1 := h.freeze; have h2 := h.done; contradiction))
 refine .gw 174 (Y.qx sT rfl rfl rfl rfl) (.gw 174 (Y.qn sS rfl rfl) (.gw 174 (Y.qx bw rfl rfl rfl rfl) ?_))
 refine .aH (d := 174) rfl ag rfl (.js rfl ot (ec (i := n.done)) rfl (.au rfl rfl (.au rfl rfl .nil)) ag rfl (.gw 174 (Y.zi rfl) ?_))
 refine .pk ?_
 refine .mv ?_
 refine .lf (d := 181) rfl (fun IH => ?_) (fun IH => ?_)
 refine .gz 181 (.gz 181 (.gz 181 ?_))
 refine .gz 181 ?_
 refine .pk ?_
 refine .nil (.aK rfl (.sr ?_))
 refine .an ?_
 refine .nil (.ret ?_)
 exact .rb rfl (df (fun h => by have h1 := h.freeze; have h2 := h.done; contradiction))
 refine .gw 181 (Y.qn yF rfl rfl) (.gw 181 (Y.qx cQ rfl rfl rfl rfl) (.gw 181 (Y.za rfl rfl rfl rfl) ?_))
 refine .aH (d := 181) rfl ag rfl ?_
 refine .br Aq (gh (l := n.ee) (p := fun z => !decide (In z n.ai.length)) (om) En (fun z _ => qI)) rfl (.au rfl rfl (.au rfl rfl .nil)) ag rfl ?_
 refine .pk ?_
 refine .nil ?_
 refine .cond rfl (fun Cm => ?_) (fun Cm => ?_)
 refine .sr ?_
 refine .an ?_
 refine .nil (.ret ?_)
 exact .rb rfl (df (fun h => absurd h.ee (ky.1 ik)))
 refine .skip (.sr ?_)
 refine .fa eY ?_
 refine .ld cQ ?_
 refine .vl (Y.qu (n := n.ai.length) az rfl gx) (.makeSlice (n := n.ai.length) r4 KH rfl rfl rfl rfl om om ag ?_)
 refine .bx rfl ag (.sh (Sh.fL (d := 10) (n := n.ai.length) 110 ((List.replicate n.ai.length false).map jE) rfl jV (bf (by simp)) ag) (.nil ?_))
 refine .seq (.sr ?_)
 refine .fa fM ?_
 refine .ld nq ?_
 refine .vl (Y.qu (n := n.cells.length) iZ rfl gx) ?_
 refine .mv ?_
 refine .nil (.block ?_)
 refine .kJ (fun (b9 : Nat) (cN : List Bool) => ⟨[(1, .fp (ab.row n) 0), (7, .fp ([.fH (.func 156) [] [.fp (ab.row n) 0]]) 0), (10, .aR 110 1 0 n.ai.length), (192, .fz 6 (n.cells.map Cell.row)), (193, vi n.cells.length), (194, vi b9)], [(110, .rows 1 (cN.map jE))]⟩) (fun b9 cN => (cN.length = n.ai.length) ∧ ((b9 : Int) ≤ (n.cells.length : Int)) ∧ (qT n b9 cN) ∧ (∀ j, j < b9 → ia n (n.cells.getD j default))) (fun b9 cN => ((n.cells.length : Int) - (b9 : Int)).toNat) 0 (List.replicate n.ai.length false) (⟨fF, fF, qT.init n, fun j hj => by omega⟩) (Le.mk (.c4 (.c (.cons (aq rfl bj) .nil))) (.c .nil)) (fun b9 cN II => ?_)
 obtain ⟨AL, Nl, hd, hc⟩ := II
 refine .sr (.vl (Y.qz rfl rfl) (.nil ?_))
 refine .seq ?_
 refine .a9 rfl (fun IJ => ?_) (fun IJ => ?_)
 refine .skip ?_
 refine .iA (fun (eE : List Bool) => ⟨[(1, .fp (ab.row n) 0), (7, .fp ([.fH (.func 156) [] [.fp (ab.row n) 0]]) 0), (10, .aR 110 1 0 n.ai.length), (192, .fz 6 (n.cells.map Cell.row)), (193, vi n.cells.length), (194, vi b9), (203, .agg [.v (.string n.name), .fz 1 (n.ai.map al), .fz 6 (n.cells.map Cell.row), .fz 1 (n.ins.map al), .fz 5 (n.bh.map oW.row), .fz 3 (n.streams.map gF.row), .fz 1 (n.bQ.map al), .fz 1 (n.data.map al), vi n.freeze, vi n.done, .fz 1 (n.ee.map al)]), (204, .agg [vi ((n.cells.getD b9 default).kind), vi ((n.cells.getD b9 default).op), vi ((n.cells.getD b9 default).out), .fz 1 (((n.cells.getD b9 default).args).map al), .v (.int .u64 (((n.cells.getD b9 default).num : Nat) : Int)), vi ((n.cells.getD b9 default).mem)]), (205, .v (.bool (decide (Shaped n (n.cells.getD b9 default))))), (206, .v (.bool (!decide (Shaped n (n.cells.getD b9 default)))))], [(110, .rows 1 (eE.map jE))]⟩) (fun eE => (eE.length = n.ai.length) ∧ (ia n (n.cells.getD b9 default) ∧ qT n (b9 + 1) eE)) ?_ (fun eE Fw => ?_)
 refine .block (.sr ?_)
 refine .vl (Y.qq (m := b9) iZ rfl rfl bj (ao (d := default) om)) ?_
 refine .vl (Y.qy pZ rfl rfl (bE rfl) rfl rfl) (.alloc 112 m6 rfl rfl ag (.aj yI rfl rfl rfl rfl rfl rfl (bE rfl) rfl ?_))
 refine .nil (.seq (.sr ?_))
 have Nm := hs.args (n.cells.getD b9 default) (eD om)
 refine .fa dZ ?_
 refine .ld cQ ?_
 refine .vl (Y.za rfl rfl rfl rfl) ?_
 refine .br Aq (gh (l := ((n.cells.getD b9 default).args)) (p := fun z => !decide (In z n.ai.length)) (om) Eo (fun z _ => qJ)) rfl (.au rfl rfl (.au rfl rfl .nil)) ag rfl ?_
 refine .mv ?_
 refine .split (d := 202) rfl (fun IK => ?_) (fun IK => ?_)
 refine .gz 202 (.gz 202 (.gz 202 ?_))
 refine .gz 202 ?_
 refine .pk ?_
 refine .nil (.aK rfl (.sr ?_))
 refine .an ?_
 refine .nil (.ret ?_)
 exact .rb rfl (df (fun h => by have h1 := h.cells b9 om; obtain ⟨a1, a2, a3, a4⟩ := h1; first | contradiction | exact absurd a1 (ky.1 ik) | (have := a3 ik; contradiction) | (have := a4 ik; contradiction)))
 refine .gw 202 (Y.qy uJ rfl rfl (bE rfl) rfl rfl) (.gw 202 (Y.qy pZ rfl rfl (bE rfl) rfl rfl) (.aH (d := 202) rfl ag rfl ?_))
 refine .br Ep (rN (n := n) (c := (n.cells.getD b9 default)) hs (by first | assumption | omega)) rfl (.au rfl rfl (.au rfl rfl .nil)) ag rfl (.gw 202 (Y.zi rfl) ?_)
 refine .pk ?_
 refine .nil ?_
 refine .gT rfl (fun IL => ?_) (fun IL => ?_)
 refine .sr ?_
 refine .an ?_
 refine .nil (.ret ?_)
 exact .rb rfl (df (fun h => by have h1 := h.cells b9 om; obtain ⟨a1, a2, a3, a4⟩ := h1; first | contradiction | exact absurd a1 (ky.1 ik) | (have := a3 ik; contradiction) | (have := a4 ik; contradiction)))
 refine .skip (.seq (.sr ?_))
 refine .fa iM ?_
 refine .ld bw ?_
 refine .vl (Y.qk rfl rfl) (.nil ?_)
 refine .a9 rfl (fun IM => ?_) (fun IM => ?_)
 refine .seq (.sr ?_)
 refine .fa jX ?_
 refine .ld bw ?_
 refine .vl (Y.zg rfl rfl) (.nil ?_)
 refine .a9 rfl (fun IN => ?_) (fun IN => ?_)
 refine .sr ?_
 refine .an ?_
 refine .nil (.ret ?_)
 exact .rb rfl (df (fun h => by have h1 := h.cells b9 om; obtain ⟨a1, a2, a3, a4⟩ := h1; first | contradiction | exact absurd a1 (ky.1 ik) | (have := a3 ik; contradiction) | (have := a4 ik; contradiction)))
 refine .skip (.exit ?_)
 exact ⟨cN, ⟨om, ⟨⟨iN ik, ik, fun _ => by omega, fun h => absurd ik h⟩, hd.skip om ik⟩⟩, Le.mk (.c8 (.c (.c .nil))) (.c .nil)⟩
 refine .skip (.seq (.sr ?_))
 refine .ld sT ?_
 refine .fa jX ?_
 refine .ld bw ?_
 refine .js rfl ot (ec (i := ((n.cells.getD b9 default).out))) rfl (.au rfl rfl (.au rfl rfl .nil)) ag rfl (.vl (Y.zi rfl) ?_)
 refine .mv ?_
 refine .lf (d := 219) rfl (fun IP => ?_) (fun IP => ?_)
 refine .gz 219 (.gz 219 (.gz 219 ?_))
 refine .gz 219 (.gz 219 ?_)
 refine .pk ?_
 refine .nil (.aK rfl (.sr ?_))
 refine .an ?_
 refine .nil (.ret ?_)
 exact .rb rfl (df (fun h => by have h1 := h.cells b9 om; obtain ⟨a1, a2, a3, a4⟩ := h1; first | contradiction | exact absurd a1 (ky.1 ik) | (have := a3 ik; contradiction) | (have := a4 ik; contradiction)))
 refine .gw 219 (Y.zd rfl rfl) (.gw 219 (Y.qn jX rfl rfl) (.gw 219 (Y.qx bw rfl rfl rfl rfl) ?_))
 refine .gw 219 (Y.qr (m := ((n.cells.getD b9 default).out).toNat) r4 rfl rfl fF fF) (.gw 219 (Y.qx wy rfl (aT (d := false) fF) rfl rfl) ?_)
 refine .pk ?_
 refine .nil ?_
 refine .cond rfl (fun IQ => ?_) (fun IQ => ?_)
 refine .sr ?_
 refine .an ?_
 refine .nil (.ret ?_)
 exact .rb rfl (df (fun h => qT.dup hd om ik ik ik h))
 refine .skip (.region ?_)
 refine .mv ?_
 refine .fa jX ?_
 refine .ld bw ?_
 refine .vl (Y.qr (m := ((n.cells.getD b9 default).out).toNat) r4 rfl rfl fF fF) (.jT ((cN.set (((n.cells.getD b9 default).out).toNat) true).map jE) KG rfl rfl rfl rfl rfl rfl rfl (aT (d := false) fF) (bE rfl) (ga rfl) (.nil (⟨cN.set (((n.cells.getD b9 default).out).toNat) true, ⟨fF, ⟨⟨iN ik, ik, fun h => absurd h ik, fun _ => by assumption⟩, hd.step om ik ik AL ik⟩⟩, Le.mk (.c8 (.c (.c .nil))) (.c .nil)⟩)))
 obtain ⟨Dd, z8⟩ := Fw
 refine .region (.vl (Y.qb rfl rfl om) ?_)
 refine .mv ?_
 refine .nil (⟨b9 + 1, eE, ⟨om, om, z8.2, fe hc z8.1⟩, om, Le.mk (.c4 (.c (.cons (aq rfl bj) .nil))) (.c .nil)⟩)
 refine .exit (.sr ?_)
 refine .mv ?_
 refine .Bp [110] Er (lW (l := cN) (b := false) (om)) rfl (.eJ rfl rfl (yx om) (yy om) (.au rfl rfl .nil)) (DZ rfl (vS sP)) ag rfl trivial (.vl (Y.zi rfl) ?_)
 refine .an ?_
 refine .nil (.ret ?_)
 exact .rb rfl (db ((qT.all (d := cN) (by rw [show n.cells.length = b9 by omega]; exact hd) AL).trans ⟨fun h => ⟨ik, om, om, om, om, om, om, fun j hj => by have := hw j (by rw [List.length_append] at hj; omega); rw [Fv] at this; exact this, fun j hj => hm j om, fun j hj => vD j om, ik, ik, iN ik, fun j hj => hc j om, h⟩, fun h => h.ju⟩))
open Go Go.AW Go.Proofs
theorem uX {n : ab} {c : Cell} (hs : n.Small) (hc : c.args.length ≤ 17592186043904) (hn : c.num < 18446744073709551616) (z9 : Shaped n c) (hw : tY n c) : ak Try.prog 164 [.agg (ab.row n), .agg (Cell.row c)] [] [] (fun r o => r = .v (.bool (decide (Fits n c))) ∧ o = []) := by
 refine ak.of Try.func164 rfl rfl rfl (n := 239) ag (bE rfl) ?_
 have GG := hs.ins; have GH := hs.bh; have I2 := hs.streams; have ho := hw.out; have KW := hs.ai
 refine .sr (.box 102 rfl rfl rfl rfl rfl ag (.box 103 rfl rfl rfl rfl rfl ag ?_))
 refine .an ?_
 refine .nil (.sr ?_)
 refine .an ?_
 refine .nil ?_
 refine .iA (fun (fB : Int) => ⟨[(2, .ptr 102 0 0 0), (3, .ptr 103 0 0 0), (5, vi fB)], [(102, .cells (ab.row n)), (103, .cells (Cell.row c))]⟩) (fun fB => fB = n.ow c) ?_ (fun fB th => ?_)
 refine .sr ?_
 refine .fa jX ?_
 refine .ld bw ?_
 refine .vl (Y.qo rfl rfl) (.nil ?_)
 refine .a9 rfl (fun AI => ?_) (fun AI => ?_)
 refine .region ?_
 refine .fa eY ?_
 refine .ld cQ ?_
 refine .fa jX ?_
 refine .ld bw ?_
 refine .vl (Y.qq (m := (c.out).toNat) az rfl rfl om (ao (d := 0) om)) ?_
 refine .ld bw ?_
 refine .an ?_
 refine .nil ⟨n.ai.getD ((c.out).toNat) 0, by unfold ab.ow ab.wd; rw [if_pos AI], Le.mk (.c2 (.cons (aq rfl bj) .nil)) (.c (.c .nil))⟩
 refine .skip ⟨0, by unfold ab.ow; rw [if_neg AI], Le.mk (.c2 (.cons (aq rfl bj) .nil)) (.c (.c .nil))⟩
 refine .sr ?_
 refine .fa dZ ?_
 refine .ld cQ ?_
 refine .vl (Y.qu (n := c.args.length) az rfl gx) (.makeSlice (n := c.args.length) az fX rfl rfl rfl rfl om om ag ?_)
 refine .bx rfl ag (.sh (Sh.fL (d := 6) (n := c.args.length) 106 ((List.replicate c.args.length 0).map al) rfl jV (bf (by simp)) ag) (.nil ?_))
 refine .seq (.sr ?_)
 refine .fa dZ ?_
 refine .ld cQ ?_
 refine .vl (Y.qu (n := c.args.length) az rfl gx) ?_
 refine .mv ?_
 refine .nil (.block ?_)
 refine .kJ (fun (gB : Nat) (iQ : List Int) => ⟨[(2, .ptr 102 0 0 0), (3, .ptr 103 0 0 0), (5, vi fB), (6, .aR 106 1 0 c.args.length), (25, .fz 1 (c.args.map al)), (26, vi c.args.length), (27, vi gB)], [(102, .cells (ab.row n)), (103, .cells (Cell.row c)), (106, .rows 1 (iQ.map al))]⟩) (fun gB iQ => (iQ.length = c.args.length) ∧ ((gB : Int) ≤ (c.args.length : Int)) ∧ (∀ j, j < gB → iQ.getD j 0 = n.av c j)) (fun gB iQ => ((c.args.length : Int) - (gB : Int)).toNat) 0 (List.replicate c.args.length 0) (⟨pt, pt, fun j hj => by omega⟩) (Le.mk (.c4 (.c2 (.cons (aq rfl bj) .nil))) (.c2 (.c .nil))) (fun gB iQ IS => ?_)
 obtain ⟨xm, OL, ha⟩ := IS
 refine .sr (.vl (Y.qz rfl rfl) (.nil ?_))
 refine .seq ?_
 refine .a9 rfl (fun qG => ?_) (fun qG => ?_)
 refine .skip (.seq (.block ?_))
 refine .sr ?_
 refine .mv ?_
 refine .vl (Y.qq (m := gB) az rfl rfl bj (ao (d := 0) om)) ?_
 refine .ld bw ?_
 refine .an ?_
 refine .an ?_
 refine .nil (.region ?_)
 have OM := hw.arg (k := gB) om
 refine .mv ?_
 refine .mv ?_
 refine .fa eY ?_
 refine .ld cQ ?_
 refine .mv ?_
 refine .vl (Y.qq (m := (c.args.getD gB 0).toNat) az rfl rfl om (ao (d := 0) om)) ?_
 refine .ld bw ?_
 refine .vl (Y.qr (m := gB) az rfl rfl bj om) (.jT ((iQ.set gB (n.ai.getD ((c.args.getD gB 0).toNat) 0)).map al) cJ rfl rfl rfl rfl rfl rfl rfl (aT (d := 0) om) (bE rfl) (ga rfl) ?_)
 refine .nil (.region ?_)
 refine .vl (Y.qb rfl rfl aF) ?_
 refine .mv ?_
 refine .nil (⟨gB + 1, iQ.set gB (n.ai.getD ((c.args.getD gB 0).toNat) 0), ⟨pt, pt, uN ha rfl om⟩, om, Le.mk (.c4 (.c2 (.cons (aq rfl bj) .nil))) (.c2 (.c .nil))⟩)
 refine .exit (.seq (.seq ?_))
 have ON : 0 < c.args.length → iQ.getD 0 0 = n.av c 0 := fun h => ha 0 om
 have KX : 1 < c.args.length → iQ.getD 1 0 = n.av c 1 := fun h => ha 1 om
 have OO : 2 < c.args.length → iQ.getD 2 0 = n.av c 2 := fun h => ha 2 om
 refine .region ?_
 refine .fa iM ?_
 refine .ld bw ?_
 refine .nil (.block (.sr ?_))
 refine .vl (Y.qk rfl rfl) ?_
 refine .an ?_
 refine .nil ?_
 refine .a9 rfl (fun I4 => ?_) (fun I4 => ?_)
 refine .seq (.cC rfl (.blind 0 rfl aU (aE.move rfl rfl) ag ?_))
 refine .blind 1 rfl aU (aE.fieldAddr dQ rfl rfl) ag (.blind 4 rfl aU (aE.fieldAddr dQ rfl rfl) ag ?_)
 refine .two 2 5 rfl rfl aU ?_ ?_
 refine .ld gb ?_
 refine .nil ⟨rfl, ?_⟩
 refine .two 3 5 rfl rfl aU ?_ ?_
 refine .br oq (fQ (w := fB) (x := c.num) (om)) rfl (.au rfl rfl (.au rfl rfl .nil)) ag rfl ?_
 refine .nil ⟨rfl, ?_⟩
 refine .bl (n := 0) [5, 6, 7] [] 0 rfl aU (.cn 5 rfl (Y.qx gb rfl rfl rfl rfl) (.cn 6 rfl (Y.qk rfl rfl) ?_))
 refine .cn 7 rfl (Y.qe rfl rfl) (.nil (.done aU ?_))
 refine .ret (.rb rfl (dd sy))
 refine .ld gb ?_
 refine .nil ⟨rfl, ?_⟩
 refine .one 3 rfl aU (.br oq (fQ (w := fB) (x := c.num) (om)) rfl (.au rfl rfl (.au rfl rfl .nil)) ag rfl ?_)
 refine .nil ⟨rfl, ?_⟩
 refine .bl (n := 0) [6, 7] [] 0 rfl aU (.cn 6 rfl (Y.qk rfl rfl) (.cn 7 rfl (Y.qe rfl rfl) ?_))
 refine .nil (.done aU (.ret ?_))
 exact .rb rfl (dd sy)
 refine .ld gb ?_
 refine .nil ⟨rfl, ?_⟩
 refine .bl (n := 3) [2] [3, 6, 7] 3 rfl aU (.cn 2 rfl (Y.qx gb rfl rfl rfl rfl) (.nil ?_))
 refine .one 3 rfl aU (.br oq (fQ (w := fB) (x := c.num) (om)) rfl (.au rfl rfl (.au rfl rfl .nil)) ag rfl ?_)
 refine .nil ⟨rfl, ?_⟩
 refine .bl (n := 0) [6, 7] [] 0 rfl aU (.cn 6 rfl (Y.qk rfl rfl) (.cn 7 rfl (Y.qe rfl rfl) ?_))
 refine .nil (.done aU (.ret ?_))
 exact .rb rfl (dd sy)
 refine .sr (.vl (Y.qk rfl rfl) ?_)
 refine .an ?_
 refine .nil ?_
 refine .a9 rfl (fun vy => ?_) (fun vy => ?_)
 have hk := z9.k2 vy
 refine .seq (.sr ?_)
 refine .fa dY ?_
 refine .ld bw ?_
 refine .nil (.block (.sr ?_))
 refine .vl (Y.qk rfl rfl) ?_
 refine .an ?_
 refine .nil ?_
 refine .a9 rfl (fun IT => ?_) (fun IT => ?_)
 refine .sr ?_
 refine .mv ?_
 refine .vl (Y.qr (m := 0) az rfl rfl bj aF) (.vl (Y.qx bw rfl (aT (d := 0) om) rfl rfl) (.vl (Y.qk rfl rfl) ?_))
 refine .mv ?_
 refine .aw (d := 62) rfl (fun Nn => ?_) (fun Nn => ?_)
 refine .gw 62 (Y.zd rfl rfl) (.gw 62 (Y.qr (m := 1) az rfl rfl bj om) (.gw 62 (Y.qx bw rfl (aT (d := 0) om) rfl rfl) ?_))
 refine .gw 62 (Y.zd rfl rfl) (.gw 62 (Y.qk rfl rfl) ?_)
 refine .pk ?_
 refine .mv ?_
 refine .aw (d := 69) rfl (fun No => ?_) (fun No => ?_)
 refine .gw 69 (Y.zd rfl rfl) (.gw 69 (Y.qr (m := 2) az rfl rfl bj om) (.gw 69 (Y.qx bw rfl (aT (d := 0) om) rfl rfl) ?_))
 refine .gw 69 (Y.zd rfl rfl) (.gw 69 (Y.qk rfl rfl) ?_)
 refine .pk ?_
 refine .an ?_
 refine .nil (.ret ?_)
 exact .rb rfl (dd (by (simp only [Fits, bR, eo, ← th, vy, Int.reduceEq, Bool.not_eq_true, false_and, true_and, and_true, and_false, or_false, false_or, ne_eq]) <;> omega))
 refine .gz 69 (.gz 69 (.gz 69 ?_))
 refine .gz 69 (.gz 69 ?_)
 refine .pk ?_
 refine .an ?_
 refine .nil (.ret ?_)
 exact .rb rfl (df (by (simp only [Fits, bR, eo, ← th, vy, Int.reduceEq, Bool.not_eq_true, false_and, true_and, and_true, and_false, or_false, false_or, ne_eq]) <;> omega))
 refine .gz 62 (.gz 62 (.gz 62 ?_))
 refine .gz 62 (.gz 62 ?_)
 refine .pk ?_
 refine .mv ?_
 refine .gz 69 (.gz 69 (.gz 69 ?_))
 refine .gz 69 (.gz 69 ?_)
 refine .pk ?_
 refine .an ?_
 refine .nil (.ret ?_)
 exact .rb rfl (df (by (simp only [Fits, bR, eo, ← th, vy, Int.reduceEq, Bool.not_eq_true, false_and, true_and, and_true, and_false, or_false, false_or, ne_eq]) <;> omega))
 refine .seq (.sr (.vl (Y.qk rfl rfl) ?_))
 refine .an ?_
 refine .nil ?_
 refine .aZ rfl (fun Fs => ?_) (fun Fs => ?_)
 refine .skip (.aK rfl (.sr ?_))
 refine .mv ?_
 refine .vl (Y.qr (m := 0) az rfl rfl bj aF) (.vl (Y.qx bw rfl (aT (d := 0) om) rfl rfl) ?_)
 refine .mv ?_
 refine .vl (Y.qw rfl rfl) ?_
 refine .an ?_
 refine .nil (.ret ?_)
 exact .rb rfl (dd (by (simp only [Fits, bR, eo, ← th, vy, Int.reduceEq, Bool.not_eq_true, false_and, true_and, and_true, and_false, or_false, false_or, ne_eq]) <;> omega))
 refine .region (.vl (Y.qk rfl rfl) ?_)
 refine .an ?_
 refine .nil ?_
 refine .aZ rfl (fun Fs => ?_) (fun Fs => ?_)
 refine .sr ?_
 refine .mv ?_
 refine .vl (Y.qr (m := 0) az rfl rfl bj aF) (.vl (Y.qx bw rfl (aT (d := 0) om) rfl rfl) ?_)
 refine .mv ?_
 refine .vl (Y.qw rfl rfl) ?_
 refine .an ?_
 refine .nil (.ret ?_)
 exact .rb rfl (dd (by (simp only [Fits, bR, eo, ← th, vy, Int.reduceEq, Bool.not_eq_true, false_and, true_and, and_true, and_false, or_false, false_or, ne_eq]) <;> omega))
 refine .sr (.vl (Y.qk rfl rfl) ?_)
 refine .an ?_
 refine .nil ?_
 refine .a9 rfl (fun Np => ?_) (fun Np => ?_)
 refine .sr ?_
 refine .mv ?_
 refine .vl (Y.qr (m := 0) az rfl rfl bj aF) (.vl (Y.qx bw rfl (aT (d := 0) om) rfl rfl) ?_)
 refine .mv ?_
 refine .vl (Y.qo rfl rfl) ?_
 refine .an ?_
 refine .nil (.ret ?_)
 exact .rb rfl (dd (by (simp only [Fits, bR, eo, ← th, vy, Int.reduceEq, Bool.not_eq_true, false_and, true_and, and_true, and_false, or_false, false_or, ne_eq]) <;> omega))
 refine .skip (.seq (.sr ?_))
 refine .fa dY ?_
 refine .ld bw ?_
 refine .br E5 (oC (w := c.op)) rfl (.au rfl rfl .nil) ag rfl (.nil ?_)
 refine .a9 rfl (fun xn => ?_) (fun xn => ?_)
 unfold eo at xn
 refine .seq (.iz rfl aU (.val (Y.zd rfl rfl) ag ?_))
 refine .val (Y.qk rfl rfl) ag (.val (Y.zd rfl rfl) ag ?_)
 refine .aw (d := 96) rfl (fun IB => ?_) (fun IB => ?_)
 refine .aH (d := 96) rfl ag rfl (.val (Y.zd rfl rfl) ag (.aH (d := 96) rfl ag rfl ?_))
 refine .val (Y.qr (m := 0) az rfl rfl bj om) ag (.aH (d := 96) rfl ag rfl (.val (Y.qx bw rfl (aT (d := 0) om) rfl rfl) ag ?_))
 refine .aH (d := 96) rfl ag rfl (.val (Y.zd rfl rfl) ag (.aH (d := 96) rfl ag rfl ?_))
 refine .val (Y.qr (m := 1) az rfl rfl bj om) ag (.aH (d := 96) rfl ag rfl (.val (Y.qx bw rfl (aT (d := 0) om) rfl rfl) ag ?_))
 refine .aH (d := 96) rfl ag rfl (.val (Y.qk rfl rfl) ag (.val (Y.zj rfl rfl rfl) ag ?_))
 refine .val (Y.qe rfl rfl) ag (.nil (.ret ?_))
 exact .rb rfl (dd (by (simp only [Fits, bR, eo, ← th, vy, Int.reduceEq, Bool.not_eq_true, false_and, true_and, and_true, and_false, or_false, false_or, ne_eq]) <;> omega))
 refine .aA (d := 96) rfl ag ag rfl rfl (.aA (d := 96) rfl ag ag rfl rfl (.aA (d := 96) rfl ag ag rfl rfl ?_))
 refine .aA (d := 96) rfl ag ag rfl rfl (.aA (d := 96) rfl ag ag rfl rfl (.aA (d := 96) rfl ag ag rfl rfl ?_))
 refine .aA (d := 96) rfl ag ag rfl rfl (.val (Y.zj rfl rfl rfl) ag (.val (Y.qe rfl rfl) ag ?_))
 refine .nil (.ret ?_)
 exact .rb rfl (df (by (simp only [Fits, bR, eo, ← th, vy, Int.reduceEq, Bool.not_eq_true, false_and, true_and, and_true, and_false, or_false, false_or, ne_eq]) <;> omega))
 unfold eo at xn
 refine .skip (.sr ?_)
 refine .mv ?_
 refine .vl (Y.qr (m := 0) az rfl rfl bj aF) (.vl (Y.qx bw rfl (aT (d := 0) om) rfl rfl) ?_)
 refine .mv ?_
 refine .vl (Y.qk rfl rfl) ?_
 refine .mv ?_
 refine .aw (d := 110) rfl (fun xg => ?_) (fun xg => ?_)
 refine .gw 110 (Y.zd rfl rfl) (.gw 110 (Y.qr (m := 1) az rfl rfl bj om) (.gw 110 (Y.qx bw rfl (aT (d := 0) om) rfl rfl) ?_))
 refine .gw 110 (Y.zd rfl rfl) (.gw 110 (Y.qk rfl rfl) ?_)
 refine .pk ?_
 refine .an ?_
 refine .nil (.ret ?_)
 exact .rb rfl (dd (by (simp only [Fits, bR, eo, ← th, vy, Int.reduceEq, Bool.not_eq_true, false_and, true_and, and_true, and_false, or_false, false_or, ne_eq]) <;> omega))
 refine .gz 110 (.gz 110 (.gz 110 ?_))
 refine .gz 110 (.gz 110 ?_)
 refine .pk ?_
 refine .an ?_
 refine .nil (.ret ?_)
 exact .rb rfl (df (by (simp only [Fits, bR, eo, ← th, vy, Int.reduceEq, Bool.not_eq_true, false_and, true_and, and_true, and_false, or_false, false_or, ne_eq]) <;> omega))
 refine .sr (.vl (Y.qk rfl rfl) ?_)
 refine .an ?_
 refine .nil ?_
 refine .a9 rfl (fun kG => ?_) (fun kG => ?_)
 have hk := z9.k3 kG
 refine .seq (.sr ?_)
 refine .mv ?_
 refine .vl (Y.qu (n := c.args.length) az rfl rfl) ?_
 refine .mv ?_
 refine .nil (.block ?_)
 refine .j7 (fun (bz : Nat) => ⟨[(5, vi fB), (119, .aR 106 1 0 c.args.length), (120, vi c.args.length), (121, vi bz)], [(106, .rows 1 (iQ.map al))]⟩) (fun bz => ((bz : Int) ≤ (c.args.length : Int)) ∧ (∀ k, k < bz → gZ n c k)) (fun bz => ((c.args.length : Int) - (bz : Int)).toNat) 0 (⟨om, fun k hk => by omega⟩) (Le.mk (.c2 (.c (.cons (aq rfl bj) .nil))) (.c .nil)) (fun bz Co => ?_)
 obtain ⟨IU, hm⟩ := Co
 refine .sr (.vl (Y.qz rfl rfl) (.nil ?_))
 refine .seq ?_
 refine .a9 rfl (fun Cp => ?_) (fun Cp => ?_)
 refine .skip ?_
 refine .lI (fun (ie : Bool) (ig : Bool) => ⟨[(5, vi fB), (119, .aR 106 1 0 c.args.length), (120, vi c.args.length), (121, vi bz), (134, vi bz), (135, vi ((bz : Int) % 2)), (136, .v (.bool (decide (((bz : Int) % 2) = 1)))), (137, .v (.bool ie)), (141, .v (.bool ig))], [(106, .rows 1 (iQ.map al))]⟩) (fun ie ig => ((((bz : Int) % 2) = 0) ∧ (¬ ((iQ.getD bz 0) ≠ 1)) ∧ (((bz : Int) % 2) = 1) ∧ (¬ ((iQ.getD bz 0) ≠ fB)) ∧ (ie = true) ∧ (ig = (decide ((iQ.getD bz 0) ≠ fB)))) ∨ ((((bz : Int) % 2) = 0) ∧ (¬ ((iQ.getD bz 0) ≠ 1)) ∧ (¬ (((bz : Int) % 2) = 1)) ∧ (ie = false) ∧ (ig = false)) ∨ ((¬ (((bz : Int) % 2) = 0)) ∧ (((bz : Int) % 2) = 1) ∧ (¬ ((iQ.getD bz 0) ≠ fB)) ∧ (ie = true) ∧ (ig = (decide ((iQ.getD bz 0) ≠ fB)))) ∨ ((¬ (((bz : Int) % 2) = 0)) ∧ (¬ (((bz : Int) % 2) = 1)) ∧ (ie = false) ∧ (ig = false))) ?_ (fun ie ig Nq => ?_)
 refine .block (.sr ?_)
 refine .mv ?_
 refine .vl (Y.qr (m := bz) az rfl rfl bj om) (.vl (Y.qx bw rfl (aT (d := 0) om) rfl rfl) ?_)
 refine .an ?_
 refine .an ?_
 refine .nil (.sr ?_)
 refine .mv ?_
 refine .vl (Y.zn rfl rfl aF) (.vl (Y.qk rfl rfl) ?_)
 refine .mv ?_
 refine .aw (d := 129) rfl (fun xo => ?_) (fun xo => ?_)
 refine .gw 129 (Y.zd rfl rfl) (.gw 129 (Y.zg rfl rfl) ?_)
 refine .pk ?_
 refine .mv ?_
 refine .aw (d := 133) rfl (fun Cq => ?_) (fun Cq => ?_)
 refine .gz 133 (.gz 133 (.gz 133 ?_))
 refine .gz 133 (.gz 137 (.gz 137 ?_))
 refine .gz 137 (.gz 133 ?_)
 refine .pk ?_
 refine .nil (.aK rfl (.sr ?_))
 refine .an ?_
 refine .nil (.ret ?_)
 exact .rb rfl (df (fun h => by simp only [Fits, kG, Int.reduceEq, Bool.not_eq_true, false_and, true_and, and_true, and_false, or_false, false_or, ne_eq] at h; have h1 := h bz om; have h2 := ha bz om; unfold gZ at h1; omega))
 refine .gw 133 (Y.zd rfl rfl) (.gw 133 (Y.zn rfl rfl om) ?_)
 refine .gw 133 (Y.qk rfl rfl) (.gw 133 (Y.zd rfl rfl) ?_)
 refine .aw (d := 137) rfl (fun ti => ?_) (fun ti => ?_)
 refine .gw 137 (Y.zd rfl rfl) (.gw 137 (Y.zd rfl rfl) (.gw 137 (Y.zg rfl rfl) ?_))
 refine .gw 133 (Y.zj rfl rfl rfl) ?_
 refine .pk ?_
 refine .nil ?_
 refine .a9 rfl (fun xp => ?_) (fun xp => ?_)
 refine .sr ?_
 refine .an ?_
 refine .nil (.ret ?_)
 exact .rb rfl (df (fun h => by simp only [Fits, kG, Int.reduceEq, Bool.not_eq_true, false_and, true_and, and_true, and_false, or_false, false_or, ne_eq] at h; have h1 := h bz om; have h2 := ha bz om; unfold gZ at h1; omega))
 refine .skip (⟨true, decide ((iQ.getD bz 0) ≠ fB), .inl ⟨xo, Cq, ti, xp, rfl, rfl⟩, Le.mk (.c4 (.c2 (.c (.cons (bo rfl mi) (.cons (bo rfl mi) .nil))))) (.c .nil)⟩)
 refine .gz 137 (.gz 137 (.gz 137 ?_))
 refine .gw 133 (Y.zj rfl rfl rfl) ?_
 refine .pk ?_
 refine .nil (.cT rfl (.skip ?_))
 exact ⟨false, false, .inr (.inl ⟨xo, Cq, ti, rfl, rfl⟩), Le.mk (.c4 (.c2 (.c (.cons (bo rfl mi) (.cons (bo rfl mi) .nil))))) (.c .nil)⟩
 refine .gz 129 (.gz 129 ?_)
 refine .pk ?_
 refine .mv ?_
 refine .gw 133 (Y.zd rfl rfl) (.gw 133 (Y.zn rfl rfl om) ?_)
 refine .gw 133 (Y.qk rfl rfl) (.gw 133 (Y.zd rfl rfl) ?_)
 refine .aw (d := 137) rfl (fun ti => ?_) (fun ti => ?_)
 refine .gw 137 (Y.zd rfl rfl) (.gw 137 (Y.zd rfl rfl) (.gw 137 (Y.zg rfl rfl) ?_))
 refine .gw 133 (Y.zj rfl rfl rfl) ?_
 refine .pk ?_
 refine .nil ?_
 refine .a9 rfl (fun xp => ?_) (fun xp => ?_)
 refine .sr ?_
 refine .an ?_
 refine .nil (.ret ?_)
 exact .rb rfl (df (fun h => by simp only [Fits, kG, Int.reduceEq, Bool.not_eq_true, false_and, true_and, and_true, and_false, or_false, false_or, ne_eq] at h; have h1 := h bz om; have h2 := ha bz om; unfold gZ at h1; omega))
 refine .skip (⟨true, decide ((iQ.getD bz 0) ≠ fB), .inr (.inr (.inl ⟨xo, ti, xp, rfl, rfl⟩)), Le.mk (.c4 (.c2 (.c (.cons (bo rfl mi) (.cons (bo rfl mi) .nil))))) (.c .nil)⟩)
 refine .gz 137 (.gz 137 (.gz 137 ?_))
 refine .gw 133 (Y.zj rfl rfl rfl) ?_
 refine .pk ?_
 refine .nil (.cT rfl (.skip ?_))
 exact ⟨false, false, .inr (.inr (.inr (⟨xo, ti, rfl, rfl⟩))), Le.mk (.c4 (.c2 (.c (.cons (bo rfl mi) (.cons (bo rfl mi) .nil))))) (.c .nil)⟩
 refine .region (.vl (Y.qb rfl rfl aF) ?_)
 refine .mv ?_
 refine .nil (⟨bz + 1, ⟨om, wH hm (by have h2 := ha bz om; unfold gZ; omega)⟩, om, Le.mk (.c2 (.c (.cons (aq rfl bj) .nil))) (.c .nil)⟩)
 refine .exit (.sr ?_)
 refine .an ?_
 refine .nil (.ret ?_)
 exact .rb rfl (dt (by simp only [Fits, kG, Int.reduceEq, Bool.not_eq_true, false_and, true_and, and_true, and_false, or_false, false_or, ne_eq]; exact fun k hk => hm k om))
 refine .sr (.vl (Y.qk rfl rfl) ?_)
 refine .an ?_
 refine .nil ?_
 refine .a9 rfl (fun z7 => ?_) (fun z7 => ?_)
 have hk := z9.k4 z7
 refine .seq (.cC rfl (.blind 0 rfl aU (aE.move rfl rfl) ag ?_))
 refine .one 1 rfl aU (.vl (Y.qr (m := 0) az rfl rfl bj aF) ?_)
 refine .nil ⟨rfl, ?_⟩
 refine .one 2 rfl aU (.vl (Y.qx bw rfl (aT (d := 0) om) rfl rfl) ?_)
 refine .nil ⟨rfl, ?_⟩
 refine .one 3 rfl aU (.vl (Y.qk rfl rfl) ?_)
 refine .nil ⟨rfl, ?_⟩
 refine .blind 4 rfl aU (aE.move rfl rfl) ag ?_
 refine .aw (d := 150) rfl (fun IV => ?_) (fun IV => ?_)
 refine .gW 5 rfl aU rfl ag rfl (aE.move rfl rfl) ag (.gW 8 rfl aU rfl ag rfl (aE.move rfl rfl) ag (.one 6 rfl aU ?_))
 refine .gw 150 (Y.qr (m := 1) az rfl rfl bj om) ?_
 refine .nil ⟨rfl, ?_⟩
 refine .one 7 rfl aU (.gw 150 (Y.qx bw rfl (aT (d := 0) om) rfl rfl) ?_)
 refine .nil ⟨rfl, ?_⟩
 refine .one 9 rfl aU (.gw 150 (Y.qk rfl rfl) ?_)
 refine .nil ⟨rfl, ?_⟩
 refine .one 10 rfl aU ?_
 refine .pk ?_
 refine .nil ⟨rfl, ?_⟩
 refine .blind 11 rfl aU (aE.move rfl rfl) ag ?_
 refine .aw (d := 157) rfl (fun IW => ?_) (fun IW => ?_)
 refine .gW 12 rfl aU rfl ag rfl (aE.move rfl rfl) ag (.gW 13 rfl aU rfl ag rfl (aE.fieldAddr dQ rfl rfl) ag (.gW 16 rfl aU rfl ag rfl (aE.fieldAddr dQ rfl rfl) ag ?_))
 refine .two 14 17 rfl rfl aU ?_ ?_
 refine .gw 157 (Y.qx gb rfl rfl rfl rfl) ?_
 refine .nil ⟨rfl, ?_⟩
 refine .two 15 17 rfl rfl aU ?_ ?_
 refine .aH (d := 157) rfl ag rfl (.br oq (fQ (w := fB) (x := c.num) (om)) rfl (.au rfl rfl (.au rfl rfl .nil)) ag rfl ?_)
 refine .nil ⟨rfl, ?_⟩
 refine .bl (n := 0) [17, 18, 19, 20] [] 0 rfl aU (.rn 17 rfl rfl rfl (Y.qx gb rfl rfl rfl rfl) (.rn 18 rfl rfl rfl (Y.qk rfl rfl) ?_))
 refine .cn 19 rfl (Y.zj rfl rfl rfl) (.cn 20 rfl (Y.qe rfl rfl) (.nil ?_))
 refine .done aU (.ret ?_)
 exact .rb rfl (dd sy)
 refine .gw 157 (Y.qx gb rfl rfl rfl rfl) ?_
 refine .nil ⟨rfl, ?_⟩
 refine .one 15 rfl aU (.aH (d := 157) rfl ag rfl ?_)
 refine .br oq (fQ (w := fB) (x := c.num) (om)) rfl (.au rfl rfl (.au rfl rfl .nil)) ag rfl ?_
 refine .nil ⟨rfl, ?_⟩
 refine .bl (n := 0) [18, 19, 20] [] 0 rfl aU (.rn 18 rfl rfl rfl (Y.qk rfl rfl) (.cn 19 rfl (Y.zj rfl rfl rfl) ?_))
 refine .cn 20 rfl (Y.qe rfl rfl) (.nil (.done aU ?_))
 refine .ret (.rb rfl (dd sy))
 refine .gw 157 (Y.qx gb rfl rfl rfl rfl) ?_
 refine .nil ⟨rfl, ?_⟩
 refine .bl (n := 4) [14] [15, 18, 19, 20] 15 rfl aU (.rn 14 rfl rfl rfl (Y.qx gb rfl rfl rfl rfl) (.nil ?_))
 refine .one 15 rfl aU (.aH (d := 157) rfl ag rfl ?_)
 refine .br oq (fQ (w := fB) (x := c.num) (om)) rfl (.au rfl rfl (.au rfl rfl .nil)) ag rfl ?_
 refine .nil ⟨rfl, ?_⟩
 refine .bl (n := 0) [18, 19, 20] [] 0 rfl aU (.rn 18 rfl rfl rfl (Y.qk rfl rfl) (.cn 19 rfl (Y.zj rfl rfl rfl) ?_))
 refine .cn 20 rfl (Y.qe rfl rfl) (.nil (.done aU ?_))
 refine .ret (.rb rfl (dd sy))
 refine .bH 12 rfl aU rfl ag ag rfl rfl (.bH 13 rfl aU rfl ag ag rfl rfl (.bH 14 rfl aU rfl ag ag rfl rfl ?_))
 refine .bH 15 rfl aU rfl ag ag rfl rfl (.bH 16 rfl aU rfl ag ag rfl rfl (.bH 17 rfl aU rfl ag ag rfl rfl ?_))
 refine .bH 18 rfl aU rfl ag ag rfl rfl (.bl (n := 0) [19, 20] [] 0 rfl aU (.cn 19 rfl (Y.zj rfl rfl rfl) ?_))
 refine .cn 20 rfl (Y.qe rfl rfl) (.nil (.done aU ?_))
 refine .ret (.rb rfl (df sy))
 refine .bH 5 rfl aU rfl ag ag rfl rfl (.bH 6 rfl aU rfl ag ag rfl rfl (.bH 7 rfl aU rfl ag ag rfl rfl ?_))
 refine .bH 8 rfl aU rfl ag ag rfl rfl (.bH 9 rfl aU rfl ag ag rfl rfl (.one 10 rfl aU ?_))
 refine .pk ?_
 refine .nil ⟨rfl, ?_⟩
 refine .blind 11 rfl aU (aE.move rfl rfl) ag (.bH 12 rfl aU rfl ag ag rfl rfl (.bH 13 rfl aU rfl ag ag rfl rfl ?_))
 refine .bH 14 rfl aU rfl ag ag rfl rfl (.bH 15 rfl aU rfl ag ag rfl rfl (.bH 16 rfl aU rfl ag ag rfl rfl ?_))
 refine .bH 17 rfl aU rfl ag ag rfl rfl (.bH 18 rfl aU rfl ag ag rfl rfl (.bl (n := 0) [19, 20] [] 0 rfl aU ?_))
 refine .cn 19 rfl (Y.zj rfl rfl rfl) (.cn 20 rfl (Y.qe rfl rfl) (.nil ?_))
 refine .done aU (.ret ?_)
 exact .rb rfl (df sy)
 refine .sr (.vl (Y.qk rfl rfl) ?_)
 refine .an ?_
 refine .nil ?_
 refine .a9 rfl (fun Fx => ?_) (fun Fx => ?_)
 have hk := z9.k5 Fx
 refine .sr ?_
 refine .mv ?_
 refine .vl (Y.qr (m := 0) az rfl rfl bj aF) (.vl (Y.qx bw rfl (aT (d := 0) om) rfl rfl) ?_)
 refine .mv ?_
 refine .vl (Y.qk rfl rfl) ?_
 refine .mv ?_
 refine .aw (d := 173) rfl (fun IX => ?_) (fun IX => ?_)
 refine .gw 173 (Y.zd rfl rfl) (.gw 173 (Y.qr (m := 1) az rfl rfl bj om) (.gw 173 (Y.qx bw rfl (aT (d := 0) om) rfl rfl) ?_))
 refine .gw 173 (Y.zd rfl rfl) (.gw 173 (Y.qk rfl rfl) ?_)
 refine .pk ?_
 refine .an ?_
 refine .nil (.ret ?_)
 exact .rb rfl (dd sy)
 refine .gz 173 (.gz 173 (.gz 173 ?_))
 refine .gz 173 (.gz 173 ?_)
 refine .pk ?_
 refine .an ?_
 refine .nil (.ret ?_)
 exact .rb rfl (df sy)
 refine .sr (.vl (Y.qk rfl rfl) ?_)
 refine .an ?_
 refine .nil ?_
 refine .a9 rfl (fun Fy => ?_) (fun Fy => ?_)
 have hk := z9.k6 Fy
 refine .sr ?_
 refine .mv ?_
 refine .vl (Y.qr (m := 0) az rfl rfl bj aF) (.vl (Y.qx bw rfl (aT (d := 0) om) rfl rfl) (.vl (Y.qk rfl rfl) ?_))
 refine .mv ?_
 refine .aw (d := 186) rfl (fun Cm => ?_) (fun Cm => ?_)
 refine .gw 186 (Y.qn m5 rfl rfl) (.gw 186 (Y.qx uI rfl rfl rfl rfl) (.gw 186 (Y.qn cE rfl rfl) ?_))
 refine .gw 186 (Y.qx bw rfl rfl rfl rfl) (.gw 186 (Y.qq (m := (c.mem).toNat) sU rfl rfl om (ao (d := default) om)) ?_)
 refine .gw 186 (Y.qn pX rfl rfl) (.gw 186 (Y.qx bw rfl rfl rfl rfl) (.gw 186 (Y.zd rfl rfl) ?_))
 refine .gw 186 (Y.qk rfl rfl) ?_
 refine .pk ?_
 refine .an ?_
 refine .nil (.ret ?_)
 exact .rb rfl (dd sy)
 refine .gz 186 (.gz 186 (.gz 186 ?_))
 refine .gz 186 (.gz 186 (.gz 186 ?_))
 refine .gz 186 (.gz 186 (.gz 186 ?_))
 refine .pk ?_
 refine .an ?_
 refine .nil (.ret ?_)
 exact .rb rfl (df sy)
 refine .sr (.vl (Y.qk rfl rfl) ?_)
 refine .an ?_
 refine .nil ?_
 refine .a9 rfl (fun FA => ?_) (fun FA => ?_)
 have hk := z9.k7 FA
 refine .seq (.iz rfl aU (.val (Y.zd rfl rfl) ag ?_))
 refine .val (Y.qr (m := 0) az rfl rfl bj om) ag (.val (Y.qx bw rfl (aT (d := 0) om) rfl rfl) ag ?_)
 refine .val (Y.qk rfl rfl) ag (.val (Y.zd rfl rfl) ag ?_)
 refine .aw (d := 203) rfl (fun IY => ?_) (fun IY => ?_)
 refine .aH (d := 203) rfl ag rfl (.val (Y.qn m5 rfl rfl) ag (.aH (d := 203) rfl ag rfl ?_))
 refine .val (Y.qx uI rfl rfl rfl rfl) ag (.aH (d := 203) rfl ag rfl (.val (Y.qn cE rfl rfl) ag ?_))
 refine .aH (d := 203) rfl ag rfl (.val (Y.qx bw rfl rfl rfl rfl) ag (.aH (d := 203) rfl ag rfl ?_))
 refine .val (Y.qq (m := (c.mem).toNat) sU rfl rfl om (ao (d := default) om)) ag ?_
 refine .aH (d := 203) rfl ag rfl (.val (Y.qn pX rfl rfl) ag (.aH (d := 203) rfl ag rfl ?_))
 refine .val (Y.qx bw rfl rfl rfl rfl) ag (.aH (d := 203) rfl ag rfl (.val (Y.zd rfl rfl) ag ?_))
 refine .aH (d := 203) rfl ag rfl (.val (Y.qr (m := 2) az rfl rfl bj om) ag (.aH (d := 203) rfl ag rfl (.val (Y.qx bw rfl (aT (d := 0) om) rfl rfl) ag ?_)))
 refine .aH (d := 203) rfl ag rfl (.val (Y.qk rfl rfl) ag (.val (Y.zj rfl rfl rfl) ag ?_))
 refine .val (Y.qe rfl rfl) ag (.nil (.ret ?_))
 exact .rb rfl (dd sy)
 refine .aA (d := 203) rfl ag ag rfl rfl (.aA (d := 203) rfl ag ag rfl rfl (.aA (d := 203) rfl ag ag rfl rfl ?_))
 refine .aA (d := 203) rfl ag ag rfl rfl (.aA (d := 203) rfl ag ag rfl rfl (.aA (d := 203) rfl ag ag rfl rfl ?_))
 refine .aA (d := 203) rfl ag ag rfl rfl (.aA (d := 203) rfl ag ag rfl rfl (.aA (d := 203) rfl ag ag rfl rfl ?_))
 refine .aA (d := 203) rfl ag ag rfl rfl (.aA (d := 203) rfl ag ag rfl rfl (.val (Y.zj rfl rfl rfl) ag ?_))
 refine .val (Y.qe rfl rfl) ag (.nil (.ret ?_))
 exact .rb rfl (df sy)
 refine .sr (.vl (Y.qk rfl rfl) ?_)
 refine .an ?_
 refine .nil ?_
 refine .a9 rfl (fun FB => ?_) (fun FB => ?_)
 have hk := z9.k8 FB
 refine .sr ?_
 refine .fa oh ?_
 refine .ld cQ ?_
 refine .fa dQ ?_
 refine .ld gb ?_
 refine .vl (Y.qq (m := c.num) az rfl rfl bj (ao (d := 0) om)) ?_
 refine .ld bw ?_
 refine .mv ?_
 refine .vl (Y.qk rfl rfl) ?_
 refine .an ?_
 refine .nil (.ret ?_)
 exact .rb rfl (dd sy)
 refine .sr (.vl (Y.qk rfl rfl) ?_)
 refine .an ?_
 refine .nil ?_
 refine .a9 rfl (fun IZ => ?_) (fun IZ => ?_)
 refine .sr ?_
 refine .mv ?_
 refine .vl (Y.qk rfl rfl) ?_
 refine .an ?_
 refine .nil (.ret ?_)
 exact .rb rfl (dd sy)
 have GA : c.kind = 10 := by have := z9.kind; omega
 have hk := z9.GA GA
 refine .skip (.sr ?_)
 refine .fa g5 ?_
 refine .ld nt ?_
 refine .fa cE ?_
 refine .ld bw ?_
 refine .vl (Y.qq (m := (c.mem).toNat) lK rfl rfl om (ao (d := default) om)) ?_
 refine .fa pY ?_
 refine .ld bw ?_
 refine .mv ?_
 refine .vl (Y.qk rfl rfl) ?_
 refine .an ?_
 refine .nil (.ret ?_)
 exact .rb rfl (dd (by (simp only [Fits, bR, eo, ← th, GA, Int.reduceEq, Bool.not_eq_true, false_and, true_and, and_true, and_false, or_false, false_or, ne_eq]) <;> omega))
open Go Go.AW Go.Proofs
theorem qL {n : ab} {c : Cell} (hs : n.Small) (hf : bn n) (hc : c ∈ n.cells) : ak Try.prog 163 [.agg (Cell.row c), .fp (ab.row n) 0] [] [] (fun r o => r = .v (.bool (!decide (Fits n c))) ∧ o = []) := by
 refine ak.of Try.func163 rfl rfl rfl (n := 8) ag (bE rfl) (.sr (.box 102 rfl rfl rfl rfl rfl ag ?_))
 refine .an ?_
 refine .nil (.sr (.vl (Y.qy uJ rfl rfl (bE rfl) rfl rfl) ?_))
 refine .vl (Y.qy pZ rfl rfl (bE rfl) rfl rfl) (.br Eu (uX (n := n) (c := c) hs (hs.args _ hc) (hs.Bt _ hc) (hf.cell hc).2.1 (hf.cell hc).ES) rfl (.au rfl rfl (.au rfl rfl .nil)) ag rfl (.vl (Y.zi rfl) ?_))
 refine .an ?_
 refine .nil (.ret ?_)
 exact .rb rfl (rfl)
theorem rR {n : ab} (hs : n.Small) (hf : bn n) : ak Try.prog 109 [.agg (ab.row n)] [] [] (fun r o => r = .v (.bool (decide (Fit n))) ∧ o = []) := by
 refine ak.of Try.func109 rfl rfl rfl (n := 63) ag (bE rfl) ?_
 have KW := hf.dM; have Nd := hf.ib; have Nf := hf.cA; have GG := hf.freeze; have GH := hf.done; unfold In at GG GH; have I2 := hf.dC; have Ng := hf.ea
 refine .sr (.box 101 rfl rfl rfl rfl rfl ag ?_)
 refine .an ?_
 refine .nil (.seq (.sr ?_))
 refine .fa eY ?_
 refine .ld cQ ?_
 refine .fa sR ?_
 refine .ld bw ?_
 refine .vl (Y.qq (m := (n.freeze).toNat) az rfl rfl om (ao (d := 0) om)) ?_
 refine .ld bw ?_
 refine .vl (Y.zg rfl rfl) ?_
 refine .mv ?_
 refine .aw (d := 12) rfl (fun uk => ?_) (fun uk => ?_)
 refine .gz 12 (.gz 12 (.gz 12 ?_))
 refine .gz 12 (.gz 12 (.gz 12 ?_))
 refine .gz 12 ?_
 refine .pk ?_
 refine .nil (.aK rfl (.sr ?_))
 refine .an ?_
 refine .nil (.ret ?_)
 exact .rb rfl (df (fun h => by have h1 := h.freeze; have h2 := h.done; unfold ab.wd at h1 h2; first | contradiction | omega))
 refine .gw 12 (Y.qn eY rfl rfl) (.gw 12 (Y.qx cQ rfl rfl rfl rfl) (.gw 12 (Y.qn sS rfl rfl) ?_))
 refine .gw 12 (Y.qx bw rfl rfl rfl rfl) (.gw 12 (Y.qq (m := (n.done).toNat) az rfl rfl om (ao (d := 0) om)) ?_)
 refine .gw 12 (Y.qx bw rfl rfl rfl rfl) (.gw 12 (Y.zg rfl rfl) ?_)
 refine .pk ?_
 refine .nil ?_
 refine .a9 rfl (fun Fu => ?_) (fun Fu => ?_)
 refine .sr ?_
 refine .an ?_
 refine .nil (.ret ?_)
 exact .rb rfl (df (fun h => by have h1 := h.freeze; have h2 := h.done; unfold ab.wd at h1 h2; first | contradiction | omega))
 refine .skip (.seq (.sr ?_))
 refine .fa g5 ?_
 refine .ld nt ?_
 refine .vl (Y.qu (n := n.streams.length) lK rfl gx) ?_
 refine .mv ?_
 refine .nil (.block ?_)
 refine .j7 (fun (ep : Nat) => ⟨[(1, .ptr 101 0 0 0), (22, .fz 3 (n.streams.map gF.row)), (23, vi n.streams.length), (24, vi ep)], [(101, .cells (ab.row n))]⟩) (fun ep => ((ep : Int) ≤ (n.streams.length : Int)) ∧ (∀ j, j < ep → ka n j)) (fun ep => ((n.streams.length : Int) - (ep : Int)).toNat) 0 (⟨om, fun j hj => by omega⟩) (Le.mk (.c2 (.c (.cons (aq rfl bj) .nil))) (.c .nil)) (fun ep z5 => ?_)
 obtain ⟨AK, vD⟩ := z5
 refine .sr (.vl (Y.qz rfl rfl) (.nil ?_))
 refine .seq ?_
 refine .a9 rfl (fun Ja => ?_) (fun Ja => ?_)
 refine .skip ?_
 refine .lI (fun (tj : Bool) (tk : Bool) => ⟨[(1, .ptr 101 0 0 0), (22, .fz 3 (n.streams.map gF.row)), (23, vi n.streams.length), (24, vi ep), (40, .ptr 104 0 0 2), (41, .v (.bool ((n.streams.getD ep default).out))), (42, .v (.bool tj)), (55, .v (.bool tk))], [(101, .cells (ab.row n)), (104, .cells [.v (.string ((n.streams.getD ep default).name)), vi ((n.streams.getD ep default).width), .v (.bool ((n.streams.getD ep default).out))])]⟩) (fun tj tk => ka n ep) ?_ (fun tj tk De => ?_)
 refine .block (.sr ?_)
 refine .mv ?_
 refine .vl (Y.qq (m := ep) lK rfl rfl bj (ao (d := default) om)) ?_
 refine .vl (Y.qy Ar rfl rfl (bE rfl) rfl rfl) (.alloc 104 At rfl rfl ag ?_)
 refine .an ?_
 refine .aj As rfl rfl rfl rfl rfl rfl (bE rfl) rfl (.nil (.seq ?_))
 refine .iz rfl aU ?_
 obtain ⟨_, _, KX, FC, _⟩ := hf.strs ep om
 unfold In at KX FC
 refine .val (Y.qn eY rfl rfl) ag (.val (Y.qx cQ rfl rfl rfl rfl) ag (.val (Y.qn sQ rfl rfl) ag ?_))
 refine .val (Y.qx cQ rfl rfl rfl rfl) ag (.val (Y.zd rfl rfl) ag ?_)
 refine .val (Y.qq (m := ep) az rfl rfl bj (ao (d := 0) om)) ag (.val (Y.qx bw rfl rfl rfl rfl) ag (.val (Y.qq (m := (n.bQ.getD ep 0).toNat) az rfl rfl om (ao (d := 0) om)) ag ?_))
 refine .val (Y.qx bw rfl rfl rfl rfl) ag (.val (Y.zg rfl rfl) ag (.val (Y.zd rfl rfl) ag ?_))
 refine .aw (d := 39) rfl (fun mF => ?_) (fun mF => ?_)
 refine .aA (d := 39) rfl ag ag rfl rfl (.aA (d := 39) rfl ag ag rfl rfl (.aA (d := 39) rfl ag ag rfl rfl ?_))
 refine .aA (d := 42) rfl ag ag rfl rfl (.aA (d := 42) rfl ag ag rfl rfl (.aA (d := 42) rfl ag ag rfl rfl ?_))
 refine .aA (d := 42) rfl ag ag rfl rfl (.aA (d := 42) rfl ag ag rfl rfl (.aA (d := 42) rfl ag ag rfl rfl ?_))
 refine .aA (d := 42) rfl ag ag rfl rfl (.aA (d := 42) rfl ag ag rfl rfl (.aA (d := 42) rfl ag ag rfl rfl ?_))
 refine .aA (d := 42) rfl ag ag rfl rfl (.aA (d := 42) rfl ag ag rfl rfl (.aA (d := 42) rfl ag ag rfl rfl ?_))
 refine .aA (d := 39) rfl ag ag rfl rfl (.val (Y.zj rfl rfl rfl) ag (.nil ?_))
 refine .aK rfl (.sr ?_)
 refine .an ?_
 refine .nil (.ret ?_)
 exact .rb rfl (df (fun h => by have h1 := h.strs ep om; unfold ka ab.wd at h1; grind))
 refine .aH (d := 39) rfl ag rfl (.val (Y.qn iB rfl rfl) ag (.aH (d := 39) rfl ag rfl ?_))
 refine .val (Y.qx wy rfl rfl rfl rfl) ag (.aH (d := 39) rfl ag rfl (.val (Y.zd rfl rfl) ag ?_))
 refine .split (d := 42) rfl (fun FD => ?_) (fun FD => ?_)
 have OP := FC ik
 refine .aH (d := 42) rfl ag rfl (.val (Y.qn eY rfl rfl) ag (.aH (d := 42) rfl ag rfl ?_))
 refine .val (Y.qx cQ rfl rfl rfl rfl) ag (.aH (d := 42) rfl ag rfl (.val (Y.qn oo rfl rfl) ag ?_))
 refine .aH (d := 42) rfl ag rfl (.val (Y.qx cQ rfl rfl rfl rfl) ag (.aH (d := 42) rfl ag rfl ?_))
 refine .val (Y.zd rfl rfl) ag (.aH (d := 42) rfl ag rfl ?_)
 refine .val (Y.qq (m := ep) az rfl rfl bj (ao (d := 0) om)) ag ?_
 refine .aH (d := 42) rfl ag rfl (.val (Y.qx bw rfl rfl rfl rfl) ag (.aH (d := 42) rfl ag rfl ?_))
 refine .val (Y.qq (m := (n.data.getD ep 0).toNat) az rfl rfl om (ao (d := 0) om)) ag ?_
 refine .aH (d := 42) rfl ag rfl (.val (Y.qx bw rfl rfl rfl rfl) ag (.aH (d := 42) rfl ag rfl ?_))
 refine .val (Y.qn pY rfl rfl) ag (.aH (d := 42) rfl ag rfl (.val (Y.qx bw rfl rfl rfl rfl) ag ?_))
 refine .aH (d := 42) rfl ag rfl (.val (Y.zg rfl rfl) ag (.aH (d := 39) rfl ag rfl ?_))
 refine .val (Y.zj rfl rfl rfl) ag (.val (Y.zj rfl rfl rfl) ag (.nil ?_))
 refine .a9 rfl (fun IT => ?_) (fun IT => ?_)
 refine .sr ?_
 refine .an ?_
 refine .nil (.ret ?_)
 exact .rb rfl (df (fun h => by have h1 := h.strs ep om; unfold ka ab.wd at h1; grind))
 refine .skip ⟨true, decide ((n.ai.getD ((n.data.getD ep 0).toNat) 0) ≠ ((n.streams.getD ep default).width)), by unfold ka ab.wd; grind, Le.mk (.c4 (.c2 (.cons (bo rfl mi) (.cons (bo rfl mi) .nil)))) (.c (.c .nil))⟩
 refine .aA (d := 42) rfl ag ag rfl rfl (.aA (d := 42) rfl ag ag rfl rfl (.aA (d := 42) rfl ag ag rfl rfl ?_))
 refine .aA (d := 42) rfl ag ag rfl rfl (.aA (d := 42) rfl ag ag rfl rfl (.aA (d := 42) rfl ag ag rfl rfl ?_))
 refine .aA (d := 42) rfl ag ag rfl rfl (.aA (d := 42) rfl ag ag rfl rfl (.aA (d := 42) rfl ag ag rfl rfl ?_))
 refine .aA (d := 42) rfl ag ag rfl rfl (.aA (d := 42) rfl ag ag rfl rfl (.aA (d := 42) rfl ag ag rfl rfl ?_))
 refine .aH (d := 39) rfl ag rfl (.val (Y.zj rfl rfl rfl) ag (.val (Y.zj rfl rfl rfl) ag ?_))
 refine .nil (.cT rfl (.skip ?_))
 exact ⟨false, false, by unfold ka ab.wd; grind, Le.mk (.c4 (.c2 (.cons (bo rfl mi) (.cons (bo rfl mi) .nil)))) (.c (.c .nil))⟩
 refine .region (.vl (Y.qb rfl rfl aF) ?_)
 refine .mv ?_
 refine .nil (⟨ep + 1, ⟨om, fe vD De⟩, om, Le.mk (.c2 (.c (.cons (aq rfl bj) .nil))) (.c .nil)⟩)
 refine .exit (.sr ?_)
 refine .fa fM ?_
 refine .ld nq ?_
 refine .sh (Sh.pW 101 rfl rfl) (.vl (Y.za rfl rfl rfl rfl) ?_)
 refine .br Es (jG (l := n.cells) (p := fun z => !decide (Fits n z)) (om) Et (fun z hz => qL hs hf hz)) rfl (.au rfl rfl (.au rfl rfl .nil)) ag rfl ?_
 refine .vl (Y.zi rfl) ?_
 refine .an ?_
 refine .nil (.ret ?_)
 exact .rb rfl (db (rA (by unfold ab.wd; omega) (by unfold ab.wd; omega) (fun j hj => vD j om)))
end Go.Proofs.Ytlimckldnjmabaa
