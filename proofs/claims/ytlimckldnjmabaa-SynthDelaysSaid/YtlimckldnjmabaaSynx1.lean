/- The words that operators of gates compute, in plain Lean. -/
import Derived.Test.YtlimckldnjmabaaSynx0
set_option linter.unusedSimpArgs false
set_option linter.unusedVariables false
set_option linter.unusedSectionVars false
set_option maxRecDepth 4000
set_option maxHeartbeats 8000000
namespace Go.Proofs.Ytlimckldnjmabaa
open Go Go.AW
section
variable {c : Int} {g0 g1 gl : List Gate} {a b r : List Int} {w : Nat} {A B : List Bool → BitVec w} {t u : Int}
theorem sum_add (hl : r.length = w) (h : Ws c gl r (uc (fun ins => (A ins).getLsbD 0 ^^ (B ins).getLsbD 0) (fun k ins => (A ins).getLsbD k && (B ins).getLsbD k) (fun k ins => (A ins).getLsbD k ^^ (B ins).getLsbD k)) u) :
  Wd c gl r w (fun ins => A ins + B ins) u := h.wd hl fun k hk ins => by
 unfold uc
 rw [Ax hk]
 by_cases h0 : k = 0
 ·subst h0; simp [ca]
 ·rw [if_neg h0]
theorem AL (hl : r.length = w) (h : Ws c gl r (uc (fun ins => (A ins).getLsbD 0 ^^ (B ins).getLsbD 0) (fun k ins => if k = 0 then (A ins).getLsbD 0 || !(B ins).getLsbD 0 else (A ins).getLsbD k && !(B ins).getLsbD k) (fun k ins => (A ins).getLsbD k ^^ !(B ins).getLsbD k)) u) :
  Wd c gl r w (fun ins => A ins - B ins) u := h.wd hl fun k hk ins => by
 unfold uc
 by_cases h0 : k = 0
 ·subst h0; rw [if_pos rfl, xU hk]
 ·rw [if_neg h0, Az hk om]; rfl
theorem AM {s : Bool} (hw : 0 < w) (ins : List Bool) :
  ca (fun k => if s = true ∧ k + 1 = w then !(B ins).getLsbD k && (A ins).getLsbD k else !(A ins).getLsbD k && (B ins).getLsbD k) (fun k => !((A ins).getLsbD k ^^ (B ins).getLsbD k)) 0 w false = if s then (A ins).slt (B ins) else (A ins).ult (B ins) := by
 cases s
 ·rw [if_neg ah, ← yb]
  exact m8 (fun i _ => by simp [Cg]) (fun _ _ => rfl)
 ·rw [if_pos rfl, ← Dm hw]
  exact m8 (fun i _ => by unfold yc Cg; simp) (fun _ _ => rfl)
theorem yi {s : Bool} {i : Nat} (ha : Wd c gl a w A t) (hb : Wd c gl b w B t) (hi : i < w) {x y : Int} (hx : x = if s = true ∧ i + 1 = w then b.getD i 0 else a.getD i 0) (hy : y = if s = true ∧ i + 1 = w then a.getD i 0 else b.getD i 0) :
  Wr c gl x (fun ins => if s = true ∧ i + 1 = w then (B ins).getLsbD i else (A ins).getLsbD i) t ∧ Wr c gl y (fun ins => if s = true ∧ i + 1 = w then (A ins).getLsbD i else (B ins).getLsbD i) t := by
 subst hx hy
 by_cases q : s = true ∧ i + 1 = w
 ·simp only [if_pos q]; exact ⟨hb.bit i hi, ha.bit i hi⟩
 ·simp only [if_neg q]; exact ⟨ha.bit i hi, hb.bit i hi⟩
theorem pR.tree {s : Bool} {ps : List aN} (hw : 0 < w) (h : pR c g0 gl (fun k ins => (A ins).getLsbD k) (fun k ins => (B ins).getLsbD k) s w u ps w) :
  vj c gl (fun ins => if s then (A ins).slt (B ins) else (A ins).ult (B ins)) w u gl ps := by
 have h1 := vj.init h.ext.dC h.wp (by rw [h.pl]; omega)
 rw [h.pl] at h1
 have h2 : (fun ins => ca (fun k => if s = true ∧ k + 1 = w then !(B ins).getLsbD k && (A ins).getLsbD k else !(A ins).getLsbD k && (B ins).getLsbD k) (fun k => !((A ins).getLsbD k ^^ (B ins).getLsbD k)) 0 w false) = (fun ins => if s then (A ins).slt (B ins) else (A ins).ult (B ins)) := funext fun ins => AM hw ins
 rw [h2] at h1
 exact h1
theorem Dt (hr : r.length = w) (h : Ws c gl r (fun i ins => !gR (fun j => (B ins).getLsbD (bH w + j)) (w - bH w) && ou true w (A ins).getLsbD false ((B ins).toNat % 2 ^ bH w) i) u) : Wd c gl r w (fun ins => A ins <<< (B ins).toNat) u :=
 h.wd hr fun k hk ins => (AF (nj w) hk).symm
theorem Du (hr : r.length = w) (h : Ws c gl r (fun i ins => !gR (fun j => (B ins).getLsbD (bH w + j)) (w - bH w) && ou false w (A ins).getLsbD false ((B ins).toNat % 2 ^ bH w) i) u) : Wd c gl r w (fun ins => A ins >>> (B ins).toNat) u :=
 h.wd hr fun k hk ins => (AG (nj w) hk).symm
theorem Dv (hr : r.length = w) (h : Ws c gl r (fun i ins => if gR (fun j => (B ins).getLsbD (bH w + j)) (w - bH w) then (A ins).msb else ou false w (A ins).getLsbD (A ins).msb ((B ins).toNat % 2 ^ bH w) i) u) : Wd c gl r w (fun ins => (A ins).sshiftRight (B ins).toNat) u :=
 h.wd hr fun k hk ins => (AH (nj w) hk).symm
theorem Wd.msb (h : Wd c gl a w A t) (hw : 0 < w) : Wr c gl (a.getD (w - 1) 0) (fun ins => (A ins).msb) t := (h.bit (w - 1) om).as fun ins => by rw [BitVec.msb_eq_getLsbD_last]
end
structure Wk (c : Int) (l : List Gate) (a : List Int) (w : Nat) (N : List Bool → Nat) (t : Int) : Prop where
 len : a.length = w
 lt : ∀ ins, N ins < 2 ^ w
 bit : ∀ k, k < w → Wr c l (a.getD k 0) (fun ins => (N ins).testBit k) t
theorem Wd.wk {c : Int} {l : List Gate} {a : List Int} {w : Nat} {A : List Bool → BitVec w} {t : Int} (h : Wd c l a w A t) : Wk c l a w (fun ins => (A ins).toNat) t := ⟨h.len, fun ins => (A ins).isLt, h.bit⟩
theorem Wk.wd {c : Int} {l : List Gate} {a : List Int} {w : Nat} {N : List Bool → Nat} {t : Int} (h : Wk c l a w N t) : Wd c l a w (fun ins => BitVec.ofNat w (N ins)) t :=
 ⟨h.len, fun k hk => (h.bit k hk).as fun ins => by rw [BitVec.getLsbD_ofNat]; simp [hk]⟩
theorem Wk.as {c : Int} {l : List Gate} {a : List Int} {w : Nat} {N M : List Bool → Nat} {t : Int} (h : Wk c l a w N t) (he : ∀ ins, N ins = M ins) : Wk c l a w M t := by
 obtain rfl : N = M := funext he
 exact h
theorem Wk.ext {c : Int} {l l' : List Gate} {a : List Int} {w : Nat} {N : List Bool → Nat} {t : Int} (h : Wk c l a w N t) (he : Ext l l') : Wk c l' a w N t := ⟨h.len, h.lt, fun k hk => (h.bit k hk).ext he⟩
theorem Wk.late {c : Int} {l : List Gate} {a : List Int} {w : Nat} {N : List Bool → Nat} {t t' : Int} (h : Wk c l a w N t) (ht : t ≤ t') : Wk c l a w N t' := ⟨h.len, h.lt, fun k hk => (h.bit k hk).late ht⟩
theorem Wr.Ex {c : Int} {l : List Gate} {x : Int} {f : List Bool → Bool} {t : Int} (h : Wr c l x f t) : Wk c l [x] 1 (fun ins => (f ins).toNat) t :=
 ⟨rfl, fun ins => by cases f ins <;> decide, fun k hk => by
  obtain rfl : k = 0 := by omega
  exact h.as fun ins => by cases f ins <;> rfl⟩
def r2 (op : Int) (w width x y z : Nat) : Nat :=
 if op = 2 then (BitVec.ofNat w x + BitVec.ofNat w y).toNat else if op = 3 then (BitVec.ofNat w x - BitVec.ofNat w y).toNat
 else if op = 9 then x &&& y else if op = 10 then x ||| y else if op = 11 then x ^^^ y
 else if op = 12 then (BitVec.ofNat w x <<< y).toNat else if op = 13 then (BitVec.ofNat w x >>> y).toNat else if op = 14 then ((BitVec.ofNat w x).sshiftRight y).toNat
 else if op = 15 then (decide (x = y)).toNat else if op = 16 then (decide (x ≠ y)).toNat
 else if op = 17 then (decide (x < y)).toNat else if op = 18 then (decide (x ≤ y)).toNat
 else if op = 19 then ((BitVec.ofNat w x).slt (BitVec.ofNat w y)).toNat else if op = 20 then ((BitVec.ofNat w x).sle (BitVec.ofNat w y)).toNat
 else if op = 21 then (if x = 1 then y else z) else if op = 22 then x else if op = 23 then ((BitVec.ofNat w x).signExtend width).toNat else x % 2 ^ width
open Go Go.AW
theorem r4 {op a b d a' b' d' w : Int} (h0 : a = a') (h1 : op < 22 ∨ 24 < op → b = b') (h2 : op = 21 → d = d') : cv op a b d w ↔ cv op a' b' d' w := by
 subst h0
 unfold cv fY
 by_cases e : op = 21
 ·rw [h1 om, h2 e]
 ·by_cases e2 : op < 22 ∨ 24 < op
  ·rw [h1 e2]; omega
  ·omega
open Go Go.AW
def vm (n : ab) (k : Nat) (kn : List Bool) : Prop := ∀ w : Int, In w n.ai.length → (kn.getD w.toNat false = true ↔ ∃ j, cw n j w ∧ j < k ∧ ¬ cH (n.cell j).kind)
theorem vm.init (n : ab) : vm n 0 (List.replicate n.ai.length false) := by
 intro w hw
 unfold In at hw
 rw [List.getD_eq_getElem?_getD, List.getElem?_replicate, if_pos om]
 exact ⟨fun h => (by cases h), fun ⟨j, h1, h2, _⟩ => (by have := h1.1; omega)⟩
theorem vm.skip {n : ab} {k : Nat} {l : List Bool} (h : vm n k l) (hc : cH (n.cells.getD k default).kind ∨ (n.cells.getD k default).kind = 7) : vm n (k + 1) l := by
 intro w hw
 rw [h w hw]
 constructor
 ·rintro ⟨j, h1, h2, h3⟩; exact ⟨j, h1, om, h3⟩
 ·rintro ⟨j, h1, h2, h3⟩
  refine ⟨j, h1, ?_, h3⟩
  rcases Int.lt_or_eq_of_le (show j ≤ k by omega) with h' | h'
  ·exact h'
  ·subst h'
   rcases hc with hc | hc
   ·exact absurd hc h3
   ·exact absurd hc h1.2.1
theorem vm.step {n : ab} {k : Nat} {l : List Bool} (h : vm n k l) (hk : k < n.cells.length) (hl : l.length = n.ai.length) (hc : ¬ cH (n.cells.getD k default).kind) (h7 : (n.cells.getD k default).kind ≠ 7) (ho : In (n.cells.getD k default).out n.ai.length) :
  vm n (k + 1) (l.set (n.cells.getD k default).out.toNat true) := by
 intro w hw
 unfold In at ho
 have nV := hw
 unfold In at nV
 rw [bJ]
 by_cases e : (n.cells.getD k default).out = w
 ·rw [if_pos ⟨om, om⟩]
  exact ⟨fun _ => ⟨(k : Int), ⟨⟨om, om⟩, h7, e⟩, om, hc⟩, fun _ => rfl⟩
 ·rw [if_neg om, h w hw]
  constructor
  ·rintro ⟨j, h1, h2, h3⟩; exact ⟨j, h1, om, h3⟩
  ·rintro ⟨j, h1, h2, h3⟩
   refine ⟨j, h1, ?_, h3⟩
   rcases Int.lt_or_eq_of_le (show j ≤ k by omega) with h' | h'
   ·exact h'
   ·subst h'; exact absurd h1.2.2 e
structure LD (n : ab) (done : List Int) (kn : List Bool) (left : Int) : Prop where
 nd : done.Nodup
 cm : ∀ x ∈ done, bf n x
 kn : ∀ w, In w n.ai.length → (kn.getD w.toNat false = true ↔ ¬ Open n done w)
 left : left = (n.cells.length : Int) - ((fM n n.cells.length).length : Int) - (done.length : Int)
 lp : ∀ p i s, done = p ++ i :: s → cR n p i = 0
section
variable {n : ab} (hf : bq n)
include hf
theorem LD.init {kn : List Bool} (h : vm n n.cells.length kn) : LD n [] kn ((n.cells.length : Int) - ((fM n n.cells.length).length : Int)) where
 nd := List.nodup_nil
 cm := fun _ h => (by cases h)
 kn := fun w hw => by
  rw [h w hw]
  constructor
  ·rintro ⟨j, h1, h2, h3⟩ ⟨⟨i, hi, e⟩, _⟩
   have := hf.unique h1 (e ▸ hi.gP)
   subst this; exact h3 hi.2
  ·intro ho
   obtain ⟨j, hj⟩ := hf.kD hw
   refine ⟨j, hj, by have := hj.1; omega, fun hc => ho ⟨⟨j, ⟨hj.1, hc⟩, hj.2.2⟩, fun _ h => (by cases h)⟩⟩
 left := by simp
 lp := fun p i s h => by simp at h
theorem LD.step {done : List Int} {kn : List Bool} {left i : Int} (h : LD n done kn left) (hl : kn.length = n.ai.length) (hi : bf n i) (hk : kn.getD (n.cell i).out.toNat false = false) (hz : cR n done i = 0) :
  LD n (done ++ [i]) (kn.set (n.cell i).out.toNat true) (left - 1) := by
 have Dw := hf.iV hi.gP
 have Et : Open n done (n.cell i).out := Classical.byContradiction fun hh => by
  have := (h.kn _ Dw).2 hh
  rw [hk] at this; cases this
 have Jq : i ∉ done := fun hm => Et.2 i hm rfl
 refine ⟨?_, fun x hx => ?_, fun w hw => ?_, ?_, fun p j s e => ?_⟩
 ·rw [List.nodup_append]
  exact ⟨h.nd, by simp, fun a ha b hb e => Jq (by rw [← List.mem_singleton.1 hb, ← e]; exact ha)⟩
 ·rcases List.mem_append.1 hx with hx | hx
  ·exact h.cm x hx
  ·rw [List.mem_singleton.1 hx]; exact hi
 ·unfold In at Dw
  have nV := hw
  unfold In at nV
  have ho : Open n (done ++ [i]) w ↔ Open n done w ∧ (n.cell i).out ≠ w := by
   constructor
   ·rintro ⟨a, b⟩
    exact ⟨⟨a, fun j hj => b j (by simp [hj])⟩, b i (by simp)⟩
   ·rintro ⟨⟨a, b⟩, c⟩
    refine ⟨a, fun j hj => ?_⟩
    rcases List.mem_append.1 hj with hj | hj
    ·exact b j hj
    ·rw [List.mem_singleton.1 hj]; exact c
  rw [bJ, ho]
  by_cases e : (n.cell i).out = w
  ·rw [if_pos ⟨om, om⟩]
   exact ⟨fun _ h => h.2 e, fun _ => rfl⟩
  ·rw [if_neg om, h.kn w hw]
   exact ⟨fun h1 h2 => h1 h2.1, fun h1 h2 => h1 ⟨h2, e⟩⟩
 ·rw [h.left, List.length_append]; simp; omega
 ·rcases List.eq_nil_or_concat s with rfl | ⟨s', x, rfl⟩
  ·obtain ⟨rfl, e3⟩ := List.append_inj' (t₁ := [i]) (t₂ := [j]) e rfl
   cases e3
   exact hz
  ·have e2 := List.append_inj' (s₁ := done) (s₂ := p ++ j :: s') (t₁ := [i]) (t₂ := [x]) (by rw [e]; simp) rfl
   exact h.lp p j s' e2.1
theorem LD.known {done : List Int} {kn : List Bool} {left : Int} (h : LD n done kn left) {i : Int} (hi : 0 ≤ i ∧ i < n.cells.length) : (∀ x ∈ (n.cell i).args, kn.getD x.toNat false = true) ↔ cR n done i = 0 := by
 unfold cR
 rw [List.countP_eq_zero]
 constructor
 ·intro hh x hx ho
  exact (h.kn x (hf.l5 hi hx)).1 (hh x hx) (of_decide_eq_true ho)
 ·intro hh x hx
  exact (h.kn x (hf.l5 hi hx)).2 (fun ho => hh x hx (decide_eq_true ho))
def Cj (n : ab) (k : Int) (done : List Int) : Prop := ∀ i, bf n i → i < k → Open n done (n.cell i).out → cR n done i ≠ 0
theorem LD.ki {done : List Int} {kn : List Bool} {left : Int} (h : LD n done kn left) (hs : Cj n n.cells.length done) : KI n done [] ((List.range n.cells.length).map (fun (i : Nat) => (cR n done (i : Int) : Int))) where
 nd := by simpa using h.nd
 cm := fun x hx => h.cm x (by simpa using hx)
 jy := fun i hi => by
  have hb := hi.1
  rw [List.getD_eq_getElem?_getD, List.getElem?_map, List.getElem?_range om]
  simp only [Option.map_some, Option.getD_some]
  rw [show (i.toNat : Int) = i by omega]
 full := fun i hi => by
  rw [List.append_nil]
  constructor
  ·intro hm
   obtain ⟨p, s, e⟩ := List.append_of_mem hm
   have := h.lp p i s e
   rw [kX] at this ⊢
   intro x hx hc
   obtain ⟨j, hj, e2⟩ := this x hx hc
   exact ⟨j, by rw [e]; simp [hj], e2⟩
  ·intro hz
   refine Classical.byContradiction fun hn => hs i hi hi.1.2 ⟨⟨i, hi, rfl⟩, fun j hj e => hn ?_⟩ hz
   have := hf.unique (h.cm j hj).gP (e ▸ hi.gP)
   exact this ▸ hj
 lp := h.lp
end
theorem LD.pos {n : ab} {done : List Int} {kn : List Bool} {left : Int} (h : LD n done kn left) : 0 ≤ left ∧ left ≤ n.cells.length := by
 have iP : (fM n n.cells.length ++ done).Nodup := by
  rw [List.nodup_append]
  refine ⟨oR _ _, h.nd, fun a ha b hb e => ?_⟩
  subst e
  exact (gA.1 ha).2 (h.cm a hb).2
 have := length_le_of_subset (m := (List.range n.cells.length).map (fun (i : Nat) => (i : Int))) iP (fun x hx => by
  have iK : 0 ≤ x ∧ x < n.cells.length := by
   rcases List.mem_append.1 hx with hx | hx
   ·exact (gA.1 hx).1
   ·exact (h.cm x hx).1
  exact List.mem_map.2 ⟨x.toNat, List.mem_range.2 om, om⟩)
 rw [List.length_append, List.length_map, List.length_range] at this
 have hl := h.left
 omega
def AN (n : ab) (k lB : Int) (kn : List Bool) (left : Int) (more : Bool) : Prop := ∃ done, LD n done kn left ∧ left ≤ lB ∧ (more = true → left < lB) ∧ (more = false → Cj n k done)
theorem AN.seq {n : ab} {k : Nat} {lB left : Int} {kn : List Bool} {more : Bool} (h : AN n k lB kn left more) (hc : ¬ cH (n.cells.getD k default).kind) : AN n ((k + 1 : Nat) : Int) lB kn left more := by
 obtain ⟨done, h1, h2, h3, h4⟩ := h
 refine ⟨done, h1, h2, h3, fun hm i hi h0 => h4 hm i hi (jH hc hi h0)⟩
section
variable {n : ab} (hf : bq n) {k : Nat} {lB left : Int} {kn : List Bool} {more : Bool}
include hf
theorem AN.skip (h : AN n k lB kn left more) (hk : k < n.cells.length) (hc : kn.getD (n.cells.getD k default).out.toNat false = true ∨ ¬ ∀ x ∈ (n.cells.getD k default).args, kn.getD x.toNat false = true) (wB : cH (n.cells.getD k default).kind) : AN n ((k + 1 : Nat) : Int) lB kn left more := by
 obtain ⟨done, h1, h2, h3, h4⟩ := h
 have hi : bf n (k : Int) := ⟨⟨om, om⟩, wB⟩
 refine ⟨done, h1, h2, h3, fun hm i OS h0 => ?_⟩
 by_cases e : i = k
 ·subst e
  intro ho hz
  rcases hc with hc | hc
  ·exact (h1.kn _ (hf.iV hi.gP)).1 hc ho
  ·exact hc ((h1.known hf hi.1).2 hz)
 ·exact h4 hm i OS om
theorem AN.step (h : AN n k lB kn left more) (hk : k < n.cells.length) (hl : kn.length = n.ai.length) (h1 : kn.getD (n.cells.getD k default).out.toNat false = false) (h2 : ∀ x ∈ (n.cells.getD k default).args, kn.getD x.toNat false = true) (wB : cH (n.cells.getD k default).kind) :
  AN n ((k + 1 : Nat) : Int) lB (kn.set (n.cells.getD k default).out.toNat true) (left - 1) true := by
 obtain ⟨done, a1, a2, a3, a4⟩ := h
 have hi : bf n (k : Int) := ⟨⟨om, om⟩, wB⟩
 refine ⟨done ++ [(k : Int)], a1.step hf hl hi h1 ((a1.known hf hi.1).1 h2), om, fun _ => by omega, fun h => (by cases h)⟩
end
theorem vm.next {n : ab} (hf : bq n) {k : Nat} {kn : List Bool} (h : vm n k kn) (hk : k < n.cells.length) (hl : kn.length = n.ai.length) :
  (¬ cH (n.cells.getD k default).kind → 0 ≤ (n.cells.getD k default).out → vm n (k + 1) (kn.set (n.cells.getD k default).out.toNat true)) ∧ (cH (n.cells.getD k default).kind → vm n (k + 1) kn ∧ 0 ≤ (n.cells.getD k default).out) ∧
  (¬ 0 ≤ (n.cells.getD k default).out → vm n (k + 1) kn) ∧ (0 ≤ (n.cells.getD k default).out → (n.cells.getD k default).out < n.ai.length) := by
 obtain ⟨_, _, a3, a4⟩ := hf.cells k hk
 refine ⟨fun hc ho => ?_, fun hc => ⟨h.skip (.inl hc), ?_⟩, fun ho => ?_, fun ho => ?_⟩
 ·have h7 : (n.cells.getD k default).kind ≠ 7 := fun h7 => by have := a3 h7; omega
  exact h.step hk hl hc h7 (a4 h7)
 ·have h7 : (n.cells.getD k default).kind ≠ 7 := fun h7 => by rw [h7] at hc; revert hc; unfold cH; omega
  exact (a4 h7).1
 ·have h7 : (n.cells.getD k default).kind = 7 := Classical.byContradiction fun h7 => ho (a4 h7).1
  exact h.skip (.inr h7)
 ·have h7 : (n.cells.getD k default).kind ≠ 7 := fun h7 => by have := a3 h7; omega
  exact (a4 h7).2
open Go Go.AW
end Go.Proofs.Ytlimckldnjmabaa
namespace Go.Proofs.Ytlimckldnjmabaa
open Go Go.AW Go.Proofs
theorem np {w : Int} : al Try.prog 155 [vi w] [] [] (fun r o => r = .v (.bool (decide (cG w))) ∧ o = []) := by
 refine al.of Try.func155 rfl rfl rfl (n := 9) ah (b7 rfl) (.sr ?_)
 refine .an ?_
 refine .nil (.sr ?_)
 refine .mv ?_
 refine .vl (Y.qp rfl rfl) ?_
 refine .mv ?_
 refine .ax (d := 5) rfl (fun c5 => ?_) (fun c5 => ?_)
 refine .gw 5 (Y.zf rfl rfl) (.gw 5 (Y.qy rfl rfl) ?_)
 refine .pk ?_
 refine .an ?_
 refine .nil (.ret ?_)
 exact .rb rfl (dd (by (simp only [cG]) <;> (first | omega | grind)))
 refine .gz 5 (.gz 5 ?_)
 refine .pk ?_
 refine .an ?_
 refine .nil (.ret ?_)
 exact .rb rfl (df (by (simp only [cG]) <;> (first | omega | grind)))
theorem lU {s : ByteArray} (hs : s.size ≤ 140737488351232) : al Try.prog 154 [.v (.string s)] [] [] (fun r o => r = .v (.bool (decide (nO s))) ∧ o = []) := by
 refine al.of Try.func154 rfl rfl rfl (n := 44) ah (b7 rfl) (.sr ?_)
 refine .an ?_
 refine .nil (.seq (.sr ?_))
 refine .mv ?_
 refine .vl (Y.qx Ie rfl) ?_
 refine .mv ?_
 refine .nil (.block ?_)
 refine .iS (fun (b9 : Nat) => ⟨[(0, .v (.string s)), (6, vi s.size), (7, vi b9)], []⟩) (fun b9 => ((b9 : Int) ≤ (s.size : Int)) ∧ (∀ j, j < b9 → iw (ba s j))) (fun b9 => ((s.size : Int) - (b9 : Int)).toNat) 0 (⟨om, by intro j h; omega⟩) (Le.mk (.c2 (.cons (ak rfl bg) .nil)) .nil) (fun b9 vD => ?_)
 obtain ⟨wY, hb⟩ := vD
 refine .sr (.vl (Y.zb rfl rfl) (.nil ?_))
 refine .seq ?_
 refine .ay rfl (fun c8 => ?_) (fun c8 => ?_)
 refine .skip ?_
 refine .nK (⟨[(0, .v (.string s)), (6, vi s.size), (7, vi b9)], []⟩) (((97 ≤ ((ba s b9 : Nat) : Int)) ∧ (((ba s b9 : Nat) : Int) ≤ 122)) ∨ ((97 ≤ ((ba s b9 : Nat) : Int)) ∧ (¬ (((ba s b9 : Nat) : Int) ≤ 122)) ∧ (65 ≤ ((ba s b9 : Nat) : Int)) ∧ (((ba s b9 : Nat) : Int) ≤ 90)) ∨ ((97 ≤ ((ba s b9 : Nat) : Int)) ∧ (¬ (((ba s b9 : Nat) : Int) ≤ 122)) ∧ (65 ≤ ((ba s b9 : Nat) : Int)) ∧ (¬ (((ba s b9 : Nat) : Int) ≤ 90)) ∧ (48 ≤ ((ba s b9 : Nat) : Int)) ∧ (((ba s b9 : Nat) : Int) ≤ 57)) ∨ ((97 ≤ ((ba s b9 : Nat) : Int)) ∧ (¬ (((ba s b9 : Nat) : Int) ≤ 122)) ∧ (65 ≤ ((ba s b9 : Nat) : Int)) ∧ (¬ (((ba s b9 : Nat) : Int) ≤ 90)) ∧ (48 ≤ ((ba s b9 : Nat) : Int)) ∧ (¬ (((ba s b9 : Nat) : Int) ≤ 57)) ∧ (((ba s b9 : Nat) : Int) = 95)) ∨ ((97 ≤ ((ba s b9 : Nat) : Int)) ∧ (¬ (((ba s b9 : Nat) : Int) ≤ 122)) ∧ (65 ≤ ((ba s b9 : Nat) : Int)) ∧ (¬ (((ba s b9 : Nat) : Int) ≤ 90)) ∧ (¬ (48 ≤ ((ba s b9 : Nat) : Int))) ∧ (((ba s b9 : Nat) : Int) = 95)) ∨ ((97 ≤ ((ba s b9 : Nat) : Int)) ∧ (¬ (((ba s b9 : Nat) : Int) ≤ 122)) ∧ (¬ (65 ≤ ((ba s b9 : Nat) : Int))) ∧ (48 ≤ ((ba s b9 : Nat) : Int)) ∧ (((ba s b9 : Nat) : Int) ≤ 57)) ∨ ((97 ≤ ((ba s b9 : Nat) : Int)) ∧ (¬ (((ba s b9 : Nat) : Int) ≤ 122)) ∧ (¬ (65 ≤ ((ba s b9 : Nat) : Int))) ∧ (48 ≤ ((ba s b9 : Nat) : Int)) ∧ (¬ (((ba s b9 : Nat) : Int) ≤ 57)) ∧ (((ba s b9 : Nat) : Int) = 95)) ∨ ((97 ≤ ((ba s b9 : Nat) : Int)) ∧ (¬ (((ba s b9 : Nat) : Int) ≤ 122)) ∧ (¬ (65 ≤ ((ba s b9 : Nat) : Int))) ∧ (¬ (48 ≤ ((ba s b9 : Nat) : Int))) ∧ (((ba s b9 : Nat) : Int) = 95)) ∨ ((¬ (97 ≤ ((ba s b9 : Nat) : Int))) ∧ (65 ≤ ((ba s b9 : Nat) : Int)) ∧ (((ba s b9 : Nat) : Int) ≤ 90)) ∨ ((¬ (97 ≤ ((ba s b9 : Nat) : Int))) ∧ (65 ≤ ((ba s b9 : Nat) : Int)) ∧ (¬ (((ba s b9 : Nat) : Int) ≤ 90)) ∧ (48 ≤ ((ba s b9 : Nat) : Int)) ∧ (((ba s b9 : Nat) : Int) ≤ 57)) ∨ ((¬ (97 ≤ ((ba s b9 : Nat) : Int))) ∧ (65 ≤ ((ba s b9 : Nat) : Int)) ∧ (¬ (((ba s b9 : Nat) : Int) ≤ 90)) ∧ (48 ≤ ((ba s b9 : Nat) : Int)) ∧ (¬ (((ba s b9 : Nat) : Int) ≤ 57)) ∧ (((ba s b9 : Nat) : Int) = 95)) ∨ ((¬ (97 ≤ ((ba s b9 : Nat) : Int))) ∧ (65 ≤ ((ba s b9 : Nat) : Int)) ∧ (¬ (((ba s b9 : Nat) : Int) ≤ 90)) ∧ (¬ (48 ≤ ((ba s b9 : Nat) : Int))) ∧ (((ba s b9 : Nat) : Int) = 95)) ∨ ((¬ (97 ≤ ((ba s b9 : Nat) : Int))) ∧ (¬ (65 ≤ ((ba s b9 : Nat) : Int))) ∧ (48 ≤ ((ba s b9 : Nat) : Int)) ∧ (((ba s b9 : Nat) : Int) ≤ 57)) ∨ ((¬ (97 ≤ ((ba s b9 : Nat) : Int))) ∧ (¬ (65 ≤ ((ba s b9 : Nat) : Int))) ∧ (48 ≤ ((ba s b9 : Nat) : Int)) ∧ (¬ (((ba s b9 : Nat) : Int) ≤ 57)) ∧ (((ba s b9 : Nat) : Int) = 95)) ∨ ((¬ (97 ≤ ((ba s b9 : Nat) : Int))) ∧ (¬ (65 ≤ ((ba s b9 : Nat) : Int))) ∧ (¬ (48 ≤ ((ba s b9 : Nat) : Int))) ∧ (((ba s b9 : Nat) : Int) = 95))) ?_ (fun MG => ?_)
 refine .block (.sr ?_)
 refine .mv ?_
 refine .an ?_
 refine .nil (.sr ?_)
 refine .mv ?_
 refine .mv ?_
 refine .vl (Y.qv (m := b9) Ie rfl rfl bg om) ?_
 refine .an ?_
 refine .nil (.sr ?_)
 refine .mv ?_
 refine .vl (Y.qp rfl rfl) ?_
 refine .mv ?_
 refine .ax (d := 15) rfl (fun pH => ?_) (fun pH => ?_)
 refine .gw 15 (Y.zf rfl rfl) (.gw 15 (Y.qy rfl rfl) ?_)
 refine .pk ?_
 refine .mv ?_
 refine .ax (d := 19) rfl (fun r5 => ?_) (fun r5 => ?_)
 refine .gz 19 (.gz 19 (.gz 19 ?_))
 refine .gz 22 (.gz 22 (.gz 19 ?_))
 refine .pk ?_
 refine .mv ?_
 refine .gz 27 (.gz 27 (.gz 27 ?_))
 refine .gz 30 (.gz 30 (.gz 27 ?_))
 refine .pk ?_
 refine .mv ?_
 refine .gz 35 (.gz 35 ?_)
 refine .pk ?_
 refine .vl (Y.zk rfl) (.nil (.bY rfl ?_))
 refine .skip (⟨.inl ⟨pH, r5⟩, Le.mk (.c2 (.c .nil)) .nil⟩)
 refine .gw 19 (Y.zf rfl rfl) (.gw 19 (Y.qp rfl rfl) (.gw 19 (Y.zf rfl rfl) ?_))
 refine .ax (d := 22) rfl (fun lV => ?_) (fun lV => ?_)
 refine .gw 22 (Y.zf rfl rfl) (.gw 22 (Y.qy rfl rfl) (.gw 19 (Y.zl rfl rfl rfl) ?_))
 refine .pk ?_
 refine .mv ?_
 refine .ax (d := 27) rfl (fun vV => ?_) (fun vV => ?_)
 refine .gz 27 (.gz 27 (.gz 27 ?_))
 refine .gz 30 (.gz 30 (.gz 27 ?_))
 refine .pk ?_
 refine .mv ?_
 refine .gz 35 (.gz 35 ?_)
 refine .pk ?_
 refine .vl (Y.zk rfl) (.nil (.bY rfl ?_))
 refine .skip (⟨.inr (.inl ⟨pH, r5, lV, vV⟩), Le.mk (.c2 (.c .nil)) .nil⟩)
 refine .gw 27 (Y.zf rfl rfl) (.gw 27 (Y.qp rfl rfl) (.gw 27 (Y.zf rfl rfl) ?_))
 refine .ax (d := 30) rfl (fun nq => ?_) (fun nq => ?_)
 refine .gw 30 (Y.zf rfl rfl) (.gw 30 (Y.qy rfl rfl) (.gw 27 (Y.zl rfl rfl rfl) ?_))
 refine .pk ?_
 refine .mv ?_
 refine .ax (d := 35) rfl (fun pS => ?_) (fun pS => ?_)
 refine .gz 35 (.gz 35 ?_)
 refine .pk ?_
 refine .vl (Y.zk rfl) (.nil (.bY rfl ?_))
 refine .skip (⟨.inr (.inr (.inl ⟨pH, r5, lV, vV, nq, pS⟩)), Le.mk (.c2 (.c .nil)) .nil⟩)
 refine .gw 35 (Y.zf rfl rfl) (.gw 35 (Y.qk rfl rfl) ?_)
 refine .pk ?_
 refine .vl (Y.zk rfl) (.nil ?_)
 refine .iR rfl (fun nt => ?_) (fun nt => ?_)
 refine .sr ?_
 refine .an ?_
 refine .nil (.ret ?_)
 exact .rb rfl (df (fun h => by have h1 := h.1 b9 om; unfold iw at h1; omega))
 refine .skip (⟨.inr (.inr (.inr (.inl ⟨pH, r5, lV, vV, nq, pS, nt⟩))), Le.mk (.c2 (.c .nil)) .nil⟩)
 refine .gz 30 (.gz 30 (.gw 27 (Y.zl rfl rfl rfl) ?_))
 refine .pk ?_
 refine .mv ?_
 refine .gw 35 (Y.zf rfl rfl) (.gw 35 (Y.qk rfl rfl) ?_)
 refine .pk ?_
 refine .vl (Y.zk rfl) (.nil ?_)
 refine .iR rfl (fun nt => ?_) (fun nt => ?_)
 refine .sr ?_
 refine .an ?_
 refine .nil (.ret ?_)
 exact .rb rfl (df (fun h => by have h1 := h.1 b9 om; unfold iw at h1; omega))
 refine .skip (⟨.inr (.inr (.inr (.inr (.inl ⟨pH, r5, lV, vV, nq, nt⟩)))), Le.mk (.c2 (.c .nil)) .nil⟩)
 refine .gz 22 (.gz 22 (.gw 19 (Y.zl rfl rfl rfl) ?_))
 refine .pk ?_
 refine .mv ?_
 refine .gw 27 (Y.zf rfl rfl) (.gw 27 (Y.qp rfl rfl) (.gw 27 (Y.zf rfl rfl) ?_))
 refine .ax (d := 30) rfl (fun nq => ?_) (fun nq => ?_)
 refine .gw 30 (Y.zf rfl rfl) (.gw 30 (Y.qy rfl rfl) (.gw 27 (Y.zl rfl rfl rfl) ?_))
 refine .pk ?_
 refine .mv ?_
 refine .ax (d := 35) rfl (fun pS => ?_) (fun pS => ?_)
 refine .gz 35 (.gz 35 ?_)
 refine .pk ?_
 refine .vl (Y.zk rfl) (.nil (.bY rfl ?_))
 refine .skip (⟨.inr (.inr (.inr (.inr (.inr (.inl ⟨pH, r5, lV, nq, pS⟩))))), Le.mk (.c2 (.c .nil)) .nil⟩)
 refine .gw 35 (Y.zf rfl rfl) (.gw 35 (Y.qk rfl rfl) ?_)
 refine .pk ?_
 refine .vl (Y.zk rfl) (.nil ?_)
 refine .iR rfl (fun nt => ?_) (fun nt => ?_)
 refine .sr ?_
 refine .an ?_
 refine .nil (.ret ?_)
 exact .rb rfl (df (fun h => by have h1 := h.1 b9 om; unfold iw at h1; omega))
 refine .skip (⟨.inr (.inr (.inr (.inr (.inr (.inr (.inl ⟨pH, r5, lV, nq, pS, nt⟩)))))), Le.mk (.c2 (.c .nil)) .nil⟩)
 refine .gz 30 (.gz 30 (.gw 27 (Y.zl rfl rfl rfl) ?_))
 refine .pk ?_
 refine .mv ?_
 refine .gw 35 (Y.zf rfl rfl) (.gw 35 (Y.qk rfl rfl) ?_)
 refine .pk ?_
 refine .vl (Y.zk rfl) (.nil ?_)
 refine .iR rfl (fun nt => ?_) (fun nt => ?_)
 refine .sr ?_
 refine .an ?_
 refine .nil (.ret ?_)
 exact .rb rfl (df (fun h => by have h1 := h.1 b9 om; unfold iw at h1; omega))
 refine .skip (⟨.inr (.inr (.inr (.inr (.inr (.inr (.inr (.inl ⟨pH, r5, lV, nq, nt⟩))))))), Le.mk (.c2 (.c .nil)) .nil⟩)
 refine .gz 15 (.gz 15 ?_)
 refine .pk ?_
 refine .mv ?_
 refine .gw 19 (Y.zf rfl rfl) (.gw 19 (Y.qp rfl rfl) (.gw 19 (Y.zf rfl rfl) ?_))
 refine .ax (d := 22) rfl (fun lV => ?_) (fun lV => ?_)
 refine .gw 22 (Y.zf rfl rfl) (.gw 22 (Y.qy rfl rfl) (.gw 19 (Y.zl rfl rfl rfl) ?_))
 refine .pk ?_
 refine .mv ?_
 refine .ax (d := 27) rfl (fun vV => ?_) (fun vV => ?_)
 refine .gz 27 (.gz 27 (.gz 27 ?_))
 refine .gz 30 (.gz 30 (.gz 27 ?_))
 refine .pk ?_
 refine .mv ?_
 refine .gz 35 (.gz 35 ?_)
 refine .pk ?_
 refine .vl (Y.zk rfl) (.nil (.bY rfl ?_))
 refine .skip (⟨.inr (.inr (.inr (.inr (.inr (.inr (.inr (.inr (.inl ⟨pH, lV, vV⟩)))))))), Le.mk (.c2 (.c .nil)) .nil⟩)
 refine .gw 27 (Y.zf rfl rfl) (.gw 27 (Y.qp rfl rfl) (.gw 27 (Y.zf rfl rfl) ?_))
 refine .ax (d := 30) rfl (fun nq => ?_) (fun nq => ?_)
 refine .gw 30 (Y.zf rfl rfl) (.gw 30 (Y.qy rfl rfl) (.gw 27 (Y.zl rfl rfl rfl) ?_))
 refine .pk ?_
 refine .mv ?_
 refine .ax (d := 35) rfl (fun pS => ?_) (fun pS => ?_)
 refine .gz 35 (.gz 35 ?_)
 refine .pk ?_
 refine .vl (Y.zk rfl) (.nil (.bY rfl ?_))
 refine .skip (⟨.inr (.inr (.inr (.inr (.inr (.inr (.inr (.inr (.inr (.inl ⟨pH, lV, vV, nq, pS⟩))))))))), Le.mk (.c2 (.c .nil)) .nil⟩)
 refine .gw 35 (Y.zf rfl rfl) (.gw 35 (Y.qk rfl rfl) ?_)
 refine .pk ?_
 refine .vl (Y.zk rfl) (.nil ?_)
 refine .iR rfl (fun nt => ?_) (fun nt => ?_)
 refine .sr ?_
 refine .an ?_
 refine .nil (.ret ?_)
 exact .rb rfl (df (fun h => by have h1 := h.1 b9 om; unfold iw at h1; omega))
 refine .skip (⟨.inr (.inr (.inr (.inr (.inr (.inr (.inr (.inr (.inr (.inr (.inl ⟨pH, lV, vV, nq, pS, nt⟩)))))))))), Le.mk (.c2 (.c .nil)) .nil⟩)
 refine .gz 30 (.gz 30 (.gw 27 (Y.zl rfl rfl rfl) ?_))
 refine .pk ?_
 refine .mv ?_
 refine .gw 35 (Y.zf rfl rfl) (.gw 35 (Y.qk rfl rfl) ?_)
 refine .pk ?_
 refine .vl (Y.zk rfl) (.nil ?_)
 refine .iR rfl (fun nt => ?_) (fun nt => ?_)
 refine .sr ?_
 refine .an ?_
 refine .nil (.ret ?_)
 exact .rb rfl (df (fun h => by have h1 := h.1 b9 om; unfold iw at h1; omega))
 refine .skip (⟨.inr (.inr (.inr (.inr (.inr (.inr (.inr (.inr (.inr (.inr (.inr (.inl ⟨pH, lV, vV, nq, nt⟩))))))))))), Le.mk (.c2 (.c .nil)) .nil⟩)
 refine .gz 22 (.gz 22 (.gw 19 (Y.zl rfl rfl rfl) ?_))
 refine .pk ?_
 refine .mv ?_
 refine .gw 27 (Y.zf rfl rfl) (.gw 27 (Y.qp rfl rfl) (.gw 27 (Y.zf rfl rfl) ?_))
 refine .ax (d := 30) rfl (fun nq => ?_) (fun nq => ?_)
 refine .gw 30 (Y.zf rfl rfl) (.gw 30 (Y.qy rfl rfl) (.gw 27 (Y.zl rfl rfl rfl) ?_))
 refine .pk ?_
 refine .mv ?_
 refine .ax (d := 35) rfl (fun pS => ?_) (fun pS => ?_)
 refine .gz 35 (.gz 35 ?_)
 refine .pk ?_
 refine .vl (Y.zk rfl) (.nil (.bY rfl ?_))
 refine .skip (⟨.inr (.inr (.inr (.inr (.inr (.inr (.inr (.inr (.inr (.inr (.inr (.inr (.inl ⟨pH, lV, nq, pS⟩)))))))))))), Le.mk (.c2 (.c .nil)) .nil⟩)
 refine .gw 35 (Y.zf rfl rfl) (.gw 35 (Y.qk rfl rfl) ?_)
 refine .pk ?_
 refine .vl (Y.zk rfl) (.nil ?_)
 refine .iR rfl (fun nt => ?_) (fun nt => ?_)
 refine .sr ?_
 refine .an ?_
 refine .nil (.ret ?_)
 exact .rb rfl (df (fun h => by have h1 := h.1 b9 om; unfold iw at h1; omega))
 refine .skip (⟨.inr (.inr (.inr (.inr (.inr (.inr (.inr (.inr (.inr (.inr (.inr (.inr (.inr (.inl ⟨pH, lV, nq, pS, nt⟩))))))))))))), Le.mk (.c2 (.c .nil)) .nil⟩)
 refine .gz 30 (.gz 30 (.gw 27 (Y.zl rfl rfl rfl) ?_))
 refine .pk ?_
 refine .mv ?_
 refine .gw 35 (Y.zf rfl rfl) (.gw 35 (Y.qk rfl rfl) ?_)
 refine .pk ?_
 refine .vl (Y.zk rfl) (.nil ?_)
 refine .iR rfl (fun nt => ?_) (fun nt => ?_)
 refine .sr ?_
 refine .an ?_
 refine .nil (.ret ?_)
 exact .rb rfl (df (fun h => by have h1 := h.1 b9 om; unfold iw at h1; omega))
 refine .skip (⟨.inr (.inr (.inr (.inr (.inr (.inr (.inr (.inr (.inr (.inr (.inr (.inr (.inr (.inr (⟨pH, lV, nq, nt⟩)))))))))))))), Le.mk (.c2 (.c .nil)) .nil⟩)
 refine .region (.vl (Y.qb rfl rfl aC) ?_)
 refine .mv ?_
 refine .nil (⟨b9 + 1, ⟨om, tJ hb (by unfold iw; omega)⟩, om, Le.mk (.c2 (.cons (ak rfl bg) .nil)) .nil⟩)
 refine .exit (.sr ?_)
 refine .mv ?_
 refine .vl (Y.qx Ie rfl) (.vl (Y.qy rfl rfl) ?_)
 refine .an ?_
 refine .nil (.ret ?_)
 exact .rb rfl (dd ⟨fun h => ⟨fun j hj => hb j om, om⟩, fun h => by have := h.2; omega⟩)
theorem jk {op : Int} : al Try.prog 186 [vi op] [] [] (fun r o => r = (vi (bA op)) ∧ o = []) := by
 refine al.of Try.func186 rfl rfl rfl (n := 25) ah (b7 rfl) (.sr ?_)
 refine .an ?_
 refine .nil (.seq (.sr ?_))
 refine .mv ?_
 refine .nil (.block (.seq ?_))
 refine .sr (.vl (Y.qk rfl rfl) ?_)
 refine .an ?_
 refine .nil ?_
 refine .aU rfl (fun c4 => ?_) (fun c4 => ?_)
 refine .skip (.aE rfl (.sr ?_))
 refine .an ?_
 refine .nil (.ret ?_)
 exact .ri rfl (by simp only [bA]; omega)
 refine .sr (.vl (Y.qk rfl rfl) ?_)
 refine .an ?_
 refine .nil ?_
 refine .aU rfl (fun c4 => ?_) (fun c4 => ?_)
 refine .skip (.aE rfl (.sr ?_))
 refine .an ?_
 refine .nil (.ret ?_)
 exact .ri rfl (by simp only [bA]; omega)
 refine .sr (.vl (Y.qk rfl rfl) ?_)
 refine .an ?_
 refine .nil ?_
 refine .aU rfl (fun c4 => ?_) (fun c4 => ?_)
 refine .skip (.aE rfl (.sr ?_))
 refine .an ?_
 refine .nil (.ret ?_)
 exact .ri rfl (by simp only [bA]; omega)
 refine .sr (.vl (Y.qk rfl rfl) ?_)
 refine .an ?_
 refine .nil ?_
 refine .aU rfl (fun c4 => ?_) (fun c4 => ?_)
 refine .skip (.aE rfl (.sr ?_))
 refine .an ?_
 refine .nil (.ret ?_)
 exact .ri rfl (by simp only [bA]; omega)
 refine .sr (.vl (Y.qk rfl rfl) ?_)
 refine .an ?_
 refine .nil ?_
 refine .aU rfl (fun c4 => ?_) (fun c4 => ?_)
 refine .skip (.aE rfl (.sr ?_))
 refine .an ?_
 refine .nil (.ret ?_)
 exact .ri rfl (by simp only [bA]; omega)
 refine .sr (.vl (Y.qk rfl rfl) ?_)
 refine .an ?_
 refine .nil ?_
 refine .aU rfl (fun c4 => ?_) (fun c4 => ?_)
 refine .skip (.aE rfl (.sr ?_))
 refine .an ?_
 refine .nil (.ret ?_)
 exact .ri rfl (by simp only [bA]; omega)
 refine .sr (.vl (Y.qk rfl rfl) ?_)
 refine .an ?_
 refine .nil ?_
 refine .aU rfl (fun c4 => ?_) (fun c4 => ?_)
 refine .skip (.aE rfl (.sr ?_))
 refine .an ?_
 refine .nil (.ret ?_)
 exact .ri rfl (by simp only [bA]; omega)
 refine .sr (.vl (Y.qk rfl rfl) ?_)
 refine .an ?_
 refine .nil ?_
 refine .aU rfl (fun c4 => ?_) (fun c4 => ?_)
 refine .skip (.aE rfl (.sr ?_))
 refine .an ?_
 refine .nil (.ret ?_)
 exact .ri rfl (by simp only [bA]; omega)
 refine .sr (.vl (Y.qk rfl rfl) ?_)
 refine .an ?_
 refine .nil ?_
 refine .aU rfl (fun c4 => ?_) (fun c4 => ?_)
 refine .skip (.aE rfl (.sr ?_))
 refine .an ?_
 refine .nil (.ret ?_)
 exact .ri rfl (by simp only [bA]; omega)
 refine .sr (.vl (Y.qk rfl rfl) ?_)
 refine .an ?_
 refine .nil ?_
 refine .aU rfl (fun c4 => ?_) (fun c4 => ?_)
 refine .skip (.aE rfl (.sr ?_))
 refine .an ?_
 refine .nil (.ret ?_)
 exact .ri rfl (by simp only [bA]; omega)
 refine .sr (.vl (Y.qk rfl rfl) ?_)
 refine .an ?_
 refine .nil ?_
 refine .aU rfl (fun c4 => ?_) (fun c4 => ?_)
 refine .skip (.aE rfl (.sr ?_))
 refine .an ?_
 refine .nil (.ret ?_)
 exact .ri rfl (by simp only [bA]; omega)
 refine .sr (.vl (Y.qk rfl rfl) ?_)
 refine .an ?_
 refine .nil ?_
 refine .aU rfl (fun c4 => ?_) (fun c4 => ?_)
 refine .skip (.aE rfl (.sr ?_))
 refine .an ?_
 refine .nil (.ret ?_)
 exact .ri rfl (by simp only [bA]; omega)
 refine .sr (.vl (Y.qk rfl rfl) ?_)
 refine .an ?_
 refine .nil ?_
 refine .aU rfl (fun c4 => ?_) (fun c4 => ?_)
 refine .skip (.aE rfl (.sr ?_))
 refine .an ?_
 refine .nil (.ret ?_)
 exact .ri rfl (by simp only [bA]; omega)
 refine .region (.vl (Y.qk rfl rfl) ?_)
 refine .an ?_
 refine .nil ?_
 refine .aU rfl (fun c4 => ?_) (fun c4 => ?_)
 refine .sr ?_
 refine .an ?_
 refine .nil (.ret ?_)
 exact .ri rfl (by simp only [bA]; omega)
 refine .sr (.vl (Y.qk rfl rfl) ?_)
 refine .an ?_
 refine .nil ?_
 refine .ay rfl (fun r5 => ?_) (fun r5 => ?_)
 refine .sr ?_
 refine .an ?_
 refine .nil (.ret ?_)
 exact .ri rfl (by simp only [bA]; omega)
 refine .seq (.sr (.vl (Y.qk rfl rfl) ?_))
 refine .an ?_
 refine .nil ?_
 refine .aU rfl (fun yl => ?_) (fun yl => ?_)
 refine .skip (.aE rfl (.sr ?_))
 refine .an ?_
 refine .nil (.ret ?_)
 exact .ri rfl (by simp only [bA]; omega)
 refine .sr (.vl (Y.qk rfl rfl) ?_)
 refine .an ?_
 refine .nil ?_
 refine .aU rfl (fun yl => ?_) (fun yl => ?_)
 refine .skip (.aE rfl (.sr ?_))
 refine .an ?_
 refine .nil (.ret ?_)
 exact .ri rfl (by simp only [bA]; omega)
 refine .region (.vl (Y.qk rfl rfl) ?_)
 refine .an ?_
 refine .nil ?_
 refine .aU rfl (fun yl => ?_) (fun yl => ?_)
 refine .sr ?_
 refine .an ?_
 refine .nil (.ret ?_)
 exact .ri rfl (by simp only [bA]; omega)
 refine .skip (.sr ?_)
 refine .an ?_
 refine .nil (.ret ?_)
 exact .ri rfl (by simp only [bA]; omega)
open Go Go.AW Go.Proofs
theorem sB {w : Int} : al Try.prog 190 [vi w] [] [] (fun r o => r = (vi ((k9 w : Nat) : Int)) ∧ o = []) := by
 refine al.of Try.func190 rfl rfl rfl (n := 6) ah (b7 rfl) (.sr ?_)
 refine .an ?_
 refine .nil (.sr ?_)
 refine .mv ?_
 refine .vl (Y.zd rfl rfl rfl) (.vl (Y.ze rfl rfl rfl) ?_)
 refine .an ?_
 refine .nil (.ret ?_)
 exact .ri rfl (by unfold k9; (repeat' split) <;> omega)
theorem vW {w : Int} : al Try.prog 167 [vi w] [] [] (fun r o => r = .v (.int .u64 ((2 ^ k9 w - 1 : Nat) : Int)) ∧ o = []) := by
 refine al.of Try.func167 rfl rfl rfl (n := 10) ah (b7 rfl) ?_
 have hl := ra w
 refine .sr ?_
 refine .an ?_
 refine .nil (.seq (.sr ?_))
 refine .mv ?_
 refine .bd Gg (sB (w := w)) rfl (.ao rfl rfl .nil) ah rfl ?_
 refine .an ?_
 refine .nil (.sr ?_)
 refine .mv ?_
 refine .vl (Y.qk rfl rfl) (.nil ?_)
 refine .ay rfl (fun c6 => ?_) (fun c6 => ?_)
 refine .sr ?_
 refine .an ?_
 refine .nil (.ret ?_)
 exact .ri rfl (by rw [show k9 w = 0 by omega]; rfl)
 refine .skip (.sr ?_)
 refine .mv ?_
 refine .vl (Y.zx rfl rfl aC) (.vl (Y.zs (a := 18446744073709551615) ((64 - ((k9 w : Nat) : Int)).toNat) rfl rfl om om) ?_)
 refine .an ?_
 refine .nil (.ret ?_)
 exact .ri rfl (by rw [show ((64 : Int) - ((k9 w : Nat) : Int)).toNat = 64 - k9 w by omega, Al])
theorem gq {w : Int} {x : Nat} (hx : x < 18446744073709551616) : al Try.prog 117 [vi w, .v (.int .u64 (x : Int))] [] [] (fun r o => r = .v (.int .u64 ((ln w x : Nat) : Int)) ∧ o = []) := by
 refine al.of Try.func117 rfl rfl rfl (n := 9) ah (b7 rfl) ?_
 have hm := Am w
 refine .sr ?_
 refine .an ?_
 refine .nil (.sr ?_)
 refine .mv ?_
 refine .mv ?_
 refine .bd Ga (vW (w := w)) rfl (.ao rfl rfl .nil) ah rfl (.vl (Y.qd (a := x) (b := (2 ^ k9 w - 1)) rfl rfl om) ?_)
 refine .an ?_
 refine .nil (.ret ?_)
 exact .ri rfl (by rw [x4])
theorem pj {w : Int} : al Try.prog 189 [vi w] [] [] (fun r o => r = .v (.bool (decide (fY w))) ∧ o = []) := by
 refine al.of Try.func189 rfl rfl rfl (n := 9) ah (b7 rfl) (.sr ?_)
 refine .an ?_
 refine .nil (.sr ?_)
 refine .mv ?_
 refine .vl (Y.qp rfl rfl) ?_
 refine .mv ?_
 refine .ax (d := 5) rfl (fun c5 => ?_) (fun c5 => ?_)
 refine .gw 5 (Y.zf rfl rfl) (.gw 5 (Y.qy rfl rfl) ?_)
 refine .pk ?_
 refine .an ?_
 refine .nil (.ret ?_)
 exact .rb rfl (dd (by (simp only [fY]) <;> (first | omega | grind)))
 refine .gz 5 (.gz 5 ?_)
 refine .pk ?_
 refine .an ?_
 refine .nil (.ret ?_)
 exact .rb rfl (df (by (simp only [fY]) <;> (first | omega | grind)))
theorem jb {w : Int} : al Try.prog 42 [vi w] [] [] (fun r o => r = .v (.bool (decide (fY w))) ∧ o = []) := by
 refine al.of Try.func42 rfl rfl rfl (n := 9) ah (b7 rfl) (.sr ?_)
 refine .an ?_
 refine .nil (.sr ?_)
 refine .mv ?_
 refine .vl (Y.qp rfl rfl) ?_
 refine .mv ?_
 refine .ax (d := 5) rfl (fun c5 => ?_) (fun c5 => ?_)
 refine .gw 5 (Y.zf rfl rfl) (.gw 5 (Y.qy rfl rfl) ?_)
 refine .pk ?_
 refine .an ?_
 refine .nil (.ret ?_)
 exact .rb rfl (dd (by (simp only [fY]) <;> (first | omega | grind)))
 refine .gz 5 (.gz 5 ?_)
 refine .pk ?_
 refine .an ?_
 refine .nil (.ret ?_)
 exact .rb rfl (df (by (simp only [fY]) <;> (first | omega | grind)))
theorem pT {w : Int} : al Try.prog 86 [vi w] [] [] (fun r o => r = .v (.bool (decide (tQ w))) ∧ o = []) := by
 refine al.of Try.func86 rfl rfl rfl (n := 9) ah (b7 rfl) (.sr ?_)
 refine .an ?_
 refine .nil (.sr ?_)
 refine .mv ?_
 refine .vl (Y.qp rfl rfl) ?_
 refine .mv ?_
 refine .ax (d := 5) rfl (fun c5 => ?_) (fun c5 => ?_)
 refine .gw 5 (Y.zf rfl rfl) (.gw 5 (Y.qy rfl rfl) ?_)
 refine .pk ?_
 refine .an ?_
 refine .nil (.ret ?_)
 exact .rb rfl (dd (by (simp only [tQ]) <;> (first | omega | grind)))
 refine .gz 5 (.gz 5 ?_)
 refine .pk ?_
 refine .an ?_
 refine .nil (.ret ?_)
 exact .rb rfl (df (by (simp only [tQ]) <;> (first | omega | grind)))
theorem po {w : Int} : al Try.prog 88 [vi w] [] [] (fun r o => r = .v (.bool (decide (Unary w))) ∧ o = []) := by
 refine al.of Try.func88 rfl rfl rfl (n := 13) ah (b7 rfl) (.sr ?_)
 refine .an ?_
 refine .nil (.sr ?_)
 refine .mv ?_
 refine .vl (Y.qk rfl rfl) ?_
 refine .mv ?_
 refine .ax (d := 5) rfl (fun c5 => ?_) (fun c5 => ?_)
 refine .gz 5 (.gz 5 ?_)
 refine .pk ?_
 refine .mv ?_
 refine .gz 9 (.gz 9 ?_)
 refine .pk ?_
 refine .an ?_
 refine .nil (.ret ?_)
 exact .rb rfl (dt (by (simp only [Unary]) <;> (first | omega | grind)))
 refine .gw 5 (Y.zf rfl rfl) (.gw 5 (Y.qk rfl rfl) ?_)
 refine .pk ?_
 refine .mv ?_
 refine .ax (d := 9) rfl (fun c9 => ?_) (fun c9 => ?_)
 refine .gz 9 (.gz 9 ?_)
 refine .pk ?_
 refine .an ?_
 refine .nil (.ret ?_)
 exact .rb rfl (dt (by (simp only [Unary]) <;> (first | omega | grind)))
 refine .gw 9 (Y.zf rfl rfl) (.gw 9 (Y.qk rfl rfl) ?_)
 refine .pk ?_
 refine .an ?_
 refine .nil (.ret ?_)
 exact .rb rfl (dd (by (simp only [Unary]) <;> (first | omega | grind)))
theorem nY {w : Int} : al Try.prog 87 [vi w] [] [] (fun r o => r = .v (.bool (decide (Seq w))) ∧ o = []) := by
 refine al.of Try.func87 rfl rfl rfl (n := 9) ah (b7 rfl) (.sr ?_)
 refine .an ?_
 refine .nil (.sr ?_)
 refine .mv ?_
 refine .vl (Y.qp rfl rfl) ?_
 refine .mv ?_
 refine .ax (d := 5) rfl (fun c5 => ?_) (fun c5 => ?_)
 refine .gw 5 (Y.zf rfl rfl) (.gw 5 (Y.qy rfl rfl) ?_)
 refine .pk ?_
 refine .an ?_
 refine .nil (.ret ?_)
 exact .rb rfl (dd (by (simp only [Seq]) <;> (first | omega | grind)))
 refine .gz 5 (.gz 5 ?_)
 refine .pk ?_
 refine .an ?_
 refine .nil (.ret ?_)
 exact .rb rfl (df (by (simp only [Seq]) <;> (first | omega | grind)))
theorem nu {w : Int} : al Try.prog 93 [vi w] [] [] (fun r o => r = .v (.bool (decide (cH w))) ∧ o = []) := by
 refine al.of Try.func93 rfl rfl rfl (n := 13) ah (b7 rfl) (.sr ?_)
 refine .an ?_
 refine .nil (.sr ?_)
 refine .mv ?_
 refine .vl (Y.qk rfl rfl) ?_
 refine .mv ?_
 refine .ax (d := 5) rfl (fun c5 => ?_) (fun c5 => ?_)
 refine .gz 5 (.gz 5 ?_)
 refine .pk ?_
 refine .mv ?_
 refine .gz 9 (.gz 9 ?_)
 refine .pk ?_
 refine .an ?_
 refine .nil (.ret ?_)
 exact .rb rfl (dt (by (simp only [cH]) <;> (first | omega | grind)))
 refine .gw 5 (Y.zf rfl rfl) (.gw 5 (Y.qk rfl rfl) ?_)
 refine .pk ?_
 refine .mv ?_
 refine .ax (d := 9) rfl (fun c9 => ?_) (fun c9 => ?_)
 refine .gz 9 (.gz 9 ?_)
 refine .pk ?_
 refine .an ?_
 refine .nil (.ret ?_)
 exact .rb rfl (dt (by (simp only [cH]) <;> (first | omega | grind)))
 refine .gw 9 (Y.zf rfl rfl) (.gw 9 (Y.qk rfl rfl) ?_)
 refine .pk ?_
 refine .an ?_
 refine .nil (.ret ?_)
 exact .rb rfl (dd (by (simp only [cH]) <;> (first | omega | grind)))
theorem uf {w : Int} : al Try.prog 44 [vi w] [] [] (fun r o => r = .v (.bool (decide (Plain w))) ∧ o = []) := by
 refine al.of Try.func44 rfl rfl rfl (n := 18) ah (b7 rfl) (.sr ?_)
 refine .an ?_
 refine .nil (.sr ?_)
 refine .mv ?_
 refine .bd Jx (pT (w := w)) rfl (.ao rfl rfl .nil) ah rfl ?_
 refine .mv ?_
 refine .ax (d := 5) rfl (fun c5 => ?_) (fun c5 => ?_)
 refine .gw 5 (Y.zf rfl rfl) (.aO (d := 5) rfl ah rfl (.bd Jy (nY (w := w)) rfl (.ao rfl rfl .nil) ah rfl ?_))
 refine .gw 5 (Y.zk rfl) ?_
 refine .pk ?_
 refine .mv ?_
 refine .lM (d := 10) rfl (fun OT => ?_) (fun OT => ?_)
 refine .gz 10 (.gz 10 ?_)
 refine .pk ?_
 refine .mv ?_
 refine .gz 14 (.gz 14 ?_)
 refine .pk ?_
 refine .an ?_
 refine .nil (.ret ?_)
 exact .rb rfl (dt (by (simp only [Plain]) <;> (first | omega | grind)))
 refine .gw 10 (Y.zf rfl rfl) (.gw 10 (Y.qk rfl rfl) ?_)
 refine .pk ?_
 refine .mv ?_
 refine .ax (d := 14) rfl (fun ym => ?_) (fun ym => ?_)
 refine .gz 14 (.gz 14 ?_)
 refine .pk ?_
 refine .an ?_
 refine .nil (.ret ?_)
 exact .rb rfl (dt (by (simp only [Plain]) <;> (first | omega | grind)))
 refine .gw 14 (Y.zf rfl rfl) (.aO (d := 14) rfl ah rfl (.bd Gl (po (w := w)) rfl (.ao rfl rfl .nil) ah rfl ?_))
 refine .pk ?_
 refine .an ?_
 refine .nil (.ret ?_)
 exact .rb rfl (dd (by (simp only [Plain]) <;> (first | omega | grind)))
 refine .gz 5 (.gz 5 (.gz 5 ?_))
 refine .pk ?_
 refine .mv ?_
 refine .gw 10 (Y.zf rfl rfl) (.gw 10 (Y.qk rfl rfl) ?_)
 refine .pk ?_
 refine .mv ?_
 refine .ax (d := 14) rfl (fun ym => ?_) (fun ym => ?_)
 refine .gz 14 (.gz 14 ?_)
 refine .pk ?_
 refine .an ?_
 refine .nil (.ret ?_)
 exact .rb rfl (dt (by (simp only [Plain]) <;> (first | omega | grind)))
 refine .gw 14 (Y.zf rfl rfl) (.aO (d := 14) rfl ah rfl (.bd Gl (po (w := w)) rfl (.ao rfl rfl .nil) ah rfl ?_))
 refine .pk ?_
 refine .an ?_
 refine .nil (.ret ?_)
 exact .rb rfl (dd (by (simp only [Plain]) <;> (first | omega | grind)))
open Go Go.AW Go.Proofs
end Go.Proofs.Ytlimckldnjmabaa
namespace Go.Proofs.Ytlimckldnjmabaa
open Go Go.AW Go.Proofs
open Go Go.AW Go.Proofs
end Go.Proofs.Ytlimckldnjmabaa
namespace Go.Proofs.Ytlimckldnjmabaa
open Go Go.AW Go.Proofs
theorem sC {n : ab} {c : Cell} (hs : n.Small) (hc : c.args.length ≤ 17592186043904) : al Try.prog 160 [.agg (ab.row n), .agg (Cell.row c)] [] [] (fun r o => r = .v (.bool (decide (Shaped n c))) ∧ o = []) := by
 refine al.of Try.func160 rfl rfl rfl (n := 132) ah (b7 rfl) ?_
 have Il := hs.ins; have Im := hs.bs; have JU := hs.streams
 refine .sr (.box 102 rfl rfl rfl rfl rfl ah (.box 103 rfl rfl rfl rfl rfl ah ?_))
 refine .an ?_
 refine .nil (.sr ?_)
 refine .an ?_
 refine .an ?_
 refine .an ?_
 refine .an ?_
 refine .nil (.seq (.sr ?_))
 refine .fa ji ?_
 refine .ld aZ ?_
 refine .nil (.block (.sr ?_))
 refine .vl (Y.qk rfl rfl) ?_
 refine .an ?_
 refine .nil ?_
 refine .ay rfl (fun Ck => ?_) (fun Ck => ?_)
 refine .region ?_
 refine .an ?_
 refine .nil ?_
 refine .nK (⟨[(2, .ptr 102 0 0 0), (3, .ptr 103 0 0 0), (8, vi (-1))], [(102, .cells (ab.row n)), (103, .cells (Cell.row c))]⟩) (((¬ ((c.args.length : Int) ≠ 0)) ∧ (¬ (c.op ≠ 0)) ∧ ((c.num : Int) ≠ 0)) ∨ ((¬ ((c.args.length : Int) ≠ 0)) ∧ (¬ (c.op ≠ 0)) ∧ (¬ ((c.num : Int) ≠ 0)))) ?_ (fun Dx => ?_)
 refine .sr ?_
 refine .fa en ?_
 refine .ld cZ ?_
 refine .vl (Y.qw (n := c.args.length) a8 rfl gT) ?_
 refine .mv ?_
 refine .vl (Y.zi rfl rfl) ?_
 refine .mv ?_
 refine .ax (d := 88) rfl (fun kH => ?_) (fun kH => ?_)
 refine .gz 88 (.gz 88 (.gz 88 ?_))
 refine .gz 88 ?_
 refine .pk ?_
 refine .mv ?_
 refine .gz 94 (.gz 94 (.gz 94 ?_))
 refine .gz 94 (.gz 98 (.gz 98 ?_))
 refine .gz 94 ?_
 refine .pk ?_
 refine .nil (.aE rfl (.sr ?_))
 refine .an ?_
 refine .nil (.ret ?_)
 exact .rb rfl (df eM)
 refine .gw 88 (Y.qo ek rfl rfl) (.gw 88 (Y.qz aZ rfl rfl rfl rfl) (.gw 88 (Y.zf rfl rfl) ?_))
 refine .gw 88 (Y.zi rfl rfl) ?_
 refine .pk ?_
 refine .mv ?_
 refine .ax (d := 94) rfl (fun lW => ?_) (fun lW => ?_)
 refine .gz 94 (.gz 94 (.gz 94 ?_))
 refine .gz 94 (.gz 98 (.gz 98 ?_))
 refine .gz 94 ?_
 refine .pk ?_
 refine .nil (.aE rfl (.sr ?_))
 refine .an ?_
 refine .nil (.ret ?_)
 exact .rb rfl (df eM)
 refine .gw 94 (Y.qo eb rfl rfl) (.gw 94 (Y.qz gB rfl rfl rfl rfl) (.gw 94 (Y.zi rfl rfl) ?_))
 refine .gw 94 (Y.zf rfl rfl) ?_
 refine .ax (d := 98) rfl (fun kI => ?_) (fun kI => ?_)
 refine .gw 98 (Y.zf rfl rfl) (.gw 98 (Y.zk rfl) (.gw 94 (Y.zl rfl rfl rfl) ?_))
 refine .pk ?_
 refine .nil (.bY rfl (.skip ?_))
 exact ⟨.inl ⟨kH, lW, kI⟩, Le.mk (.c2 (.c .nil)) (.c (.c .nil))⟩
 refine .gz 98 (.gz 98 (.gw 94 (Y.zl rfl rfl rfl) ?_))
 refine .pk ?_
 refine .nil (.bY rfl (.skip ?_))
 exact ⟨.inr (⟨kH, lW, kI⟩), Le.mk (.c2 (.c .nil)) (.c (.c .nil))⟩
 refine .seq (.sr ?_)
 refine .mv ?_
 refine .vl (Y.zb rfl rfl) (.nil (.aE rfl ?_))
 refine .sr ?_
 refine .fa cN ?_
 refine .ld aZ ?_
 refine .vl (Y.qk rfl rfl) ?_
 refine .an ?_
 refine .nil (.ret ?_)
 exact .rb rfl (dd eM)
 refine .sr (.vl (Y.qk rfl rfl) ?_)
 refine .an ?_
 refine .nil ?_
 refine .ay rfl (fun wC => ?_) (fun wC => ?_)
 refine .seq (.cC rfl (.blind 0 rfl aX (aJ.fieldAddr ek rfl rfl) ah ?_))
 refine .blind 3 rfl aX (aJ.fieldAddr ek rfl rfl) ah ?_
 refine .two 1 4 rfl rfl aX ?_ ?_
 refine .ld aZ ?_
 refine .nil ⟨rfl, ?_⟩
 refine .two 2 4 rfl rfl aX ?_ ?_
 refine .bd xG (jk (op := c.op)) rfl (.ao rfl rfl .nil) ah rfl ?_
 refine .nil ⟨rfl, ?_⟩
 refine .bj (n := 0) [4, 5, 6] [] 0 rfl aX (.cn 4 rfl (Y.qz aZ rfl rfl rfl rfl) (.cn 5 rfl (Y.qe rfl rfl) ?_))
 refine .cn 6 rfl (Y.qe rfl rfl) (.nil (.done aX ?_))
 refine .sr ?_
 refine .mv ?_
 refine .vl (Y.qk rfl rfl) (.nil ?_)
 refine .ay rfl (fun yl => ?_) (fun yl => ?_)
 refine .sr ?_
 refine .an ?_
 refine .nil (.ret ?_)
 exact .rb rfl (df eM)
 refine .skip (.seq (.sr ?_))
 refine .fa en ?_
 refine .ld cZ ?_
 refine .vl (Y.qw (n := c.args.length) a8 rfl gT) ?_
 refine .mv ?_
 refine .vl (Y.zi rfl rfl) ?_
 refine .mv ?_
 refine .ax (d := 88) rfl (fun kH => ?_) (fun kH => ?_)
 refine .gz 88 (.gz 88 (.gz 88 ?_))
 refine .gz 88 ?_
 refine .pk ?_
 refine .mv ?_
 refine .gz 94 (.gz 94 (.gz 94 ?_))
 refine .gz 94 (.gz 98 (.gz 98 ?_))
 refine .gz 94 ?_
 refine .pk ?_
 refine .nil (.aE rfl (.sr ?_))
 refine .an ?_
 refine .nil (.ret ?_)
 exact .rb rfl (df eM)
 refine .gw 88 (Y.qo ek rfl rfl) (.gw 88 (Y.qz aZ rfl rfl rfl rfl) (.gw 88 (Y.zf rfl rfl) ?_))
 refine .gw 88 (Y.zi rfl rfl) ?_
 refine .pk ?_
 refine .mv ?_
 refine .ax (d := 94) rfl (fun lW => ?_) (fun lW => ?_)
 refine .gz 94 (.gz 94 (.gz 94 ?_))
 refine .gz 94 (.gz 98 (.gz 98 ?_))
 refine .gz 94 ?_
 refine .pk ?_
 refine .nil (.aE rfl (.sr ?_))
 refine .an ?_
 refine .nil (.ret ?_)
 exact .rb rfl (df eM)
 refine .gw 94 (Y.qo eb rfl rfl) (.gw 94 (Y.qz gB rfl rfl rfl rfl) (.gw 94 (Y.zi rfl rfl) ?_))
 refine .gw 94 (Y.zf rfl rfl) ?_
 refine .ax (d := 98) rfl (fun kI => ?_) (fun kI => ?_)
 refine .gw 98 (Y.zf rfl rfl) (.gw 98 (Y.zk rfl) (.gw 94 (Y.zl rfl rfl rfl) ?_))
 refine .pk ?_
 refine .nil (.aE rfl (.sr ?_))
 refine .an ?_
 refine .nil (.ret ?_)
 exact .rb rfl (df eM)
 refine .gz 98 (.gz 98 (.gw 94 (Y.zl rfl rfl rfl) ?_))
 refine .pk ?_
 refine .nil (.bY rfl (.skip ?_))
 refine .seq (.sr ?_)
 refine .mv ?_
 refine .vl (Y.zb rfl rfl) (.nil (.aE rfl ?_))
 refine .sr ?_
 refine .fa cN ?_
 refine .ld aZ ?_
 refine .vl (Y.qk rfl rfl) ?_
 refine .an ?_
 refine .nil (.ret ?_)
 exact .rb rfl (dd eM)
 refine .ld aZ ?_
 refine .nil ⟨rfl, ?_⟩
 refine .one 2 rfl aX (.bd xG (jk (op := c.op)) rfl (.ao rfl rfl .nil) ah rfl ?_)
 refine .nil ⟨rfl, ?_⟩
 refine .bj (n := 0) [5, 6] [] 0 rfl aX (.cn 5 rfl (Y.qe rfl rfl) (.cn 6 rfl (Y.qe rfl rfl) ?_))
 refine .nil (.done aX (.sr ?_))
 refine .mv ?_
 refine .vl (Y.qk rfl rfl) (.nil ?_)
 refine .ay rfl (fun yl => ?_) (fun yl => ?_)
 refine .sr ?_
 refine .an ?_
 refine .nil (.ret ?_)
 exact .rb rfl (df eM)
 refine .skip (.seq (.sr ?_))
 refine .fa en ?_
 refine .ld cZ ?_
 refine .vl (Y.qw (n := c.args.length) a8 rfl gT) ?_
 refine .mv ?_
 refine .vl (Y.zi rfl rfl) ?_
 refine .mv ?_
 refine .ax (d := 88) rfl (fun kH => ?_) (fun kH => ?_)
 refine .gz 88 (.gz 88 (.gz 88 ?_))
 refine .gz 88 ?_
 refine .pk ?_
 refine .mv ?_
 refine .gz 94 (.gz 94 (.gz 94 ?_))
 refine .gz 94 (.gz 98 (.gz 98 ?_))
 refine .gz 94 ?_
 refine .pk ?_
 refine .nil (.aE rfl (.sr ?_))
 refine .an ?_
 refine .nil (.ret ?_)
 exact .rb rfl (df eM)
 refine .gw 88 (Y.qo ek rfl rfl) (.gw 88 (Y.qz aZ rfl rfl rfl rfl) (.gw 88 (Y.zf rfl rfl) ?_))
 refine .gw 88 (Y.zi rfl rfl) ?_
 refine .pk ?_
 refine .mv ?_
 refine .ax (d := 94) rfl (fun lW => ?_) (fun lW => ?_)
 refine .gz 94 (.gz 94 (.gz 94 ?_))
 refine .gz 94 (.gz 98 (.gz 98 ?_))
 refine .gz 94 ?_
 refine .pk ?_
 refine .nil (.aE rfl (.sr ?_))
 refine .an ?_
 refine .nil (.ret ?_)
 exact .rb rfl (df eM)
 refine .gw 94 (Y.qo eb rfl rfl) (.gw 94 (Y.qz gB rfl rfl rfl rfl) (.gw 94 (Y.zi rfl rfl) ?_))
 refine .gw 94 (Y.zf rfl rfl) ?_
 refine .ax (d := 98) rfl (fun kI => ?_) (fun kI => ?_)
 refine .gw 98 (Y.zf rfl rfl) (.gw 98 (Y.zk rfl) (.gw 94 (Y.zl rfl rfl rfl) ?_))
 refine .pk ?_
 refine .nil (.aE rfl (.sr ?_))
 refine .an ?_
 refine .nil (.ret ?_)
 exact .rb rfl (df eM)
 refine .gz 98 (.gz 98 (.gw 94 (Y.zl rfl rfl rfl) ?_))
 refine .pk ?_
 refine .nil (.bY rfl (.skip ?_))
 refine .seq (.sr ?_)
 refine .mv ?_
 refine .vl (Y.zb rfl rfl) (.nil (.aE rfl ?_))
 refine .sr ?_
 refine .fa cN ?_
 refine .ld aZ ?_
 refine .vl (Y.qk rfl rfl) ?_
 refine .an ?_
 refine .nil (.ret ?_)
 exact .rb rfl (dd eM)
 refine .ld aZ ?_
 refine .nil ⟨rfl, ?_⟩
 refine .bj (n := 3) [1] [2, 5, 6] 2 rfl aX (.cn 1 rfl (Y.qz aZ rfl rfl rfl rfl) (.nil ?_))
 refine .one 2 rfl aX (.bd xG (jk (op := c.op)) rfl (.ao rfl rfl .nil) ah rfl ?_)
 refine .nil ⟨rfl, ?_⟩
 refine .bj (n := 0) [5, 6] [] 0 rfl aX (.cn 5 rfl (Y.qe rfl rfl) (.cn 6 rfl (Y.qe rfl rfl) ?_))
 refine .nil (.done aX (.sr ?_))
 refine .mv ?_
 refine .vl (Y.qk rfl rfl) (.nil ?_)
 refine .ay rfl (fun yl => ?_) (fun yl => ?_)
 refine .sr ?_
 refine .an ?_
 refine .nil (.ret ?_)
 exact .rb rfl (df eM)
 refine .skip (.seq (.sr ?_))
 refine .fa en ?_
 refine .ld cZ ?_
 refine .vl (Y.qw (n := c.args.length) a8 rfl gT) ?_
 refine .mv ?_
 refine .vl (Y.zi rfl rfl) ?_
 refine .mv ?_
 refine .ax (d := 88) rfl (fun kH => ?_) (fun kH => ?_)
 refine .gz 88 (.gz 88 (.gz 88 ?_))
 refine .gz 88 ?_
 refine .pk ?_
 refine .mv ?_
 refine .gz 94 (.gz 94 (.gz 94 ?_))
 refine .gz 94 (.gz 98 (.gz 98 ?_))
 refine .gz 94 ?_
 refine .pk ?_
 refine .nil (.aE rfl (.sr ?_))
 refine .an ?_
 refine .nil (.ret ?_)
 exact .rb rfl (df eM)
 refine .gw 88 (Y.qo ek rfl rfl) (.gw 88 (Y.qz aZ rfl rfl rfl rfl) (.gw 88 (Y.zf rfl rfl) ?_))
 refine .gw 88 (Y.zi rfl rfl) ?_
 refine .pk ?_
 refine .mv ?_
 refine .ax (d := 94) rfl (fun lW => ?_) (fun lW => ?_)
 refine .gz 94 (.gz 94 (.gz 94 ?_))
 refine .gz 94 (.gz 98 (.gz 98 ?_))
 refine .gz 94 ?_
 refine .pk ?_
 refine .nil (.aE rfl (.sr ?_))
 refine .an ?_
 refine .nil (.ret ?_)
 exact .rb rfl (df eM)
 refine .gw 94 (Y.qo eb rfl rfl) (.gw 94 (Y.qz gB rfl rfl rfl rfl) (.gw 94 (Y.zi rfl rfl) ?_))
 refine .gw 94 (Y.zf rfl rfl) ?_
 refine .ax (d := 98) rfl (fun kI => ?_) (fun kI => ?_)
 refine .gw 98 (Y.zf rfl rfl) (.gw 98 (Y.zk rfl) (.gw 94 (Y.zl rfl rfl rfl) ?_))
 refine .pk ?_
 refine .nil (.aE rfl (.sr ?_))
 refine .an ?_
 refine .nil (.ret ?_)
 exact .rb rfl (df eM)
 refine .gz 98 (.gz 98 (.gw 94 (Y.zl rfl rfl rfl) ?_))
 refine .pk ?_
 refine .nil (.bY rfl (.skip ?_))
 refine .seq (.sr ?_)
 refine .mv ?_
 refine .vl (Y.zb rfl rfl) (.nil (.aE rfl ?_))
 refine .sr ?_
 refine .fa cN ?_
 refine .ld aZ ?_
 refine .vl (Y.qk rfl rfl) ?_
 refine .an ?_
 refine .nil (.ret ?_)
 exact .rb rfl (dd eM)
 refine .sr (.vl (Y.qk rfl rfl) ?_)
 refine .an ?_
 refine .nil ?_
 refine .ay rfl (fun lV => ?_) (fun lV => ?_)
 refine .sr ?_
 refine .fa en ?_
 refine .ld cZ ?_
 refine .vl (Y.qw (n := c.args.length) a8 rfl gT) ?_
 refine .an ?_
 refine .nil (.sr ?_)
 refine .mv ?_
 refine .vl (Y.zb rfl rfl) ?_
 refine .mv ?_
 refine .ax (d := 29) rfl (fun JV => ?_) (fun JV => ?_)
 refine .gz 29 (.gz 29 (.gz 29 ?_))
 refine .pk ?_
 refine .nil (.aE rfl (.sr ?_))
 refine .an ?_
 refine .nil (.ret ?_)
 exact .rb rfl (df eM)
 refine .gw 29 (Y.zf rfl rfl) (.gw 29 (Y.zp rfl rfl om) (.gw 29 (Y.qk rfl rfl) ?_))
 refine .pk ?_
 refine .nil ?_
 refine .ay rfl (fun tj => ?_) (fun tj => ?_)
 refine .sr ?_
 refine .an ?_
 refine .nil (.ret ?_)
 exact .rb rfl (df eM)
 refine .skip (.seq (.sr ?_))
 refine .fa en ?_
 refine .ld cZ ?_
 refine .vl (Y.qw (n := c.args.length) a8 rfl gT) ?_
 refine .mv ?_
 refine .vl (Y.zi rfl rfl) ?_
 refine .mv ?_
 refine .ax (d := 88) rfl (fun kH => ?_) (fun kH => ?_)
 refine .gz 88 (.gz 88 (.gz 88 ?_))
 refine .gz 88 ?_
 refine .pk ?_
 refine .mv ?_
 refine .gz 94 (.gz 94 (.gz 94 ?_))
 refine .gz 94 (.gz 98 (.gz 98 ?_))
 refine .gz 94 ?_
 refine .pk ?_
 refine .nil (.aE rfl (.sr ?_))
 refine .an ?_
 refine .nil (.ret ?_)
 exact .rb rfl (df eM)
 refine .gw 88 (Y.qo ek rfl rfl) (.gw 88 (Y.qz aZ rfl rfl rfl rfl) (.gw 88 (Y.zf rfl rfl) ?_))
 refine .gw 88 (Y.zi rfl rfl) ?_
 refine .pk ?_
 refine .mv ?_
 refine .ax (d := 94) rfl (fun lW => ?_) (fun lW => ?_)
 refine .gz 94 (.gz 94 (.gz 94 ?_))
 refine .gz 94 (.gz 98 (.gz 98 ?_))
 refine .gz 94 ?_
 refine .pk ?_
 refine .nil (.aE rfl (.sr ?_))
 refine .an ?_
 refine .nil (.ret ?_)
 exact .rb rfl (df eM)
 refine .gw 94 (Y.qo eb rfl rfl) (.gw 94 (Y.qz gB rfl rfl rfl rfl) (.gw 94 (Y.zi rfl rfl) ?_))
 refine .gw 94 (Y.zf rfl rfl) ?_
 refine .ax (d := 98) rfl (fun kI => ?_) (fun kI => ?_)
 refine .gw 98 (Y.zf rfl rfl) (.gw 98 (Y.zk rfl) (.gw 94 (Y.zl rfl rfl rfl) ?_))
 refine .pk ?_
 refine .nil (.aE rfl (.sr ?_))
 refine .an ?_
 refine .nil (.ret ?_)
 exact .rb rfl (df eM)
 refine .gz 98 (.gz 98 (.gw 94 (Y.zl rfl rfl rfl) ?_))
 refine .pk ?_
 refine .nil (.bY rfl (.skip ?_))
 refine .seq (.sr ?_)
 refine .mv ?_
 refine .vl (Y.zb rfl rfl) (.nil (.aE rfl ?_))
 refine .sr ?_
 refine .fa cN ?_
 refine .ld aZ ?_
 refine .vl (Y.qk rfl rfl) ?_
 refine .an ?_
 refine .nil (.ret ?_)
 exact .rb rfl (dd eM)
 refine .sr (.vl (Y.qk rfl rfl) ?_)
 refine .an ?_
 refine .nil ?_
 refine .ay rfl (fun Ez => ?_) (fun Ez => ?_)
 refine .region ?_
 refine .an ?_
 refine .an ?_
 refine .nil ?_
 refine .nK (⟨[(2, .ptr 102 0 0 0), (3, .ptr 103 0 0 0), (8, vi (-1))], [(102, .cells (ab.row n)), (103, .cells (Cell.row c))]⟩) (((¬ ((c.args.length : Int) ≠ 2)) ∧ (¬ (c.op ≠ 0)) ∧ ((c.num : Int) ≠ 0)) ∨ ((¬ ((c.args.length : Int) ≠ 2)) ∧ (¬ (c.op ≠ 0)) ∧ (¬ ((c.num : Int) ≠ 0)))) ?_ (fun Dx => ?_)
 refine .sr ?_
 refine .fa en ?_
 refine .ld cZ ?_
 refine .vl (Y.qw (n := c.args.length) a8 rfl gT) ?_
 refine .mv ?_
 refine .vl (Y.zi rfl rfl) ?_
 refine .mv ?_
 refine .ax (d := 88) rfl (fun kH => ?_) (fun kH => ?_)
 refine .gz 88 (.gz 88 (.gz 88 ?_))
 refine .gz 88 ?_
 refine .pk ?_
 refine .mv ?_
 refine .gz 94 (.gz 94 (.gz 94 ?_))
 refine .gz 94 (.gz 98 (.gz 98 ?_))
 refine .gz 94 ?_
 refine .pk ?_
 refine .nil (.aE rfl (.sr ?_))
 refine .an ?_
 refine .nil (.ret ?_)
 exact .rb rfl (df eM)
 refine .gw 88 (Y.qo ek rfl rfl) (.gw 88 (Y.qz aZ rfl rfl rfl rfl) (.gw 88 (Y.zf rfl rfl) ?_))
 refine .gw 88 (Y.zi rfl rfl) ?_
 refine .pk ?_
 refine .mv ?_
 refine .ax (d := 94) rfl (fun lW => ?_) (fun lW => ?_)
 refine .gz 94 (.gz 94 (.gz 94 ?_))
 refine .gz 94 (.gz 98 (.gz 98 ?_))
 refine .gz 94 ?_
 refine .pk ?_
 refine .nil (.aE rfl (.sr ?_))
 refine .an ?_
 refine .nil (.ret ?_)
 exact .rb rfl (df eM)
 refine .gw 94 (Y.qo eb rfl rfl) (.gw 94 (Y.qz gB rfl rfl rfl rfl) (.gw 94 (Y.zi rfl rfl) ?_))
 refine .gw 94 (Y.zf rfl rfl) ?_
 refine .ax (d := 98) rfl (fun kI => ?_) (fun kI => ?_)
 refine .gw 98 (Y.zf rfl rfl) (.gw 98 (Y.zk rfl) (.gw 94 (Y.zl rfl rfl rfl) ?_))
 refine .pk ?_
 refine .nil (.bY rfl (.skip ?_))
 exact ⟨.inl ⟨kH, lW, kI⟩, Le.mk (.c2 (.c .nil)) (.c (.c .nil))⟩
 refine .gz 98 (.gz 98 (.gw 94 (Y.zl rfl rfl rfl) ?_))
 refine .pk ?_
 refine .nil (.bY rfl (.skip ?_))
 exact ⟨.inr (⟨kH, lW, kI⟩), Le.mk (.c2 (.c .nil)) (.c (.c .nil))⟩
 refine .seq (.sr ?_)
 refine .mv ?_
 refine .vl (Y.zb rfl rfl) (.nil (.aE rfl ?_))
 refine .sr ?_
 refine .fa cN ?_
 refine .ld aZ ?_
 refine .vl (Y.qk rfl rfl) ?_
 refine .an ?_
 refine .nil (.ret ?_)
 exact .rb rfl (dd eM)
 refine .sr (.vl (Y.qk rfl rfl) ?_)
 refine .an ?_
 refine .nil ?_
 refine .ay rfl (fun Io => ?_) (fun Io => ?_)
 refine .seq (.fR rfl aX (.val (Y.qo ek rfl rfl) ah ?_))
 refine .val (Y.qz aZ rfl rfl rfl rfl) ah (.val (Y.qe rfl rfl) ah (.val (Y.qe rfl rfl) ah ?_))
 refine .val (Y.qe rfl rfl) ah (.nil (.sr ?_))
 refine .fa ek ?_
 refine .ld aZ ?_
 refine .vl (Y.zb rfl rfl) ?_
 refine .mv ?_
 refine .ax (d := 43) rfl (fun JW => ?_) (fun JW => ?_)
 refine .gz 43 (.gz 43 (.gz 43 ?_))
 refine .pk ?_
 refine .mv ?_
 refine .gz 48 (.gz 48 (.gz 48 ?_))
 refine .pk ?_
 refine .mv ?_
 refine .gz 53 (.gz 53 (.gz 53 ?_))
 refine .pk ?_
 refine .nil (.aE rfl (.sr ?_))
 refine .an ?_
 refine .nil (.ret ?_)
 exact .rb rfl (df eM)
 refine .gw 43 (Y.qo ek rfl rfl) (.gw 43 (Y.qz aZ rfl rfl rfl rfl) (.gw 43 (Y.qq rfl rfl) ?_))
 refine .pk ?_
 refine .mv ?_
 refine .ax (d := 48) rfl (fun ug => ?_) (fun ug => ?_)
 refine .gz 48 (.gz 48 (.gz 48 ?_))
 refine .pk ?_
 refine .mv ?_
 refine .gz 53 (.gz 53 (.gz 53 ?_))
 refine .pk ?_
 refine .nil (.aE rfl (.sr ?_))
 refine .an ?_
 refine .nil (.ret ?_)
 exact .rb rfl (df eM)
 refine .gw 48 (Y.qo eb rfl rfl) (.gw 48 (Y.qz gB rfl rfl rfl rfl) (.gw 48 (Y.zb rfl rfl) ?_))
 refine .pk ?_
 refine .mv ?_
 refine .ax (d := 53) rfl (fun GW => ?_) (fun GW => ?_)
 refine .gz 53 (.gz 53 (.gz 53 ?_))
 refine .pk ?_
 refine .nil (.aE rfl (.sr ?_))
 refine .an ?_
 refine .nil (.ret ?_)
 exact .rb rfl (df eM)
 refine .gw 53 (Y.qo eb rfl rfl) (.gw 53 (Y.qz gB rfl rfl rfl rfl) (.gw 53 (Y.qq rfl rfl) ?_))
 refine .pk ?_
 refine .nil ?_
 refine .ay rfl (fun vo => ?_) (fun vo => ?_)
 refine .sr ?_
 refine .an ?_
 refine .nil (.ret ?_)
 exact .rb rfl (df eM)
 refine .skip ?_
 refine .nK (⟨[(2, .ptr 102 0 0 0), (3, .ptr 103 0 0 0), (8, vi (-1))], [(102, .cells (ab.row n)), (103, .cells (Cell.row c))]⟩) (((¬ ((c.args.length : Int) ≠ 2)) ∧ (¬ (c.op ≠ c.op)) ∧ ((c.num : Int) ≠ 0)) ∨ ((¬ ((c.args.length : Int) ≠ 2)) ∧ (¬ (c.op ≠ c.op)) ∧ (¬ ((c.num : Int) ≠ 0)))) ?_ (fun Dx => ?_)
 refine .sr ?_
 refine .fa en ?_
 refine .ld cZ ?_
 refine .vl (Y.qw (n := c.args.length) a8 rfl gT) ?_
 refine .mv ?_
 refine .vl (Y.zi rfl rfl) ?_
 refine .mv ?_
 refine .ax (d := 88) rfl (fun kH => ?_) (fun kH => ?_)
 refine .gz 88 (.gz 88 (.gz 88 ?_))
 refine .gz 88 ?_
 refine .pk ?_
 refine .mv ?_
 refine .gz 94 (.gz 94 (.gz 94 ?_))
 refine .gz 94 (.gz 98 (.gz 98 ?_))
 refine .gz 94 ?_
 refine .pk ?_
 refine .nil (.aE rfl (.sr ?_))
 refine .an ?_
 refine .nil (.ret ?_)
 exact .rb rfl (df eM)
 refine .gw 88 (Y.qo ek rfl rfl) (.gw 88 (Y.qz aZ rfl rfl rfl rfl) (.gw 88 (Y.zf rfl rfl) ?_))
 refine .gw 88 (Y.zi rfl rfl) ?_
 refine .pk ?_
 refine .mv ?_
 refine .ax (d := 94) rfl (fun lW => ?_) (fun lW => ?_)
 refine .gz 94 (.gz 94 (.gz 94 ?_))
 refine .gz 94 (.gz 98 (.gz 98 ?_))
 refine .gz 94 ?_
 refine .pk ?_
 refine .nil (.aE rfl (.sr ?_))
 refine .an ?_
 refine .nil (.ret ?_)
 exact .rb rfl (df eM)
 refine .gw 94 (Y.qo eb rfl rfl) (.gw 94 (Y.qz gB rfl rfl rfl rfl) (.gw 94 (Y.zi rfl rfl) ?_))
 refine .gw 94 (Y.zf rfl rfl) ?_
 refine .ax (d := 98) rfl (fun kI => ?_) (fun kI => ?_)
 refine .gw 98 (Y.zf rfl rfl) (.gw 98 (Y.zk rfl) (.gw 94 (Y.zl rfl rfl rfl) ?_))
 refine .pk ?_
 refine .nil (.bY rfl (.skip ?_))
 exact ⟨.inl ⟨kH, lW, kI⟩, Le.mk (.c2 (.c .nil)) (.c (.c .nil))⟩
 refine .gz 98 (.gz 98 (.gw 94 (Y.zl rfl rfl rfl) ?_))
 refine .pk ?_
 refine .nil (.bY rfl (.skip ?_))
 exact ⟨.inr (⟨kH, lW, kI⟩), Le.mk (.c2 (.c .nil)) (.c (.c .nil))⟩
 refine .seq (.sr ?_)
 refine .mv ?_
 refine .vl (Y.zb rfl rfl) (.nil (.aE rfl ?_))
 refine .sr ?_
 refine .fa cN ?_
 refine .ld aZ ?_
 refine .vl (Y.qk rfl rfl) ?_
 refine .an ?_
 refine .nil (.ret ?_)
 exact .rb rfl (dd eM)
 refine .sr (.vl (Y.qk rfl rfl) ?_)
 refine .an ?_
 refine .nil ?_
 refine .ay rfl (fun Ip => ?_) (fun Ip => ?_)
 refine .fR rfl aX (.val (Y.qo nf rfl rfl) ah (.val (Y.qz vN rfl rfl rfl rfl) ah ?_))
 refine .val (Y.qw (n := n.bs.length) tV rfl gT) ah (.val (Y.qe rfl rfl) ah (.val (Y.qe rfl rfl) ah ?_))
 refine .nil (.seq (.sr ?_))
 refine .fa en ?_
 refine .ld cZ ?_
 refine .vl (Y.qw (n := c.args.length) a8 rfl gT) ?_
 refine .mv ?_
 refine .vl (Y.zi rfl rfl) ?_
 refine .mv ?_
 refine .ax (d := 88) rfl (fun kH => ?_) (fun kH => ?_)
 refine .gz 88 (.gz 88 (.gz 88 ?_))
 refine .gz 88 ?_
 refine .pk ?_
 refine .mv ?_
 refine .gz 94 (.gz 94 (.gz 94 ?_))
 refine .gz 94 (.gz 98 (.gz 98 ?_))
 refine .gz 94 ?_
 refine .pk ?_
 refine .nil (.aE rfl (.sr ?_))
 refine .an ?_
 refine .nil (.ret ?_)
 exact .rb rfl (df eM)
 refine .gw 88 (Y.qo ek rfl rfl) (.gw 88 (Y.qz aZ rfl rfl rfl rfl) (.gw 88 (Y.zf rfl rfl) ?_))
 refine .gw 88 (Y.zi rfl rfl) ?_
 refine .pk ?_
 refine .mv ?_
 refine .ax (d := 94) rfl (fun lW => ?_) (fun lW => ?_)
 refine .gz 94 (.gz 94 (.gz 94 ?_))
 refine .gz 94 (.gz 98 (.gz 98 ?_))
 refine .gz 94 ?_
 refine .pk ?_
 refine .nil (.aE rfl (.sr ?_))
 refine .an ?_
 refine .nil (.ret ?_)
 exact .rb rfl (df eM)
 refine .gw 94 (Y.qo eb rfl rfl) (.gw 94 (Y.qz gB rfl rfl rfl rfl) (.gw 94 (Y.zi rfl rfl) ?_))
 refine .gw 94 (Y.zf rfl rfl) ?_
 refine .ax (d := 98) rfl (fun kI => ?_) (fun kI => ?_)
 refine .gw 98 (Y.zf rfl rfl) (.gw 98 (Y.zk rfl) (.gw 94 (Y.zl rfl rfl rfl) ?_))
 refine .pk ?_
 refine .nil (.aE rfl (.sr ?_))
 refine .an ?_
 refine .nil (.ret ?_)
 exact .rb rfl (df eM)
 refine .gz 98 (.gz 98 (.gw 94 (Y.zl rfl rfl rfl) ?_))
 refine .pk ?_
 refine .nil (.bY rfl (.skip ?_))
 refine .seq (.sr ?_)
 refine .mv ?_
 refine .vl (Y.zb rfl rfl) (.nil ?_)
 refine .ay rfl (fun kJ => ?_) (fun kJ => ?_)
 refine .sr ?_
 refine .fa cN ?_
 refine .ld aZ ?_
 refine .vl (Y.qk rfl rfl) ?_
 refine .an ?_
 refine .nil (.ret ?_)
 exact .rb rfl (dd eM)
 refine .skip (.sr ?_)
 refine .fa cN ?_
 refine .ld aZ ?_
 refine .vl (Y.qp rfl rfl) ?_
 refine .mv ?_
 refine .ax (d := 111) rfl (fun uh => ?_) (fun uh => ?_)
 refine .gw 111 (Y.qo cN rfl rfl) (.gw 111 (Y.qz aZ rfl rfl rfl rfl) (.gw 111 (Y.zf rfl rfl) ?_))
 refine .gw 111 (Y.zb rfl rfl) ?_
 refine .pk ?_
 refine .mv ?_
 refine .ax (d := 117) rfl (fun lr => ?_) (fun lr => ?_)
 refine .gw 117 (Y.qo ji rfl rfl) (.gw 117 (Y.qz aZ rfl rfl rfl rfl) (.gw 117 (Y.zi rfl rfl) ?_))
 refine .gw 117 (Y.zf rfl rfl) ?_
 refine .ax (d := 121) rfl (fun ui => ?_) (fun ui => ?_)
 refine .gz 121 (.gz 121 (.gz 121 ?_))
 refine .gz 121 (.gz 121 (.gz 121 ?_))
 refine .gz 121 (.gz 121 (.gw 117 (Y.zl rfl rfl rfl) ?_))
 refine .pk ?_
 refine .an ?_
 refine .nil (.ret ?_)
 exact .rb rfl (dt eM)
 refine .gw 121 (Y.qo gQ rfl rfl) (.gw 121 (Y.qz nX rfl rfl rfl rfl) (.gw 121 (Y.qo cN rfl rfl) ?_))
 refine .gw 121 (Y.qz aZ rfl rfl rfl rfl) (.gw 121 (Y.qr (m := (c.mem).toNat) m7 rfl rfl om (aw (d := default) om)) ?_)
 refine .gw 121 (Y.qo iW rfl rfl) (.gw 121 (Y.qz xI rfl rfl rfl rfl) (.gw 121 (Y.zk rfl) ?_))
 refine .gw 117 (Y.zl rfl rfl rfl) ?_
 refine .pk ?_
 refine .an ?_
 refine .nil (.ret ?_)
 exact .rb rfl (db eM)
 refine .gz 117 (.gz 117 (.gz 117 ?_))
 refine .gz 117 (.gz 121 (.gz 121 ?_))
 refine .gz 121 (.gz 121 (.gz 121 ?_))
 refine .gz 121 (.gz 121 (.gz 121 ?_))
 refine .gz 117 ?_
 refine .pk ?_
 refine .an ?_
 refine .nil (.ret ?_)
 exact .rb rfl (df eM)
 refine .gz 111 (.gz 111 (.gz 111 ?_))
 refine .gz 111 ?_
 refine .pk ?_
 refine .mv ?_
 refine .gz 117 (.gz 117 (.gz 117 ?_))
 refine .gz 117 (.gz 121 (.gz 121 ?_))
 refine .gz 121 (.gz 121 (.gz 121 ?_))
 refine .gz 121 (.gz 121 (.gz 121 ?_))
 refine .gz 117 ?_
 refine .pk ?_
 refine .an ?_
 refine .nil (.ret ?_)
 exact .rb rfl (df eM)
 refine .sr (.vl (Y.qk rfl rfl) ?_)
 refine .an ?_
 refine .nil ?_
 refine .ay rfl (fun pI => ?_) (fun pI => ?_)
 refine .fR rfl aX (.val (Y.qo nf rfl rfl) ah (.val (Y.qz vN rfl rfl rfl rfl) ah ?_))
 refine .val (Y.qw (n := n.bs.length) tV rfl gT) ah (.val (Y.qe rfl rfl) ah (.val (Y.qe rfl rfl) ah ?_))
 refine .nil (.seq (.sr ?_))
 refine .fa en ?_
 refine .ld cZ ?_
 refine .vl (Y.qw (n := c.args.length) a8 rfl gT) ?_
 refine .mv ?_
 refine .vl (Y.zi rfl rfl) ?_
 refine .mv ?_
 refine .ax (d := 88) rfl (fun kH => ?_) (fun kH => ?_)
 refine .gz 88 (.gz 88 (.gz 88 ?_))
 refine .gz 88 ?_
 refine .pk ?_
 refine .mv ?_
 refine .gz 94 (.gz 94 (.gz 94 ?_))
 refine .gz 94 (.gz 98 (.gz 98 ?_))
 refine .gz 94 ?_
 refine .pk ?_
 refine .nil (.aE rfl (.sr ?_))
 refine .an ?_
 refine .nil (.ret ?_)
 exact .rb rfl (df eM)
 refine .gw 88 (Y.qo ek rfl rfl) (.gw 88 (Y.qz aZ rfl rfl rfl rfl) (.gw 88 (Y.zf rfl rfl) ?_))
 refine .gw 88 (Y.zi rfl rfl) ?_
 refine .pk ?_
 refine .mv ?_
 refine .ax (d := 94) rfl (fun lW => ?_) (fun lW => ?_)
 refine .gz 94 (.gz 94 (.gz 94 ?_))
 refine .gz 94 (.gz 98 (.gz 98 ?_))
 refine .gz 94 ?_
 refine .pk ?_
 refine .nil (.aE rfl (.sr ?_))
 refine .an ?_
 refine .nil (.ret ?_)
 exact .rb rfl (df eM)
 refine .gw 94 (Y.qo eb rfl rfl) (.gw 94 (Y.qz gB rfl rfl rfl rfl) (.gw 94 (Y.zi rfl rfl) ?_))
 refine .gw 94 (Y.zf rfl rfl) ?_
 refine .ax (d := 98) rfl (fun kI => ?_) (fun kI => ?_)
 refine .gw 98 (Y.zf rfl rfl) (.gw 98 (Y.zk rfl) (.gw 94 (Y.zl rfl rfl rfl) ?_))
 refine .pk ?_
 refine .nil (.aE rfl (.sr ?_))
 refine .an ?_
 refine .nil (.ret ?_)
 exact .rb rfl (df eM)
 refine .gz 98 (.gz 98 (.gw 94 (Y.zl rfl rfl rfl) ?_))
 refine .pk ?_
 refine .nil (.bY rfl (.skip ?_))
 refine .seq (.sr ?_)
 refine .mv ?_
 refine .vl (Y.zb rfl rfl) (.nil ?_)
 refine .ay rfl (fun kJ => ?_) (fun kJ => ?_)
 refine .sr ?_
 refine .fa cN ?_
 refine .ld aZ ?_
 refine .vl (Y.qk rfl rfl) ?_
 refine .an ?_
 refine .nil (.ret ?_)
 exact .rb rfl (dd eM)
 refine .skip (.sr ?_)
 refine .fa cN ?_
 refine .ld aZ ?_
 refine .vl (Y.qp rfl rfl) ?_
 refine .mv ?_
 refine .ax (d := 111) rfl (fun uh => ?_) (fun uh => ?_)
 refine .gw 111 (Y.qo cN rfl rfl) (.gw 111 (Y.qz aZ rfl rfl rfl rfl) (.gw 111 (Y.zf rfl rfl) ?_))
 refine .gw 111 (Y.zb rfl rfl) ?_
 refine .pk ?_
 refine .mv ?_
 refine .ax (d := 117) rfl (fun lr => ?_) (fun lr => ?_)
 refine .gw 117 (Y.qo ji rfl rfl) (.gw 117 (Y.qz aZ rfl rfl rfl rfl) (.gw 117 (Y.zi rfl rfl) ?_))
 refine .gw 117 (Y.zf rfl rfl) ?_
 refine .ax (d := 121) rfl (fun ui => ?_) (fun ui => ?_)
 refine .gz 121 (.gz 121 (.gz 121 ?_))
 refine .gz 121 (.gz 121 (.gz 121 ?_))
 refine .gz 121 (.gz 121 (.gw 117 (Y.zl rfl rfl rfl) ?_))
 refine .pk ?_
 refine .an ?_
 refine .nil (.ret ?_)
 exact .rb rfl (dt eM)
 refine .gw 121 (Y.qo gQ rfl rfl) (.gw 121 (Y.qz nX rfl rfl rfl rfl) (.gw 121 (Y.qo cN rfl rfl) ?_))
 refine .gw 121 (Y.qz aZ rfl rfl rfl rfl) (.gw 121 (Y.qr (m := (c.mem).toNat) m7 rfl rfl om (aw (d := default) om)) ?_)
 refine .gw 121 (Y.qo iW rfl rfl) (.gw 121 (Y.qz xI rfl rfl rfl rfl) (.gw 121 (Y.zk rfl) ?_))
 refine .gw 117 (Y.zl rfl rfl rfl) ?_
 refine .pk ?_
 refine .an ?_
 refine .nil (.ret ?_)
 exact .rb rfl (db eM)
 refine .gz 117 (.gz 117 (.gz 117 ?_))
 refine .gz 117 (.gz 121 (.gz 121 ?_))
 refine .gz 121 (.gz 121 (.gz 121 ?_))
 refine .gz 121 (.gz 121 (.gz 121 ?_))
 refine .gz 117 ?_
 refine .pk ?_
 refine .an ?_
 refine .nil (.ret ?_)
 exact .rb rfl (df eM)
 refine .gz 111 (.gz 111 (.gz 111 ?_))
 refine .gz 111 ?_
 refine .pk ?_
 refine .mv ?_
 refine .gz 117 (.gz 117 (.gz 117 ?_))
 refine .gz 117 (.gz 121 (.gz 121 ?_))
 refine .gz 121 (.gz 121 (.gz 121 ?_))
 refine .gz 121 (.gz 121 (.gz 121 ?_))
 refine .gz 117 ?_
 refine .pk ?_
 refine .an ?_
 refine .nil (.ret ?_)
 exact .rb rfl (df eM)
 refine .sr (.vl (Y.qk rfl rfl) ?_)
 refine .an ?_
 refine .nil ?_
 refine .ay rfl (fun wD => ?_) (fun wD => ?_)
 refine .sr ?_
 refine .an ?_
 refine .nil (.sr ?_)
 refine .fa eb ?_
 refine .ld gB ?_
 refine .fa oU ?_
 refine .ld cZ ?_
 refine .vl (Y.qw (n := n.ins.length) a8 rfl gT) (.vl (Y.qj BS CV rfl (by first | rfl | exact IntWalk.u64_in _ om)) ?_)
 refine .vl (Y.qp rfl rfl) (.nil ?_)
 refine .ay rfl (fun GX => ?_) (fun GX => ?_)
 refine .sr ?_
 refine .an ?_
 refine .nil (.ret ?_)
 exact .rb rfl (df eM)
 refine .skip ?_
 refine .nK (⟨[(2, .ptr 102 0 0 0), (3, .ptr 103 0 0 0), (8, vi (-1))], [(102, .cells (ab.row n)), (103, .cells (Cell.row c))]⟩) (((¬ ((c.args.length : Int) ≠ 0)) ∧ (¬ (c.op ≠ 0)) ∧ ((c.num : Int) ≠ 0)) ∨ ((¬ ((c.args.length : Int) ≠ 0)) ∧ (¬ (c.op ≠ 0)) ∧ (¬ ((c.num : Int) ≠ 0)))) ?_ (fun Dx => ?_)
 refine .sr ?_
 refine .fa en ?_
 refine .ld cZ ?_
 refine .vl (Y.qw (n := c.args.length) a8 rfl gT) ?_
 refine .mv ?_
 refine .vl (Y.zi rfl rfl) ?_
 refine .mv ?_
 refine .ax (d := 88) rfl (fun kH => ?_) (fun kH => ?_)
 refine .gz 88 (.gz 88 (.gz 88 ?_))
 refine .gz 88 ?_
 refine .pk ?_
 refine .mv ?_
 refine .gz 94 (.gz 94 (.gz 94 ?_))
 refine .gz 94 (.gz 98 (.gz 98 ?_))
 refine .gz 94 ?_
 refine .pk ?_
 refine .nil (.aE rfl (.sr ?_))
 refine .an ?_
 refine .nil (.ret ?_)
 exact .rb rfl (df eM)
 refine .gw 88 (Y.qo ek rfl rfl) (.gw 88 (Y.qz aZ rfl rfl rfl rfl) (.gw 88 (Y.zf rfl rfl) ?_))
 refine .gw 88 (Y.zi rfl rfl) ?_
 refine .pk ?_
 refine .mv ?_
 refine .ax (d := 94) rfl (fun lW => ?_) (fun lW => ?_)
 refine .gz 94 (.gz 94 (.gz 94 ?_))
 refine .gz 94 (.gz 98 (.gz 98 ?_))
 refine .gz 94 ?_
 refine .pk ?_
 refine .nil (.aE rfl (.sr ?_))
 refine .an ?_
 refine .nil (.ret ?_)
 exact .rb rfl (df eM)
 refine .gw 94 (Y.qo eb rfl rfl) (.gw 94 (Y.qz gB rfl rfl rfl rfl) (.gw 94 (Y.zi rfl rfl) ?_))
 refine .gw 94 (Y.zf rfl rfl) ?_
 refine .ax (d := 98) rfl (fun kI => ?_) (fun kI => ?_)
 refine .gw 98 (Y.zf rfl rfl) (.gw 98 (Y.zk rfl) (.gw 94 (Y.zl rfl rfl rfl) ?_))
 refine .pk ?_
 refine .nil (.bY rfl (.skip ?_))
 exact ⟨.inl ⟨kH, lW, kI⟩, Le.mk (.c2 (.c .nil)) (.c (.c .nil))⟩
 refine .gz 98 (.gz 98 (.gw 94 (Y.zl rfl rfl rfl) ?_))
 refine .pk ?_
 refine .nil (.bY rfl (.skip ?_))
 exact ⟨.inr (⟨kH, lW, kI⟩), Le.mk (.c2 (.c .nil)) (.c (.c .nil))⟩
 refine .seq (.sr ?_)
 refine .mv ?_
 refine .vl (Y.zb rfl rfl) (.nil (.aE rfl ?_))
 refine .sr ?_
 refine .fa cN ?_
 refine .ld aZ ?_
 refine .vl (Y.qk rfl rfl) ?_
 refine .an ?_
 refine .nil (.ret ?_)
 exact .rb rfl (dd eM)
 refine .seq (.sr (.vl (Y.qk rfl rfl) ?_))
 refine .an ?_
 refine .nil ?_
 refine .aU rfl (fun AO => ?_) (fun AO => ?_)
 refine .skip (.aE rfl (.region ?_))
 refine .fa gQ ?_
 refine .ld nX ?_
 refine .vl (Y.qw (n := n.streams.length) m7 rfl gT) ?_
 refine .an ?_
 refine .nil (.seq (.sr ?_))
 refine .fa en ?_
 refine .ld cZ ?_
 refine .vl (Y.qw (n := c.args.length) a8 rfl gT) ?_
 refine .mv ?_
 refine .vl (Y.zi rfl rfl) ?_
 refine .mv ?_
 refine .ax (d := 88) rfl (fun kH => ?_) (fun kH => ?_)
 refine .gz 88 (.gz 88 (.gz 88 ?_))
 refine .gz 88 ?_
 refine .pk ?_
 refine .mv ?_
 refine .gz 94 (.gz 94 (.gz 94 ?_))
 refine .gz 94 (.gz 98 (.gz 98 ?_))
 refine .gz 94 ?_
 refine .pk ?_
 refine .nil (.aE rfl (.sr ?_))
 refine .an ?_
 refine .nil (.ret ?_)
 exact .rb rfl (df eM)
 refine .gw 88 (Y.qo ek rfl rfl) (.gw 88 (Y.qz aZ rfl rfl rfl rfl) (.gw 88 (Y.zf rfl rfl) ?_))
 refine .gw 88 (Y.zi rfl rfl) ?_
 refine .pk ?_
 refine .mv ?_
 refine .ax (d := 94) rfl (fun lW => ?_) (fun lW => ?_)
 refine .gz 94 (.gz 94 (.gz 94 ?_))
 refine .gz 94 (.gz 98 (.gz 98 ?_))
 refine .gz 94 ?_
 refine .pk ?_
 refine .nil (.aE rfl (.sr ?_))
 refine .an ?_
 refine .nil (.ret ?_)
 exact .rb rfl (df eM)
 refine .gw 94 (Y.qo eb rfl rfl) (.gw 94 (Y.qz gB rfl rfl rfl rfl) (.gw 94 (Y.zi rfl rfl) ?_))
 refine .gw 94 (Y.zf rfl rfl) ?_
 refine .ax (d := 98) rfl (fun kI => ?_) (fun kI => ?_)
 refine .gw 98 (Y.zf rfl rfl) (.gw 98 (Y.zk rfl) (.gw 94 (Y.zl rfl rfl rfl) ?_))
 refine .pk ?_
 refine .nil (.aE rfl (.sr ?_))
 refine .an ?_
 refine .nil (.ret ?_)
 exact .rb rfl (df eM)
 refine .gz 98 (.gz 98 (.gw 94 (Y.zl rfl rfl rfl) ?_))
 refine .pk ?_
 refine .nil (.bY rfl (.skip ?_))
 refine .seq (.sr ?_)
 refine .mv ?_
 refine .vl (Y.zb rfl rfl) (.nil ?_)
 refine .ay rfl (fun kJ => ?_) (fun kJ => ?_)
 refine .sr ?_
 refine .fa cN ?_
 refine .ld aZ ?_
 refine .vl (Y.qk rfl rfl) ?_
 refine .an ?_
 refine .nil (.ret ?_)
 exact .rb rfl (dd eM)
 refine .skip (.sr ?_)
 refine .fa cN ?_
 refine .ld aZ ?_
 refine .vl (Y.qp rfl rfl) ?_
 refine .mv ?_
 refine .ax (d := 111) rfl (fun uh => ?_) (fun uh => ?_)
 refine .gw 111 (Y.qo cN rfl rfl) (.gw 111 (Y.qz aZ rfl rfl rfl rfl) (.gw 111 (Y.zf rfl rfl) ?_))
 refine .gw 111 (Y.zb rfl rfl) ?_
 refine .pk ?_
 refine .mv ?_
 refine .ax (d := 117) rfl (fun lr => ?_) (fun lr => ?_)
 refine .gw 117 (Y.qo ji rfl rfl) (.gw 117 (Y.qz aZ rfl rfl rfl rfl) (.gw 117 (Y.zi rfl rfl) ?_))
 refine .gw 117 (Y.zf rfl rfl) ?_
 refine .ax (d := 121) rfl (fun ui => ?_) (fun ui => ?_)
 refine .gz 121 (.gz 121 (.gz 121 ?_))
 refine .gz 121 (.gz 121 (.gz 121 ?_))
 refine .gz 121 (.gz 121 (.gw 117 (Y.zl rfl rfl rfl) ?_))
 refine .pk ?_
 refine .an ?_
 refine .nil (.ret ?_)
 exact .rb rfl (dt eM)
 refine .gw 121 (Y.qo gQ rfl rfl) (.gw 121 (Y.qz nX rfl rfl rfl rfl) (.gw 121 (Y.qo cN rfl rfl) ?_))
 refine .gw 121 (Y.qz aZ rfl rfl rfl rfl) (.gw 121 (Y.qr (m := (c.mem).toNat) m7 rfl rfl om (aw (d := default) om)) ?_)
 refine .gw 121 (Y.qo iW rfl rfl) (.gw 121 (Y.qz xI rfl rfl rfl rfl) (.gw 121 (Y.zk rfl) ?_))
 refine .gw 117 (Y.zl rfl rfl rfl) ?_
 refine .pk ?_
 refine .an ?_
 refine .nil (.ret ?_)
 exact .rb rfl (db eM)
 refine .gz 117 (.gz 117 (.gz 117 ?_))
 refine .gz 117 (.gz 121 (.gz 121 ?_))
 refine .gz 121 (.gz 121 (.gz 121 ?_))
 refine .gz 121 (.gz 121 (.gz 121 ?_))
 refine .gz 117 ?_
 refine .pk ?_
 refine .an ?_
 refine .nil (.ret ?_)
 exact .rb rfl (df eM)
 refine .gz 111 (.gz 111 (.gz 111 ?_))
 refine .gz 111 ?_
 refine .pk ?_
 refine .mv ?_
 refine .gz 117 (.gz 117 (.gz 117 ?_))
 refine .gz 117 (.gz 121 (.gz 121 ?_))
 refine .gz 121 (.gz 121 (.gz 121 ?_))
 refine .gz 121 (.gz 121 (.gz 121 ?_))
 refine .gz 117 ?_
 refine .pk ?_
 refine .an ?_
 refine .nil (.ret ?_)
 exact .rb rfl (df eM)
 refine .region (.vl (Y.qk rfl rfl) ?_)
 refine .an ?_
 refine .nil ?_
 refine .aU rfl (fun AO => ?_) (fun AO => ?_)
 refine .region ?_
 refine .fa gQ ?_
 refine .ld nX ?_
 refine .vl (Y.qw (n := n.streams.length) m7 rfl gT) ?_
 refine .an ?_
 refine .nil (.seq (.sr ?_))
 refine .fa en ?_
 refine .ld cZ ?_
 refine .vl (Y.qw (n := c.args.length) a8 rfl gT) ?_
 refine .mv ?_
 refine .vl (Y.zi rfl rfl) ?_
 refine .mv ?_
 refine .ax (d := 88) rfl (fun kH => ?_) (fun kH => ?_)
 refine .gz 88 (.gz 88 (.gz 88 ?_))
 refine .gz 88 ?_
 refine .pk ?_
 refine .mv ?_
 refine .gz 94 (.gz 94 (.gz 94 ?_))
 refine .gz 94 (.gz 98 (.gz 98 ?_))
 refine .gz 94 ?_
 refine .pk ?_
 refine .nil (.aE rfl (.sr ?_))
 refine .an ?_
 refine .nil (.ret ?_)
 exact .rb rfl (df eM)
 refine .gw 88 (Y.qo ek rfl rfl) (.gw 88 (Y.qz aZ rfl rfl rfl rfl) (.gw 88 (Y.zf rfl rfl) ?_))
 refine .gw 88 (Y.zi rfl rfl) ?_
 refine .pk ?_
 refine .mv ?_
 refine .ax (d := 94) rfl (fun lW => ?_) (fun lW => ?_)
 refine .gz 94 (.gz 94 (.gz 94 ?_))
 refine .gz 94 (.gz 98 (.gz 98 ?_))
 refine .gz 94 ?_
 refine .pk ?_
 refine .nil (.aE rfl (.sr ?_))
 refine .an ?_
 refine .nil (.ret ?_)
 exact .rb rfl (df eM)
 refine .gw 94 (Y.qo eb rfl rfl) (.gw 94 (Y.qz gB rfl rfl rfl rfl) (.gw 94 (Y.zi rfl rfl) ?_))
 refine .gw 94 (Y.zf rfl rfl) ?_
 refine .ax (d := 98) rfl (fun kI => ?_) (fun kI => ?_)
 refine .gw 98 (Y.zf rfl rfl) (.gw 98 (Y.zk rfl) (.gw 94 (Y.zl rfl rfl rfl) ?_))
 refine .pk ?_
 refine .nil (.aE rfl (.sr ?_))
 refine .an ?_
 refine .nil (.ret ?_)
 exact .rb rfl (df eM)
 refine .gz 98 (.gz 98 (.gw 94 (Y.zl rfl rfl rfl) ?_))
 refine .pk ?_
 refine .nil (.bY rfl (.skip ?_))
 refine .seq (.sr ?_)
 refine .mv ?_
 refine .vl (Y.zb rfl rfl) (.nil ?_)
 refine .ay rfl (fun kJ => ?_) (fun kJ => ?_)
 refine .sr ?_
 refine .fa cN ?_
 refine .ld aZ ?_
 refine .vl (Y.qk rfl rfl) ?_
 refine .an ?_
 refine .nil (.ret ?_)
 exact .rb rfl (dd eM)
 refine .skip (.sr ?_)
 refine .fa cN ?_
 refine .ld aZ ?_
 refine .vl (Y.qp rfl rfl) ?_
 refine .mv ?_
 refine .ax (d := 111) rfl (fun uh => ?_) (fun uh => ?_)
 refine .gw 111 (Y.qo cN rfl rfl) (.gw 111 (Y.qz aZ rfl rfl rfl rfl) (.gw 111 (Y.zf rfl rfl) ?_))
 refine .gw 111 (Y.zb rfl rfl) ?_
 refine .pk ?_
 refine .mv ?_
 refine .ax (d := 117) rfl (fun lr => ?_) (fun lr => ?_)
 refine .gw 117 (Y.qo ji rfl rfl) (.gw 117 (Y.qz aZ rfl rfl rfl rfl) (.gw 117 (Y.zi rfl rfl) ?_))
 refine .gw 117 (Y.zf rfl rfl) ?_
 refine .ax (d := 121) rfl (fun ui => ?_) (fun ui => ?_)
 refine .gz 121 (.gz 121 (.gz 121 ?_))
 refine .gz 121 (.gz 121 (.gz 121 ?_))
 refine .gz 121 (.gz 121 (.gw 117 (Y.zl rfl rfl rfl) ?_))
 refine .pk ?_
 refine .an ?_
 refine .nil (.ret ?_)
 exact .rb rfl (dt eM)
 refine .gw 121 (Y.qo gQ rfl rfl) (.gw 121 (Y.qz nX rfl rfl rfl rfl) (.gw 121 (Y.qo cN rfl rfl) ?_))
 refine .gw 121 (Y.qz aZ rfl rfl rfl rfl) (.gw 121 (Y.qr (m := (c.mem).toNat) m7 rfl rfl om (aw (d := default) om)) ?_)
 refine .gw 121 (Y.qo iW rfl rfl) (.gw 121 (Y.qz xI rfl rfl rfl rfl) (.gw 121 (Y.zk rfl) ?_))
 refine .gw 117 (Y.zl rfl rfl rfl) ?_
 refine .pk ?_
 refine .an ?_
 refine .nil (.ret ?_)
 exact .rb rfl (db eM)
 refine .gz 117 (.gz 117 (.gz 117 ?_))
 refine .gz 117 (.gz 121 (.gz 121 ?_))
 refine .gz 121 (.gz 121 (.gz 121 ?_))
 refine .gz 121 (.gz 121 (.gz 121 ?_))
 refine .gz 117 ?_
 refine .pk ?_
 refine .an ?_
 refine .nil (.ret ?_)
 exact .rb rfl (df eM)
 refine .gz 111 (.gz 111 (.gz 111 ?_))
 refine .gz 111 ?_
 refine .pk ?_
 refine .mv ?_
 refine .gz 117 (.gz 117 (.gz 117 ?_))
 refine .gz 117 (.gz 121 (.gz 121 ?_))
 refine .gz 121 (.gz 121 (.gz 121 ?_))
 refine .gz 121 (.gz 121 (.gz 121 ?_))
 refine .gz 117 ?_
 refine .pk ?_
 refine .an ?_
 refine .nil (.ret ?_)
 exact .rb rfl (df eM)
 refine .sr ?_
 refine .an ?_
 refine .nil (.ret ?_)
 exact .rb rfl (df (by (simp only [Shaped, Ck, wC, lV, Ez, Io, Ip, pI, wD, AO, AO, Int.reduceEq, Bool.not_eq_true, false_and, true_and, and_true, and_false, or_false, false_or, ne_eq]) <;> (first | omega | grind)))
open Go Go.AW Go.Proofs
theorem mE {l : List Int} {p : Int → Bool} {g : Nat} {row : List X} (hl : l.length ≤ 17592186043904) (mi : aM Try.prog g = true) (hg : ∀ z ∈ l, al Try.prog g [vi z, .fp row 0] [] [] (fun r o => r = .v (.bool (p z)) ∧ o = [])) : al Try.prog 185 [.fz 1 (l.map aq), .gd (.func g) [] [.fp row 0]] [] [] (fun r o => r = (vi (re p l)) ∧ o = []) := by
 refine al.of Try.func185 rfl rfl rfl (n := 19) ah (b7 rfl) (.sr ?_)
 refine .an ?_
 refine .nil (.seq (.sr ?_))
 refine .mv ?_
 refine .vl (Y.qw (n := l.length) a8 rfl gT) ?_
 refine .mv ?_
 refine .nil (.block ?_)
 refine .iS (fun (fT : Nat) => ⟨[(0, .fz 1 (l.map aq)), (1, .gd (.func g) [] [.fp row 0]), (7, vi l.length), (8, vi fT)], []⟩) (fun fT => ((fT : Int) ≤ (l.length : Int)) ∧ (∀ j, j < fT → p (l.getD j 0) = false)) (fun fT => ((l.length : Int) - (fT : Int)).toNat) 0 (⟨om, fun j hj => by omega⟩) (Le.mk (.c2 (.c (.cons (ak rfl bg) .nil))) .nil) (fun fT vD => ?_)
 obtain ⟨wY, h0⟩ := vD
 refine .sr (.vl (Y.zb rfl rfl) (.nil ?_))
 refine .seq ?_
 refine .ay rfl (fun c9 => ?_) (fun c9 => ?_)
 refine .skip (.seq (.block ?_))
 refine .sr ?_
 refine .mv ?_
 refine .an ?_
 refine .nil (.sr ?_)
 refine .mv ?_
 refine .mv ?_
 refine .mv ?_
 refine .vl (Y.qr (m := fT) a8 rfl rfl bg (aw (d := 0) om)) ?_
 refine .ld aZ ?_
 refine .jF rfl mi (hg _ (eP om)) rfl (.ao rfl rfl (.ao rfl rfl .nil)) ah rfl (.nil ?_)
 refine .cond rfl (fun uj => ?_) (fun uj => ?_)
 refine .sr ?_
 refine .mv ?_
 refine .an ?_
 refine .nil (.ret ?_)
 exact .ri rfl (lR h0 om uj)
 refine .skip (.region ?_)
 refine .vl (Y.qb rfl rfl aC) ?_
 refine .mv ?_
 refine .nil (⟨fT + 1, ⟨om, kA h0 uj⟩, om, Le.mk (.c2 (.c (.cons (ak rfl bg) .nil))) .nil⟩)
 refine .exit (.sr ?_)
 refine .an ?_
 refine .nil (.ret ?_)
 exact .ri rfl (na (fun j hj => h0 j om))
theorem gD {l : List Int} {p : Int → Bool} {g : Nat} {row : List X} (hl : l.length ≤ 17592186043904) (mi : aM Try.prog g = true) (hg : ∀ z ∈ l, al Try.prog g [vi z, .fp row 0] [] [] (fun r o => r = .v (.bool (p z)) ∧ o = [])) : al Try.prog 157 [.fz 1 (l.map aq), .gd (.func g) [] [.fp row 0]] [] [] (fun r o => r = .v (.bool (l.any p)) ∧ o = []) := by
 refine al.of Try.func157 rfl rfl rfl (n := 9) ah (b7 rfl) (.sr ?_)
 refine .an ?_
 refine .nil (.sr ?_)
 refine .mv ?_
 refine .mv ?_
 refine .bd Gc (mE (l := l) hl mi hg) rfl (.ao rfl rfl (.ao rfl rfl .nil)) ah rfl (.vl (Y.qp rfl rfl) ?_)
 refine .an ?_
 refine .nil (.ret ?_)
 exact .rb rfl (oQ)
theorem lX {l : List Cell} {p : Cell → Bool} {g : Nat} {row : List X} (hl : l.length ≤ 17592186043904) (mi : aM Try.prog g = true) (hg : ∀ z ∈ l, al Try.prog g [.agg (Cell.row z), .fp row 0] [] [] (fun r o => r = .v (.bool (p z)) ∧ o = [])) : al Try.prog 188 [.fz 6 (l.map Cell.row), .gd (.func g) [] [.fp row 0]] [] [] (fun r o => r = (vi (re p l)) ∧ o = []) := by
 refine al.of Try.func188 rfl rfl rfl (n := 19) ah (b7 rfl) (.sr ?_)
 refine .an ?_
 refine .nil (.seq (.sr ?_))
 refine .mv ?_
 refine .vl (Y.qw (n := l.length) jz rfl gT) ?_
 refine .mv ?_
 refine .nil (.block ?_)
 refine .iS (fun (fT : Nat) => ⟨[(0, .fz 6 (l.map Cell.row)), (1, .gd (.func g) [] [.fp row 0]), (7, vi l.length), (8, vi fT)], []⟩) (fun fT => ((fT : Int) ≤ (l.length : Int)) ∧ (∀ j, j < fT → p (l.getD j default) = false)) (fun fT => ((l.length : Int) - (fT : Int)).toNat) 0 (⟨om, fun j hj => by omega⟩) (Le.mk (.c2 (.c (.cons (ak rfl bg) .nil))) .nil) (fun fT vD => ?_)
 obtain ⟨wY, h0⟩ := vD
 refine .sr (.vl (Y.zb rfl rfl) (.nil ?_))
 refine .seq ?_
 refine .ay rfl (fun c9 => ?_) (fun c9 => ?_)
 refine .skip (.seq (.block ?_))
 refine .sr ?_
 refine .mv ?_
 refine .an ?_
 refine .nil (.sr ?_)
 refine .mv ?_
 refine .mv ?_
 refine .mv ?_
 refine .vl (Y.qr (m := fT) jz rfl rfl bg (aw (d := default) om)) ?_
 refine .vl (Y.za rm rfl rfl (b7 rfl) rfl rfl) (.jF rfl mi (hg _ (eP om)) rfl (.ao rfl rfl (.ao rfl rfl .nil)) ah rfl (.nil ?_))
 refine .cond rfl (fun uj => ?_) (fun uj => ?_)
 refine .sr ?_
 refine .mv ?_
 refine .an ?_
 refine .nil (.ret ?_)
 exact .ri rfl (lR h0 om uj)
 refine .skip (.region ?_)
 refine .vl (Y.qb rfl rfl aC) ?_
 refine .mv ?_
 refine .nil (⟨fT + 1, ⟨om, kA h0 uj⟩, om, Le.mk (.c2 (.c (.cons (ak rfl bg) .nil))) .nil⟩)
 refine .exit (.sr ?_)
 refine .an ?_
 refine .nil (.ret ?_)
 exact .ri rfl (na (fun j hj => h0 j om))
theorem kg {l : List Cell} {p : Cell → Bool} {g : Nat} {row : List X} (hl : l.length ≤ 17592186043904) (mi : aM Try.prog g = true) (hg : ∀ z ∈ l, al Try.prog g [.agg (Cell.row z), .fp row 0] [] [] (fun r o => r = .v (.bool (p z)) ∧ o = [])) : al Try.prog 162 [.fz 6 (l.map Cell.row), .gd (.func g) [] [.fp row 0]] [] [] (fun r o => r = .v (.bool (l.any p)) ∧ o = []) := by
 refine al.of Try.func162 rfl rfl rfl (n := 9) ah (b7 rfl) (.sr ?_)
 refine .an ?_
 refine .nil (.sr ?_)
 refine .mv ?_
 refine .mv ?_
 refine .bd Ge (lX (l := l) hl mi hg) rfl (.ao rfl rfl (.ao rfl rfl .nil)) ah rfl (.vl (Y.qp rfl rfl) ?_)
 refine .an ?_
 refine .nil (.ret ?_)
 exact .rb rfl (oQ)
theorem pq {l : List Bool} {b : Bool} (hl : l.length ≤ 140737488351232) : al Try.prog 187 [.fz 1 (l.map ke), .v (.bool b)] [] [] (fun r o => r = (vi (re (fun x => b == x) l)) ∧ o = []) := by
 refine al.of Try.func187 rfl rfl rfl (n := 19) ah (b7 rfl) (.sr ?_)
 refine .an ?_
 refine .nil (.seq (.sr ?_))
 refine .mv ?_
 refine .vl (Y.qw (n := l.length) sv rfl gT) ?_
 refine .mv ?_
 refine .nil (.block ?_)
 refine .iS (fun (fT : Nat) => ⟨[(0, .fz 1 (l.map ke)), (1, .v (.bool b)), (7, vi l.length), (8, vi fT)], []⟩) (fun fT => ((fT : Int) ≤ (l.length : Int)) ∧ (∀ j, j < fT → (fun x => b == x) (l.getD j false) = false)) (fun fT => ((l.length : Int) - (fT : Int)).toNat) 0 (⟨om, fun j hj => by omega⟩) (Le.mk (.c2 (.c (.cons (ak rfl bg) .nil))) .nil) (fun fT vD => ?_)
 obtain ⟨wY, h0⟩ := vD
 refine .sr (.vl (Y.zb rfl rfl) (.nil ?_))
 refine .seq ?_
 refine .ay rfl (fun c9 => ?_) (fun c9 => ?_)
 refine .skip (.seq (.block ?_))
 refine .sr ?_
 refine .mv ?_
 refine .an ?_
 refine .nil (.sr ?_)
 refine .mv ?_
 refine .mv ?_
 refine .mv ?_
 refine .vl (Y.qr (m := fT) sv rfl rfl bg (aw (d := false) om)) ?_
 refine .ld xI ?_
 refine .vl (Y.ql OD rfl rfl) (.nil ?_)
 refine .cond rfl (fun uj => ?_) (fun uj => ?_)
 refine .sr ?_
 refine .mv ?_
 refine .an ?_
 refine .nil (.ret ?_)
 exact .ri rfl (lR (d := false) h0 om uj)
 refine .skip (.region ?_)
 refine .vl (Y.qb rfl rfl aC) ?_
 refine .mv ?_
 refine .nil (⟨fT + 1, ⟨om, kA h0 uj⟩, om, Le.mk (.c2 (.c (.cons (ak rfl bg) .nil))) .nil⟩)
 refine .exit (.sr ?_)
 refine .an ?_
 refine .nil (.ret ?_)
 exact .ri rfl (na (d := false) (fun j hj => h0 j om))
theorem mF {l : List Bool} {b : Bool} (hl : l.length ≤ 140737488351232) : al Try.prog 161 [.fz 1 (l.map ke), .v (.bool b)] [] [] (fun r o => r = .v (.bool (l.any (fun x => b == x))) ∧ o = []) := by
 refine al.of Try.func161 rfl rfl rfl (n := 9) ah (b7 rfl) (.sr ?_)
 refine .an ?_
 refine .nil (.sr ?_)
 refine .mv ?_
 refine .mv ?_
 refine .bd Gd (pq (l := l) (b := b) (om)) rfl (.ao rfl rfl (.ao rfl rfl .nil)) ah rfl (.vl (Y.qp rfl rfl) ?_)
 refine .an ?_
 refine .nil (.ret ?_)
 exact .rb rfl (oQ)
open Go Go.AW Go.Proofs
theorem vX {n : Nat} (hn : n ≤ 35184372088832) : al Try.prog 184 [vn, vi n] [] [] (fun r o => r = .di 1 (([] : List Int).map aq) ∧ o = []) := by
 refine al.of Try.func184 rfl rfl rfl (n := 27) ah (b7 rfl) (.sr ?_)
 refine .an ?_
 refine .nil (.seq (.sr ?_))
 refine .mv ?_
 refine .vl (Y.zb rfl rfl) (.nil ?_)
 refine .ay rfl (fun c6 => ?_) (fun c6 => ?_)
 exfalso; omega
 refine .skip (.seq (.sr ?_))
 refine .mv ?_
 refine .mv ?_
 refine .vl (Y.qh a8 rfl) ?_
 refine .mv ?_
 refine .vl (Y.qw (n := 0) a8 rfl rfl) (.vl (Y.zx rfl rfl aC) (.vl (Y.zx rfl rfl aC) ?_))
 refine .an ?_
 refine .nil (.sr ?_)
 refine .mv ?_
 refine .vl (Y.qq rfl rfl) (.nil ?_)
 refine .ay rfl (fun uj => ?_) (fun uj => ?_)
 refine .region ?_
 refine .mv ?_
 refine .mv ?_
 refine .vl (Y.qh a8 rfl) (.vl (Y.zu a8 rfl (.none _) (.some rfl)) ?_)
 refine .mv ?_
 refine .tM (n := (((n : Int) - (0 - 0)).toNat)) a8 fv rfl rfl BS rfl (by first | rfl | (rw [show ((n : Int) - (0 - 0) : Int) = ((((n : Int) - (0 - 0)).toNat : Nat) : Int) by omega]; rfl)) om ah om om ah ?_
 refine .mv ?_
 refine .vl (Y.qw (n := 0) a8 rfl rfl) (.sh (Sh.gj (d := 22) (n := (List.replicate (((n : Int) - (0 - 0)).toNat) 0).length) 122 ((List.replicate (((n : Int) - (0 - 0)).toNat) 0).map aq) rfl jW (bn rfl) ah) ?_)
 refine .vl (Y.zv (l := 0) (h := 0) a8 rfl (.none _) (.some rfl) om om) ?_
 refine .an ?_
 refine .nil (.sr ?_)
 refine .mv ?_
 refine .an ?_
 refine .sh (Sh.BM (d := 4) (o := 122) (([] : List Int).map aq) rfl rfl (by simp) (by simp) ah) (.sh (Sh.cU (d := 4) (o := 122) rfl rfl (bn aC) ah) ?_)
 refine .nil (.ret ?_)
 exact ⟨_, _, rfl, rfl, (z8 (fun (z0 : List Int) => X.di 1 (z0.map aq)) (rfl : ([] : List Int) = ([] : List Int)) : X.di 1 (([] : List Int).map aq) = X.di 1 (([] : List Int).map aq)), rfl⟩
 refine .skip (.sr ?_)
 refine .mv ?_
 refine .an ?_
 refine .nil (.sh (Sh.pM (d := 4) 1 rfl) (.ret ?_))
 exact ⟨_, _, rfl, rfl, (z8 (fun (z0 : List Int) => X.di 1 (z0.map aq)) (rfl : ([] : List Int) = ([] : List Int)) : X.di 1 (([] : List Int).map aq) = X.di 1 (([] : List Int).map aq)), rfl⟩
theorem sD {ls : List (List Int)} (h1 : ls.length ≤ 1000) (hn : ls.flatten.length ≤ 17592186044416) : al Try.prog 153 [.fz 1 (ls.map gY)] [] [] (fun r o => r = .di 1 (ls.flatten.map aq) ∧ o = []) := by
 refine al.of Try.func153 rfl rfl rfl (n := 36) ah (b7 rfl) (.sr ?_)
 refine .an ?_
 refine .nil (.sr ?_)
 refine .an ?_
 refine .nil (.seq (.sr ?_))
 refine .mv ?_
 refine .vl (Y.qw (n := ls.length) iC rfl gT) ?_
 refine .mv ?_
 refine .nil (.block ?_)
 refine .k0 (fun (jK : Nat) (dz : Nat) => ⟨[(0, .fz 1 (ls.map gY)), (3, vi jK), (9, .fz 1 (ls.map gY)), (10, vi ls.length), (11, vi dz)], []⟩) (fun jK dz => ((dz : Int) ≤ (ls.length : Int)) ∧ (jK = (ls.take dz).flatten.length)) (fun jK dz => ((ls.length : Int) - (dz : Int)).toNat) 0 0 (⟨om, rfl⟩) (Le.mk (.c (.cons (ak rfl bg) (.c2 (.cons (ak rfl bg) .nil)))) .nil) (fun jK dz pU => ?_)
 obtain ⟨Dy, hs⟩ := pU
 refine .sr (.vl (Y.zb rfl rfl) (.nil ?_))
 refine .seq ?_
 refine .ay rfl (fun vp => ?_) (fun vp => ?_)
 refine .skip (.seq (.block ?_))
 refine .sr ?_
 have hf := congrArg List.length (qA (ls := ls) (i := dz) om)
 rw [List.length_append] at hf
 have OU := m4 ls (dz + 1)
 have MH := m4 ls dz
 refine .vl (Y.qr (m := dz) iC rfl rfl bg (aw (d := []) om)) ?_
 refine .ld cZ ?_
 refine .an ?_
 refine .nil (.sr ?_)
 refine .mv ?_
 refine .mv ?_
 refine .vl (Y.qw (n := (ls.getD dz []).length) a8 rfl gT) (.vl (Y.qb rfl rfl aC) ?_)
 refine .an ?_
 refine .nil (.sr ?_)
 refine .mv ?_
 refine .vl (Y.zb rfl rfl) (.nil ?_)
 refine .ay rfl (fun JX => ?_) (fun JX => ?_)
 exfalso; omega
 refine .skip (.region ?_)
 refine .vl (Y.qb rfl rfl aC) ?_
 refine .mv ?_
 refine .nil (⟨jK + ((ls.getD dz []).length), dz + 1, ⟨om, om⟩, om, Le.mk (.c (.cons (ak rfl bg) (.c2 (.cons (ak rfl bg) .nil)))) .nil⟩)
 refine .exit (.sr ?_)
 have MH := m4 ls dz
 refine .mv ?_
 refine .bd Gb (vX (n := jK) (om)) rfl (.ao rfl rfl (.ao rfl rfl .nil)) ah rfl ?_
 refine .bh rfl ah (.sh (Sh.gj (d := 6) (n := ([] : List Int).length) 106 (([] : List Int).map aq) rfl jW (bn rfl) ah) (.nil ?_))
 refine .seq (.sr ?_)
 refine .mv ?_
 refine .vl (Y.qw (n := ls.length) iC rfl gT) ?_
 refine .mv ?_
 refine .nil (.block ?_)
 refine .k0 (fun (fB : Nat) (cB : List Int) => ⟨[(6, .aY 106 1 0 cB.length), (25, .fz 1 (ls.map gY)), (26, vi ls.length), (27, vi fB)], [(106, .rows 1 (cB.map aq))]⟩) (fun fB cB => ((fB : Int) ≤ (ls.length : Int)) ∧ (cB = (ls.take fB).flatten)) (fun fB cB => ((ls.length : Int) - (fB : Int)).toNat) 0 ([] : List Int) (⟨om, rfl⟩) (Le.mk (.cons (aL rfl om) (.c2 (.cons (ak rfl bg) .nil))) (.c .nil)) (fun fB cB Dz => ?_)
 obtain ⟨OV, ht⟩ := Dz
 refine .sr (.vl (Y.zb rfl rfl) (.nil ?_))
 refine .seq ?_
 refine .ay rfl (fun JY => ?_) (fun JY => ?_)
 refine .skip (.seq (.block ?_))
 refine .sr ?_
 have hf := qA (ls := ls) (i := fB) om
 have OW := congrArg List.length hf
 rw [List.length_append] at OW
 have OU := m4 ls (fB + 1)
 have MH := m4 ls fB
 have Q5 := congrArg List.length ht
 refine .vl (Y.qr (m := fB) iC rfl rfl bg (aw (d := []) om)) ?_
 refine .ld cZ ?_
 refine .an ?_
 refine .nil (.region ?_)
 refine .mv ?_
 refine .mv ?_
 refine .oG ((cB ++ (ls.getD fB [])).map aq) (cB ++ (ls.getD fB [])).length a8 fv rfl rfl rfl rfl (cb aC) (bE aC) (dg aC) aC aC ah ah ?_
 refine .an ?_
 refine .nil (.region ?_)
 refine .vl (Y.qb rfl rfl aC) ?_
 refine .mv ?_
 refine .nil (⟨fB + 1, cB ++ (ls.getD fB []), ⟨om, by rw [ht]; exact hf.symm⟩, om, Le.mk (.cons (aL rfl om) (.c2 (.cons (ak rfl bg) .nil))) (.c .nil)⟩)
 refine .exit (.sr ?_)
 refine .mv ?_
 refine .an ?_
 refine .sh (Sh.cU (d := 2) (o := 106) rfl rfl (bn om) ah) ?_
 refine .nil (.ret ?_)
 exact ⟨_, _, rfl, rfl, (z8 (fun (z0 : List Int) => X.di 1 (z0.map aq)) (by rw [ht, List.take_of_length_le om] : cB = ls.flatten) : X.di 1 (cB.map aq) = X.di 1 (ls.flatten.map aq)), rfl⟩
open Go Go.AW Go.Proofs
theorem ep {i : Int} {n : ab} : al Try.prog 156 [vi i, .fp (ab.row n) 0] [] [] (fun r o => r = .v (.bool (decide (In i n.ai.length))) ∧ o = []) := by
 refine al.of Try.func156 rfl rfl rfl (n := 13) ah (b7 rfl) (.sr ?_)
 refine .an ?_
 refine .nil (.sr ?_)
 refine .mv ?_
 refine .vl (Y.qp rfl rfl) ?_
 refine .mv ?_
 refine .ax (d := 6) rfl (fun c6 => ?_) (fun c6 => ?_)
 refine .gw 6 (Y.zf rfl rfl) (.gw 6 (Y.qo fw rfl rfl) (.gw 6 (Y.qz cZ rfl rfl rfl rfl) ?_))
 refine .gw 6 (Y.qw (n := n.ai.length) a8 rfl gT) (.gw 6 (Y.zb rfl rfl) ?_)
 refine .pk ?_
 refine .an ?_
 refine .nil (.ret ?_)
 exact .rb rfl (dd (by (simp only [In]) <;> (first | omega | grind)))
 refine .gz 6 (.gz 6 (.gz 6 ?_))
 refine .gz 6 (.gz 6 ?_)
 refine .pk ?_
 refine .an ?_
 refine .nil (.ret ?_)
 exact .rb rfl (df (by (simp only [In]) <;> (first | omega | grind)))
theorem r6 {i : Int} {n : ab} : al Try.prog 158 [vi i, .fp ([.gd (.func 156) [] [.fp (ab.row n) 0]]) 0] [] [] (fun r o => r = .v (.bool (!decide (In i n.ai.length))) ∧ o = []) := by
 refine al.of Try.func158 rfl rfl rfl (n := 8) ah (b7 rfl) (.sr ?_)
 refine .an ?_
 refine .nil (.sr ?_)
 refine .ld tU ?_
 refine .mv ?_
 refine .jF rfl oX (ep (i := i)) rfl (.ao rfl rfl (.ao rfl rfl .nil)) ah rfl (.vl (Y.zk rfl) ?_)
 refine .an ?_
 refine .nil (.ret ?_)
 exact .rb rfl (rfl)
theorem r7 {i : Int} {n : ab} : al Try.prog 159 [vi i, .fp ([.gd (.func 156) [] [.fp (ab.row n) 0]]) 0] [] [] (fun r o => r = .v (.bool (!decide (In i n.ai.length))) ∧ o = []) := by
 refine al.of Try.func159 rfl rfl rfl (n := 8) ah (b7 rfl) (.sr ?_)
 refine .an ?_
 refine .nil (.sr ?_)
 refine .ld tU ?_
 refine .mv ?_
 refine .jF rfl oX (ep (i := i)) rfl (.ao rfl rfl (.ao rfl rfl .nil)) ah rfl (.vl (Y.zk rfl) ?_)
 refine .an ?_
 refine .nil (.ret ?_)
 exact .rb rfl (rfl)
theorem sE {n : ab} (hs : n.Small) (Iq : n.ai.length + n.ins.length ≤ 17592186044416) : al Try.prog 108 [.agg (ab.row n)] [] [] (fun r o => r = .v (.bool (decide (bq n))) ∧ o = []) := by
 refine al.of Try.func108 rfl rfl rfl (n := 234) ah (b7 rfl) ?_
 have MI := hs.name; have OX := hs.ai; have OY := hs.cells; have Il := hs.ins; have Im := hs.bs; have JU := hs.streams; have OZ := hs.bW; have Q6 := hs.data; have Q7 := hs.eu
 have GY : ([n.ai, n.ins] : List (List Int)).flatten = n.ai ++ n.ins := by simp
 have qR : (([n.ai, n.ins] : List (List Int)).flatten).length = n.ai.length + n.ins.length := by simp
 refine .sr (.box 101 rfl rfl rfl rfl rfl ah ?_)
 refine .an ?_
 refine .nil (.seq (.sr ?_))
 refine .fa CU ?_
 refine .ld Jz ?_
 refine .bd xE (lU (s := n.name) (by first | assumption | omega)) rfl (.ao rfl rfl .nil) ah rfl (.vl (Y.zk rfl) ?_)
 refine .mv ?_
 refine .lM (d := 17) rfl (fun Ir => ?_) (fun Ir => ?_)
 refine .gz 17 (.gz 17 (.gz 17 ?_))
 refine .gz 17 ?_
 refine .pk ?_
 refine .mv ?_
 refine .gz 23 (.gz 23 (.gz 23 ?_))
 refine .gz 23 ?_
 refine .pk ?_
 refine .mv ?_
 refine .gz 29 (.gz 29 (.gz 29 ?_))
 refine .gz 29 ?_
 refine .pk ?_
 refine .mv ?_
 refine .gz 35 (.gz 35 (.gz 35 ?_))
 refine .gz 35 ?_
 refine .pk ?_
 refine .mv ?_
 refine .gz 41 (.gz 41 (.gz 41 ?_))
 refine .gz 41 (.gz 41 (.gz 41 ?_))
 refine .gz 41 ?_
 refine .pk ?_
 refine .mv ?_
 refine .gz 50 (.gz 50 (.gz 50 ?_))
 refine .gz 50 (.gz 50 (.gz 50 ?_))
 refine .gz 50 ?_
 refine .pk ?_
 refine .nil (.aE rfl (.sr ?_))
 refine .an ?_
 refine .nil (.ret ?_)
 exact .rb rfl (df (fun h => by have h1 := h.name; have h2 := h.ej; have h3 := h.dO; have h4 := h.iU; have h5 := h.cJ; have h6 := h.dX; have h7 := h.iA; first | omega | contradiction))
 refine .gw 17 (Y.qo gm rfl rfl) (.gw 17 (Y.qz nW rfl rfl rfl rfl) (.gw 17 (Y.qw (n := n.cells.length) jz rfl gT) ?_))
 refine .gw 17 (Y.qq rfl rfl) ?_
 refine .pk ?_
 refine .mv ?_
 refine .ax (d := 23) rfl (fun Cl => ?_) (fun Cl => ?_)
 refine .gz 23 (.gz 23 (.gz 23 ?_))
 refine .gz 23 ?_
 refine .pk ?_
 refine .mv ?_
 refine .gz 29 (.gz 29 (.gz 29 ?_))
 refine .gz 29 ?_
 refine .pk ?_
 refine .mv ?_
 refine .gz 35 (.gz 35 (.gz 35 ?_))
 refine .gz 35 ?_
 refine .pk ?_
 refine .mv ?_
 refine .gz 41 (.gz 41 (.gz 41 ?_))
 refine .gz 41 (.gz 41 (.gz 41 ?_))
 refine .gz 41 ?_
 refine .pk ?_
 refine .mv ?_
 refine .gz 50 (.gz 50 (.gz 50 ?_))
 refine .gz 50 (.gz 50 (.gz 50 ?_))
 refine .gz 50 ?_
 refine .pk ?_
 refine .nil (.aE rfl (.sr ?_))
 refine .an ?_
 refine .nil (.ret ?_)
 exact .rb rfl (df (fun h => by have h1 := h.name; have h2 := h.ej; have h3 := h.dO; have h4 := h.iU; have h5 := h.cJ; have h6 := h.dX; have h7 := h.iA; first | omega | contradiction))
 refine .gw 23 (Y.qo fw rfl rfl) (.gw 23 (Y.qz cZ rfl rfl rfl rfl) (.gw 23 (Y.qw (n := n.ai.length) a8 rfl gT) ?_))
 refine .gw 23 (Y.qq rfl rfl) ?_
 refine .pk ?_
 refine .mv ?_
 refine .ax (d := 29) rfl (fun JV => ?_) (fun JV => ?_)
 refine .gz 29 (.gz 29 (.gz 29 ?_))
 refine .gz 29 ?_
 refine .pk ?_
 refine .mv ?_
 refine .gz 35 (.gz 35 (.gz 35 ?_))
 refine .gz 35 ?_
 refine .pk ?_
 refine .mv ?_
 refine .gz 41 (.gz 41 (.gz 41 ?_))
 refine .gz 41 (.gz 41 (.gz 41 ?_))
 refine .gz 41 ?_
 refine .pk ?_
 refine .mv ?_
 refine .gz 50 (.gz 50 (.gz 50 ?_))
 refine .gz 50 (.gz 50 (.gz 50 ?_))
 refine .gz 50 ?_
 refine .pk ?_
 refine .nil (.aE rfl (.sr ?_))
 refine .an ?_
 refine .nil (.ret ?_)
 exact .rb rfl (df (fun h => by have h1 := h.name; have h2 := h.ej; have h3 := h.dO; have h4 := h.iU; have h5 := h.cJ; have h6 := h.dX; have h7 := h.iA; first | omega | contradiction))
 refine .gw 29 (Y.qo nf rfl rfl) (.gw 29 (Y.qz vN rfl rfl rfl rfl) (.gw 29 (Y.qw (n := n.bs.length) tV rfl gT) ?_))
 refine .gw 29 (Y.qq rfl rfl) ?_
 refine .pk ?_
 refine .mv ?_
 refine .ax (d := 35) rfl (fun pS => ?_) (fun pS => ?_)
 refine .gz 35 (.gz 35 (.gz 35 ?_))
 refine .gz 35 ?_
 refine .pk ?_
 refine .mv ?_
 refine .gz 41 (.gz 41 (.gz 41 ?_))
 refine .gz 41 (.gz 41 (.gz 41 ?_))
 refine .gz 41 ?_
 refine .pk ?_
 refine .mv ?_
 refine .gz 50 (.gz 50 (.gz 50 ?_))
 refine .gz 50 (.gz 50 (.gz 50 ?_))
 refine .gz 50 ?_
 refine .pk ?_
 refine .nil (.aE rfl (.sr ?_))
 refine .an ?_
 refine .nil (.ret ?_)
 exact .rb rfl (df (fun h => by have h1 := h.name; have h2 := h.ej; have h3 := h.dO; have h4 := h.iU; have h5 := h.cJ; have h6 := h.dX; have h7 := h.iA; first | omega | contradiction))
 refine .gw 35 (Y.qo gQ rfl rfl) (.gw 35 (Y.qz nX rfl rfl rfl rfl) (.gw 35 (Y.qw (n := n.streams.length) m7 rfl gT) ?_))
 refine .gw 35 (Y.qq rfl rfl) ?_
 refine .pk ?_
 refine .mv ?_
 refine .ax (d := 41) rfl (fun AP => ?_) (fun AP => ?_)
 refine .gz 41 (.gz 41 (.gz 41 ?_))
 refine .gz 41 (.gz 41 (.gz 41 ?_))
 refine .gz 41 ?_
 refine .pk ?_
 refine .mv ?_
 refine .gz 50 (.gz 50 (.gz 50 ?_))
 refine .gz 50 (.gz 50 (.gz 50 ?_))
 refine .gz 50 ?_
 refine .pk ?_
 refine .nil (.aE rfl (.sr ?_))
 refine .an ?_
 refine .nil (.ret ?_)
 exact .rb rfl (df (fun h => by have h1 := h.name; have h2 := h.ej; have h3 := h.dO; have h4 := h.iU; have h5 := h.cJ; have h6 := h.dX; have h7 := h.iA; first | omega | contradiction))
 refine .gw 41 (Y.qo tR rfl rfl) (.gw 41 (Y.qz cZ rfl rfl rfl rfl) (.gw 41 (Y.qw (n := n.bW.length) a8 rfl gT) ?_))
 refine .gw 41 (Y.qo gQ rfl rfl) (.gw 41 (Y.qz nX rfl rfl rfl rfl) (.gw 41 (Y.qw (n := n.streams.length) m7 rfl gT) ?_))
 refine .gw 41 (Y.zi rfl rfl) ?_
 refine .pk ?_
 refine .mv ?_
 refine .ax (d := 50) rfl (fun Pa => ?_) (fun Pa => ?_)
 refine .gz 50 (.gz 50 (.gz 50 ?_))
 refine .gz 50 (.gz 50 (.gz 50 ?_))
 refine .gz 50 ?_
 refine .pk ?_
 refine .nil (.aE rfl (.sr ?_))
 refine .an ?_
 refine .nil (.ret ?_)
 exact .rb rfl (df (fun h => by have h1 := h.name; have h2 := h.ej; have h3 := h.dO; have h4 := h.iU; have h5 := h.cJ; have h6 := h.dX; have h7 := h.iA; first | omega | contradiction))
 refine .gw 50 (Y.qo oV rfl rfl) (.gw 50 (Y.qz cZ rfl rfl rfl rfl) (.gw 50 (Y.qw (n := n.data.length) a8 rfl gT) ?_))
 refine .gw 50 (Y.qo gQ rfl rfl) (.gw 50 (Y.qz nX rfl rfl rfl rfl) (.gw 50 (Y.qw (n := n.streams.length) m7 rfl gT) ?_))
 refine .gw 50 (Y.zi rfl rfl) ?_
 refine .pk ?_
 refine .nil ?_
 refine .ay rfl (fun Ip => ?_) (fun Ip => ?_)
 refine .sr ?_
 refine .an ?_
 refine .nil (.ret ?_)
 exact .rb rfl (df (fun h => by have h1 := h.name; have h2 := h.ej; have h3 := h.dO; have h4 := h.iU; have h5 := h.cJ; have h6 := h.dX; have h7 := h.iA; first | omega | contradiction))
 refine .skip (.seq (.sr ?_))
 refine .fa fw ?_
 refine .ld cZ ?_
 refine .fa oU ?_
 refine .ld cZ ?_
 refine .buildSlice (([n.ai, n.ins] : List (List Int)).map gY) iC Av rfl rfl rfl rfl rfl (a9 (s := 1) (f := gY) (fun _ => rfl)) rfl rfl rfl ah ?_
 refine .sh (Sh.cq (d := 63) (([n.ai, n.ins] : List (List Int)).map gY) rfl jW (de.map oM)) (.bd FQ (sD (ls := ([n.ai, n.ins] : List (List Int))) (by simp) (by simp; omega)) rfl (.ao rfl rfl .nil) ah rfl (.vl (Y.qw (n := (([n.ai, n.ins] : List (List Int)).flatten).length) a8 rfl gT) ?_))
 refine .mv ?_
 refine .nil (.block (.sh (Sh.cq (d := 64) ((([n.ai, n.ins] : List (List Int)).flatten).map aq) rfl jW (de.map bV)) ?_))
 refine .iS (fun (kK : Nat) => ⟨[(1, .ptr 101 0 0 0), (64, .fz 1 ((([n.ai, n.ins] : List (List Int)).flatten).map aq)), (65, vi (((([n.ai, n.ins] : List (List Int)).flatten).length : Nat) : Int)), (66, vi kK)], [(101, .cells (ab.row n))]⟩) (fun kK => ((kK : Int) ≤ (((([n.ai, n.ins] : List (List Int)).flatten).length : Nat) : Int)) ∧ (∀ j, j < kK → cG (([n.ai, n.ins] : List (List Int)).flatten.getD j 0))) (fun kK => ((((([n.ai, n.ins] : List (List Int)).flatten).length : Nat) : Int) - (kK : Int)).toNat) 0 (⟨om, fun j hj => by omega⟩) (Le.mk (.c2 (.c (.cons (ak rfl bg) .nil))) (.c .nil)) (fun kK yn => ?_)
 obtain ⟨AR, hw⟩ := yn
 refine .sr (.vl (Y.zb rfl rfl) (.nil ?_))
 refine .seq ?_
 refine .ay rfl (fun JZ => ?_) (fun JZ => ?_)
 refine .skip (.seq (.block ?_))
 refine .sr (.vl (Y.qr (m := kK) a8 rfl rfl bg (aw (d := 0) om)) ?_)
 refine .ld aZ ?_
 refine .an ?_
 refine .nil (.sr ?_)
 refine .mv ?_
 refine .bd xF (np (w := ((([n.ai, n.ins] : List (List Int)).flatten).getD kK 0))) rfl (.ao rfl rfl .nil) ah rfl (.vl (Y.zk rfl) (.nil ?_))
 refine .iR rfl (fun Ka => ?_) (fun Ka => ?_)
 refine .sr ?_
 refine .an ?_
 refine .nil (.ret ?_)
 exact .rb rfl (df (fun h => by have h1 := h.wide kK (by rw [List.length_append]; omega); rw [← GY] at h1; contradiction))
 refine .skip (.region ?_)
 refine .vl (Y.qb rfl rfl om) ?_
 refine .mv ?_
 refine .nil (⟨kK + 1, ⟨om, eG hw je⟩, om, Le.mk (.c2 (.c (.cons (ak rfl bg) .nil))) (.c .nil)⟩)
 refine .exit (.seq (.sr ?_))
 refine .fa nf ?_
 refine .ld vN ?_
 refine .vl (Y.qw (n := n.bs.length) tV rfl gT) ?_
 refine .mv ?_
 refine .nil (.block ?_)
 refine .iS (fun (e0 : Nat) => ⟨[(1, .ptr 101 0 0 0), (75, .fz 5 (n.bs.map pF.row)), (76, vi n.bs.length), (77, vi e0)], [(101, .cells (ab.row n))]⟩) (fun e0 => ((e0 : Int) ≤ (n.bs.length : Int)) ∧ (∀ j, j < e0 → l4 (n.bs.getD j default))) (fun e0 => ((n.bs.length : Int) - (e0 : Int)).toNat) 0 (⟨om, fun j hj => by omega⟩) (Le.mk (.c2 (.c (.cons (ak rfl bg) .nil))) (.c .nil)) (fun e0 DA => ?_)
 obtain ⟨Kb, hm⟩ := DA
 refine .sr (.vl (Y.zb rfl rfl) (.nil ?_))
 refine .seq ?_
 refine .ay rfl (fun AS => ?_) (fun AS => ?_)
 refine .skip (.seq (.block ?_))
 refine .sr (.vl (Y.qr (m := e0) tV rfl rfl bg (aw (d := default) om)) ?_)
 refine .vl (Y.za Gm rfl rfl (b7 rfl) rfl rfl) (.alloc 106 Gp rfl rfl ah (.aj Gn rfl rfl rfl rfl rfl rfl (b7 rfl) rfl ?_))
 refine .nil (.sr ?_)
 have Q8 := hs.oO _ (eP (l := n.bs) (i := e0) (d := default) om)
 refine .fa Ao ?_
 refine .ld Jz ?_
 refine .bd xE (lU (s := ((n.bs.getD e0 default).name)) (by first | assumption | omega)) rfl (.ao rfl rfl .nil) ah rfl (.vl (Y.zk rfl) ?_)
 refine .mv ?_
 refine .lM (d := 85) rfl (fun Pb => ?_) (fun Pb => ?_)
 refine .gz 85 (.gz 85 (.gz 85 ?_))
 refine .gz 85 ?_
 refine .pk ?_
 refine .mv ?_
 refine .gz 91 (.gz 91 (.gz 91 ?_))
 refine .pk ?_
 refine .mv ?_
 refine .gz 96 (.gz 96 (.gz 96 ?_))
 refine .pk ?_
 refine .mv ?_
 refine .gz 101 (.gz 101 (.gz 101 ?_))
 refine .pk ?_
 refine .mv ?_
 refine .gz 106 (.gz 106 (.gz 106 ?_))
 refine .pk ?_
 refine .nil (.aE rfl (.sr ?_))
 refine .an ?_
 refine .nil (.ret ?_)
 exact .rb rfl (df (fun h => by have h1 := h.bs e0 om; unfold l4 at h1; obtain ⟨a1, a2, a3, a4, a5, a6⟩ := h1; first | contradiction | omega))
 refine .gw 85 (Y.qo rh rfl rfl) (.gw 85 (Y.qz aZ rfl rfl rfl rfl) (.aO (d := 85) rfl ah rfl ?_))
 refine .bd xF (np (w := ((n.bs.getD e0 default).width))) rfl (.ao rfl rfl .nil) ah rfl (.gw 85 (Y.zk rfl) ?_)
 refine .pk ?_
 refine .mv ?_
 refine .lM (d := 91) rfl (fun Pc => ?_) (fun Pc => ?_)
 refine .gz 91 (.gz 91 (.gz 91 ?_))
 refine .pk ?_
 refine .mv ?_
 refine .gz 96 (.gz 96 (.gz 96 ?_))
 refine .pk ?_
 refine .mv ?_
 refine .gz 101 (.gz 101 (.gz 101 ?_))
 refine .pk ?_
 refine .mv ?_
 refine .gz 106 (.gz 106 (.gz 106 ?_))
 refine .pk ?_
 refine .nil (.aE rfl (.sr ?_))
 refine .an ?_
 refine .nil (.ret ?_)
 exact .rb rfl (df (fun h => by have h1 := h.bs e0 om; unfold l4 at h1; obtain ⟨a1, a2, a3, a4, a5, a6⟩ := h1; first | contradiction | omega))
 refine .gw 91 (Y.qo uV rfl rfl) (.gw 91 (Y.qz aZ rfl rfl rfl rfl) (.gw 91 (Y.zb rfl rfl) ?_))
 refine .pk ?_
 refine .mv ?_
 refine .ax (d := 96) rfl (fun Kc => ?_) (fun Kc => ?_)
 refine .gz 96 (.gz 96 (.gz 96 ?_))
 refine .pk ?_
 refine .mv ?_
 refine .gz 101 (.gz 101 (.gz 101 ?_))
 refine .pk ?_
 refine .mv ?_
 refine .gz 106 (.gz 106 (.gz 106 ?_))
 refine .pk ?_
 refine .nil (.aE rfl (.sr ?_))
 refine .an ?_
 refine .nil (.ret ?_)
 exact .rb rfl (df (fun h => by have h1 := h.bs e0 om; unfold l4 at h1; obtain ⟨a1, a2, a3, a4, a5, a6⟩ := h1; first | contradiction | omega))
 refine .gw 96 (Y.qo uV rfl rfl) (.gw 96 (Y.qz aZ rfl rfl rfl rfl) (.gw 96 (Y.qq rfl rfl) ?_))
 refine .pk ?_
 refine .mv ?_
 refine .ax (d := 101) rfl (fun Kd => ?_) (fun Kd => ?_)
 refine .gz 101 (.gz 101 (.gz 101 ?_))
 refine .pk ?_
 refine .mv ?_
 refine .gz 106 (.gz 106 (.gz 106 ?_))
 refine .pk ?_
 refine .nil (.aE rfl (.sr ?_))
 refine .an ?_
 refine .nil (.ret ?_)
 exact .rb rfl (df (fun h => by have h1 := h.bs e0 om; unfold l4 at h1; obtain ⟨a1, a2, a3, a4, a5, a6⟩ := h1; first | contradiction | omega))
 refine .gw 101 (Y.qo Ap rfl rfl) (.gw 101 (Y.qz aZ rfl rfl rfl rfl) (.gw 101 (Y.zi rfl rfl) ?_))
 refine .pk ?_
 refine .mv ?_
 refine .ax (d := 106) rfl (fun Ke => ?_) (fun Ke => ?_)
 refine .gz 106 (.gz 106 (.gz 106 ?_))
 refine .pk ?_
 refine .nil (.aE rfl (.sr ?_))
 refine .an ?_
 refine .nil (.ret ?_)
 exact .rb rfl (df (fun h => by have h1 := h.bs e0 om; unfold l4 at h1; obtain ⟨a1, a2, a3, a4, a5, a6⟩ := h1; first | contradiction | omega))
 refine .gw 106 (Y.qo Aq rfl rfl) (.gw 106 (Y.qz aZ rfl rfl rfl rfl) (.gw 106 (Y.zi rfl rfl) ?_))
 refine .pk ?_
 refine .nil ?_
 refine .ay rfl (fun yo => ?_) (fun yo => ?_)
 refine .sr ?_
 refine .an ?_
 refine .nil (.ret ?_)
 exact .rb rfl (df (fun h => by have h1 := h.bs e0 om; unfold l4 at h1; obtain ⟨a1, a2, a3, a4, a5, a6⟩ := h1; first | contradiction | omega))
 refine .skip (.region ?_)
 refine .vl (Y.qb rfl rfl om) ?_
 refine .mv ?_
 refine .nil ?_
 exact ⟨e0 + 1, ⟨om, eG hm (by unfold l4; refine ⟨?_, ?_, ?_, ?_, ?_, ?_⟩ <;> first | assumption | omega)⟩, om, Le.mk (.c2 (.c (.cons (ak rfl bg) .nil))) (.c .nil)⟩
 refine .exit (.sr (.sh (Sh.m0 101 rfl rfl) ?_))
 refine .vl (Y.zc rfl rfl rfl rfl) (.alloc 107 J1 rfl rfl ah (.aj J0 rfl rfl rfl rfl rfl rfl (b7 rfl) rfl ?_))
 refine .nil (.seq (.seq ?_))
 refine .sh (Sh.m0 107 rfl rfl) (.region ?_)
 refine .fa gQ ?_
 refine .ld nX ?_
 refine .vl (Y.qw (n := n.streams.length) m7 rfl gT) ?_
 refine .mv ?_
 refine .nil (.block ?_)
 refine .iS (fun (aV : Nat) => ⟨[(1, .fp (ab.row n) 0), (7, .fp ([.gd (.func 156) [] [.fp (ab.row n) 0]]) 0), (114, .fz 3 (n.streams.map gZ.row)), (115, vi n.streams.length), (116, vi aV)], []⟩) (fun aV => ((aV : Int) ≤ (n.streams.length : Int)) ∧ (∀ j, j < aV → iT n j)) (fun aV => ((n.streams.length : Int) - (aV : Int)).toNat) 0 (⟨om, fun j hj => by omega⟩) (Le.mk (.c4 (.cons (ak rfl bg) .nil)) .nil) (fun aV Kf => ?_)
 obtain ⟨Pd, wQ⟩ := Kf
 refine .sr (.vl (Y.zb rfl rfl) (.nil ?_))
 refine .seq ?_
 refine .ay rfl (fun lr => ?_) (fun lr => ?_)
 refine .skip ?_
 refine .xo (fun (pt : Bool) (pv : Bool) (pw : Bool) (px : Bool) => ⟨[(1, .fp (ab.row n) 0), (7, .fp ([.gd (.func 156) [] [.fp (ab.row n) 0]]) 0), (114, .fz 3 (n.streams.map gZ.row)), (115, vi n.streams.length), (116, vi aV), (126, .ptr 109 0 0 1), (127, vi ((n.streams.getD aV default).width)), (128, .v (.bool (decide (cG ((n.streams.getD aV default).width))))), (129, .v (.bool (!decide (cG ((n.streams.getD aV default).width))))), (132, .gd (.func 156) [] [.fp (ab.row n) 0]), (133, .fp (ab.row n) 6), (134, .fz 1 (n.bW.map aq)), (135, vi aV), (136, .fp (aq (n.bW.getD aV 0)) 0), (137, vi (n.bW.getD aV 0)), (138, .v (.bool (decide (In (n.bW.getD aV 0) n.ai.length)))), (139, .v (.bool (!decide (In (n.bW.getD aV 0) n.ai.length)))), (142, .ptr 109 0 0 2), (143, .v (.bool ((n.streams.getD aV default).out))), (144, .v (.bool pt)), (153, .v (.bool pv)), (156, .ptr 109 0 0 2), (157, .v (.bool ((n.streams.getD aV default).out))), (158, .v (.bool (!((n.streams.getD aV default).out)))), (159, .v (.bool pw)), (166, .v (.bool px))], [(109, .cells [.v (.string ((n.streams.getD aV default).name)), vi ((n.streams.getD aV default).width), .v (.bool ((n.streams.getD aV default).out))])]⟩) (fun pt pv pw px => iT n aV) ?_ (fun pt pv pw px Kg => ?_)
 refine .block (.sr ?_)
 have Q9 := hs.oP _ (eP (l := n.streams) (i := aV) (d := default) om)
 refine .mv ?_
 refine .vl (Y.qr (m := aV) m7 rfl rfl bg (aw (d := default) om)) ?_
 refine .vl (Y.za BU rfl rfl (b7 rfl) rfl rfl) (.alloc 109 BW rfl rfl ah ?_)
 refine .an ?_
 refine .aj BV rfl rfl rfl rfl rfl rfl (b7 rfl) rfl (.nil (.seq ?_))
 refine .cC rfl (.bj (n := 45) [0, 1] [2, 3, 4, 5, 6, 7, 8, 9, 10, 11, 12, 13, 14, 15, 16, 17, 18, 19, 20, 21, 22, 23, 24, 25, 26, 27, 28, 29, 30, 31, 32, 33, 34, 35, 36, 37, 38, 39, 40, 41, 42, 43, 44, 45, 46] 2 rfl aX (.cn 0 rfl (Y.qo Ar rfl rfl) ?_))
 refine .cn 1 rfl (Y.qz Jz rfl rfl rfl rfl) (.nil (.one 2 rfl aX ?_))
 refine .bd xE (lU (s := ((n.streams.getD aV default).name)) (by first | assumption | omega)) rfl (.ao rfl rfl .nil) ah rfl ?_
 refine .nil ⟨rfl, ?_⟩
 refine .bj (n := 40) [3, 4, 5, 6] [7, 8, 9, 10, 11, 12, 13, 14, 15, 16, 17, 18, 19, 20, 21, 22, 23, 24, 25, 26, 27, 28, 29, 30, 31, 32, 33, 34, 35, 36, 37, 38, 39, 40, 41, 42, 43, 44, 45, 46] 7 rfl aX (.cn 3 rfl (Y.zk rfl) (.cn 4 rfl (Y.zf rfl rfl) ?_))
 refine .split (d := 125) rfl (fun uk => ?_) (fun uk => ?_)
 replace uk : ¬ (nO ((n.streams.getD aV default).name)) := by simpa using uk
 refine .sk 5 rfl rfl rfl rfl (.sk 6 rfl rfl rfl rfl (.nil ?_))
 refine .bM 7 rfl aX rfl ah ah rfl rfl (.bM 8 rfl aX rfl ah ah rfl rfl (.bj (n := 30) [9, 10, 11, 12, 13, 14, 15, 16] [17, 18, 19, 20, 21, 22, 23, 24, 25, 26, 27, 28, 29, 30, 31, 32, 33, 34, 35, 36, 37, 38, 39, 40, 41, 42, 43, 44, 45, 46] 17 rfl aX ?_))
 refine .cn 9 rfl (Y.zl rfl rfl rfl) (.cn 10 rfl (Y.zf rfl rfl) (.sk 11 rfl rfl rfl rfl ?_))
 refine .sk 12 rfl rfl rfl rfl (.sk 13 rfl rfl rfl rfl (.sk 14 rfl rfl rfl rfl ?_))
 refine .sk 15 rfl rfl rfl rfl (.sk 16 rfl rfl rfl rfl (.nil ?_))
 refine .bM 17 rfl aX rfl ah ah rfl rfl (.bM 18 rfl aX rfl ah ah rfl rfl (.bj (n := 17) [19, 20, 21, 22, 23, 24, 25, 26, 27, 28, 29] [30, 31, 32, 33, 34, 35, 36, 37, 38, 39, 40, 41, 42, 43, 44, 45, 46] 30 rfl aX ?_))
 refine .cn 19 rfl (Y.zl rfl rfl rfl) (.cn 20 rfl (Y.zf rfl rfl) (.sk 21 rfl rfl rfl rfl ?_))
 refine .sk 22 rfl rfl rfl rfl (.sk 23 rfl rfl rfl rfl (.sk 24 rfl rfl rfl rfl ?_))
 refine .sk 25 rfl rfl rfl rfl (.sk 26 rfl rfl rfl rfl (.sk 27 rfl rfl rfl rfl ?_))
 refine .sk 28 rfl rfl rfl rfl (.sk 29 rfl rfl rfl rfl (.nil ?_))
 refine .bM 30 rfl aX rfl ah ah rfl rfl (.bM 31 rfl aX rfl ah ah rfl rfl (.bM 32 rfl aX rfl ah ah rfl rfl ?_))
 refine .bj (n := 0) [33, 34, 35, 36, 37, 38, 39, 40, 41, 42, 43, 44, 45, 46] [] 0 rfl aX (.cn 33 rfl (Y.zl rfl rfl rfl) (.cn 34 rfl (Y.zf rfl rfl) ?_))
 refine .sk 35 rfl rfl rfl rfl (.sk 36 rfl rfl rfl rfl (.sk 37 rfl rfl rfl rfl ?_))
 refine .sk 38 rfl rfl rfl rfl (.sk 39 rfl rfl rfl rfl (.sk 40 rfl rfl rfl rfl ?_))
 refine .sk 41 rfl rfl rfl rfl (.sk 42 rfl rfl rfl rfl (.sk 43 rfl rfl rfl rfl ?_))
 refine .sk 44 rfl rfl rfl rfl (.sk 45 rfl rfl rfl rfl (.cn 46 rfl (Y.zl rfl rfl rfl) ?_))
 refine .nil (.done aX (.aE rfl ?_))
 refine .sr ?_
 refine .an ?_
 refine .nil (.ret ?_)
 exact .rb rfl (df (fun h => by have h1 := h.strs aV om; unfold iT at h1; obtain ⟨a1, a2, a3, a4, a5⟩ := h1; first | contradiction | grind))
 replace uk : nO ((n.streams.getD aV default).name) := by simpa using uk
 refine .rn 5 rfl rfl rfl (Y.qo rj rfl rfl) (.rn 6 rfl rfl rfl (Y.qz aZ rfl rfl rfl rfl) (.nil ?_))
 refine .one 7 rfl aX (.aO (d := 125) rfl ah rfl (.bd xF (np (w := ((n.streams.getD aV default).width))) rfl (.ao rfl rfl .nil) ah rfl ?_))
 refine .nil ⟨rfl, ?_⟩
 refine .bj (n := 30) [8, 9, 10, 11, 12, 13, 14, 15, 16] [17, 18, 19, 20, 21, 22, 23, 24, 25, 26, 27, 28, 29, 30, 31, 32, 33, 34, 35, 36, 37, 38, 39, 40, 41, 42, 43, 44, 45, 46] 17 rfl aX (.rn 8 rfl rfl rfl (Y.zk rfl) (.cn 9 rfl (Y.zl rfl rfl rfl) ?_))
 refine .cn 10 rfl (Y.zf rfl rfl) ?_
 refine .split (d := 131) rfl (fun r8 => ?_) (fun r8 => ?_)
 replace r8 : ¬ (cG ((n.streams.getD aV default).width)) := by simpa using r8
 refine .sk 11 rfl rfl rfl rfl (.sk 12 rfl rfl rfl rfl (.sk 13 rfl rfl rfl rfl ?_))
 refine .sk 14 rfl rfl rfl rfl (.sk 15 rfl rfl rfl rfl (.sk 16 rfl rfl rfl rfl ?_))
 refine .nil (.bM 17 rfl aX rfl ah ah rfl rfl (.bM 18 rfl aX rfl ah ah rfl rfl ?_))
 refine .bj (n := 17) [19, 20, 21, 22, 23, 24, 25, 26, 27, 28, 29] [30, 31, 32, 33, 34, 35, 36, 37, 38, 39, 40, 41, 42, 43, 44, 45, 46] 30 rfl aX (.cn 19 rfl (Y.zl rfl rfl rfl) (.cn 20 rfl (Y.zf rfl rfl) ?_))
 refine .sk 21 rfl rfl rfl rfl (.sk 22 rfl rfl rfl rfl (.sk 23 rfl rfl rfl rfl ?_))
 refine .sk 24 rfl rfl rfl rfl (.sk 25 rfl rfl rfl rfl (.sk 26 rfl rfl rfl rfl ?_))
 refine .sk 27 rfl rfl rfl rfl (.sk 28 rfl rfl rfl rfl (.sk 29 rfl rfl rfl rfl ?_))
 refine .nil (.bM 30 rfl aX rfl ah ah rfl rfl (.bM 31 rfl aX rfl ah ah rfl rfl ?_))
 refine .bM 32 rfl aX rfl ah ah rfl rfl (.bj (n := 0) [33, 34, 35, 36, 37, 38, 39, 40, 41, 42, 43, 44, 45, 46] [] 0 rfl aX (.cn 33 rfl (Y.zl rfl rfl rfl) ?_))
 refine .cn 34 rfl (Y.zf rfl rfl) (.sk 35 rfl rfl rfl rfl (.sk 36 rfl rfl rfl rfl ?_))
 refine .sk 37 rfl rfl rfl rfl (.sk 38 rfl rfl rfl rfl (.sk 39 rfl rfl rfl rfl ?_))
 refine .sk 40 rfl rfl rfl rfl (.sk 41 rfl rfl rfl rfl (.sk 42 rfl rfl rfl rfl ?_))
 refine .sk 43 rfl rfl rfl rfl (.sk 44 rfl rfl rfl rfl (.sk 45 rfl rfl rfl rfl ?_))
 refine .cn 46 rfl (Y.zl rfl rfl rfl) (.nil (.done aX ?_))
 refine .aE rfl (.sr ?_)
 refine .an ?_
 refine .nil (.ret ?_)
 exact .rb rfl (df (fun h => by have h1 := h.strs aV om; unfold iT at h1; obtain ⟨a1, a2, a3, a4, a5⟩ := h1; first | contradiction | grind))
 replace r8 : cG ((n.streams.getD aV default).width) := by simpa using r8
 refine .rn 11 rfl rfl rfl (Y.qz tU rfl rfl rfl rfl) (.rn 12 rfl rfl rfl (Y.qo tR rfl rfl) (.rn 13 rfl rfl rfl (Y.qz cZ rfl rfl rfl rfl) ?_))
 refine .rn 14 rfl rfl rfl (Y.zf rfl rfl) (.rn 15 rfl rfl rfl (Y.qr (m := aV) a8 rfl rfl bg (aw (d := 0) om)) ?_)
 refine .rn 16 rfl rfl rfl (Y.qz aZ rfl rfl rfl rfl) (.nil (.one 17 rfl aX ?_))
 refine .aO (d := 131) rfl ah rfl (.jF rfl oX (ep (i := (n.bW.getD aV 0))) rfl (.ao rfl rfl (.ao rfl rfl .nil)) ah rfl ?_)
 refine .nil ⟨rfl, ?_⟩
 refine .bj (n := 17) [18, 19, 20, 21, 22, 23, 24, 25, 26, 27, 28, 29] [30, 31, 32, 33, 34, 35, 36, 37, 38, 39, 40, 41, 42, 43, 44, 45, 46] 30 rfl aX (.rn 18 rfl rfl rfl (Y.zk rfl) (.cn 19 rfl (Y.zl rfl rfl rfl) ?_))
 refine .cn 20 rfl (Y.zf rfl rfl) ?_
 refine .split (d := 141) rfl (fun yp => ?_) (fun yp => ?_)
 replace yp : ¬ (In (n.bW.getD aV 0) n.ai.length) := by simpa using yp
 refine .sk 21 rfl rfl rfl rfl (.sk 22 rfl rfl rfl rfl (.sk 23 rfl rfl rfl rfl ?_))
 refine .sk 24 rfl rfl rfl rfl (.sk 25 rfl rfl rfl rfl (.sk 26 rfl rfl rfl rfl ?_))
 refine .sk 27 rfl rfl rfl rfl (.sk 28 rfl rfl rfl rfl (.sk 29 rfl rfl rfl rfl ?_))
 refine .nil (.bM 30 rfl aX rfl ah ah rfl rfl (.bM 31 rfl aX rfl ah ah rfl rfl ?_))
 refine .bM 32 rfl aX rfl ah ah rfl rfl (.bj (n := 0) [33, 34, 35, 36, 37, 38, 39, 40, 41, 42, 43, 44, 45, 46] [] 0 rfl aX (.cn 33 rfl (Y.zl rfl rfl rfl) ?_))
 refine .cn 34 rfl (Y.zf rfl rfl) (.sk 35 rfl rfl rfl rfl (.sk 36 rfl rfl rfl rfl ?_))
 refine .sk 37 rfl rfl rfl rfl (.sk 38 rfl rfl rfl rfl (.sk 39 rfl rfl rfl rfl ?_))
 refine .sk 40 rfl rfl rfl rfl (.sk 41 rfl rfl rfl rfl (.sk 42 rfl rfl rfl rfl ?_))
 refine .sk 43 rfl rfl rfl rfl (.sk 44 rfl rfl rfl rfl (.sk 45 rfl rfl rfl rfl ?_))
 refine .cn 46 rfl (Y.zl rfl rfl rfl) (.nil (.done aX ?_))
 refine .aE rfl (.sr ?_)
 refine .an ?_
 refine .nil (.ret ?_)
 exact .rb rfl (df (fun h => by have h1 := h.strs aV om; unfold iT at h1; obtain ⟨a1, a2, a3, a4, a5⟩ := h1; first | contradiction | grind))
 replace yp : In (n.bW.getD aV 0) n.ai.length := by simpa using yp
 refine .rn 21 rfl rfl rfl (Y.qo iW rfl rfl) (.rn 22 rfl rfl rfl (Y.qz xI rfl rfl rfl rfl) (.rn 23 rfl rfl rfl (Y.zf rfl rfl) ?_))
 refine .split (d := 144) rfl (fun AT => ?_) (fun AT => ?_)
 refine .rn 24 rfl rfl rfl (Y.qz tU rfl rfl rfl rfl) (.rn 25 rfl rfl rfl (Y.qo oV rfl rfl) (.rn 26 rfl rfl rfl (Y.qz cZ rfl rfl rfl rfl) ?_))
 refine .rn 27 rfl rfl rfl (Y.zf rfl rfl) (.rn 28 rfl rfl rfl (Y.qr (m := aV) a8 rfl rfl bg (aw (d := 0) om)) ?_)
 refine .rn 29 rfl rfl rfl (Y.qz aZ rfl rfl rfl rfl) (.nil (.one 30 rfl aX ?_))
 refine .aO (d := 144) rfl ah rfl (.jF rfl oX (ep (i := (n.data.getD aV 0))) rfl (.ao rfl rfl (.ao rfl rfl .nil)) ah rfl ?_)
 refine .nil ⟨rfl, ?_⟩
 refine .bj (n := 0) [31, 32, 33, 34, 35, 36, 37, 38, 39, 40, 41, 42, 43, 44, 45, 46] [] 0 rfl aX (.rn 31 rfl rfl rfl (Y.zk rfl) (.rn 32 rfl rfl rfl (Y.zl rfl rfl rfl) ?_))
 refine .cn 33 rfl (Y.zl rfl rfl rfl) (.cn 34 rfl (Y.zf rfl rfl) ?_)
 refine .split (d := 155) rfl (fun yq => ?_) (fun yq => ?_)
 replace yq : ¬ (In (n.data.getD aV 0) n.ai.length) := by simpa using yq
 refine .sk 35 rfl rfl rfl rfl (.sk 36 rfl rfl rfl rfl (.sk 37 rfl rfl rfl rfl ?_))
 refine .sk 38 rfl rfl rfl rfl (.sk 39 rfl rfl rfl rfl (.sk 40 rfl rfl rfl rfl ?_))
 refine .sk 41 rfl rfl rfl rfl (.sk 42 rfl rfl rfl rfl (.sk 43 rfl rfl rfl rfl ?_))
 refine .sk 44 rfl rfl rfl rfl (.sk 45 rfl rfl rfl rfl (.cn 46 rfl (Y.zl rfl rfl rfl) ?_))
 refine .nil (.done aX (.aE rfl ?_))
 refine .sr ?_
 refine .an ?_
 refine .nil (.ret ?_)
 exact .rb rfl (df (fun h => by have h1 := h.strs aV om; unfold iT at h1; obtain ⟨a1, a2, a3, a4, a5⟩ := h1; first | contradiction | grind))
 replace yq : In (n.data.getD aV 0) n.ai.length := by simpa using yq
 refine .rn 35 rfl rfl rfl (Y.qo iW rfl rfl) (.rn 36 rfl rfl rfl (Y.qz xI rfl rfl rfl rfl) (.rn 37 rfl rfl rfl (Y.zk rfl) ?_))
 refine .rn 38 rfl rfl rfl (Y.zf rfl rfl) ?_
 refine .split (d := 159) rfl (fun gr => ?_) (fun gr => ?_)
 replace gr : ((n.streams.getD aV default).out) = false := by simpa using gr
 refine .rn 39 rfl rfl rfl (Y.qo oV rfl rfl) (.rn 40 rfl rfl rfl (Y.qz cZ rfl rfl rfl rfl) (.rn 41 rfl rfl rfl (Y.zf rfl rfl) ?_))
 refine .rn 42 rfl rfl rfl (Y.qr (m := aV) a8 rfl rfl bg (aw (d := 0) om)) ?_
 refine .rn 43 rfl rfl rfl (Y.qz aZ rfl rfl rfl rfl) (.rn 44 rfl rfl rfl (Y.zi rfl rfl) (.rn 45 rfl rfl rfl (Y.zl rfl rfl rfl) ?_))
 refine .cn 46 rfl (Y.zl rfl rfl rfl) (.nil (.done aX ?_))
 refine .ay rfl (fun yr => ?_) (fun yr => ?_)
 refine .sr ?_
 refine .an ?_
 refine .nil (.ret ?_)
 exact .rb rfl (df (fun h => by have h1 := h.strs aV om; unfold iT at h1; obtain ⟨a1, a2, a3, a4, a5⟩ := h1; first | contradiction | grind))
 refine .skip ⟨true, (!decide (In (n.data.getD aV 0) n.ai.length)), true, decide ((n.data.getD aV 0) ≠ (-1)), by unfold iT; grind, Le.mk (.c8 (.c8 (.c2 (.c (.cons (au rfl dJ) (.cons (au rfl dJ) (.c2 (.c (.cons (au rfl dJ) (.cons (au rfl dJ) .nil)))))))))) (.c .nil)⟩
 replace gr : ((n.streams.getD aV default).out) = true := by simpa using gr
 refine .sk 39 rfl rfl rfl rfl (.sk 40 rfl rfl rfl rfl (.sk 41 rfl rfl rfl rfl ?_))
 refine .sk 42 rfl rfl rfl rfl (.sk 43 rfl rfl rfl rfl (.sk 44 rfl rfl rfl rfl ?_))
 refine .rn 45 rfl rfl rfl (Y.zl rfl rfl rfl) (.cn 46 rfl (Y.zl rfl rfl rfl) (.nil ?_))
 refine .done aX (.bY rfl (.skip ?_))
 exact ⟨true, (!decide (In (n.data.getD aV 0) n.ai.length)), false, false, by unfold iT; grind, Le.mk (.c8 (.c8 (.c2 (.c (.cons (au rfl dJ) (.cons (au rfl dJ) (.c2 (.c (.cons (au rfl dJ) (.cons (au rfl dJ) .nil)))))))))) (.c .nil)⟩
 refine .sk 24 rfl rfl rfl rfl (.sk 25 rfl rfl rfl rfl (.sk 26 rfl rfl rfl rfl ?_))
 refine .sk 27 rfl rfl rfl rfl (.sk 28 rfl rfl rfl rfl (.sk 29 rfl rfl rfl rfl ?_))
 refine .nil (.bM 30 rfl aX rfl ah ah rfl rfl (.bM 31 rfl aX rfl ah ah rfl rfl ?_))
 refine .bj (n := 0) [32, 33, 34, 35, 36, 37, 38, 39, 40, 41, 42, 43, 44, 45, 46] [] 0 rfl aX (.rn 32 rfl rfl rfl (Y.zl rfl rfl rfl) (.cn 33 rfl (Y.zl rfl rfl rfl) ?_))
 refine .cn 34 rfl (Y.zf rfl rfl) (.rn 35 rfl rfl rfl (Y.qo iW rfl rfl) (.rn 36 rfl rfl rfl (Y.qz xI rfl rfl rfl rfl) ?_))
 refine .rn 37 rfl rfl rfl (Y.zk rfl) (.rn 38 rfl rfl rfl (Y.zf rfl rfl) ?_)
 refine .split (d := 159) rfl (fun gr => ?_) (fun gr => ?_)
 replace gr : ((n.streams.getD aV default).out) = false := by simpa using gr
 refine .rn 39 rfl rfl rfl (Y.qo oV rfl rfl) (.rn 40 rfl rfl rfl (Y.qz cZ rfl rfl rfl rfl) (.rn 41 rfl rfl rfl (Y.zf rfl rfl) ?_))
 refine .rn 42 rfl rfl rfl (Y.qr (m := aV) a8 rfl rfl bg (aw (d := 0) om)) ?_
 refine .rn 43 rfl rfl rfl (Y.qz aZ rfl rfl rfl rfl) (.rn 44 rfl rfl rfl (Y.zi rfl rfl) (.rn 45 rfl rfl rfl (Y.zl rfl rfl rfl) ?_))
 refine .cn 46 rfl (Y.zl rfl rfl rfl) (.nil (.done aX ?_))
 refine .ay rfl (fun yr => ?_) (fun yr => ?_)
 refine .sr ?_
 refine .an ?_
 refine .nil (.ret ?_)
 exact .rb rfl (df (fun h => by have h1 := h.strs aV om; unfold iT at h1; obtain ⟨a1, a2, a3, a4, a5⟩ := h1; first | contradiction | grind))
 refine .skip ⟨false, false, true, decide ((n.data.getD aV 0) ≠ (-1)), by unfold iT; grind, Le.mk (.c8 (.c8 (.c2 (.c (.cons (au rfl dJ) (.cons (au rfl dJ) (.c2 (.c (.cons (au rfl dJ) (.cons (au rfl dJ) .nil)))))))))) (.c .nil)⟩
 replace gr : ((n.streams.getD aV default).out) = true := by simpa using gr
 refine .sk 39 rfl rfl rfl rfl (.sk 40 rfl rfl rfl rfl (.sk 41 rfl rfl rfl rfl ?_))
 refine .sk 42 rfl rfl rfl rfl (.sk 43 rfl rfl rfl rfl (.sk 44 rfl rfl rfl rfl ?_))
 refine .rn 45 rfl rfl rfl (Y.zl rfl rfl rfl) (.cn 46 rfl (Y.zl rfl rfl rfl) (.nil ?_))
 refine .done aX (.bY rfl (.skip ?_))
 exact ⟨false, false, false, false, by unfold iT; grind, Le.mk (.c8 (.c8 (.c2 (.c (.cons (au rfl dJ) (.cons (au rfl dJ) (.c2 (.c (.cons (au rfl dJ) (.cons (au rfl dJ) .nil)))))))))) (.c .nil)⟩
 refine .region (.vl (Y.qb rfl rfl om) ?_)
 refine .mv ?_
 refine .nil (⟨aV + 1, ⟨om, eG wQ Kg⟩, om, Le.mk (.c4 (.cons (ak rfl bg) .nil)) .nil⟩)
 refine .exit (.seq (.sr ?_))
 refine .ld tU ?_
 refine .fa tS ?_
 refine .ld aZ ?_
 refine .jF rfl oX (ep (i := n.freeze)) rfl (.ao rfl rfl (.ao rfl rfl .nil)) ah rfl (.vl (Y.zk rfl) ?_)
 refine .mv ?_
 refine .lM (d := 174) rfl (fun Kh => ?_) (fun Kh => ?_)
 refine .gz 174 (.gz 174 (.gz 174 ?_))
 refine .gz 174 (.gz 174 ?_)
 refine .pk ?_
 refine .mv ?_
 refine .gz 181 (.gz 181 (.gz 181 ?_))
 refine .gz 181 ?_
 refine .pk ?_
 refine .nil (.aE rfl (.sr ?_))
 refine .an ?_
 refine .nil (.ret ?_)
 exact .rb rfl (df (fun h => by have h1 := h.freeze; have h2 := h.done; contradiction))
 refine .gw 174 (Y.qz tU rfl rfl rfl rfl) (.gw 174 (Y.qo tT rfl rfl) (.gw 174 (Y.qz aZ rfl rfl rfl rfl) ?_))
 refine .aO (d := 174) rfl ah rfl (.jF rfl oX (ep (i := n.done)) rfl (.ao rfl rfl (.ao rfl rfl .nil)) ah rfl (.gw 174 (Y.zk rfl) ?_))
 refine .pk ?_
 refine .mv ?_
 refine .lM (d := 181) rfl (fun Ki => ?_) (fun Ki => ?_)
 refine .gz 181 (.gz 181 (.gz 181 ?_))
 refine .gz 181 ?_
 refine .pk ?_
 refine .nil (.aE rfl (.sr ?_))
 refine .an ?_
 refine .nil (.ret ?_)
 exact .rb rfl (df (fun h => by have h1 := h.freeze; have h2 := h.done; contradiction))
 refine .gw 181 (Y.qo As rfl rfl) (.gw 181 (Y.qz cZ rfl rfl rfl rfl) (.gw 181 (Y.zc rfl rfl rfl rfl) ?_))
 refine .aO (d := 181) rfl ah rfl ?_
 refine .bd BT (gD (l := n.eu) (p := fun z => !decide (In z n.ai.length)) (om) FT (fun z _ => r6)) rfl (.ao rfl rfl (.ao rfl rfl .nil)) ah rfl ?_
 refine .pk ?_
 refine .nil ?_
 refine .cond rfl (fun DB => ?_) (fun DB => ?_)
 refine .sr ?_
 refine .an ?_
 refine .nil (.ret ?_)
 exact .rb rfl (df (fun h => absurd h.eu (kW.1 je)))
 refine .skip (.sr ?_)
 refine .fa fw ?_
 refine .ld cZ ?_
 refine .vl (Y.qw (n := n.ai.length) a8 rfl gT) (.makeSlice (n := n.ai.length) sv My rfl rfl rfl rfl om om ah ?_)
 refine .bh rfl ah (.sh (Sh.gj (d := 10) (n := n.ai.length) 110 ((List.replicate n.ai.length false).map ke) rfl jW (bn (by simp)) ah) (.nil ?_))
 refine .seq (.sr ?_)
 refine .fa gm ?_
 refine .ld nW ?_
 refine .vl (Y.qw (n := n.cells.length) jz rfl gT) ?_
 refine .mv ?_
 refine .nil (.block ?_)
 refine .k0 (fun (bF : Nat) (cW : List Bool) => ⟨[(1, .fp (ab.row n) 0), (7, .fp ([.gd (.func 156) [] [.fp (ab.row n) 0]]) 0), (10, .aY 110 1 0 n.ai.length), (192, .fz 6 (n.cells.map Cell.row)), (193, vi n.cells.length), (194, vi bF)], [(110, .rows 1 (cW.map ke))]⟩) (fun bF cW => (cW.length = n.ai.length) ∧ ((bF : Int) ≤ (n.cells.length : Int)) ∧ (rM n bF cW) ∧ (∀ j, j < bF → iz n (n.cells.getD j default))) (fun bF cW => ((n.cells.length : Int) - (bF : Int)).toNat) 0 (List.replicate n.ai.length false) (⟨fZ, fZ, rM.init n, fun j hj => by omega⟩) (Le.mk (.c4 (.c (.cons (ak rfl bg) .nil))) (.c .nil)) (fun bF cW Kj => ?_)
 obtain ⟨Cm, Pe, hd, hc⟩ := Kj
 refine .sr (.vl (Y.zb rfl rfl) (.nil ?_))
 refine .seq ?_
 refine .ay rfl (fun Kk => ?_) (fun Kk => ?_)
 refine .skip ?_
 refine .jw (fun (eR : List Bool) => ⟨[(1, .fp (ab.row n) 0), (7, .fp ([.gd (.func 156) [] [.fp (ab.row n) 0]]) 0), (10, .aY 110 1 0 n.ai.length), (192, .fz 6 (n.cells.map Cell.row)), (193, vi n.cells.length), (194, vi bF), (203, .agg [.v (.string n.name), .fz 1 (n.ai.map aq), .fz 6 (n.cells.map Cell.row), .fz 1 (n.ins.map aq), .fz 5 (n.bs.map pF.row), .fz 3 (n.streams.map gZ.row), .fz 1 (n.bW.map aq), .fz 1 (n.data.map aq), vi n.freeze, vi n.done, .fz 1 (n.eu.map aq)]), (204, .agg [vi ((n.cells.getD bF default).kind), vi ((n.cells.getD bF default).op), vi ((n.cells.getD bF default).out), .fz 1 (((n.cells.getD bF default).args).map aq), .v (.int .u64 (((n.cells.getD bF default).num : Nat) : Int)), vi ((n.cells.getD bF default).mem)]), (205, .v (.bool (decide (Shaped n (n.cells.getD bF default))))), (206, .v (.bool (!decide (Shaped n (n.cells.getD bF default)))))], [(110, .rows 1 (eR.map ke))]⟩) (fun eR => (eR.length = n.ai.length) ∧ (iz n (n.cells.getD bF default) ∧ rM n (bF + 1) eR)) ?_ (fun eR GZ => ?_)
 refine .block (.sr ?_)
 refine .vl (Y.qr (m := bF) jz rfl rfl bg (aw (d := default) om)) ?_
 refine .vl (Y.za rm rfl rfl (b7 rfl) rfl rfl) (.alloc 112 nh rfl rfl ah (.aj Au rfl rfl rfl rfl rfl rfl (b7 rfl) rfl ?_))
 refine .nil (.seq (.sr ?_))
 have Pf := hs.args (n.cells.getD bF default) (eP om)
 refine .fa en ?_
 refine .ld cZ ?_
 refine .vl (Y.zc rfl rfl rfl rfl) ?_
 refine .bd BT (gD (l := ((n.cells.getD bF default).args)) (p := fun z => !decide (In z n.ai.length)) (om) FU (fun z _ => r7)) rfl (.ao rfl rfl (.ao rfl rfl .nil)) ah rfl ?_
 refine .mv ?_
 refine .split (d := 202) rfl (fun Kl => ?_) (fun Kl => ?_)
 refine .gz 202 (.gz 202 (.gz 202 ?_))
 refine .gz 202 ?_
 refine .pk ?_
 refine .nil (.aE rfl (.sr ?_))
 refine .an ?_
 refine .nil (.ret ?_)
 exact .rb rfl (df (fun h => by have h1 := h.cells bF om; obtain ⟨a1, a2, a3, a4⟩ := h1; first | contradiction | exact absurd a1 (kW.1 je) | (have := a3 je; contradiction) | (have := a4 je; contradiction)))
 refine .gw 202 (Y.za vO rfl rfl (b7 rfl) rfl rfl) (.gw 202 (Y.za rm rfl rfl (b7 rfl) rfl rfl) (.aO (d := 202) rfl ah rfl ?_))
 refine .bd FV (sC (n := n) (c := (n.cells.getD bF default)) hs (by first | assumption | omega)) rfl (.ao rfl rfl (.ao rfl rfl .nil)) ah rfl (.gw 202 (Y.zk rfl) ?_)
 refine .pk ?_
 refine .nil ?_
 refine .iR rfl (fun Km => ?_) (fun Km => ?_)
 refine .sr ?_
 refine .an ?_
 refine .nil (.ret ?_)
 exact .rb rfl (df (fun h => by have h1 := h.cells bF om; obtain ⟨a1, a2, a3, a4⟩ := h1; first | contradiction | exact absurd a1 (kW.1 je) | (have := a3 je; contradiction) | (have := a4 je; contradiction)))
 refine .skip (.seq (.sr ?_))
 refine .fa ji ?_
 refine .ld aZ ?_
 refine .vl (Y.qk rfl rfl) (.nil ?_)
 refine .ay rfl (fun Kn => ?_) (fun Kn => ?_)
 refine .seq (.sr ?_)
 refine .fa kF ?_
 refine .ld aZ ?_
 refine .vl (Y.zi rfl rfl) (.nil ?_)
 refine .ay rfl (fun Ko => ?_) (fun Ko => ?_)
 refine .sr ?_
 refine .an ?_
 refine .nil (.ret ?_)
 exact .rb rfl (df (fun h => by have h1 := h.cells bF om; obtain ⟨a1, a2, a3, a4⟩ := h1; first | contradiction | exact absurd a1 (kW.1 je) | (have := a3 je; contradiction) | (have := a4 je; contradiction)))
 refine .skip (.exit ?_)
 exact ⟨cW, ⟨om, ⟨⟨jh je, je, fun _ => by omega, fun h => absurd je h⟩, hd.skip om je⟩⟩, Le.mk (.c8 (.c (.c .nil))) (.c .nil)⟩
 refine .skip (.seq (.sr ?_))
 refine .ld tU ?_
 refine .fa kF ?_
 refine .ld aZ ?_
 refine .jF rfl oX (ep (i := ((n.cells.getD bF default).out))) rfl (.ao rfl rfl (.ao rfl rfl .nil)) ah rfl (.vl (Y.zk rfl) ?_)
 refine .mv ?_
 refine .lM (d := 219) rfl (fun Kq => ?_) (fun Kq => ?_)
 refine .gz 219 (.gz 219 (.gz 219 ?_))
 refine .gz 219 (.gz 219 ?_)
 refine .pk ?_
 refine .nil (.aE rfl (.sr ?_))
 refine .an ?_
 refine .nil (.ret ?_)
 exact .rb rfl (df (fun h => by have h1 := h.cells bF om; obtain ⟨a1, a2, a3, a4⟩ := h1; first | contradiction | exact absurd a1 (kW.1 je) | (have := a3 je; contradiction) | (have := a4 je; contradiction)))
 refine .gw 219 (Y.zf rfl rfl) (.gw 219 (Y.qo kF rfl rfl) (.gw 219 (Y.qz aZ rfl rfl rfl rfl) ?_))
 refine .gw 219 (Y.qs (m := ((n.cells.getD bF default).out).toNat) sv rfl rfl fZ fZ) (.gw 219 (Y.qz xI rfl (aS (d := false) fZ) rfl rfl) ?_)
 refine .pk ?_
 refine .nil ?_
 refine .cond rfl (fun Kr => ?_) (fun Kr => ?_)
 refine .sr ?_
 refine .an ?_
 refine .nil (.ret ?_)
 exact .rb rfl (df (fun h => rM.dup hd om je je je h))
 refine .skip (.region ?_)
 refine .mv ?_
 refine .fa kF ?_
 refine .ld aZ ?_
 refine .vl (Y.qs (m := ((n.cells.getD bF default).out).toNat) sv rfl rfl fZ fZ) (.ky ((cW.set (((n.cells.getD bF default).out).toNat) true).map ke) Mx rfl rfl rfl rfl rfl rfl rfl (aS (d := false) fZ) (b7 rfl) (g9 rfl) (.nil (⟨cW.set (((n.cells.getD bF default).out).toNat) true, ⟨fZ, ⟨⟨jh je, je, fun h => absurd h je, fun _ => by assumption⟩, hd.step om je je Cm je⟩⟩, Le.mk (.c8 (.c (.c .nil))) (.c .nil)⟩)))
 obtain ⟨E5, AU⟩ := GZ
 refine .region (.vl (Y.qb rfl rfl om) ?_)
 refine .mv ?_
 refine .nil (⟨bF + 1, eR, ⟨om, om, AU.2, eG hc AU.1⟩, om, Le.mk (.c4 (.c (.cons (ak rfl bg) .nil))) (.c .nil)⟩)
 refine .exit (.sr ?_)
 refine .mv ?_
 refine .CI [110] FW (mF (l := cW) (b := false) (om)) rfl (.eZ rfl rfl (Aa om) (Ab om) (.ao rfl rfl .nil)) (Fw rfl (xh tO)) ah rfl trivial (.vl (Y.zk rfl) ?_)
 refine .an ?_
 refine .nil (.ret ?_)
 exact .rb rfl (db ((rM.all (d := cW) (by rw [show n.cells.length = bF by omega]; exact hd) Cm).trans ⟨fun h => ⟨je, om, om, om, om, om, om, fun j hj => by have := hw j (by rw [List.length_append] at hj; omega); rw [GY] at this; exact this, fun j hj => hm j om, fun j hj => wQ j om, je, je, jh je, fun j hj => hc j om, h⟩, fun h => h.jG⟩))
open Go Go.AW Go.Proofs
theorem vY {n : ab} {c : Cell} (hs : n.Small) (hc : c.args.length ≤ 17592186043904) (hn : c.num < 18446744073709551616) (AV : Shaped n c) (hw : uT n c) : al Try.prog 164 [.agg (ab.row n), .agg (Cell.row c)] [] [] (fun r o => r = .v (.bool (decide (Fits n c))) ∧ o = []) := by
 refine al.of Try.func164 rfl rfl rfl (n := 239) ah (b7 rfl) ?_
 have Il := hs.ins; have Im := hs.bs; have JU := hs.streams; have ho := hw.out; have MI := hs.ai
 refine .sr (.box 102 rfl rfl rfl rfl rfl ah (.box 103 rfl rfl rfl rfl rfl ah ?_))
 refine .an ?_
 refine .nil (.sr ?_)
 refine .an ?_
 refine .nil ?_
 refine .jw (fun (fU : Int) => ⟨[(2, .ptr 102 0 0 0), (3, .ptr 103 0 0 0), (5, vi fU)], [(102, .cells (ab.row n)), (103, .cells (Cell.row c))]⟩) (fun fU => fU = n.ow c) ?_ (fun fU vZ => ?_)
 refine .sr ?_
 refine .fa kF ?_
 refine .ld aZ ?_
 refine .vl (Y.qp rfl rfl) (.nil ?_)
 refine .ay rfl (fun wC => ?_) (fun wC => ?_)
 refine .region ?_
 refine .fa fw ?_
 refine .ld cZ ?_
 refine .fa kF ?_
 refine .ld aZ ?_
 refine .vl (Y.qr (m := (c.out).toNat) a8 rfl rfl om (aw (d := 0) om)) ?_
 refine .ld aZ ?_
 refine .an ?_
 refine .nil ⟨n.ai.getD ((c.out).toNat) 0, by unfold ab.ow ab.wd; rw [if_pos wC], Le.mk (.c2 (.cons (ak rfl bg) .nil)) (.c (.c .nil))⟩
 refine .skip ⟨0, by unfold ab.ow; rw [if_neg wC], Le.mk (.c2 (.cons (ak rfl bg) .nil)) (.c (.c .nil))⟩
 refine .sr ?_
 refine .fa en ?_
 refine .ld cZ ?_
 refine .vl (Y.qw (n := c.args.length) a8 rfl gT) (.makeSlice (n := c.args.length) a8 fv rfl rfl rfl rfl om om ah ?_)
 refine .bh rfl ah (.sh (Sh.gj (d := 6) (n := c.args.length) 106 ((List.replicate c.args.length 0).map aq) rfl jW (bn (by simp)) ah) (.nil ?_))
 refine .seq (.sr ?_)
 refine .fa en ?_
 refine .ld cZ ?_
 refine .vl (Y.qw (n := c.args.length) a8 rfl gT) ?_
 refine .mv ?_
 refine .nil (.block ?_)
 refine .k0 (fun (gU : Nat) (jm : List Int) => ⟨[(2, .ptr 102 0 0 0), (3, .ptr 103 0 0 0), (5, vi fU), (6, .aY 106 1 0 c.args.length), (25, .fz 1 (c.args.map aq)), (26, vi c.args.length), (27, vi gU)], [(102, .cells (ab.row n)), (103, .cells (Cell.row c)), (106, .rows 1 (jm.map aq))]⟩) (fun gU jm => (jm.length = c.args.length) ∧ ((gU : Int) ≤ (c.args.length : Int)) ∧ (∀ j, j < gU → jm.getD j 0 = n.av c j)) (fun gU jm => ((c.args.length : Int) - (gU : Int)).toNat) 0 (List.replicate c.args.length 0) (⟨pD, pD, fun j hj => by omega⟩) (Le.mk (.c4 (.c2 (.cons (ak rfl bg) .nil))) (.c2 (.c .nil))) (fun gU jm Ks => ?_)
 obtain ⟨yt, QA, ha⟩ := Ks
 refine .sr (.vl (Y.zb rfl rfl) (.nil ?_))
 refine .seq ?_
 refine .ay rfl (fun JY => ?_) (fun JY => ?_)
 refine .skip (.seq (.block ?_))
 refine .sr ?_
 refine .mv ?_
 refine .vl (Y.qr (m := gU) a8 rfl rfl bg (aw (d := 0) om)) ?_
 refine .ld aZ ?_
 refine .an ?_
 refine .an ?_
 refine .nil (.region ?_)
 have E6 := hw.arg (k := gU) om
 refine .mv ?_
 refine .mv ?_
 refine .fa fw ?_
 refine .ld cZ ?_
 refine .mv ?_
 refine .vl (Y.qr (m := (c.args.getD gU 0).toNat) a8 rfl rfl om (aw (d := 0) om)) ?_
 refine .ld aZ ?_
 refine .vl (Y.qs (m := gU) a8 rfl rfl bg om) (.ky ((jm.set gU (n.ai.getD ((c.args.getD gU 0).toNat) 0)).map aq) cT rfl rfl rfl rfl rfl rfl rfl (aS (d := 0) om) (b7 rfl) (g9 rfl) ?_)
 refine .nil (.region ?_)
 refine .vl (Y.qb rfl rfl aC) ?_
 refine .mv ?_
 refine .nil (⟨gU + 1, jm.set gU (n.ai.getD ((c.args.getD gU 0).toNat) 0), ⟨pD, pD, vK ha rfl om⟩, om, Le.mk (.c4 (.c2 (.cons (ak rfl bg) .nil))) (.c2 (.c .nil))⟩)
 refine .exit (.seq (.seq ?_))
 have QB : 0 < c.args.length → jm.getD 0 0 = n.av c 0 := fun h => ha 0 om
 have MJ : 1 < c.args.length → jm.getD 1 0 = n.av c 1 := fun h => ha 1 om
 have QC : 2 < c.args.length → jm.getD 2 0 = n.av c 2 := fun h => ha 2 om
 refine .region ?_
 refine .fa ji ?_
 refine .ld aZ ?_
 refine .nil (.block (.sr ?_))
 refine .vl (Y.qk rfl rfl) ?_
 refine .an ?_
 refine .nil ?_
 refine .ay rfl (fun JW => ?_) (fun JW => ?_)
 refine .seq (.cC rfl (.blind 0 rfl aX (aJ.move rfl rfl) ah ?_))
 refine .blind 1 rfl aX (aJ.fieldAddr eb rfl rfl) ah (.blind 4 rfl aX (aJ.fieldAddr eb rfl rfl) ah ?_)
 refine .two 2 5 rfl rfl aX ?_ ?_
 refine .ld gB ?_
 refine .nil ⟨rfl, ?_⟩
 refine .two 3 5 rfl rfl aX ?_ ?_
 refine .bd oW (gq (w := fU) (x := c.num) (om)) rfl (.ao rfl rfl (.ao rfl rfl .nil)) ah rfl ?_
 refine .nil ⟨rfl, ?_⟩
 refine .bj (n := 0) [5, 6, 7] [] 0 rfl aX (.cn 5 rfl (Y.qz gB rfl rfl rfl rfl) (.cn 6 rfl (Y.qk rfl rfl) ?_))
 refine .cn 7 rfl (Y.qe rfl rfl) (.nil (.done aX ?_))
 refine .ret (.rb rfl (dd th))
 refine .ld gB ?_
 refine .nil ⟨rfl, ?_⟩
 refine .one 3 rfl aX (.bd oW (gq (w := fU) (x := c.num) (om)) rfl (.ao rfl rfl (.ao rfl rfl .nil)) ah rfl ?_)
 refine .nil ⟨rfl, ?_⟩
 refine .bj (n := 0) [6, 7] [] 0 rfl aX (.cn 6 rfl (Y.qk rfl rfl) (.cn 7 rfl (Y.qe rfl rfl) ?_))
 refine .nil (.done aX (.ret ?_))
 exact .rb rfl (dd th)
 refine .ld gB ?_
 refine .nil ⟨rfl, ?_⟩
 refine .bj (n := 3) [2] [3, 6, 7] 3 rfl aX (.cn 2 rfl (Y.qz gB rfl rfl rfl rfl) (.nil ?_))
 refine .one 3 rfl aX (.bd oW (gq (w := fU) (x := c.num) (om)) rfl (.ao rfl rfl (.ao rfl rfl .nil)) ah rfl ?_)
 refine .nil ⟨rfl, ?_⟩
 refine .bj (n := 0) [6, 7] [] 0 rfl aX (.cn 6 rfl (Y.qk rfl rfl) (.cn 7 rfl (Y.qe rfl rfl) ?_))
 refine .nil (.done aX (.ret ?_))
 exact .rb rfl (dd th)
 refine .sr (.vl (Y.qk rfl rfl) ?_)
 refine .an ?_
 refine .nil ?_
 refine .ay rfl (fun wE => ?_) (fun wE => ?_)
 have hk := AV.k2 wE
 refine .seq (.sr ?_)
 refine .fa ek ?_
 refine .ld aZ ?_
 refine .nil (.block (.sr ?_))
 refine .vl (Y.qk rfl rfl) ?_
 refine .an ?_
 refine .nil ?_
 refine .ay rfl (fun Kt => ?_) (fun Kt => ?_)
 refine .sr ?_
 refine .mv ?_
 refine .vl (Y.qs (m := 0) a8 rfl rfl bg aC) (.vl (Y.qz aZ rfl (aS (d := 0) om) rfl rfl) (.vl (Y.qk rfl rfl) ?_))
 refine .mv ?_
 refine .ax (d := 62) rfl (fun Pg => ?_) (fun Pg => ?_)
 refine .gw 62 (Y.zf rfl rfl) (.gw 62 (Y.qs (m := 1) a8 rfl rfl bg om) (.gw 62 (Y.qz aZ rfl (aS (d := 0) om) rfl rfl) ?_))
 refine .gw 62 (Y.zf rfl rfl) (.gw 62 (Y.qk rfl rfl) ?_)
 refine .pk ?_
 refine .mv ?_
 refine .ax (d := 69) rfl (fun Ph => ?_) (fun Ph => ?_)
 refine .gw 69 (Y.zf rfl rfl) (.gw 69 (Y.qs (m := 2) a8 rfl rfl bg om) (.gw 69 (Y.qz aZ rfl (aS (d := 0) om) rfl rfl) ?_))
 refine .gw 69 (Y.zf rfl rfl) (.gw 69 (Y.qk rfl rfl) ?_)
 refine .pk ?_
 refine .an ?_
 refine .nil (.ret ?_)
 exact .rb rfl (dd (by (simp only [Fits, cv, fY, ← vZ, wE, Int.reduceEq, Bool.not_eq_true, false_and, true_and, and_true, and_false, or_false, false_or, ne_eq]) <;> omega))
 refine .gz 69 (.gz 69 (.gz 69 ?_))
 refine .gz 69 (.gz 69 ?_)
 refine .pk ?_
 refine .an ?_
 refine .nil (.ret ?_)
 exact .rb rfl (df (by (simp only [Fits, cv, fY, ← vZ, wE, Int.reduceEq, Bool.not_eq_true, false_and, true_and, and_true, and_false, or_false, false_or, ne_eq]) <;> omega))
 refine .gz 62 (.gz 62 (.gz 62 ?_))
 refine .gz 62 (.gz 62 ?_)
 refine .pk ?_
 refine .mv ?_
 refine .gz 69 (.gz 69 (.gz 69 ?_))
 refine .gz 69 (.gz 69 ?_)
 refine .pk ?_
 refine .an ?_
 refine .nil (.ret ?_)
 exact .rb rfl (df (by (simp only [Fits, cv, fY, ← vZ, wE, Int.reduceEq, Bool.not_eq_true, false_and, true_and, and_true, and_false, or_false, false_or, ne_eq]) <;> omega))
 refine .seq (.sr (.vl (Y.qk rfl rfl) ?_))
 refine .an ?_
 refine .nil ?_
 refine .aU rfl (fun GX => ?_) (fun GX => ?_)
 refine .skip (.aE rfl (.sr ?_))
 refine .mv ?_
 refine .vl (Y.qs (m := 0) a8 rfl rfl bg aC) (.vl (Y.qz aZ rfl (aS (d := 0) om) rfl rfl) ?_)
 refine .mv ?_
 refine .vl (Y.qy rfl rfl) ?_
 refine .an ?_
 refine .nil (.ret ?_)
 exact .rb rfl (dd (by (simp only [Fits, cv, fY, ← vZ, wE, Int.reduceEq, Bool.not_eq_true, false_and, true_and, and_true, and_false, or_false, false_or, ne_eq]) <;> omega))
 refine .region (.vl (Y.qk rfl rfl) ?_)
 refine .an ?_
 refine .nil ?_
 refine .aU rfl (fun GX => ?_) (fun GX => ?_)
 refine .sr ?_
 refine .mv ?_
 refine .vl (Y.qs (m := 0) a8 rfl rfl bg aC) (.vl (Y.qz aZ rfl (aS (d := 0) om) rfl rfl) ?_)
 refine .mv ?_
 refine .vl (Y.qy rfl rfl) ?_
 refine .an ?_
 refine .nil (.ret ?_)
 exact .rb rfl (dd (by (simp only [Fits, cv, fY, ← vZ, wE, Int.reduceEq, Bool.not_eq_true, false_and, true_and, and_true, and_false, or_false, false_or, ne_eq]) <;> omega))
 refine .sr (.vl (Y.qk rfl rfl) ?_)
 refine .an ?_
 refine .nil ?_
 refine .ay rfl (fun Pj => ?_) (fun Pj => ?_)
 refine .sr ?_
 refine .mv ?_
 refine .vl (Y.qs (m := 0) a8 rfl rfl bg aC) (.vl (Y.qz aZ rfl (aS (d := 0) om) rfl rfl) ?_)
 refine .mv ?_
 refine .vl (Y.qp rfl rfl) ?_
 refine .an ?_
 refine .nil (.ret ?_)
 exact .rb rfl (dd (by (simp only [Fits, cv, fY, ← vZ, wE, Int.reduceEq, Bool.not_eq_true, false_and, true_and, and_true, and_false, or_false, false_or, ne_eq]) <;> omega))
 refine .skip (.seq (.sr ?_))
 refine .fa ek ?_
 refine .ld aZ ?_
 refine .bd Gf (pj (w := c.op)) rfl (.ao rfl rfl .nil) ah rfl (.nil ?_)
 refine .ay rfl (fun yu => ?_) (fun yu => ?_)
 unfold fY at yu
 refine .seq (.fR rfl aX (.val (Y.zf rfl rfl) ah ?_))
 refine .val (Y.qk rfl rfl) ah (.val (Y.zf rfl rfl) ah ?_)
 refine .ax (d := 96) rfl (fun Kc => ?_) (fun Kc => ?_)
 refine .aO (d := 96) rfl ah rfl (.val (Y.zf rfl rfl) ah (.aO (d := 96) rfl ah rfl ?_))
 refine .val (Y.qs (m := 0) a8 rfl rfl bg om) ah (.aO (d := 96) rfl ah rfl (.val (Y.qz aZ rfl (aS (d := 0) om) rfl rfl) ah ?_))
 refine .aO (d := 96) rfl ah rfl (.val (Y.zf rfl rfl) ah (.aO (d := 96) rfl ah rfl ?_))
 refine .val (Y.qs (m := 1) a8 rfl rfl bg om) ah (.aO (d := 96) rfl ah rfl (.val (Y.qz aZ rfl (aS (d := 0) om) rfl rfl) ah ?_))
 refine .aO (d := 96) rfl ah rfl (.val (Y.qk rfl rfl) ah (.val (Y.zl rfl rfl rfl) ah ?_))
 refine .val (Y.qe rfl rfl) ah (.nil (.ret ?_))
 exact .rb rfl (dd (by (simp only [Fits, cv, fY, ← vZ, wE, Int.reduceEq, Bool.not_eq_true, false_and, true_and, and_true, and_false, or_false, false_or, ne_eq]) <;> omega))
 refine .aF (d := 96) rfl ah ah rfl rfl (.aF (d := 96) rfl ah ah rfl rfl (.aF (d := 96) rfl ah ah rfl rfl ?_))
 refine .aF (d := 96) rfl ah ah rfl rfl (.aF (d := 96) rfl ah ah rfl rfl (.aF (d := 96) rfl ah ah rfl rfl ?_))
 refine .aF (d := 96) rfl ah ah rfl rfl (.val (Y.zl rfl rfl rfl) ah (.val (Y.qe rfl rfl) ah ?_))
 refine .nil (.ret ?_)
 exact .rb rfl (df (by (simp only [Fits, cv, fY, ← vZ, wE, Int.reduceEq, Bool.not_eq_true, false_and, true_and, and_true, and_false, or_false, false_or, ne_eq]) <;> omega))
 unfold fY at yu
 refine .skip (.sr ?_)
 refine .mv ?_
 refine .vl (Y.qs (m := 0) a8 rfl rfl bg aC) (.vl (Y.qz aZ rfl (aS (d := 0) om) rfl rfl) ?_)
 refine .mv ?_
 refine .vl (Y.qk rfl rfl) ?_
 refine .mv ?_
 refine .ax (d := 110) rfl (fun yo => ?_) (fun yo => ?_)
 refine .gw 110 (Y.zf rfl rfl) (.gw 110 (Y.qs (m := 1) a8 rfl rfl bg om) (.gw 110 (Y.qz aZ rfl (aS (d := 0) om) rfl rfl) ?_))
 refine .gw 110 (Y.zf rfl rfl) (.gw 110 (Y.qk rfl rfl) ?_)
 refine .pk ?_
 refine .an ?_
 refine .nil (.ret ?_)
 exact .rb rfl (dd (by (simp only [Fits, cv, fY, ← vZ, wE, Int.reduceEq, Bool.not_eq_true, false_and, true_and, and_true, and_false, or_false, false_or, ne_eq]) <;> omega))
 refine .gz 110 (.gz 110 (.gz 110 ?_))
 refine .gz 110 (.gz 110 ?_)
 refine .pk ?_
 refine .an ?_
 refine .nil (.ret ?_)
 exact .rb rfl (df (by (simp only [Fits, cv, fY, ← vZ, wE, Int.reduceEq, Bool.not_eq_true, false_and, true_and, and_true, and_false, or_false, false_or, ne_eq]) <;> omega))
 refine .sr (.vl (Y.qk rfl rfl) ?_)
 refine .an ?_
 refine .nil ?_
 refine .ay rfl (fun lr => ?_) (fun lr => ?_)
 have hk := AV.k3 lr
 refine .seq (.sr ?_)
 refine .mv ?_
 refine .vl (Y.qw (n := c.args.length) a8 rfl rfl) ?_
 refine .mv ?_
 refine .nil (.block ?_)
 refine .iS (fun (b8 : Nat) => ⟨[(5, vi fU), (119, .aY 106 1 0 c.args.length), (120, vi c.args.length), (121, vi b8)], [(106, .rows 1 (jm.map aq))]⟩) (fun b8 => ((b8 : Int) ≤ (c.args.length : Int)) ∧ (∀ k, k < b8 → iy n c k)) (fun b8 => ((c.args.length : Int) - (b8 : Int)).toNat) 0 (⟨om, fun k hk => by omega⟩) (Le.mk (.c2 (.c (.cons (ak rfl bg) .nil))) (.c .nil)) (fun b8 DC => ?_)
 obtain ⟨Ku, hm⟩ := DC
 refine .sr (.vl (Y.zb rfl rfl) (.nil ?_))
 refine .seq ?_
 refine .ay rfl (fun DD => ?_) (fun DD => ?_)
 refine .skip ?_
 refine .ly (fun (iE : Bool) (iF : Bool) => ⟨[(5, vi fU), (119, .aY 106 1 0 c.args.length), (120, vi c.args.length), (121, vi b8), (134, vi b8), (135, vi ((b8 : Int) % 2)), (136, .v (.bool (decide (((b8 : Int) % 2) = 1)))), (137, .v (.bool iE)), (141, .v (.bool iF))], [(106, .rows 1 (jm.map aq))]⟩) (fun iE iF => ((((b8 : Int) % 2) = 0) ∧ (¬ ((jm.getD b8 0) ≠ 1)) ∧ (((b8 : Int) % 2) = 1) ∧ (¬ ((jm.getD b8 0) ≠ fU)) ∧ (iE = true) ∧ (iF = (decide ((jm.getD b8 0) ≠ fU)))) ∨ ((((b8 : Int) % 2) = 0) ∧ (¬ ((jm.getD b8 0) ≠ 1)) ∧ (¬ (((b8 : Int) % 2) = 1)) ∧ (iE = false) ∧ (iF = false)) ∨ ((¬ (((b8 : Int) % 2) = 0)) ∧ (((b8 : Int) % 2) = 1) ∧ (¬ ((jm.getD b8 0) ≠ fU)) ∧ (iE = true) ∧ (iF = (decide ((jm.getD b8 0) ≠ fU)))) ∨ ((¬ (((b8 : Int) % 2) = 0)) ∧ (¬ (((b8 : Int) % 2) = 1)) ∧ (iE = false) ∧ (iF = false))) ?_ (fun iE iF Pk => ?_)
 refine .block (.sr ?_)
 refine .mv ?_
 refine .vl (Y.qs (m := b8) a8 rfl rfl bg om) (.vl (Y.qz aZ rfl (aS (d := 0) om) rfl rfl) ?_)
 refine .an ?_
 refine .an ?_
 refine .nil (.sr ?_)
 refine .mv ?_
 refine .vl (Y.zp rfl rfl aC) (.vl (Y.qk rfl rfl) ?_)
 refine .mv ?_
 refine .ax (d := 129) rfl (fun yv => ?_) (fun yv => ?_)
 refine .gw 129 (Y.zf rfl rfl) (.gw 129 (Y.zi rfl rfl) ?_)
 refine .pk ?_
 refine .mv ?_
 refine .ax (d := 133) rfl (fun DE => ?_) (fun DE => ?_)
 refine .gz 133 (.gz 133 (.gz 133 ?_))
 refine .gz 133 (.gz 137 (.gz 137 ?_))
 refine .gz 137 (.gz 133 ?_)
 refine .pk ?_
 refine .nil (.aE rfl (.sr ?_))
 refine .an ?_
 refine .nil (.ret ?_)
 exact .rb rfl (df (fun h => by simp only [Fits, lr, Int.reduceEq, Bool.not_eq_true, false_and, true_and, and_true, and_false, or_false, false_or, ne_eq] at h; have h1 := h b8 om; have h2 := ha b8 om; unfold iy at h1; omega))
 refine .gw 133 (Y.zf rfl rfl) (.gw 133 (Y.zp rfl rfl om) ?_)
 refine .gw 133 (Y.qk rfl rfl) (.gw 133 (Y.zf rfl rfl) ?_)
 refine .ax (d := 137) rfl (fun lY => ?_) (fun lY => ?_)
 refine .gw 137 (Y.zf rfl rfl) (.gw 137 (Y.zf rfl rfl) (.gw 137 (Y.zi rfl rfl) ?_))
 refine .gw 133 (Y.zl rfl rfl rfl) ?_
 refine .pk ?_
 refine .nil ?_
 refine .ay rfl (fun yw => ?_) (fun yw => ?_)
 refine .sr ?_
 refine .an ?_
 refine .nil (.ret ?_)
 exact .rb rfl (df (fun h => by simp only [Fits, lr, Int.reduceEq, Bool.not_eq_true, false_and, true_and, and_true, and_false, or_false, false_or, ne_eq] at h; have h1 := h b8 om; have h2 := ha b8 om; unfold iy at h1; omega))
 refine .skip (⟨true, decide ((jm.getD b8 0) ≠ fU), .inl ⟨yv, DE, lY, yw, rfl, rfl⟩, Le.mk (.c4 (.c2 (.c (.cons (au rfl dJ) (.cons (au rfl dJ) .nil))))) (.c .nil)⟩)
 refine .gz 137 (.gz 137 (.gz 137 ?_))
 refine .gw 133 (Y.zl rfl rfl rfl) ?_
 refine .pk ?_
 refine .nil (.bY rfl (.skip ?_))
 exact ⟨false, false, .inr (.inl ⟨yv, DE, lY, rfl, rfl⟩), Le.mk (.c4 (.c2 (.c (.cons (au rfl dJ) (.cons (au rfl dJ) .nil))))) (.c .nil)⟩
 refine .gz 129 (.gz 129 ?_)
 refine .pk ?_
 refine .mv ?_
 refine .gw 133 (Y.zf rfl rfl) (.gw 133 (Y.zp rfl rfl om) ?_)
 refine .gw 133 (Y.qk rfl rfl) (.gw 133 (Y.zf rfl rfl) ?_)
 refine .ax (d := 137) rfl (fun lY => ?_) (fun lY => ?_)
 refine .gw 137 (Y.zf rfl rfl) (.gw 137 (Y.zf rfl rfl) (.gw 137 (Y.zi rfl rfl) ?_))
 refine .gw 133 (Y.zl rfl rfl rfl) ?_
 refine .pk ?_
 refine .nil ?_
 refine .ay rfl (fun yw => ?_) (fun yw => ?_)
 refine .sr ?_
 refine .an ?_
 refine .nil (.ret ?_)
 exact .rb rfl (df (fun h => by simp only [Fits, lr, Int.reduceEq, Bool.not_eq_true, false_and, true_and, and_true, and_false, or_false, false_or, ne_eq] at h; have h1 := h b8 om; have h2 := ha b8 om; unfold iy at h1; omega))
 refine .skip (⟨true, decide ((jm.getD b8 0) ≠ fU), .inr (.inr (.inl ⟨yv, lY, yw, rfl, rfl⟩)), Le.mk (.c4 (.c2 (.c (.cons (au rfl dJ) (.cons (au rfl dJ) .nil))))) (.c .nil)⟩)
 refine .gz 137 (.gz 137 (.gz 137 ?_))
 refine .gw 133 (Y.zl rfl rfl rfl) ?_
 refine .pk ?_
 refine .nil (.bY rfl (.skip ?_))
 exact ⟨false, false, .inr (.inr (.inr (⟨yv, lY, rfl, rfl⟩))), Le.mk (.c4 (.c2 (.c (.cons (au rfl dJ) (.cons (au rfl dJ) .nil))))) (.c .nil)⟩
 refine .region (.vl (Y.qb rfl rfl aC) ?_)
 refine .mv ?_
 refine .nil (⟨b8 + 1, ⟨om, x5 hm (by have h2 := ha b8 om; unfold iy; omega)⟩, om, Le.mk (.c2 (.c (.cons (ak rfl bg) .nil))) (.c .nil)⟩)
 refine .exit (.sr ?_)
 refine .an ?_
 refine .nil (.ret ?_)
 exact .rb rfl (dt (by simp only [Fits, lr, Int.reduceEq, Bool.not_eq_true, false_and, true_and, and_true, and_false, or_false, false_or, ne_eq]; exact fun k hk => hm k om))
 refine .sr (.vl (Y.qk rfl rfl) ?_)
 refine .an ?_
 refine .nil ?_
 refine .ay rfl (fun AT => ?_) (fun AT => ?_)
 have hk := AV.k4 AT
 refine .seq (.cC rfl (.blind 0 rfl aX (aJ.move rfl rfl) ah ?_))
 refine .one 1 rfl aX (.vl (Y.qs (m := 0) a8 rfl rfl bg aC) ?_)
 refine .nil ⟨rfl, ?_⟩
 refine .one 2 rfl aX (.vl (Y.qz aZ rfl (aS (d := 0) om) rfl rfl) ?_)
 refine .nil ⟨rfl, ?_⟩
 refine .one 3 rfl aX (.vl (Y.qk rfl rfl) ?_)
 refine .nil ⟨rfl, ?_⟩
 refine .blind 4 rfl aX (aJ.move rfl rfl) ah ?_
 refine .ax (d := 150) rfl (fun Kv => ?_) (fun Kv => ?_)
 refine .iv 5 rfl aX rfl ah rfl (aJ.move rfl rfl) ah (.iv 8 rfl aX rfl ah rfl (aJ.move rfl rfl) ah (.one 6 rfl aX ?_))
 refine .gw 150 (Y.qs (m := 1) a8 rfl rfl bg om) ?_
 refine .nil ⟨rfl, ?_⟩
 refine .one 7 rfl aX (.gw 150 (Y.qz aZ rfl (aS (d := 0) om) rfl rfl) ?_)
 refine .nil ⟨rfl, ?_⟩
 refine .one 9 rfl aX (.gw 150 (Y.qk rfl rfl) ?_)
 refine .nil ⟨rfl, ?_⟩
 refine .one 10 rfl aX ?_
 refine .pk ?_
 refine .nil ⟨rfl, ?_⟩
 refine .blind 11 rfl aX (aJ.move rfl rfl) ah ?_
 refine .ax (d := 157) rfl (fun Kw => ?_) (fun Kw => ?_)
 refine .iv 12 rfl aX rfl ah rfl (aJ.move rfl rfl) ah (.iv 13 rfl aX rfl ah rfl (aJ.fieldAddr eb rfl rfl) ah (.iv 16 rfl aX rfl ah rfl (aJ.fieldAddr eb rfl rfl) ah ?_))
 refine .two 14 17 rfl rfl aX ?_ ?_
 refine .gw 157 (Y.qz gB rfl rfl rfl rfl) ?_
 refine .nil ⟨rfl, ?_⟩
 refine .two 15 17 rfl rfl aX ?_ ?_
 refine .aO (d := 157) rfl ah rfl (.bd oW (gq (w := fU) (x := c.num) (om)) rfl (.ao rfl rfl (.ao rfl rfl .nil)) ah rfl ?_)
 refine .nil ⟨rfl, ?_⟩
 refine .bj (n := 0) [17, 18, 19, 20] [] 0 rfl aX (.rn 17 rfl rfl rfl (Y.qz gB rfl rfl rfl rfl) (.rn 18 rfl rfl rfl (Y.qk rfl rfl) ?_))
 refine .cn 19 rfl (Y.zl rfl rfl rfl) (.cn 20 rfl (Y.qe rfl rfl) (.nil ?_))
 refine .done aX (.ret ?_)
 exact .rb rfl (dd th)
 refine .gw 157 (Y.qz gB rfl rfl rfl rfl) ?_
 refine .nil ⟨rfl, ?_⟩
 refine .one 15 rfl aX (.aO (d := 157) rfl ah rfl ?_)
 refine .bd oW (gq (w := fU) (x := c.num) (om)) rfl (.ao rfl rfl (.ao rfl rfl .nil)) ah rfl ?_
 refine .nil ⟨rfl, ?_⟩
 refine .bj (n := 0) [18, 19, 20] [] 0 rfl aX (.rn 18 rfl rfl rfl (Y.qk rfl rfl) (.cn 19 rfl (Y.zl rfl rfl rfl) ?_))
 refine .cn 20 rfl (Y.qe rfl rfl) (.nil (.done aX ?_))
 refine .ret (.rb rfl (dd th))
 refine .gw 157 (Y.qz gB rfl rfl rfl rfl) ?_
 refine .nil ⟨rfl, ?_⟩
 refine .bj (n := 4) [14] [15, 18, 19, 20] 15 rfl aX (.rn 14 rfl rfl rfl (Y.qz gB rfl rfl rfl rfl) (.nil ?_))
 refine .one 15 rfl aX (.aO (d := 157) rfl ah rfl ?_)
 refine .bd oW (gq (w := fU) (x := c.num) (om)) rfl (.ao rfl rfl (.ao rfl rfl .nil)) ah rfl ?_
 refine .nil ⟨rfl, ?_⟩
 refine .bj (n := 0) [18, 19, 20] [] 0 rfl aX (.rn 18 rfl rfl rfl (Y.qk rfl rfl) (.cn 19 rfl (Y.zl rfl rfl rfl) ?_))
 refine .cn 20 rfl (Y.qe rfl rfl) (.nil (.done aX ?_))
 refine .ret (.rb rfl (dd th))
 refine .bM 12 rfl aX rfl ah ah rfl rfl (.bM 13 rfl aX rfl ah ah rfl rfl (.bM 14 rfl aX rfl ah ah rfl rfl ?_))
 refine .bM 15 rfl aX rfl ah ah rfl rfl (.bM 16 rfl aX rfl ah ah rfl rfl (.bM 17 rfl aX rfl ah ah rfl rfl ?_))
 refine .bM 18 rfl aX rfl ah ah rfl rfl (.bj (n := 0) [19, 20] [] 0 rfl aX (.cn 19 rfl (Y.zl rfl rfl rfl) ?_))
 refine .cn 20 rfl (Y.qe rfl rfl) (.nil (.done aX ?_))
 refine .ret (.rb rfl (df th))
 refine .bM 5 rfl aX rfl ah ah rfl rfl (.bM 6 rfl aX rfl ah ah rfl rfl (.bM 7 rfl aX rfl ah ah rfl rfl ?_))
 refine .bM 8 rfl aX rfl ah ah rfl rfl (.bM 9 rfl aX rfl ah ah rfl rfl (.one 10 rfl aX ?_))
 refine .pk ?_
 refine .nil ⟨rfl, ?_⟩
 refine .blind 11 rfl aX (aJ.move rfl rfl) ah (.bM 12 rfl aX rfl ah ah rfl rfl (.bM 13 rfl aX rfl ah ah rfl rfl ?_))
 refine .bM 14 rfl aX rfl ah ah rfl rfl (.bM 15 rfl aX rfl ah ah rfl rfl (.bM 16 rfl aX rfl ah ah rfl rfl ?_))
 refine .bM 17 rfl aX rfl ah ah rfl rfl (.bM 18 rfl aX rfl ah ah rfl rfl (.bj (n := 0) [19, 20] [] 0 rfl aX ?_))
 refine .cn 19 rfl (Y.zl rfl rfl rfl) (.cn 20 rfl (Y.qe rfl rfl) (.nil ?_))
 refine .done aX (.ret ?_)
 exact .rb rfl (df th)
 refine .sr (.vl (Y.qk rfl rfl) ?_)
 refine .an ?_
 refine .nil ?_
 refine .ay rfl (fun Ha => ?_) (fun Ha => ?_)
 have hk := AV.k5 Ha
 refine .sr ?_
 refine .mv ?_
 refine .vl (Y.qs (m := 0) a8 rfl rfl bg aC) (.vl (Y.qz aZ rfl (aS (d := 0) om) rfl rfl) ?_)
 refine .mv ?_
 refine .vl (Y.qk rfl rfl) ?_
 refine .mv ?_
 refine .ax (d := 173) rfl (fun Kx => ?_) (fun Kx => ?_)
 refine .gw 173 (Y.zf rfl rfl) (.gw 173 (Y.qs (m := 1) a8 rfl rfl bg om) (.gw 173 (Y.qz aZ rfl (aS (d := 0) om) rfl rfl) ?_))
 refine .gw 173 (Y.zf rfl rfl) (.gw 173 (Y.qk rfl rfl) ?_)
 refine .pk ?_
 refine .an ?_
 refine .nil (.ret ?_)
 exact .rb rfl (dd th)
 refine .gz 173 (.gz 173 (.gz 173 ?_))
 refine .gz 173 (.gz 173 ?_)
 refine .pk ?_
 refine .an ?_
 refine .nil (.ret ?_)
 exact .rb rfl (df th)
 refine .sr (.vl (Y.qk rfl rfl) ?_)
 refine .an ?_
 refine .nil ?_
 refine .ay rfl (fun Hb => ?_) (fun Hb => ?_)
 have hk := AV.k6 Hb
 refine .sr ?_
 refine .mv ?_
 refine .vl (Y.qs (m := 0) a8 rfl rfl bg aC) (.vl (Y.qz aZ rfl (aS (d := 0) om) rfl rfl) (.vl (Y.qk rfl rfl) ?_))
 refine .mv ?_
 refine .ax (d := 186) rfl (fun DB => ?_) (fun DB => ?_)
 refine .gw 186 (Y.qo nf rfl rfl) (.gw 186 (Y.qz vN rfl rfl rfl rfl) (.gw 186 (Y.qo cN rfl rfl) ?_))
 refine .gw 186 (Y.qz aZ rfl rfl rfl rfl) (.gw 186 (Y.qr (m := (c.mem).toNat) tV rfl rfl om (aw (d := default) om)) ?_)
 refine .gw 186 (Y.qo rh rfl rfl) (.gw 186 (Y.qz aZ rfl rfl rfl rfl) (.gw 186 (Y.zf rfl rfl) ?_))
 refine .gw 186 (Y.qk rfl rfl) ?_
 refine .pk ?_
 refine .an ?_
 refine .nil (.ret ?_)
 exact .rb rfl (dd th)
 refine .gz 186 (.gz 186 (.gz 186 ?_))
 refine .gz 186 (.gz 186 (.gz 186 ?_))
 refine .gz 186 (.gz 186 (.gz 186 ?_))
 refine .pk ?_
 refine .an ?_
 refine .nil (.ret ?_)
 exact .rb rfl (df th)
 refine .sr (.vl (Y.qk rfl rfl) ?_)
 refine .an ?_
 refine .nil ?_
 refine .ay rfl (fun Hc => ?_) (fun Hc => ?_)
 have hk := AV.k7 Hc
 refine .seq (.fR rfl aX (.val (Y.zf rfl rfl) ah ?_))
 refine .val (Y.qs (m := 0) a8 rfl rfl bg om) ah (.val (Y.qz aZ rfl (aS (d := 0) om) rfl rfl) ah ?_)
 refine .val (Y.qk rfl rfl) ah (.val (Y.zf rfl rfl) ah ?_)
 refine .ax (d := 203) rfl (fun Ky => ?_) (fun Ky => ?_)
 refine .aO (d := 203) rfl ah rfl (.val (Y.qo nf rfl rfl) ah (.aO (d := 203) rfl ah rfl ?_))
 refine .val (Y.qz vN rfl rfl rfl rfl) ah (.aO (d := 203) rfl ah rfl (.val (Y.qo cN rfl rfl) ah ?_))
 refine .aO (d := 203) rfl ah rfl (.val (Y.qz aZ rfl rfl rfl rfl) ah (.aO (d := 203) rfl ah rfl ?_))
 refine .val (Y.qr (m := (c.mem).toNat) tV rfl rfl om (aw (d := default) om)) ah ?_
 refine .aO (d := 203) rfl ah rfl (.val (Y.qo rh rfl rfl) ah (.aO (d := 203) rfl ah rfl ?_))
 refine .val (Y.qz aZ rfl rfl rfl rfl) ah (.aO (d := 203) rfl ah rfl (.val (Y.zf rfl rfl) ah ?_))
 refine .aO (d := 203) rfl ah rfl (.val (Y.qs (m := 2) a8 rfl rfl bg om) ah (.aO (d := 203) rfl ah rfl (.val (Y.qz aZ rfl (aS (d := 0) om) rfl rfl) ah ?_)))
 refine .aO (d := 203) rfl ah rfl (.val (Y.qk rfl rfl) ah (.val (Y.zl rfl rfl rfl) ah ?_))
 refine .val (Y.qe rfl rfl) ah (.nil (.ret ?_))
 exact .rb rfl (dd th)
 refine .aF (d := 203) rfl ah ah rfl rfl (.aF (d := 203) rfl ah ah rfl rfl (.aF (d := 203) rfl ah ah rfl rfl ?_))
 refine .aF (d := 203) rfl ah ah rfl rfl (.aF (d := 203) rfl ah ah rfl rfl (.aF (d := 203) rfl ah ah rfl rfl ?_))
 refine .aF (d := 203) rfl ah ah rfl rfl (.aF (d := 203) rfl ah ah rfl rfl (.aF (d := 203) rfl ah ah rfl rfl ?_))
 refine .aF (d := 203) rfl ah ah rfl rfl (.aF (d := 203) rfl ah ah rfl rfl (.val (Y.zl rfl rfl rfl) ah ?_))
 refine .val (Y.qe rfl rfl) ah (.nil (.ret ?_))
 exact .rb rfl (df th)
 refine .sr (.vl (Y.qk rfl rfl) ?_)
 refine .an ?_
 refine .nil ?_
 refine .ay rfl (fun Hd => ?_) (fun Hd => ?_)
 have hk := AV.k8 Hd
 refine .sr ?_
 refine .fa oU ?_
 refine .ld cZ ?_
 refine .fa eb ?_
 refine .ld gB ?_
 refine .vl (Y.qr (m := c.num) a8 rfl rfl bg (aw (d := 0) om)) ?_
 refine .ld aZ ?_
 refine .mv ?_
 refine .vl (Y.qk rfl rfl) ?_
 refine .an ?_
 refine .nil (.ret ?_)
 exact .rb rfl (dd th)
 refine .sr (.vl (Y.qk rfl rfl) ?_)
 refine .an ?_
 refine .nil ?_
 refine .ay rfl (fun Kz => ?_) (fun Kz => ?_)
 refine .sr ?_
 refine .mv ?_
 refine .vl (Y.qk rfl rfl) ?_
 refine .an ?_
 refine .nil (.ret ?_)
 exact .rb rfl (dd th)
 have Ib : c.kind = 10 := by have := AV.kind; omega
 have hk := AV.Ib Ib
 refine .skip (.sr ?_)
 refine .fa gQ ?_
 refine .ld nX ?_
 refine .fa cN ?_
 refine .ld aZ ?_
 refine .vl (Y.qr (m := (c.mem).toNat) m7 rfl rfl om (aw (d := default) om)) ?_
 refine .fa rj ?_
 refine .ld aZ ?_
 refine .mv ?_
 refine .vl (Y.qk rfl rfl) ?_
 refine .an ?_
 refine .nil (.ret ?_)
 exact .rb rfl (dd (by (simp only [Fits, cv, fY, ← vZ, Ib, Int.reduceEq, Bool.not_eq_true, false_and, true_and, and_true, and_false, or_false, false_or, ne_eq]) <;> omega))
open Go Go.AW Go.Proofs
theorem r9 {n : ab} {c : Cell} (hs : n.Small) (hf : bq n) (hc : c ∈ n.cells) : al Try.prog 163 [.agg (Cell.row c), .fp (ab.row n) 0] [] [] (fun r o => r = .v (.bool (!decide (Fits n c))) ∧ o = []) := by
 refine al.of Try.func163 rfl rfl rfl (n := 8) ah (b7 rfl) (.sr (.box 102 rfl rfl rfl rfl rfl ah ?_))
 refine .an ?_
 refine .nil (.sr (.vl (Y.za vO rfl rfl (b7 rfl) rfl rfl) ?_))
 refine .vl (Y.za rm rfl rfl (b7 rfl) rfl rfl) (.bd FZ (vY (n := n) (c := c) hs (hs.args _ hc) (hs.CM _ hc) (hf.cell hc).2.1 (hf.cell hc).FC) rfl (.ao rfl rfl (.ao rfl rfl .nil)) ah rfl (.vl (Y.zk rfl) ?_))
 refine .an ?_
 refine .nil (.ret ?_)
 exact .rb rfl (rfl)
theorem sF {n : ab} (hs : n.Small) (hf : bq n) : al Try.prog 109 [.agg (ab.row n)] [] [] (fun r o => r = .v (.bool (decide (Fit n))) ∧ o = []) := by
 refine al.of Try.func109 rfl rfl rfl (n := 63) ah (b7 rfl) ?_
 have MI := hf.dX; have OX := hf.iA; have OY := hf.cJ; have Il := hf.freeze; have Im := hf.done; unfold In at Il Im; have JU := hf.dO; have OZ := hf.ej
 refine .sr (.box 101 rfl rfl rfl rfl rfl ah ?_)
 refine .an ?_
 refine .nil (.seq (.sr ?_))
 refine .fa fw ?_
 refine .ld cZ ?_
 refine .fa tS ?_
 refine .ld aZ ?_
 refine .vl (Y.qr (m := (n.freeze).toNat) a8 rfl rfl om (aw (d := 0) om)) ?_
 refine .ld aZ ?_
 refine .vl (Y.zi rfl rfl) ?_
 refine .mv ?_
 refine .ax (d := 12) rfl (fun vp => ?_) (fun vp => ?_)
 refine .gz 12 (.gz 12 (.gz 12 ?_))
 refine .gz 12 (.gz 12 (.gz 12 ?_))
 refine .gz 12 ?_
 refine .pk ?_
 refine .nil (.aE rfl (.sr ?_))
 refine .an ?_
 refine .nil (.ret ?_)
 exact .rb rfl (df (fun h => by have h1 := h.freeze; have h2 := h.done; unfold ab.wd at h1 h2; first | contradiction | omega))
 refine .gw 12 (Y.qo fw rfl rfl) (.gw 12 (Y.qz cZ rfl rfl rfl rfl) (.gw 12 (Y.qo tT rfl rfl) ?_))
 refine .gw 12 (Y.qz aZ rfl rfl rfl rfl) (.gw 12 (Y.qr (m := (n.done).toNat) a8 rfl rfl om (aw (d := 0) om)) ?_)
 refine .gw 12 (Y.qz aZ rfl rfl rfl rfl) (.gw 12 (Y.zi rfl rfl) ?_)
 refine .pk ?_
 refine .nil ?_
 refine .ay rfl (fun JX => ?_) (fun JX => ?_)
 refine .sr ?_
 refine .an ?_
 refine .nil (.ret ?_)
 exact .rb rfl (df (fun h => by have h1 := h.freeze; have h2 := h.done; unfold ab.wd at h1 h2; first | contradiction | omega))
 refine .skip (.seq (.sr ?_))
 refine .fa gQ ?_
 refine .ld nX ?_
 refine .vl (Y.qw (n := n.streams.length) m7 rfl gT) ?_
 refine .mv ?_
 refine .nil (.block ?_)
 refine .iS (fun (eA : Nat) => ⟨[(1, .ptr 101 0 0 0), (22, .fz 3 (n.streams.map gZ.row)), (23, vi n.streams.length), (24, vi eA)], [(101, .cells (ab.row n))]⟩) (fun eA => ((eA : Int) ≤ (n.streams.length : Int)) ∧ (∀ j, j < eA → kB n j)) (fun eA => ((n.streams.length : Int) - (eA : Int)).toNat) 0 (⟨om, fun j hj => by omega⟩) (Le.mk (.c2 (.c (.cons (ak rfl bg) .nil))) (.c .nil)) (fun eA yn => ?_)
 obtain ⟨AR, wQ⟩ := yn
 refine .sr (.vl (Y.zb rfl rfl) (.nil ?_))
 refine .seq ?_
 refine .ay rfl (fun K0 => ?_) (fun K0 => ?_)
 refine .skip ?_
 refine .ly (fun (um : Bool) (uo : Bool) => ⟨[(1, .ptr 101 0 0 0), (22, .fz 3 (n.streams.map gZ.row)), (23, vi n.streams.length), (24, vi eA), (40, .ptr 104 0 0 2), (41, .v (.bool ((n.streams.getD eA default).out))), (42, .v (.bool um)), (55, .v (.bool uo))], [(101, .cells (ab.row n)), (104, .cells [.v (.string ((n.streams.getD eA default).name)), vi ((n.streams.getD eA default).width), .v (.bool ((n.streams.getD eA default).out))])]⟩) (fun um uo => kB n eA) ?_ (fun um uo E7 => ?_)
 refine .block (.sr ?_)
 refine .mv ?_
 refine .vl (Y.qr (m := eA) m7 rfl rfl bg (aw (d := default) om)) ?_
 refine .vl (Y.za BU rfl rfl (b7 rfl) rfl rfl) (.alloc 104 BW rfl rfl ah ?_)
 refine .an ?_
 refine .aj BV rfl rfl rfl rfl rfl rfl (b7 rfl) rfl (.nil (.seq ?_))
 refine .fR rfl aX ?_
 obtain ⟨_, _, MJ, He, _⟩ := hf.strs eA om
 unfold In at MJ He
 refine .val (Y.qo fw rfl rfl) ah (.val (Y.qz cZ rfl rfl rfl rfl) ah (.val (Y.qo tR rfl rfl) ah ?_))
 refine .val (Y.qz cZ rfl rfl rfl rfl) ah (.val (Y.zf rfl rfl) ah ?_)
 refine .val (Y.qr (m := eA) a8 rfl rfl bg (aw (d := 0) om)) ah (.val (Y.qz aZ rfl rfl rfl rfl) ah (.val (Y.qr (m := (n.bW.getD eA 0).toNat) a8 rfl rfl om (aw (d := 0) om)) ah ?_))
 refine .val (Y.qz aZ rfl rfl rfl rfl) ah (.val (Y.zi rfl rfl) ah (.val (Y.zf rfl rfl) ah ?_))
 refine .ax (d := 39) rfl (fun nt => ?_) (fun nt => ?_)
 refine .aF (d := 39) rfl ah ah rfl rfl (.aF (d := 39) rfl ah ah rfl rfl (.aF (d := 39) rfl ah ah rfl rfl ?_))
 refine .aF (d := 42) rfl ah ah rfl rfl (.aF (d := 42) rfl ah ah rfl rfl (.aF (d := 42) rfl ah ah rfl rfl ?_))
 refine .aF (d := 42) rfl ah ah rfl rfl (.aF (d := 42) rfl ah ah rfl rfl (.aF (d := 42) rfl ah ah rfl rfl ?_))
 refine .aF (d := 42) rfl ah ah rfl rfl (.aF (d := 42) rfl ah ah rfl rfl (.aF (d := 42) rfl ah ah rfl rfl ?_))
 refine .aF (d := 42) rfl ah ah rfl rfl (.aF (d := 42) rfl ah ah rfl rfl (.aF (d := 42) rfl ah ah rfl rfl ?_))
 refine .aF (d := 39) rfl ah ah rfl rfl (.val (Y.zl rfl rfl rfl) ah (.nil ?_))
 refine .aE rfl (.sr ?_)
 refine .an ?_
 refine .nil (.ret ?_)
 exact .rb rfl (df (fun h => by have h1 := h.strs eA om; unfold kB ab.wd at h1; grind))
 refine .aO (d := 39) rfl ah rfl (.val (Y.qo iW rfl rfl) ah (.aO (d := 39) rfl ah rfl ?_))
 refine .val (Y.qz xI rfl rfl rfl rfl) ah (.aO (d := 39) rfl ah rfl (.val (Y.zf rfl rfl) ah ?_))
 refine .split (d := 42) rfl (fun Hf => ?_) (fun Hf => ?_)
 have QD := He je
 refine .aO (d := 42) rfl ah rfl (.val (Y.qo fw rfl rfl) ah (.aO (d := 42) rfl ah rfl ?_))
 refine .val (Y.qz cZ rfl rfl rfl rfl) ah (.aO (d := 42) rfl ah rfl (.val (Y.qo oV rfl rfl) ah ?_))
 refine .aO (d := 42) rfl ah rfl (.val (Y.qz cZ rfl rfl rfl rfl) ah (.aO (d := 42) rfl ah rfl ?_))
 refine .val (Y.zf rfl rfl) ah (.aO (d := 42) rfl ah rfl ?_)
 refine .val (Y.qr (m := eA) a8 rfl rfl bg (aw (d := 0) om)) ah ?_
 refine .aO (d := 42) rfl ah rfl (.val (Y.qz aZ rfl rfl rfl rfl) ah (.aO (d := 42) rfl ah rfl ?_))
 refine .val (Y.qr (m := (n.data.getD eA 0).toNat) a8 rfl rfl om (aw (d := 0) om)) ah ?_
 refine .aO (d := 42) rfl ah rfl (.val (Y.qz aZ rfl rfl rfl rfl) ah (.aO (d := 42) rfl ah rfl ?_))
 refine .val (Y.qo rj rfl rfl) ah (.aO (d := 42) rfl ah rfl (.val (Y.qz aZ rfl rfl rfl rfl) ah ?_))
 refine .aO (d := 42) rfl ah rfl (.val (Y.zi rfl rfl) ah (.aO (d := 39) rfl ah rfl ?_))
 refine .val (Y.zl rfl rfl rfl) ah (.val (Y.zl rfl rfl rfl) ah (.nil ?_))
 refine .ay rfl (fun Kt => ?_) (fun Kt => ?_)
 refine .sr ?_
 refine .an ?_
 refine .nil (.ret ?_)
 exact .rb rfl (df (fun h => by have h1 := h.strs eA om; unfold kB ab.wd at h1; grind))
 refine .skip ⟨true, decide ((n.ai.getD ((n.data.getD eA 0).toNat) 0) ≠ ((n.streams.getD eA default).width)), by unfold kB ab.wd; grind, Le.mk (.c4 (.c2 (.cons (au rfl dJ) (.cons (au rfl dJ) .nil)))) (.c (.c .nil))⟩
 refine .aF (d := 42) rfl ah ah rfl rfl (.aF (d := 42) rfl ah ah rfl rfl (.aF (d := 42) rfl ah ah rfl rfl ?_))
 refine .aF (d := 42) rfl ah ah rfl rfl (.aF (d := 42) rfl ah ah rfl rfl (.aF (d := 42) rfl ah ah rfl rfl ?_))
 refine .aF (d := 42) rfl ah ah rfl rfl (.aF (d := 42) rfl ah ah rfl rfl (.aF (d := 42) rfl ah ah rfl rfl ?_))
 refine .aF (d := 42) rfl ah ah rfl rfl (.aF (d := 42) rfl ah ah rfl rfl (.aF (d := 42) rfl ah ah rfl rfl ?_))
 refine .aO (d := 39) rfl ah rfl (.val (Y.zl rfl rfl rfl) ah (.val (Y.zl rfl rfl rfl) ah ?_))
 refine .nil (.bY rfl (.skip ?_))
 exact ⟨false, false, by unfold kB ab.wd; grind, Le.mk (.c4 (.c2 (.cons (au rfl dJ) (.cons (au rfl dJ) .nil)))) (.c (.c .nil))⟩
 refine .region (.vl (Y.qb rfl rfl aC) ?_)
 refine .mv ?_
 refine .nil (⟨eA + 1, ⟨om, eG wQ E7⟩, om, Le.mk (.c2 (.c (.cons (ak rfl bg) .nil))) (.c .nil)⟩)
 refine .exit (.sr ?_)
 refine .fa gm ?_
 refine .ld nW ?_
 refine .sh (Sh.m0 101 rfl rfl) (.vl (Y.zc rfl rfl rfl rfl) ?_)
 refine .bd FX (kg (l := n.cells) (p := fun z => !decide (Fits n z)) (om) FY (fun z hz => r9 hs hf hz)) rfl (.ao rfl rfl (.ao rfl rfl .nil)) ah rfl ?_
 refine .vl (Y.zk rfl) ?_
 refine .an ?_
 refine .nil (.ret ?_)
 exact .rb rfl (db (sm (by unfold ab.wd; omega) (by unfold ab.wd; omega) (fun j hj => wQ j om)))
end Go.Proofs.Ytlimckldnjmabaa
