/- The table of lengths; small facts for walks of timing. -/
import Derived.Test.YtligpghohcfpnaaNetx0
import Derived.Test.YtligpghohcfpnaaAWx2
import Derived.Test.YtligpghohcfpnaaAWx3
set_option linter.unusedSimpArgs false
set_option linter.unusedVariables false
set_option linter.unusedSectionVars false
set_option maxRecDepth 4000
set_option maxHeartbeats 8000000
namespace Go.Proofs.Ytligpghohcfpnaa
open Go Go.AW Go.Proofs
def Cm : ByteArray := ⟨(([0, 1, 2, 2, 3, 3, 3, 3, 4, 4, 4, 4, 4, 4, 4, 4, 5, 5, 5, 5, 5, 5, 5, 5, 5, 5, 5, 5, 5, 5, 5, 5, 6, 6, 6, 6, 6, 6, 6, 6, 6, 6, 6, 6, 6, 6, 6, 6, 6, 6, 6, 6, 6, 6, 6, 6, 6, 6, 6, 6, 6, 6, 6, 6].append [7, 7, 7, 7, 7, 7, 7, 7, 7, 7, 7, 7, 7, 7, 7, 7, 7, 7, 7, 7, 7, 7, 7, 7, 7, 7, 7, 7, 7, 7, 7, 7, 7, 7, 7, 7, 7, 7, 7, 7, 7, 7, 7, 7, 7, 7, 7, 7, 7, 7, 7, 7, 7, 7, 7, 7, 7, 7, 7, 7, 7, 7, 7, 7]).append ([8, 8, 8, 8, 8, 8, 8, 8, 8, 8, 8, 8, 8, 8, 8, 8, 8, 8, 8, 8, 8, 8, 8, 8, 8, 8, 8, 8, 8, 8, 8, 8, 8, 8, 8, 8, 8, 8, 8, 8, 8, 8, 8, 8, 8, 8, 8, 8, 8, 8, 8, 8, 8, 8, 8, 8, 8, 8, 8, 8, 8, 8, 8, 8].append [8, 8, 8, 8, 8, 8, 8, 8, 8, 8, 8, 8, 8, 8, 8, 8, 8, 8, 8, 8, 8, 8, 8, 8, 8, 8, 8, 8, 8, 8, 8, 8, 8, 8, 8, 8, 8, 8, 8, 8, 8, 8, 8, 8, 8, 8, 8, 8, 8, 8, 8, 8, 8, 8, 8, 8, 8, 8, 8, 8, 8, 8, 8, 8])).toArray⟩
theorem Co : (List.range 256).all (fun m => aK Cm m == fe (m + 1)) = true := by kernel_rfl
theorem zW : Cm.size = 256 := by kernel_rfl
theorem E7 {m : Nat} (h : m < 256) : aK Cm m = fe (m + 1) := by
 have := List.all_eq_true.1 Co m (List.mem_range.2 h)
 simpa using this
theorem q8 {n : Nat} (h : n ≤ 256) : fe n ≤ 8 := uK om
theorem rI {x : Int} {k : Nat} (h0 : 1 ≤ x) (h1 : x ≤ 64) (hk : k ≤ 8) : 0 ≤ 3 * x * (k : Int) ∧ 3 * x * (k : Int) ≤ 1536 :=
 ⟨Int.mul_nonneg om om, Int.le_trans (Int.mul_le_mul (show 3 * x ≤ 192 by omega) (show (k : Int) ≤ 8 by omega) om om) ae⟩
theorem uP {n : ab} {w : Int} (hw : ∀ w ∈ n.aa, eO w) (hi : In w n.aa.length) : 1 ≤ n.aa.getD w.toNat 0 ∧ n.aa.getD w.toNat 0 ≤ 64 := by
 unfold In at hi
 have := hw _ (br (l := n.aa) (i := w.toNat) om)
 unfold eO at this
 omega
theorem Cp {n : ab} {c : Cell} (h : gS n c) (h2 : c.kind = 2) : In c.out n.aa.length ∧ Plain c.op ∧ 1 ≤ c.args.length := by
 have hs := h.2.1
 refine ⟨h.2.2.2 om, ?_⟩
 have h3 : dc c.op ≠ 0 ∧ (c.args.length : Int) = dc c.op := by
  unfold Shaped at hs
  rcases hs with ⟨h, _⟩ | ⟨_, a, b, _⟩ | ⟨h, _⟩ | ⟨h, _⟩ | ⟨h, _⟩ | ⟨h, _⟩ | ⟨h, _⟩ | ⟨h, _⟩ | ⟨h, _⟩ | ⟨h, _⟩ <;> first | omega | exact ⟨a, b⟩
 exact ⟨(xo _).1 h3.1, om⟩
theorem vX {at_ l : List Int} {k : Nat} {t : Int} (ht : t = gG at_ (l.take k)) (hk : k < l.length) : (if at_.getD (l.getD k 0).toNat 0 > t then at_.getD (l.getD k 0).toNat 0 else t) = gG at_ (l.take (k + 1)) := by
 rw [← zU hk, ← ht]
 split <;> omega
theorem kQ.Ol {n : ab} {l out : List Int} {k : Nat} {t : Int} (hv : VT n) (ho : Ord n l) (h : kQ n l k out) (hk : k < l.length) (ht : t = if bJ (n.cells.getD (l.getD k 0).toNat default).kind then gG out (n.cells.getD (l.getD k 0).toNat default).args else 0) : 0 ≤ t ∧ t ≤ 400000 := by
 rw [ht]
 split
 ·rename_i hc
  have := h.jT hv ho hk hc (n.cell (l.getD k 0)).args.length
  rw [List.take_length] at this
  exact this
 ·omega
theorem yG {n : ab} (hf : aU n) {i : Nat} (hi : i < n.cells.length) (h : (n.cells.getD i default).out < 0) : (n.cells.getD i default).kind = 7 := by
 refine Classical.byContradiction fun h7 => ?_
 have := (hf.cells i hi).2.2.2 h7
 unfold In at this; omega
theorem kQ.FU {n : ab} {l out : List Int} {k : Nat} {t : Int} (hf : aU n) (ho : Ord n l) (h : kQ n l k out) (hk : k < l.length) (h0 : ¬ (n.cells.getD (l.getD k 0).toNat default).out < 0)
  (ht : t = if bJ (n.cells.getD (l.getD k 0).toNat default).kind then gG out (n.cells.getD (l.getD k 0).toNat default).args else 0) :
  kQ n l (k + 1) (out.set (n.cells.getD (l.getD k 0).toNat default).out.toNat (t + eJ n (n.cells.getD (l.getD k 0).toNat default))) := by
 have hr := ho.og _ (br hk)
 refine h.set hf ho hk (w := (n.cells.getD (l.getD k 0).toNat default).out) ⟨hr, fun h7 => ?_, rfl⟩ (by rw [ht]; rfl)
 have := (hf.cells (l.getD k 0).toNat om).2.2.1 h7
 omega
structure zX (n : ab) (l : List Cell) : Prop where
 len : l.length = n.aa.length
 at_ : ∀ i w, b7 n i w → l.getD w.toNat default = n.cell i
structure l5 (n : ab) (k : Nat) (l : List Cell) : Prop where
 len : l.length = n.aa.length
 at_ : ∀ i w, b7 n i w → i < k → l.getD w.toNat default = n.cell i
theorem l5.init {n : ab} {z : Cell} : l5 n 0 (List.replicate n.aa.length z) := ⟨by simp, fun i w hd h => by have := hd.1; omega⟩
theorem l5.set {n : ab} {k : Nat} {l : List Cell} (hf : aU n) (h : l5 n k l) (hk : k < n.cells.length) (h0 : (n.cells.getD k default).out ≥ 0) : l5 n (k + 1) (l.set (n.cells.getD k default).out.toNat (n.cells.getD k default)) := by
 refine ⟨by rw [List.length_set]; exact h.len, fun i w hd hi => ?_⟩
 have hw := hf.eF hd
 unfold In at hw
 have hl := h.len
 have h7 : (n.cells.getD k default).kind ≠ 7 := fun e => by have := (hf.cells k hk).2.2.1 e; omega
 have uI : b7 n (k : Int) (n.cells.getD k default).out := ⟨⟨om, om⟩, h7, rfl⟩
 have yC := hf.eF uI
 unfold In at yC
 rw [bs]
 by_cases e : (n.cells.getD k default).out = w
 ·rw [if_pos ⟨om, om⟩]
  rw [e] at uI
  have := hf.unique hd uI
  subst this; rfl
 ·rw [if_neg om]
  refine h.at_ i w hd ?_
  rcases Int.lt_or_eq_of_le (show i ≤ k by omega) with h1 | h1
  ·exact h1
  ·subst h1; exact absurd hd.2.2 e
theorem l5.skip {n : ab} {k : Nat} {l : List Cell} (hf : aU n) (h : l5 n k l) (hk : k < n.cells.length) (h0 : ¬ (n.cells.getD k default).out ≥ 0) : l5 n (k + 1) l := by
 refine ⟨h.len, fun i w hd hi => ?_⟩
 refine h.at_ i w hd ?_
 rcases Int.lt_or_eq_of_le (show i ≤ k by omega) with h1 | h1
 ·exact h1
 ·subst h1
  have hw := hf.eF hd
  unfold In at hw
  have : n.cell (k : Int) = n.cells.getD k default := rfl
  rw [← this, hd.2.2] at h0
  omega
theorem l5.done {n : ab} {k : Nat} {l : List Cell} (h : l5 n k l) (hk : k = n.cells.length) : zX n l := ⟨h.len, fun i w hd => h.at_ i w hd (by rw [hk]; exact hd.1.2)⟩
structure E8 (l m : List Int) (i j : Int) : Prop where
 len : m.length = l.length
 sum : i + j = (l.length : Int) - 1
 i0 : 0 ≤ i
 out : ∀ k : Nat, k < l.length → ((k : Int) < i ∨ j < k) → m.getD k 0 = l.getD (l.length - 1 - k) 0
 Ms : ∀ k : Nat, i ≤ k → (k : Int) ≤ j → m.getD k 0 = l.getD k 0
theorem E8.init (l : List Int) : E8 l l 0 ((l.length : Int) - 1) := ⟨rfl, om, om, fun k hk h => by omega, fun _ _ _ => rfl⟩
theorem E8.step {l m : List Int} {i j : Int} (h : E8 l m i j) (Mt : i < j) : E8 l ((m.set i.toNat (m.getD j.toNat 0)).set j.toNat (m.getD i.toNat 0)) (i + 1) (j - 1) := by
 have h1 := h.len; have h2 := h.sum; have h3 := h.i0
 refine ⟨by simp [h1], om, om, fun k hk hc => ?_, fun k ha hb => ?_⟩
 ·rw [bs, bs]
  by_cases e : j.toNat = k
  ·rw [if_pos ⟨e, by rw [List.length_set]; omega⟩, h.Ms i.toNat om om]
   congr 1; omega
  ·rw [if_neg om]
   by_cases e2 : i.toNat = k
   ·rw [if_pos ⟨e2, om⟩, h.Ms j.toNat om om]
    congr 1; omega
   ·rw [if_neg om]
    exact h.out k hk om
 ·rw [bs, bs, if_neg om, if_neg om]
  exact h.Ms k om om
theorem E8.done {l m : List Int} {i j : Int} (h : E8 l m i j) (Mt : ¬ i < j) : m = l.reverse := by
 have h1 := h.len; have h2 := h.sum
 refine List.ext_getElem (by simp [h1]) fun k hk AM => ?_
 have e : m.getD k 0 = l.getD (l.length - 1 - k) 0 := by
  by_cases e : (k : Int) < i ∨ j < k
  ·exact h.out k om e
  ·rw [h.Ms k om om]
   congr 1; omega
 rw [List.getD_eq_getElem?_getD, List.getElem?_eq_getElem hk, List.getD_eq_getElem?_getD, List.getElem?_eq_getElem om] at e
 rw [List.getElem_reverse]
 exact e
open Go Go.AW Go.Proofs
def KL (n : ab) (at_ : List Int) (y x : Int) : Prop := ∃ i, b7 n i y ∧ bJ (n.cell i).kind ∧ x ∈ (n.cell i).args ∧ at_.getD y.toNat 0 = at_.getD x.toNat 0 + eJ n (n.cell i)
def Om (n : ab) (at_ : List Int) (y : Int) : Prop := ∃ i, b7 n i y ∧ at_.getD y.toNat 0 = eJ n (n.cell i) ∧ (¬ bJ (n.cell i).kind ∨ (n.cell i).kind = 1)
structure PP (n : ab) (l at_ : List Int) (w0 : Int) (st : List Int) (last : Int) : Prop where
 rk : 0 ≤ last → ∀ i, b7 n i last → st.length + l.idxOf i + 1 ≤ n.cells.length
 len : st.length ≤ n.cells.length
 Cq : 0 ≤ last → In last n.aa.length
 xB : ∀ j, j < st.length → In (st.getD j 0) n.aa.length
 link : ∀ j, j + 1 < st.length → KL n at_ (st.getD j 0) (st.getD (j + 1) 0)
 Oo : 0 ≤ last → 0 < st.length → KL n at_ (st.getD (st.length - 1) 0) last
 end_ : last < 0 → 0 < st.length ∧ Om n at_ (st.getD (st.length - 1) 0)
 fst : (0 < st.length → st.getD 0 0 = w0) ∧ (st.length = 0 → last = w0)
def p5 (at_ l : List Int) (last : Int) : Prop := (l = [] ∧ last = -1) ∨ (last ∈ l ∧ ∀ x ∈ l, at_.getD x.toNat 0 ≤ at_.getD last.toNat 0)
theorem p5.nil {at_ l : List Int} : p5 at_ (l.take 0) (-1) := .inl ⟨by simp, rfl⟩
theorem p5.step {at_ l : List Int} {k : Nat} {last : Int} (h : p5 at_ (l.take k) last) (hk : k < l.length) (h0 : ∀ x ∈ l, 0 ≤ x) (hc : last < 0 ∨ at_.getD (l.getD k 0).toNat 0 > at_.getD last.toNat 0) : p5 at_ (l.take (k + 1)) (l.getD k 0) := by
 rw [take_one (d := (0 : Int)) hk]
 refine .inr ⟨by simp, fun x hx => ?_⟩
 rcases List.mem_append.1 hx with hx | hx
 ·rcases h with ⟨h1, _⟩ | ⟨h1, h2⟩
  ·rw [h1] at hx; cases hx
  ·have := h2 x hx
   rcases hc with hc | hc
   ·have := h0 last (List.mem_of_mem_take h1); omega
   ·omega
 ·rw [List.mem_singleton.1 hx]; exact Int.le_refl _
theorem p5.ah {at_ l : List Int} {k : Nat} {last : Int} (h : p5 at_ (l.take k) last) (hk : k < l.length) (hc : ¬ (last < 0 ∨ at_.getD (l.getD k 0).toNat 0 > at_.getD last.toNat 0)) : p5 at_ (l.take (k + 1)) last := by
 rw [take_one (d := (0 : Int)) hk]
 rcases h with ⟨h1, h2⟩ | ⟨h1, h2⟩
 ·omega
 ·refine .inr ⟨List.mem_append.2 (.inl h1), fun x hx => ?_⟩
  rcases List.mem_append.1 hx with hx | hx
  ·exact h2 x hx
  ·rw [List.mem_singleton.1 hx]; omega
theorem p5.Cq {at_ l : List Int} {k : Nat} {last : Int} (h : p5 at_ (l.take k) last) (h0 : 0 ≤ last) : last ∈ l := by
 rcases h with ⟨_, h2⟩ | ⟨h1, _⟩
 ·omega
 ·exact List.mem_of_mem_take h1
theorem l6 {st : List Int} {x : Int} {j : Nat} (h : j < st.length) : (st ++ [x]).getD j 0 = st.getD j 0 := by
 rw [List.getD_eq_getElem?_getD, List.getElem?_append_left h, List.getD_eq_getElem?_getD]
theorem q9 {st : List Int} {x : Int} : (st ++ [x]).getD st.length 0 = x := by
 rw [List.getD_eq_getElem?_getD, List.getElem?_append_right (Nat.le_refl _), Nat.sub_self]; rfl
section
variable {n : ab} {l at_ st : List Int} {w0 last : Int}
theorem PP.init (hf : aU n) (ho : Ord n l) (hw : In w0 n.aa.length) : PP n l at_ w0 [] w0 where
 rk := fun _ i hd => by
  have h1 := List.idxOf_lt_length_of_mem (ho.mem hd.1)
  have h2 := ho.len
  simp only [List.length_nil]; omega
 len := by simp
 Cq := fun _ => hw
 xB := fun j h => by simp at h
 link := fun j h => by simp at h
 Oo := fun _ h => by simp at h
 end_ := fun h => by unfold In at hw; omega
 fst := ⟨fun h => by simp at h, fun _ => rfl⟩
theorem PP.more (h : PP n l at_ w0 st last) (h0 : 0 ≤ last) : (∀ j, j < (st ++ [last]).length → In ((st ++ [last]).getD j 0) n.aa.length) ∧ (∀ j, j + 1 < (st ++ [last]).length → KL n at_ ((st ++ [last]).getD j 0) ((st ++ [last]).getD (j + 1) 0)) ∧
  (st ++ [last]).getD ((st ++ [last]).length - 1) 0 = last ∧ (st ++ [last]).getD 0 0 = w0 := by
 have hl : (st ++ [last]).length = st.length + 1 := by simp
 refine ⟨fun j hj => ?_, fun j hj => ?_, ?_, ?_⟩
 ·rcases Nat.lt_or_ge j st.length with h1 | h1
  ·rw [l6 h1]; exact h.xB j h1
  ·obtain rfl : j = st.length := by omega
   rw [q9]; exact h.Cq h0
 ·rcases Nat.lt_or_ge (j + 1) st.length with h1 | h1
  ·rw [l6 h1, l6 om]; exact h.link j h1
  ·have e : j + 1 = st.length := by omega
   rw [e, q9, l6 om, show j = st.length - 1 by omega]
   exact h.Oo h0 om
 ·rw [hl, Nat.add_sub_cancel, q9]
 ·rcases Nat.eq_zero_or_pos st.length with h1 | h1
  ·have : st = [] := List.eq_nil_of_length_eq_zero h1
   subst this
   exact h.fst.2 rfl
  ·rw [l6 h1]; exact h.fst.1 h1
theorem PP.lt (hf : aU n) (h : PP n l at_ w0 st last) (h0 : 0 ≤ last) : st.length + 1 ≤ n.cells.length := by
 obtain ⟨i, hi⟩ := hf.gT (h.Cq h0)
 have := h.rk h0 i hi
 omega
structure PD (n : ab) (at_ : List Int) (w0 : Int) (st : List Int) : Prop where
 pos : 0 < st.length
 len : st.length ≤ n.cells.length
 xB : ∀ j, j < st.length → In (st.getD j 0) n.aa.length
 link : ∀ j, j + 1 < st.length → KL n at_ (st.getD j 0) (st.getD (j + 1) 0)
 root : Om n at_ (st.getD (st.length - 1) 0)
 fst : st.getD 0 0 = w0
theorem PP.stop (hf : aU n) (ha : vk n at_) {cs : List Cell} (hc : zX n cs) (h : PP n l at_ w0 st last) (h0 : 0 ≤ last) (hk : ¬ bJ (cs.getD last.toNat default).kind) : PD n at_ w0 (st ++ [last]) := by
 obtain ⟨h1, h2, h3, h4⟩ := h.more h0
 obtain ⟨i, hi⟩ := hf.gT (h.Cq h0)
 rw [hc.at_ i last hi] at hk
 refine ⟨by simp, by simp; have := h.lt hf h0; omega, h1, h2, ?_, h4⟩
 rw [h3]
 refine ⟨i, hi, ?_, .inl hk⟩
 rw [ha.eq i last hi]
 unfold ky
 rw [if_neg hk]; omega
theorem PP.done (h : PP n l at_ w0 st last) (h0 : last < 0) : PD n at_ w0 st :=
 ⟨(h.end_ h0).1, h.len, h.xB, h.link, (h.end_ h0).2, h.fst.1 (h.end_ h0).1⟩
theorem PP.go (hf : aU n) (ho : Ord n l) (ha : vk n at_) (Sc : ∀ w, In w n.aa.length → 0 ≤ at_.getD w.toNat 0) {cs : List Cell} (hc : zX n cs) (h : PP n l at_ w0 st last) (h0 : 0 ≤ last) (hk : bJ (cs.getD last.toNat default).kind) {k : Nat} {nl : Int} (DI : k = (cs.getD last.toNat default).args.length)
  (hb : p5 at_ ((cs.getD last.toNat default).args.take k) nl) : PP n l at_ w0 (st ++ [last]) nl := by
 obtain ⟨h1, h2, h3, h4⟩ := h.more h0
 obtain ⟨i, hi⟩ := hf.gT (h.Cq h0)
 rw [hc.at_ i last hi] at hk DI hb
 rw [DI, List.take_length] at hb
 have iU := h.rk h0 i hi
 have hl : (st ++ [last]).length = st.length + 1 := by simp
 have oU : at_.getD last.toNat 0 = gG at_ (n.cell i).args + eJ n (n.cell i) := by
  rw [ha.eq i last hi]; unfold ky; rw [if_pos hk]
 have r3 : 0 ≤ nl → nl ∈ (n.cell i).args := fun h5 => by
  rcases hb with ⟨_, h6⟩ | ⟨h6, _⟩
  ·omega
  ·exact h6
 exact {
  rk := fun h5 j hj => by
   obtain ⟨j', pa, Sd⟩ := ho.lt hi.1 hk (r3 h5)
   rw [hf.unique hj pa, hl]; omega
  len := by rw [hl]; omega
  Cq := fun h5 => hf.ia hi.1 (r3 h5)
  xB := h1
  link := h2
  Oo := fun h5 _ => by
   rw [h3]
   refine ⟨i, hi, hk, r3 h5, ?_⟩
   rw [oU]
   rcases hb with ⟨_, h6⟩ | ⟨h6, h7⟩
   ·omega
   ·have h8 := Ex (at_ := at_) h6
    have h9 := (jT (at_ := at_) (l := (n.cell i).args) (B := at_.getD nl.toNat 0) (Sc nl (hf.ia hi.1 h6)) h7).2
    omega
  end_ := fun h5 => by
   refine ⟨by rw [hl]; omega, ?_⟩
   rw [h3]
   rcases hb with ⟨h6, _⟩ | ⟨h6, _⟩
   ·refine ⟨i, hi, ?_, .inr ?_⟩
    ·rw [oU, h6]; simp [gG]
    ·have j9 := (hf.cellAt hi.1).2.1
     have hlen : (n.cell i).args.length = 0 := by rw [h6]; rfl
     unfold Shaped at j9
     unfold bJ at hk
     rcases j9 with hx | ⟨hx, hy, hz, _⟩ | hx | hx | hx | hx | hx | hx | hx | hx
     ·exact hx.1
     ·rw [hlen] at hz; exact absurd hz.symm hy
     all_goals omega
   ·have := (hf.ia hi.1 h6).1; omega
  fst := ⟨fun _ => h4, fun h5 => by rw [hl] at h5; omega⟩ }
end
open Go Go.AW Go.Proofs
structure ua (n : ab) (at_ st : List Int) (d : Int) : Prop where
 pos : 0 < st.length
 len : st.length ≤ n.cells.length
 xB : ∀ j, j < st.length → In (st.getD j 0) n.aa.length
 link : ∀ j, j + 1 < st.length → KL n at_ (st.getD (j + 1) 0) (st.getD j 0)
 root : Om n at_ (st.getD 0 0)
 end_ : ∃ a, (st.getD (st.length - 1) 0, a) ∈ fL n ∧ d = at_.getD (st.getD (st.length - 1) 0).toNat 0 + a
 max : ∀ e ∈ fL n, at_.getD e.1.toNat 0 + e.2 ≤ d
theorem l7 {l : List Int} {j : Nat} (h : j < l.length) : l.reverse.getD j 0 = l.getD (l.length - 1 - j) 0 := by
 rw [List.getD_eq_getElem?_getD, List.getElem?_eq_getElem (by simpa using h), List.getD_eq_getElem?_getD, List.getElem?_eq_getElem om]
 simp
section
variable {n : ab} {l at_ st : List Int} {w0 last d a : Int} {cs : List Cell}
theorem PD.rev (h : PD n at_ w0 st) (he : (w0, a) ∈ fL n) (hd : d = at_.getD w0.toNat 0 + a) (hm : ∀ e ∈ fL n, at_.getD e.1.toNat 0 + e.2 ≤ d) : ua n at_ st.reverse d := by
 have hp := h.pos
 have hl : st.reverse.length = st.length := by simp
 refine ⟨om, by rw [hl]; exact h.len, fun j hj => ?_, fun j hj => ?_, ?_, ⟨a, ?_, ?_⟩, hm⟩
 ·rw [l7 om]; exact h.xB _ om
 ·rw [l7 om, l7 om]
  have := h.link (st.length - 1 - (j + 1)) om
  rw [show st.length - 1 - (j + 1) + 1 = st.length - 1 - j by omega] at this
  exact this
 ·rw [l7 om, Nat.sub_zero]; exact h.root
 ·rw [hl, l7 om, show st.length - 1 - (st.length - 1) = 0 by omega, h.fst]; exact he
 ·rw [hl, l7 om, show st.length - 1 - (st.length - 1) = 0 by omega, h.fst]; exact hd
theorem PP.args (hf : aU n) (hc : zX n cs) (h : PP n l at_ w0 st last) (h0 : 0 ≤ last) : ∀ x ∈ (cs.getD last.toNat default).args, In x n.aa.length := by
 obtain ⟨i, hi⟩ := hf.gT (h.Cq h0)
 rw [hc.at_ i last hi]
 exact fun x hx => hf.ia hi.1 hx
theorem PP.Oq (hM : VT n) (hc : zX n cs) (h : PP n l at_ w0 st last) (h0 : 0 ≤ last) : (cs.getD last.toNat default).args.length ≤ 200 := by
 obtain ⟨i, hi⟩ := hM.formed.gT (h.Cq h0)
 have h1 := hi.1
 rw [hc.at_ i last hi]
 exact hM.ic _ (getD_in om)
end
open Go Go.AW Go.Proofs
structure s6 (x : Int) (k p : Nat) : Prop where
 p : p = 2 ^ k
 lt : k = 0 ∨ 2 ^ (k - 1) < x.toNat
theorem s6.init {x : Int} : s6 x 0 1 := ⟨rfl, .inl rfl⟩
theorem s6.step {x : Int} {k p : Nat} (h : s6 x k p) (hx : (p : Int) < x) : s6 x (k + 1) (2 * p) := by
 have h1 := h.p
 refine ⟨by rw [Nat.pow_succ, h1]; omega, .inr ?_⟩
 rw [Nat.add_sub_cancel]; omega
theorem s6.le {x : Int} {k p : Nat} (h : s6 x k p) (hx : x ≤ 256) : k ≤ 8 ∧ 1 ≤ p ∧ p ≤ 256 := by
 have hk : k ≤ 8 := by
  rcases h.lt with h1 | h1
  ·omega
  ·rcases Nat.lt_or_ge k 9 with h2 | h2
   ·omega
   ·have : 2 ^ 8 ≤ 2 ^ (k - 1) := Nat.pow_le_pow_right om om
    omega
 have h1 : 2 ^ k ≤ 2 ^ 8 := Nat.pow_le_pow_right om hk
 have h2 : 1 ≤ 2 ^ k := Nat.one_le_two_pow
 have h3 := h.p
 refine ⟨hk, om, om⟩
theorem s6.done {x : Int} {k p : Nat} (h : s6 x k p) (h0 : 0 ≤ x) (hx : ¬ (p : Int) < x) : k = fe x.toNat := by
 have h1 := h.p
 refine (Hx om ?_).symm
 exact h.lt
def nA : ab := ⟨ByteArray.empty, [1, 1], [⟨4, 0, 0, [1, 0], 0, 0⟩, ⟨1, 0, 1, [], 0, 0⟩], [], [], [], [], [], 1, 0, []⟩
theorem ub : aU nA where
 name := ⟨fun i h => by have h : i < 0 := h; omega, ae⟩
 bR := by decide
 b8 := by decide
 fk := by decide
 bt := by decide
 cb := rfl
 dR := rfl
 wide := fun j hj => by
  have hj : j < 2 := hj
  rcases j with _ | _ | j
  ·decide
  ·decide
  ·omega
 a7 := fun j hj => by cases hj
 strs := fun j hj => by cases hj
 freeze := by decide
 done := by decide
 bE := fun r hr => by cases hr
 cells := fun j hj => by
  have hj : j < 2 := hj
  rcases j with _ | _ | j
  ·refine ⟨fun x hx => ?_, ?_, fun h => ?_, fun _ => ?_⟩
   ·have hx : x ∈ ([1, 0] : List Int) := hx
    simp at hx
    rcases hx with rfl | rfl <;> decide
   ·exact .inr (.inr (.inr (.inl ⟨rfl, rfl, rfl, rfl⟩)))
   ·exact absurd h ae
   ·show In 0 2; decide
  ·refine ⟨fun x hx => ?_, ?_, fun h => ?_, fun _ => ?_⟩
   ·cases hx
   ·exact .inl ⟨rfl, rfl, rfl, rfl⟩
   ·exact absurd h ae
   ·show In 1 2; decide
  ·omega
 iD := fun w hw => by
  have hw : w < 2 := hw
  rcases w with _ | _ | w
  ·decide
  ·decide
  ·omega
theorem Hz : Fit nA where
 freeze := rfl
 done := rfl
 strs := fun j hj => by cases hj
 cells := fun j hj => by
  have hj : j < 2 := hj
  rcases j with _ | _ | j
  ·exact .inr (.inr (.inr (.inl ⟨rfl, rfl, rfl, rfl⟩)))
  ·exact .inl ⟨rfl, rfl⟩
  ·omega
theorem xC : Acyclic nA := ⟨fun _ => 0, fun i j hi _ h => by
 exfalso
 obtain ⟨⟨h1, h2⟩, h3⟩ := hi
 have h2 : i < 2 := h2
 have : i = 0 ∨ i = 1 := by omega
 rcases this with rfl | rfl
 ·exact absurd h3 ae
 ·cases h⟩
theorem KM : VT nA where
 formed := ub
 fit := Hz
 acyclic := xC
 small := {
  name := by decide
  aa := by decide
  cells := by decide
  args := fun c hc => by
   have hc : c ∈ ([⟨4, 0, 0, [1, 0], 0, 0⟩, ⟨1, 0, 1, [], 0, 0⟩] : List Cell) := hc
   simp at hc
   rcases hc with rfl | rfl <;> simp
  BB := by decide
  xj := fun c hc => by
   have hc : c ∈ ([⟨4, 0, 0, [1, 0], 0, 0⟩, ⟨1, 0, 1, [], 0, 0⟩] : List Cell) := hc
   simp at hc
   rcases hc with rfl | rfl <;> simp
  kq := fun m hm => by cases hm
  kr := fun m hm => by cases hm
  ins := by decide
  a7 := by decide
  streams := by decide
  aR := by decide
  data := by decide
  bE := by decide }
 bR := by decide
 b8 := by decide
 ic := fun c hc => by
  have hc : c ∈ ([⟨4, 0, 0, [1, 0], 0, 0⟩, ⟨1, 0, 1, [], 0, 0⟩] : List Cell) := hc
  simp at hc
  rcases hc with rfl | rfl <;> simp
 iS := by decide
 bt := by decide
 pY := by decide
theorem Cr : fL nA = [(1, 100), (0, 60), (1, 100), (0, 0)] := by decide
theorem E9 {at_ st : List Int} {d : Int} (ha : vk nA at_) (h : ua nA at_ st d) : d = 100 ∧ st.length = 1 := by
 have d0 : b7 nA 0 0 := ⟨⟨ae, ae⟩, ae, rfl⟩
 have d1 : b7 nA 1 1 := ⟨⟨ae, ae⟩, ae, rfl⟩
 have a0 : at_.getD 0 0 = 30 := (ha.eq 0 0 d0).trans (by
  have : ky nA at_ (nA.cell 0) = 0 + 30 := rfl
  rw [this]; rfl)
 have a1 : at_.getD 1 0 = 0 := (ha.eq 1 1 d1).trans (by
  have : ky nA at_ (nA.cell 1) = gG at_ [] + 0 := rfl
  rw [this]; rfl)
 have hm := h.max (1, 100) (by rw [Cr]; simp)
 obtain ⟨a, he, hd⟩ := h.end_
 rw [Cr] at he
 have hm : at_.getD 1 0 + 100 ≤ d := hm
 simp only [List.mem_cons, List.not_mem_nil, or_false, Prod.mk.injEq] at he
 have key : st.getD (st.length - 1) 0 = 1 ∧ d = 100 := by
  rcases he with ⟨h1, h2⟩ | ⟨h1, h2⟩ | ⟨h1, h2⟩ | ⟨h1, h2⟩ <;> rw [h1] at hd
  ·have hd : d = at_.getD 1 0 + a := hd
   exact ⟨h1, om⟩
  ·have hd : d = at_.getD 0 0 + a := hd
   omega
  ·have hd : d = at_.getD 1 0 + a := hd
   exact ⟨h1, om⟩
  ·have hd : d = at_.getD 0 0 + a := hd
   omega
 refine ⟨key.2, Classical.byContradiction fun ew => ?_⟩
 have hp := h.pos
 obtain ⟨i, hi, _, hx, _⟩ := h.link (st.length - 2) om
 rw [show st.length - 2 + 1 = st.length - 1 by omega, key.1] at hi
 rw [ub.unique hi d1] at hx
 cases hx
open Go Go.AW Go.Proofs
section
variable {n : ab} {x : Int}
end
open Go Go.AW Go.Proofs
def kn (known : List Bool) (w : Int) : Bool := known.getD w.toNat false
structure RA (n : ab) (out : List Int) (known : List Bool) : Prop where
 ol : out.length = n.aa.length
 kl : known.length = n.aa.length
 fin : ∀ i w, b7 n i w → kn known w = true → out.getD w.toNat 0 = ky n out (n.cell i) ∧ (bJ (n.cell i).kind → ∀ x ∈ (n.cell i).args, kn known x = true)
structure RS (n : ab) (k : Nat) (out : List Int) (known : List Bool) : Prop where
 ra : RA n out known
 iff : ∀ i w, b7 n i w → (kn known w = true ↔ i < k ∧ ¬ bJ (n.cell i).kind)
section
variable {n : ab} {out : List Int} {known : List Bool} {k : Nat}
theorem Cs {b : Bool} {o w : Int} (ho : 0 ≤ o) (hw : 0 ≤ w) (hl : o.toNat < known.length) : kn (known.set o.toNat b) w = if o = w then b else kn known w := by
 unfold kn
 rw [bs]
 by_cases e : o = w
 ·rw [if_pos e, if_pos ⟨om, hl⟩]
 ·rw [if_neg e, if_neg om]
theorem uQ {v o w : Int} (ho : 0 ≤ o) (hw : 0 ≤ w) (hl : o.toNat < out.length) : (out.set o.toNat v).getD w.toNat 0 = if o = w then v else out.getD w.toNat 0 := by
 rw [bs]
 by_cases e : o = w
 ·rw [if_pos e, if_pos ⟨om, hl⟩]
 ·rw [if_neg e, if_neg om]
theorem RS.init : RS n 0 (List.replicate n.aa.length 0) (List.replicate n.aa.length false) where
 ra := ⟨by simp, by simp, fun i w _ h => by unfold kn at h; rw [lz] at h; cases h⟩
 iff := fun i w hd => by
  unfold kn
  rw [lz]
  have := hd.1
  constructor
  ·intro h; cases h
  ·intro h; omega
theorem RS.set (hf : aU n) (h : RS n k out known) (hk : k < n.cells.length) (h0 : (n.cells.getD k default).out ≥ 0) (hc : ¬ bJ (n.cells.getD k default).kind) :
  RS n (k + 1) (out.set (n.cells.getD k default).out.toNat (eJ n (n.cells.getD k default))) (known.set (n.cells.getD k default).out.toNat true) := by
 have h7 : (n.cells.getD k default).kind ≠ 7 := fun e => by have := (hf.cells k hk).2.2.1 e; omega
 have uI : b7 n (k : Int) (n.cells.getD k default).out := ⟨⟨om, om⟩, h7, rfl⟩
 have yC := hf.eF uI
 unfold In at yC
 have h1 := h.ra.ol; have h2 := h.ra.kl
 have H9 : ∀ i w, b7 n i w → (kn (known.set (n.cells.getD k default).out.toNat true) w = true ↔ i < (k + 1 : Nat) ∧ ¬ bJ (n.cell i).kind) := fun i w hd => by
  have hw := hf.eF hd
  unfold In at hw
  rw [Cs yC.1 hw.1 om]
  by_cases e : (n.cells.getD k default).out = w
  ·rw [if_pos e]
   rw [e] at uI
   have := hf.unique hd uI
   subst this
   exact ⟨fun _ => ⟨om, hc⟩, fun _ => rfl⟩
  ·rw [if_neg e, h.iff i w hd]
   have ew : i ≠ k := fun e2 => by subst e2; exact e hd.2.2
   constructor
   ·exact fun h => ⟨om, h.2⟩
   ·exact fun h => ⟨om, h.2⟩
 refine ⟨⟨by rw [List.length_set]; exact h1, by rw [List.length_set]; exact h2, fun i w hd ID => ?_⟩, H9⟩
 have Ct := ((H9 i w hd).1 ID).2
 refine ⟨?_, fun hc => absurd hc Ct⟩
 have hw := hf.eF hd
 unfold In at hw
 have oU : ∀ o : List Int, ky n o (n.cell i) = 0 + eJ n (n.cell i) := fun o => by unfold ky; rw [if_neg Ct]
 rw [uQ yC.1 hw.1 om, oU]
 by_cases e : (n.cells.getD k default).out = w
 ·rw [if_pos e]
  rw [e] at uI
  have := hf.unique hd uI
  subst this
  show eJ n (n.cell k) = _
  omega
 ·rw [if_neg e]
  have ew : i ≠ k := fun e2 => by subst e2; exact e hd.2.2
  have h3 := (h.ra.fin i w hd ((h.iff i w hd).2 ⟨by have := ((H9 i w hd).1 ID).1; omega, Ct⟩)).1
  rw [h3, oU]
theorem RS.skip (hf : aU n) (h : RS n k out known) (hk : k < n.cells.length) (hc : ¬ ((n.cells.getD k default).out ≥ 0 ∧ ¬ bJ (n.cells.getD k default).kind)) : RS n (k + 1) out known := by
 refine ⟨h.ra, fun i w hd => ?_⟩
 rw [h.iff i w hd]
 have hw := hf.eF hd
 unfold In at hw
 constructor
 ·exact fun h => ⟨om, h.2⟩
 ·rintro ⟨h1, h2⟩
  refine ⟨?_, h2⟩
  rcases Int.lt_or_eq_of_le (show i ≤ k by omega) with h3 | h3
  ·exact h3
  ·subst h3
   refine absurd ⟨?_, h2⟩ hc
   have : (n.cells.getD k default).out = w := hd.2.2
   omega
structure RR (n : ab) (oH : List Bool) (i : Nat) (more : Bool) (out : List Int) (known : List Bool) : Prop where
 ra : RA n out known
 src : ∀ i w, b7 n i w → ¬ bJ (n.cell i).kind → kn known w = true
 pr : more = false → ∀ j w, b7 n j w → j < i → bJ (n.cell j).kind → kn known w = false → ∃ x ∈ (n.cell j).args, kn known x = false
 Eg : gf known + (if more then 1 else 0) ≤ gf oH
theorem RR.init (ha : RA n out known) (hs : ∀ i w, b7 n i w → ¬ bJ (n.cell i).kind → kn known w = true) : RR n known 0 false out known :=
 ⟨ha, hs, fun _ j w hd h => by have := hd.1; omega, by simp⟩
variable {oH : List Bool} {more : Bool}
theorem RR.pass (hf : aU n) (h : RR n oH k more out known) (hk : k < n.cells.length) (hc : ¬ bJ (n.cells.getD k default).kind ∨ kn known (n.cells.getD k default).out = true ∨ ∃ x ∈ (n.cells.getD k default).args, kn known x = false) : RR n oH (k + 1) more out known := by
 refine ⟨h.ra, h.src, fun hm j w hd hj gn hu => ?_, h.Eg⟩
 rcases Int.lt_or_eq_of_le (show j ≤ k by omega) with h3 | h3
 ·exact h.pr hm j w hd h3 gn hu
 ·subst h3
  rcases hc with h4 | h4 | h4
  ·exact absurd gn h4
  ·have : (n.cells.getD k default).out = w := hd.2.2
   rw [this, hu] at h4; cases h4
  ·exact h4
theorem RR.mark (hf : aU n) (h : RR n oH k more out known) (hk : k < n.cells.length) (hc : bJ (n.cells.getD k default).kind) (hu : kn known (n.cells.getD k default).out = false) (ha : ∀ x ∈ (n.cells.getD k default).args, kn known x = true) {t : Int} (ht : t = gG out (n.cells.getD k default).args) :
  RR n oH (k + 1) true (out.set (n.cells.getD k default).out.toNat (t + eJ n (n.cells.getD k default))) (known.set (n.cells.getD k default).out.toNat true) := by
 have h7 : (n.cells.getD k default).kind ≠ 7 := fun e => by rw [e] at hc; revert hc; unfold bJ; omega
 have uI : b7 n (k : Int) (n.cells.getD k default).out := ⟨⟨om, om⟩, h7, rfl⟩
 have yC := hf.eF uI
 unfold In at yC
 have h1 := h.ra.ol; have h2 := h.ra.kl
 have KN : ∀ w : Int, 0 ≤ w → kn (known.set (n.cells.getD k default).out.toNat true) w = if (n.cells.getD k default).out = w then true else kn known w := fun w hw => Cs yC.1 hw om
 have ah : ∀ w : Int, 0 ≤ w → kn known w = true → kn (known.set (n.cells.getD k default).out.toNat true) w = true := fun w hw Ot => by
  rw [KN w hw]; split <;> simp_all
 have oset : ∀ w : Int, 0 ≤ w → kn known w = true → (out.set (n.cells.getD k default).out.toNat (t + eJ n (n.cells.getD k default))).getD w.toNat 0 = out.getD w.toNat 0 := fun w hw Ot => by
  rw [uQ yC.1 hw om, if_neg]
  intro e; rw [← e, hu] at Ot; cases Ot
 have arr : ∀ j w, b7 n j w → (bJ (n.cell j).kind → ∀ x ∈ (n.cell j).args, kn known x = true) → ky n (out.set (n.cells.getD k default).out.toNat (t + eJ n (n.cells.getD k default))) (n.cell j) = ky n out (n.cell j) := fun j w hd dO => by
  unfold ky
  by_cases gn : bJ (n.cell j).kind
  ·rw [if_pos gn, if_pos gn, ma (fun x hx => oset x (hf.ia hd.1 hx).1 (dO gn x hx))]
  ·rw [if_neg gn, if_neg gn]
 refine ⟨⟨by rw [List.length_set]; exact h1, by rw [List.length_set]; exact h2, fun j w hd ID => ?_⟩, fun j w hd gn => ah w (hf.eF hd).1 (h.src j w hd gn), (fun hm => by cases hm), ?_⟩
 ·have hw := hf.eF hd
  unfold In at hw
  by_cases e : (n.cells.getD k default).out = w
  ·rw [e] at uI
   have := hf.unique hd uI
   subst this
   refine ⟨?_, fun _ x hx => ah x (hf.ia hd.1 hx).1 (ha x hx)⟩
   rw [arr _ _ hd (fun _ => ha), uQ yC.1 hw.1 om, if_pos e]
   unfold ky
   have e3 : n.cell (k : Int) = n.cells.getD k default := rfl
   rw [e3, if_pos hc, ht]
  ·rw [KN w hw.1, if_neg e] at ID
   obtain ⟨h3, h4⟩ := h.ra.fin j w hd ID
   exact ⟨by rw [oset w hw.1 ID, h3, arr j w hd h4], fun gn x hx => ah x (hf.ia hd.1 hx).1 (h4 gn x hx)⟩
 ·have h5 := kx (l := known) (i := (n.cells.getD k default).out.toNat) om hu
  have h6 := h.Eg
  simp only [if_true]
  split at h6 <;> omega
theorem RR.done (hf : aU n) (FV : Acyclic n) (h : RR n oH k false out known) (hk : k = n.cells.length) : vk n out := by
 obtain ⟨r, hr⟩ := FV
 have all : ∀ m : Nat, ∀ j w, b7 n j w → r j ≤ m → kn known w = true := by
  intro m
  induction m with
  | zero =>
   intro j w hd hm
   refine Classical.byContradiction fun hn => ?_
   have hn : kn known w = false := by simpa using hn
   by_cases gn : bJ (n.cell j).kind
   ·obtain ⟨x, hx, HA⟩ := h.pr rfl j w hd (by rw [hk]; exact hd.1.2) gn hn
    obtain ⟨j', pa⟩ := hf.gT (hf.ia hd.1 hx)
    by_cases Cu : bJ (n.cell j').kind
    ·have := hr j j' ⟨hd.1, gn⟩ ⟨pa.1, Cu⟩ (by rw [pa.2.2]; exact hx)
     omega
    ·rw [h.src j' x pa Cu] at HA; cases HA
   ·rw [h.src j w hd gn] at hn; cases hn
  | succ m ih =>
   intro j w hd hm
   refine Classical.byContradiction fun hn => ?_
   have hn : kn known w = false := by simpa using hn
   by_cases gn : bJ (n.cell j).kind
   ·obtain ⟨x, hx, HA⟩ := h.pr rfl j w hd (by rw [hk]; exact hd.1.2) gn hn
    obtain ⟨j', pa⟩ := hf.gT (hf.ia hd.1 hx)
    by_cases Cu : bJ (n.cell j').kind
    ·have := hr j j' ⟨hd.1, gn⟩ ⟨pa.1, Cu⟩ (by rw [pa.2.2]; exact hx)
     rw [ih j' x pa om] at HA; cases HA
    ·rw [h.src j' x pa Cu] at HA; cases HA
   ·rw [h.src j w hd gn] at hn; cases hn
 exact ⟨h.ra.ol, fun i w hd => (h.ra.fin i w hd (all _ i w hd (Nat.le_refl _))).1⟩
def FW (known : List Bool) (l : List Int) : Bool := l.all (fun x => kn known x)
theorem Cv {l : List Int} {m : Nat} (hm : m < l.length) : FW known (l.take (m + 1)) = (FW known (l.take m) && kn known (l.getD m 0)) := by
 unfold FW; rw [take_one (d := (0 : Int)) hm, List.all_append]; simp
theorem EA {l : List Int} (h : FW known l = true) : ∀ x ∈ l, kn known x = true := fun x hx => List.all_eq_true.1 h x hx
theorem HB {l : List Int} (h : FW known l = false) : ∃ x ∈ l, kn known x = false := by
 unfold FW at h
 obtain ⟨x, hx, h2⟩ := List.all_eq_false.1 h
 exact ⟨x, hx, by simpa using h2⟩
end
open Go Go.AW Go.Proofs
structure RB (n : ab) (out : List Int) (known : List Bool) : Prop where
 bd : ∀ j, 0 ≤ out.getD j 0 ∧ out.getD j 0 + 400 * (gf known : Int) ≤ 400 * (n.aa.length : Int)
section
variable {n : ab} {out : List Int} {known : List Bool}
theorem RB.init : RB n (List.replicate n.aa.length 0) (List.replicate n.aa.length false) := ⟨fun j => by
 have := nR (List.replicate n.aa.length false)
 simp only [List.length_replicate] at this
 have h0 : (List.replicate n.aa.length (0 : Int)).getD j 0 = 0 := by
  rw [List.getD_eq_getElem?_getD, List.getElem?_replicate]; split <;> rfl
 rw [h0]; omega⟩
theorem RB.set {i : Nat} {v : Int} (h : RB n out known) (hi : i < known.length) (hu : known.getD i false = false) (hv : 0 ≤ v) (Mj : v + 400 * (gf known : Int) ≤ 400 * (n.aa.length : Int) + 400) : RB n (out.set i v) (known.set i true) := ⟨fun j => by
 have h1 := kx hi hu
 have h2 := h.bd j
 rw [bs]
 split <;> omega⟩
theorem RB.gG (h : RB n out known) (hk : known.length = n.aa.length) (l : List Int) : 0 ≤ gG out l ∧ gG out l + 400 * (gf known : Int) ≤ 400 * (n.aa.length : Int) := by
 have h1 := nR known
 have := jT (at_ := out) (l := l) (B := 400 * (n.aa.length : Int) - 400 * (gf known : Int)) om (fun w _ => by have := h.bd w.toNat; omega)
 omega
theorem RB.src {k : Nat} (hM : VT n) (hB : RB n out known) (h : RS n k out known) (hk : k < n.cells.length) (h0 : (n.cells.getD k default).out ≥ 0) :
  RB n (out.set (n.cells.getD k default).out.toNat (eJ n (n.cells.getD k default))) (known.set (n.cells.getD k default).out.toNat true) := by
 have h7 : (n.cells.getD k default).kind ≠ 7 := fun e => by have := (hM.formed.cells k hk).2.2.1 e; omega
 have uI : b7 n (k : Int) (n.cells.getD k default).out := ⟨⟨om, om⟩, h7, rfl⟩
 have yC := hM.formed.eF uI
 unfold In at yC
 have h1 := h.ra.kl
 have h2 := hM.eJ hk
 have h3 := nR known
 refine hB.set om ?_ h2.1 om
 refine Classical.byContradiction fun hn => ?_
 have hn : kn known (n.cells.getD k default).out = true := by simpa [kn] using hn
 have := ((h.iff _ _ uI).1 hn).1
 omega
end
def KO (out : List Int) (w a : Int) : List Int := if w ≥ 0 then out.set w.toNat (max (out.getD w.toNat 0) a) else out
structure EK (n : ab) (L : List (Int × Int)) (out : List Int) : Prop where
 len : out.length = n.aa.length
 snd : ∀ w, In w n.aa.length → out.getD w.toNat 0 = -1 ∨ (w, out.getD w.toNat 0) ∈ L
 cmp : ∀ e ∈ L, 0 ≤ e.1 → e.2 ≤ out.getD e.1.toNat 0
 lo : ∀ w, In w n.aa.length → -1 ≤ out.getD w.toNat 0 ∧ out.getD w.toNat 0 ≤ 100
structure EI (n : ab) (k : Nat) (out : List Int) : Prop where
 len : out.length = n.aa.length
 at_ : ∀ j, j < k → out.getD j 0 = -1
theorem EI.init {n : ab} : EI n 0 (List.replicate n.aa.length 0) := ⟨by simp, fun j h => by omega⟩
theorem EI.step {n : ab} {k : Nat} {out : List Int} (h : EI n k out) (hk : k < n.aa.length) : EI n (k + 1) (out.set k (-1)) := by
 have := h.len
 refine ⟨by simp [this], fun j hj => ?_⟩
 rw [bs]
 by_cases e : k = j
 ·rw [if_pos ⟨e, om⟩]
 ·rw [if_neg om]; exact h.at_ j om
theorem EI.done {n : ab} {k : Nat} {out : List Int} (h : EI n k out) (hk : k = n.aa.length) : EK n [] out :=
 have h1 : ∀ w, In w n.aa.length → out.getD w.toNat 0 = -1 := fun w hw => by unfold In at hw; exact h.at_ _ om
 ⟨h.len, fun w hw => .inl (h1 w hw), (fun e he => by cases he), fun w hw => by rw [h1 w hw]; omega⟩
theorem EK.step {n : ab} {L : List (Int × Int)} {out : List Int} {w a : Int} (h : EK n L out) (hw : w < 0 ∨ In w n.aa.length) (ha : 0 ≤ a ∧ a ≤ 100) : EK n (L ++ [(w, a)]) (KO out w a) := by
 unfold KO
 by_cases h0 : w ≥ 0
 ·have hw : In w n.aa.length := by rcases hw with h | h; exact absurd h0 om; exact h
  have Dj := h.lo w hw
  rw [if_pos h0]
  unfold In at hw
  have hl := h.len
  have key : ∀ j, (out.set w.toNat (max (out.getD w.toNat 0) a)).getD j 0 = if w.toNat = j then max (out.getD w.toNat 0) a else out.getD j 0 := fun j => by
   rw [bs]
   by_cases e : w.toNat = j
   ·rw [if_pos ⟨e, om⟩, if_pos e]
   ·rw [if_neg om, if_neg e]
  refine ⟨by rw [List.length_set]; exact hl, fun v hv => ?_, fun e he h1 => ?_, fun v hv => ?_⟩
  ·have Jv := hv
   unfold In at Jv
   rw [key]
   split
   ·obtain rfl : w = v := by omega
    refine .inr (List.mem_append.2 ?_)
    rcases Int.le_total (out.getD w.toNat 0) a with h2 | h2
    ·rw [Int.max_eq_right h2]; exact .inr (List.mem_singleton.2 rfl)
    ·rw [Int.max_eq_left h2]
     rcases h.snd w hv with h3 | h3
     ·omega
     ·exact .inl h3
   ·rcases h.snd v hv with h3 | h3
    ·exact .inl h3
    ·exact .inr (List.mem_append.2 (.inl h3))
  ·rw [key]
   rcases List.mem_append.1 he with h2 | h2
   ·have := h.cmp e h2 h1
    split
    ·rename_i h3; rw [← h3] at this; omega
    ·exact this
   ·rw [List.mem_singleton.1 h2]
    rw [if_pos rfl]
    exact Int.le_max_right ..
  ·rw [key]
   have := h.lo v hv
   split <;> omega
 ·rw [if_neg h0]
  refine ⟨h.len, fun v hv => (h.snd v hv).imp id (fun h => List.mem_append.2 (.inl h)), fun e he h1 => ?_, h.lo⟩
  rcases List.mem_append.1 he with h2 | h2
  ·exact h.cmp e h2 h1
  ·rw [List.mem_singleton.1 h2] at h1; exact absurd h1 h0
theorem EK.cast {n : ab} {L M : List (Int × Int)} {out : List Int} (h : EK n L out) (e : L = M) : EK n M out := e ▸ h
def s7 (n : ab) (c : Cell) : List (Int × Int) := if c.kind = 4 then [(c.args.getD 0 0, 100), (c.args.getD 1 0, 60), (n.freeze, 100)] else if Port c.kind then c.args.map (fun w => (w, 20)) ++ [(n.freeze, 20)] else []
def KP (n : ab) (k : Nat) : List (Int × Int) := [(n.done, 0)] ++ (n.bE.take k).map (fun w => (w, 0))
def KQ (n : ab) (k : Nat) : List (Int × Int) := KP n n.bE.length ++ (List.range k).flatMap (fun i => [(n.aR.getD i 0, 0), (n.data.getD i 0, 0)])
def Cw (n : ab) (k : Nat) : List (Int × Int) := KQ n n.aR.length ++ (n.cells.take k).flatMap (s7 n)
section
variable {n : ab} {k : Nat}
theorem yH {e : Int × Int} : e ∈ Cw n n.cells.length ↔ (e = (n.done, 0) ∨ (∃ w ∈ n.bE, (w, 0) = e)) ∨ (∃ i, i < n.aR.length ∧ (e = (n.aR.getD i 0, 0) ∨ e = (n.data.getD i 0, 0))) ∨ ∃ c ∈ n.cells, e ∈ s7 n c := by
 unfold Cw KQ KP
 simp only [List.take_length, List.mem_append, List.mem_map, List.mem_flatMap, List.mem_range, List.mem_cons, List.not_mem_nil, or_false]
 constructor
 ·rintro ((h | h) | h)
  ·exact .inl h
  ·exact .inr (.inl h)
  ·exact .inr (.inr h)
 ·rintro (h | h | h)
  ·exact .inl (.inl h)
  ·exact .inl (.inr h)
  ·exact .inr h
theorem yI {e : Int × Int} : e ∈ fL n ↔ ((∃ c ∈ n.cells, e ∈ sw c) ∨ (e = (n.freeze, 100) ∧ ∃ c ∈ n.cells, c.kind = 4)) ∨ ((∃ c ∈ n.cells, e ∈ oh c) ∨ (e = (n.freeze, 20) ∧ ∃ c ∈ n.cells, Port c.kind)) ∨ (e.2 = 0 ∧ 0 ≤ e.1 ∧ e.1 ∈ rest n) := by
 have rC : ∀ (b : Bool) (v : Int), e ∈ l4 n b v ↔ e = (n.freeze, v) ∧ b = true := fun b v => by unfold l4; cases b <;> simp
 unfold fL sx
 simp only [List.mem_append, rC]
 unfold q6 jN jF fS tl
 simp only [List.take_length, List.mem_flatMap, List.any_eq_true, decide_eq_true_eq, List.mem_map, List.mem_filter]
 constructor
 ·rintro (h | (h | h) | ⟨w, h, rfl⟩)
  ·exact .inl h
  ·exact .inr (.inl (.inl h))
  ·exact .inr (.inl (.inr h))
  ·exact .inr (.inr ⟨rfl, h.2, h.1⟩)
 ·rintro (h | (h | h) | ⟨h1, h2, h3⟩)
  ·exact .inl h
  ·exact .inr (.inl (.inl h))
  ·exact .inr (.inl (.inr h))
  ·exact .inr (.inr ⟨e.1, ⟨h3, h2⟩, by rw [← h1]⟩)
theorem EB (hl : n.aR.length = n.data.length) {e : Int × Int} (h : e ∈ Cw n n.cells.length) (h0 : 0 ≤ e.1) : e ∈ fL n := by
 rw [yI]
 rcases yH.1 h with (rfl | ⟨w, hw, rfl⟩) | ⟨i, hi, rfl | rfl⟩ | ⟨c, hc, he⟩
 ·exact .inr (.inr ⟨rfl, h0, kz.2 (.inl rfl)⟩)
 ·exact .inr (.inr ⟨rfl, h0, kz.2 (.inr (.inl hw))⟩)
 ·exact .inr (.inr ⟨rfl, h0, kz.2 (.inr (.inr (.inl (br hi))))⟩)
 ·exact .inr (.inr ⟨rfl, h0, kz.2 (.inr (.inr (.inr (br om))))⟩)
 ·unfold s7 at he
  split at he
  ·rename_i h4
   simp only [List.mem_cons, List.not_mem_nil, or_false] at he
   rcases he with he | he | he
   ·exact .inl (.inl ⟨c, hc, by unfold sw; rw [if_pos h4, he]; simp⟩)
   ·exact .inl (.inl ⟨c, hc, by unfold sw; rw [if_pos h4, he]; simp⟩)
   ·exact .inl (.inr ⟨he, c, hc, h4⟩)
  ·split at he
   ·rename_i hp
    rcases List.mem_append.1 he with he | he
    ·exact .inr (.inl (.inl ⟨c, hc, by unfold oh; rw [if_pos hp]; exact he⟩))
    ·exact .inr (.inl (.inr ⟨List.mem_singleton.1 he, c, hc, hp⟩))
   ·cases he
theorem EC (hl : n.aR.length = n.data.length) {e : Int × Int} (h : e ∈ fL n) : e ∈ Cw n n.cells.length := by
 rw [yH]
 have FX : ∀ k : Int, Port k → k ≠ 4 := fun k h => by unfold Port at h; omega
 rcases yI.1 h with (⟨c, hc, he⟩ | ⟨he, c, hc, h4⟩) | (⟨c, hc, he⟩ | ⟨he, c, hc, hp⟩) | ⟨h1, h2, h3⟩
 ·refine .inr (.inr ⟨c, hc, ?_⟩)
  unfold sw at he
  split at he
  ·rename_i h4
   unfold s7; rw [if_pos h4]
   simp only [List.mem_cons, List.not_mem_nil, or_false] at he
   rcases he with rfl | rfl <;> simp
  ·cases he
 ·refine .inr (.inr ⟨c, hc, ?_⟩)
  unfold s7; rw [if_pos h4, he]; simp
 ·refine .inr (.inr ⟨c, hc, ?_⟩)
  unfold oh at he
  split at he
  ·rename_i hp
   unfold s7; rw [if_neg (FX _ hp), if_pos hp]
   exact List.mem_append.2 (.inl he)
  ·cases he
 ·refine .inr (.inr ⟨c, hc, ?_⟩)
  unfold s7; rw [if_neg (FX _ hp), if_pos hp, he]
  exact List.mem_append.2 (.inr (List.mem_singleton.2 rfl))
 ·obtain ⟨w, a⟩ := e
  simp only at h1 h2 h3
  subst h1
  rcases kz.1 h3 with rfl | h | h | h
  ·exact .inl (.inl rfl)
  ·exact .inl (.inr ⟨w, h, rfl⟩)
  ·obtain ⟨i, hi, rfl⟩ := List.mem_iff_getElem.1 h
   exact .inr (.inl ⟨i, hi, .inl (by rw [List.getD_eq_getElem?_getD, List.getElem?_eq_getElem hi]; rfl)⟩)
  ·obtain ⟨i, hi, rfl⟩ := List.mem_iff_getElem.1 h
   exact .inr (.inl ⟨i, om, .inr (by rw [List.getD_eq_getElem?_getD, List.getElem?_eq_getElem hi]; rfl)⟩)
structure EN (n : ab) (out : List Int) : Prop where
 len : out.length = n.aa.length
 snd : ∀ w, In w n.aa.length → out.getD w.toNat 0 = -1 ∨ (w, out.getD w.toNat 0) ∈ fL n
 cmp : ∀ e ∈ fL n, e.2 ≤ out.getD e.1.toNat 0
 lo : ∀ w, In w n.aa.length → -1 ≤ out.getD w.toNat 0 ∧ out.getD w.toNat 0 ≤ 100
theorem EK.en (hf : aU n) (hl : n.aR.length = n.data.length) {out : List Int} (h : EK n (Cw n n.cells.length) out) : EN n out where
 len := h.len
 snd := fun w hw => (h.snd w hw).imp id (fun h1 => EB hl h1 hw.1)
 cmp := fun e he => h.cmp e (EC hl he) (iH hf he).1.1
 lo := h.lo
structure LK (at_ en : List Int) (k : Nat) (d : Int) : Prop where
 lo : 0 ≤ d
 up : ∀ j, j < k → 0 ≤ en.getD j 0 → at_.getD j 0 + en.getD j 0 ≤ d
 of : d = 0 ∨ ∃ j, j < k ∧ 0 ≤ en.getD j 0 ∧ d = at_.getD j 0 + en.getD j 0
theorem LK.init {at_ en : List Int} : LK at_ en 0 0 := ⟨Int.le_refl _, fun j h => by omega, .inl rfl⟩
theorem LK.skip {at_ en : List Int} {d : Int} (h : LK at_ en k d) (h0 : ¬ en.getD k 0 ≥ 0) : LK at_ en (k + 1) d := by
 refine ⟨h.lo, fun j hj h1 => ?_, ?_⟩
 ·rcases Nat.lt_or_ge j k with h2 | h2
  ·exact h.up j h2 h1
  ·obtain rfl : j = k := by omega
   exact absurd h1 h0
 ·rcases h.of with h | ⟨j, h1, h2⟩
  ·exact .inl h
  ·exact .inr ⟨j, om, h2⟩
theorem LK.step {at_ en : List Int} {d : Int} (h : LK at_ en k d) (h0 : en.getD k 0 ≥ 0) : LK at_ en (k + 1) (if at_.getD k 0 + en.getD k 0 > d then at_.getD k 0 + en.getD k 0 else d) := by
 have Dj := h.lo
 refine ⟨by split <;> omega, fun j hj h1 => ?_, ?_⟩
 ·rcases Nat.lt_or_ge j k with h2 | h2
  ·have := h.up j h2 h1
   split <;> omega
  ·obtain rfl : j = k := by omega
   split <;> omega
 ·split
  ·exact .inr ⟨k, om, h0, rfl⟩
  ·rcases h.of with h | ⟨j, h1, h2⟩
   ·exact .inl h
   ·exact .inr ⟨j, om, h2⟩
theorem LK.eq {l at_ en st : List Int} {d D : Int} (hM : VT n) (ho : Ord n l) (ha : vk n at_) (he : EN n en) (h : LK at_ en k D) (hk : k = n.aa.length) (hp : ua n at_ st d) : d = D := by
 refine Int.le_antisymm ?_ ?_
 ·obtain ⟨a, h1, h2⟩ := hp.end_
  have h3 := iH hM.formed h1
  have h4 := he.cmp _ h1
  have h5 := h3.1
  unfold In at h5
  simp only at h4 h5 h3
  have := h.up (st.getD (st.length - 1) 0).toNat om om
  omega
 ·rcases h.of with h1 | ⟨j, h1, h2, h3⟩
  ·have h4 := hp.max _ (vV hM.formed)
   have := (ha.og hM ho hM.formed.done).1
   simp only at h4
   omega
  ·have hj : In (j : Int) n.aa.length := by unfold In; omega
   rcases he.snd _ hj with h4 | h4
   ·rw [Int.toNat_natCast] at h4; omega
   ·have := hp.max _ h4
    rw [Int.toNat_natCast] at this
    omega
theorem ua.sum {at_ st : List Int} {d : Int} (hp : ua n at_ st d) (hf : aU n) {j : Nat} (hj : j < st.length) {i : Int} (hd : b7 n i (st.getD j 0)) :
  (j = 0 → eJ n (n.cell i) = at_.getD (st.getD 0 0).toNat 0 ∧ ¬ (bJ (n.cell i).kind ∧ (n.cell i).kind ≠ 1)) ∧
  (0 < j → at_.getD (st.getD (j - 1) 0).toNat 0 + eJ n (n.cell i) = at_.getD (st.getD j 0).toNat 0 ∧ bJ (n.cell i).kind ∧ st.getD (j - 1) 0 ∈ (n.cell i).args) := by
 constructor
 ·intro h0
  subst h0
  obtain ⟨i', h1, h2, h3⟩ := hp.root
  have := hf.unique hd h1
  subst this
  exact ⟨h2.symm, by rintro ⟨h4, h5⟩; rcases h3 with h3 | h3; exact h3 h4; exact h5 h3⟩
 ·intro h0
  obtain ⟨i', h1, h2, h3, h4⟩ := hp.link (j - 1) om
  rw [show j - 1 + 1 = j by omega] at h1 h4
  have := hf.unique hd h1
  subst this
  exact ⟨h4.symm, h2, h3⟩
end
section
variable {n : ab} {k : Nat}
end
open Go Go.AW Go.Proofs
theorem p6 {α : Type} {p : List α → Prop} (nil : p []) (snoc : ∀ l a, p l → p (l ++ [a])) (l : List α) : p l := by
 have : ∀ m : List α, p m.reverse := by
  intro m
  induction m with
  | nil => exact nil
  | cons x r ih => rw [List.reverse_cons]; exact snoc _ _ ih
 have := this l.reverse
 rwa [List.reverse_reverse] at this
structure Cl (n : ab) (T : List Int) : Prop where
 len : T.length = n.aa.length
 ends : ∀ e ∈ fL n, e.2 ≤ T.getD e.1.toNat 0
 lo : ∀ w, In w n.aa.length → -1 ≤ T.getD w.toNat 0
 step : ∀ i o, b7 n i o → bJ (n.cell i).kind → 0 ≤ T.getD o.toNat 0 → ∀ x ∈ (n.cell i).args, T.getD o.toNat 0 + eJ n (n.cell i) ≤ T.getD x.toNat 0
def Ou (n : ab) (T : List Int) (m : Nat) (l : List Int) (w : Int) : Prop :=
 T.getD w.toNat 0 = -1 ∨ (w, T.getD w.toNat 0) ∈ fL n ∨ ∃ i o, b7 n i o ∧ m ≤ l.idxOf i ∧ bJ (n.cell i).kind ∧ w ∈ (n.cell i).args ∧ 0 ≤ T.getD o.toNat 0 ∧ T.getD w.toNat 0 = T.getD o.toNat 0 + eJ n (n.cell i)
structure Tl (n : ab) (T : List Int) : Prop where
 cl : Cl n T
 sup : ∀ w, In w n.aa.length → ∃ l, Ou n T 0 l w
section
variable {n : ab} {l T T' : List Int}
theorem Tl.FY (hf : aU n) (ho : Ord n l) (h : Tl n T) (h' : Cl n T') : ∀ w, In w n.aa.length → T.getD w.toNat 0 ≤ T'.getD w.toNat 0 := by
 have key : ∀ m j w, b7 n j w → l.length - l.idxOf j ≤ m → T.getD w.toNat 0 ≤ T'.getD w.toNat 0 := by
  intro m
  induction m with
  | zero =>
   intro j w hd hm
   have := List.idxOf_lt_length_of_mem (ho.mem hd.1)
   omega
  | succ m ih =>
   intro j w hd hm
   have hw := hf.eF hd
   have Dj := h'.lo w hw
   obtain ⟨_, h1 | h1 | ⟨i, o, h1, _, h2, h3, h4, h5⟩⟩ := h.sup w hw
   ·omega
   ·exact h'.ends _ h1
   ·obtain ⟨j', h6, h7⟩ := ho.lt h1.1 h2 h3
    have := hf.unique h6 hd
    subst this
    have h8 := List.idxOf_lt_length_of_mem (ho.mem h1.1)
    have h9 := ih i o h1 om
    have Se := h'.step i o h1 h2 om w h3
    omega
 intro w hw
 obtain ⟨j, hj⟩ := hf.gT hw
 exact key _ j w hj (Nat.le_refl _)
theorem Tl.le (hM : VT n) (ho : Ord n l) (h : Tl n T) {w : Int} (hw : In w n.aa.length) : T.getD w.toNat 0 ≤ 400100 := by
 have hf := hM.formed
 have key : ∀ m j w, b7 n j w → l.length - l.idxOf j ≤ m → T.getD w.toNat 0 ≤ 100 + 400 * (m : Int) := by
  intro m
  induction m with
  | zero =>
   intro j w hd hm
   have := List.idxOf_lt_length_of_mem (ho.mem hd.1)
   omega
  | succ m ih =>
   intro j w hd hm
   obtain ⟨_, h1 | h1 | ⟨i, o, h1, _, h2, h3, h4, h5⟩⟩ := h.sup w (hf.eF hd)
   ·omega
   ·have := (iH hf h1).2.2
    simp only at this
    omega
   ·obtain ⟨j', h6, h7⟩ := ho.lt h1.1 h2 h3
    have := hf.unique h6 hd
    subst this
    have h8 := List.idxOf_lt_length_of_mem (ho.mem h1.1)
    have h9 := ih i o h1 om
    have Q6 := h1.1
    have Se : eJ n (n.cell i) ≤ 400 := (hM.eJ (i := i.toNat) om).2
    omega
 obtain ⟨j, hj⟩ := hf.gT hw
 have h1 := key _ j w hj (Nat.le_refl _)
 have h2 := ho.len
 have h3 := hM.bR
 omega
theorem Cx {n : ab} {T T' : List Int} (h : T.length = n.aa.length) (h' : T'.length = n.aa.length) (he : ∀ w, In w n.aa.length → T.getD w.toNat 0 = T'.getD w.toNat 0) : T = T' := by
 refine List.ext_getElem om fun k h1 h2 => ?_
 have := he (k : Int) (by unfold In; omega)
 rw [Int.toNat_natCast, List.getD_eq_getElem?_getD, List.getD_eq_getElem?_getD, List.getElem?_eq_getElem h1, List.getElem?_eq_getElem h2] at this
 exact this
theorem Tl.FZ (hf : aU n) (ho : Ord n l) (h : Tl n T) (h' : Cl n T') (hle : ∀ w, In w n.aa.length → T'.getD w.toNat 0 ≤ T.getD w.toNat 0) : T' = T :=
 Cx h'.len h.cl.len fun w hw => by have := h.FY hf ho h' w hw; have := hle w hw; omega
theorem Tl.uniq (hf : aU n) (ho : Ord n l) (h : Tl n T) (h' : Tl n T') : T' = T := h.FZ hf ho h'.cl (h'.FY hf ho h.cl)
def qA (n : ab) (c : Cell) (T : List Int) (a : Int) : List Int := T.set a.toNat (if T.getD c.out.toNat 0 + eJ n c > T.getD a.toNat 0 then T.getD c.out.toNat 0 + eJ n c else T.getD a.toNat 0)
def jw (n : ab) (c : Cell) (T : List Int) (l : List Int) : List Int := l.foldl (qA n c) T
def k0 (n : ab) (T : List Int) (c : Cell) : List Int := if bJ c.kind ∧ ¬ T.getD c.out.toNat 0 < 0 then jw n c T c.args else T
def mD (n : ab) (T : List Int) (i : List (Int × Int)) : List Int := i.foldl (fun T e => k0 n T (n.cells.getD e.2.toNat default)) T
def zY (T : List Int) (e : Int × Int) : List Int := T.set e.1.toNat (if e.2 > T.getD e.1.toNat 0 then e.2 else T.getD e.1.toNat 0)
def jx (T : List Int) (i : List (Int × Int)) : List Int := i.foldl zY T
def Cy (n : ab) : List Int := jx (List.replicate n.aa.length (-1)) (fL n)
def rf (l : List Int) : List (Int × Int) := (List.range l.length).reverse.map (fun k : Nat => ((k : Int), l.getD k 0))
def oo (n : ab) (l : List Int) : List Int := mD n (Cy n) (rf l)
theorem vY {c : Cell} {a : Int} : (qA n c T a).length = T.length := by simp [qA]
theorem vZ {c : Cell} {m : List Int} : (jw n c T m).length = T.length := by
 unfold jw
 induction m generalizing T with
 | nil => rfl
 | cons x r ih => simp only [List.foldl_cons]; rw [ih, vY]
theorem kA {i : List (Int × Int)} {e : Int × Int} : mD n T (i ++ [e]) = k0 n (mD n T i) (n.cells.getD e.2.toNat default) := by simp [mD]
theorem s8 {i : List (Int × Int)} {e : Int × Int} : jx T (i ++ [e]) = zY (jx T i) e := by simp [jx]
theorem zZ {i : List (Int × Int)} : (jx T i).length = T.length := by
 unfold jx
 induction i generalizing T with
 | nil => rfl
 | cons x r ih => simp only [List.foldl_cons]; rw [ih]; simp [zY]
theorem Aa {c : Cell} {m : List Int} {k : Nat} (hk : k < m.length) : jw n c T (m.take (k + 1)) = qA n c (jw n c T (m.take k)) (m.getD k 0) := by
 unfold jw; rw [take_one (d := (0 : Int)) hk]; simp
structure E0 (n : ab) (i : List (Int × Int)) (T : List Int) : Prop where
 len : T.length = n.aa.length
 snd : ∀ w, In w n.aa.length → T.getD w.toNat 0 = -1 ∨ (w, T.getD w.toNat 0) ∈ i
 cmp : ∀ e ∈ i, e.2 ≤ T.getD e.1.toNat 0
 lo : ∀ w, In w n.aa.length → -1 ≤ T.getD w.toNat 0
theorem wa (hf : aU n) : ∀ i : List (Int × Int), (∀ e ∈ i, e ∈ fL n) → E0 n i (jx (List.replicate n.aa.length (-1)) i) := by
 have rep : ∀ w, In w n.aa.length → (List.replicate n.aa.length (-1 : Int)).getD w.toNat 0 = -1 := fun w hw => by
  unfold In at hw
  rw [List.getD_eq_getElem?_getD, List.getElem?_replicate, if_pos om]; rfl
 intro i
 induction i using p6 with
 | nil => exact fun _ => ⟨by simp [jx], fun w hw => .inl (rep w hw), (fun e h => by cases h), fun w hw => by show -1 ≤ (List.replicate _ _).getD _ _; rw [rep w hw]; omega⟩
 | snoc i e ih =>
  intro h
  have hi := ih (fun e he => h e (List.mem_append.2 (.inl he)))
  obtain ⟨h1, h2, h3⟩ := iH hf (h e (List.mem_append.2 (.inr (List.mem_singleton.2 rfl))))
  rw [s8]
  have hl := hi.len
  unfold In at h1
  have key : ∀ w, In w n.aa.length → (zY (jx (List.replicate n.aa.length (-1)) i) e).getD w.toNat 0 = if e.1 = w then max ((jx (List.replicate n.aa.length (-1)) i).getD w.toNat 0) e.2 else (jx (List.replicate n.aa.length (-1)) i).getD w.toNat 0 := fun w hw => by
   unfold In at hw
   unfold zY
   rw [bs]
   by_cases ee : e.1 = w
   ·rw [if_pos ⟨om, om⟩, if_pos ee, ee]; split <;> omega
   ·rw [if_neg om, if_neg ee]
  refine ⟨by unfold zY; rw [List.length_set]; exact hl, fun w hw => ?_, fun e' Q7 => ?_, fun w hw => ?_⟩
  ·rw [key w hw]
   split
   ·rename_i ee
    rcases Int.le_total ((jx (List.replicate n.aa.length (-1)) i).getD w.toNat 0) e.2 with h4 | h4
    ·rw [Int.max_eq_right h4]; exact .inr (List.mem_append.2 (.inr (List.mem_singleton.2 (by rw [← ee]))))
    ·rw [Int.max_eq_left h4]
     exact (hi.snd w hw).imp id (fun h => List.mem_append.2 (.inl h))
   ·exact (hi.snd w hw).imp id (fun h => List.mem_append.2 (.inl h))
  ·have qR := (iH hf (h e' Q7)).1
   rw [key _ qR]
   rcases List.mem_append.1 Q7 with h4 | h4
   ·have := hi.cmp e' h4
    split <;> omega
   ·rw [List.mem_singleton.1 h4, if_pos rfl]; omega
  ·rw [key w hw]
   have := hi.lo w hw
   split <;> omega
theorem Ab {l : List Int} {e : Int × Int} (h : e ∈ rf l) : e.2 ∈ l := by
 unfold rf at h
 obtain ⟨k, hk, rfl⟩ := List.mem_map.1 h
 exact br (by simpa using hk)
theorem Cz {c : Cell} (h0 : 0 ≤ c.out) (hl : T.length = n.aa.length) : ∀ m : List Int, (∀ a ∈ m, In a n.aa.length ∧ a ≠ c.out) → ∀ w, In w n.aa.length →
  (jw n c T m).getD w.toNat 0 = if w ∈ m then max (T.getD w.toNat 0) (T.getD c.out.toNat 0 + eJ n c) else T.getD w.toNat 0 := by
 intro m
 induction m using p6 with
 | nil => intro _ w _; simp [jw]
 | snoc m a ih =>
  intro hm w hw
  have ih := ih (fun x hx => hm x (List.mem_append.2 (.inl hx)))
  obtain ⟨ha, ew⟩ := hm a (List.mem_append.2 (.inr (List.mem_singleton.2 rfl)))
  have e1 : jw n c T (m ++ [a]) = qA n c (jw n c T m) a := by simp [jw]
  have Fj : (jw n c T m).length = n.aa.length := by rw [vZ]; exact hl
  rw [e1]
  unfold qA
  rw [bs]
  have mK : (jw n c T m).getD c.out.toNat 0 = T.getD c.out.toNat 0 := by
   rcases Nat.lt_or_ge c.out.toNat n.aa.length with h1 | h1
   ·rw [ih c.out (by unfold In; omega), if_neg (fun h => (hm _ (List.mem_append.2 (.inl h))).2 rfl)]
   ·rw [List.getD_eq_getElem?_getD, List.getElem?_eq_none om, List.getD_eq_getElem?_getD, List.getElem?_eq_none om]
  rw [mK, ih w hw, ih a ha]
  unfold In at ha hw
  by_cases e : a = w
  ·subst e
   rw [if_pos ⟨rfl, om⟩, if_pos (List.mem_append.2 (.inr (List.mem_singleton.2 rfl)))]
   split <;> split <;> omega
  ·rw [if_neg om]
   have : (w ∈ m ++ [a]) ↔ w ∈ m := by simp [Ne.symm e]
   simp only [this]
structure TP (n : ab) (l : List Int) (m : Nat) (T : List Int) : Prop where
 len : T.length = n.aa.length
 ends : ∀ e ∈ fL n, e.2 ≤ T.getD e.1.toNat 0
 lo : ∀ w, In w n.aa.length → -1 ≤ T.getD w.toNat 0
 step : ∀ i o, b7 n i o → bJ (n.cell i).kind → m ≤ l.idxOf i → 0 ≤ T.getD o.toNat 0 → ∀ x ∈ (n.cell i).args, T.getD o.toNat 0 + eJ n (n.cell i) ≤ T.getD x.toNat 0
 sup : ∀ w, In w n.aa.length → Ou n T m l w
theorem TP.next (hM : VT n) (ho : Ord n l) {m : Nat} (hm : m < l.length) (h : TP n l (m + 1) T) : TP n l m (k0 n T (n.cell (l.getD m 0))) := by
 have hf := hM.formed
 have hr := ho.og (l.getD m 0) (br hm)
 have Oj : l.idxOf (l.getD m 0) = m := xA ho.nd hm
 have GK : ∀ i, i ∈ l → m ≤ l.idxOf i → i ≠ l.getD m 0 → m + 1 ≤ l.idxOf i := fun i hi h1 h2 => by
  rcases Nat.lt_or_eq_of_le h1 with h3 | h3
  ·exact h3
  ·refine absurd ?_ h2
   have := List.getD_eq_getElem?_getD (l := l) (i := l.idxOf i) (a := (0 : Int))
   rw [h3, this, List.getElem?_eq_getElem (List.idxOf_lt_length_of_mem hi)]
   simp
 by_cases hc : bJ (n.cell (l.getD m 0)).kind ∧ ¬ T.getD (n.cell (l.getD m 0)).out.toNat 0 < 0
 ·have h7 : (n.cell (l.getD m 0)).kind ≠ 7 := fun e => by have := hc.1; rw [e] at this; revert this; unfold bJ; omega
  have KR : b7 n (l.getD m 0) (n.cell (l.getD m 0)).out := ⟨hr, h7, rfl⟩
  have Sf := hf.eF KR
  have dO : ∀ a ∈ (n.cell (l.getD m 0)).args, In a n.aa.length ∧ (∃ j, b7 n j a ∧ l.idxOf j < m) := fun a ha => by
   obtain ⟨j, h1, h2⟩ := ho.lt hr hc.1 ha
   exact ⟨hf.ia hr ha, j, h1, om⟩
  have Ga : ∀ i o, b7 n i o → m ≤ l.idxOf i → o ∉ (n.cell (l.getD m 0)).args := fun i o hd hi ha => by
   obtain ⟨_, j, h1, h2⟩ := dO o ha
   have := hf.unique h1 hd
   subst this; omega
  have ew : ∀ a ∈ (n.cell (l.getD m 0)).args, In a n.aa.length ∧ a ≠ (n.cell (l.getD m 0)).out := fun a ha => ⟨(dO a ha).1, fun e => Ga _ _ KR om (e ▸ ha)⟩
  have key := Cz (n := n) (T := T) (c := n.cell (l.getD m 0)) Sf.1 h.len _ ew
  unfold k0
  rw [if_pos hc]
  have same : ∀ i o, b7 n i o → m ≤ l.idxOf i → (jw n (n.cell (l.getD m 0)) T (n.cell (l.getD m 0)).args).getD o.toNat 0 = T.getD o.toNat 0 := fun i o hd hi => by
   rw [key o (hf.eF hd), if_neg (Ga i o hd hi)]
  have grow : ∀ w, In w n.aa.length → T.getD w.toNat 0 ≤ (jw n (n.cell (l.getD m 0)) T (n.cell (l.getD m 0)).args).getD w.toNat 0 := fun w hw => by
   rw [key w hw]; split <;> omega
  refine ⟨by rw [vZ]; exact h.len, fun e he => by have h1 := h.ends e he; have := grow _ (iH hf he).1; omega, fun w hw => by have h1 := h.lo w hw; have := grow w hw; omega, fun i o hd gn hi h0 x hx => ?_, fun w hw => ?_⟩
  ·rw [same i o hd hi] at h0 ⊢
   have Dw := hf.ia hd.1 hx
   by_cases e : i = l.getD m 0
   ·have eo : o = (n.cell (l.getD m 0)).out := by have := hd.2.2; rw [e] at this; exact this.symm
    rw [key x Dw, if_pos (by rw [← e]; exact hx), e, eo]
    omega
   ·have := h.step i o hd gn (GK i (ho.mem hd.1) hi e) h0 x hx
    have := grow x Dw
    omega
  ·by_cases HC : w ∈ (n.cell (l.getD m 0)).args ∧ T.getD w.toNat 0 < T.getD (n.cell (l.getD m 0)).out.toNat 0 + eJ n (n.cell (l.getD m 0))
   ·refine .inr (.inr ⟨l.getD m 0, _, KR, om, hc.1, HC.1, ?_, ?_⟩)
    ·rw [same _ _ KR om]; have := hc.2; omega
    ·rw [same _ _ KR om, key w hw, if_pos HC.1]; have := HC.2; omega
   ·have Sg : (jw n (n.cell (l.getD m 0)) T (n.cell (l.getD m 0)).args).getD w.toNat 0 = T.getD w.toNat 0 := by
     rw [key w hw]
     split
     ·rename_i h1
      have : ¬ T.getD w.toNat 0 < T.getD (n.cell (l.getD m 0)).out.toNat 0 + eJ n (n.cell (l.getD m 0)) := fun h2 => HC ⟨h1, h2⟩
      omega
     ·rfl
    unfold Ou
    rw [Sg]
    rcases h.sup w hw with h1 | h1 | ⟨i, o, h1, h2, h3, h4, h5, h6⟩
    ·exact .inl h1
    ·exact .inr (.inl h1)
    ·exact .inr (.inr ⟨i, o, h1, om, h3, h4, by rw [same i o h1 om]; exact h5, by rw [same i o h1 om]; exact h6⟩)
 ·unfold k0
  rw [if_neg hc]
  refine ⟨h.len, h.ends, h.lo, fun i o hd gn hi h0 x hx => ?_, fun w hw => ?_⟩
  ·by_cases e : i = l.getD m 0
   ·have eo : o = (n.cell (l.getD m 0)).out := by have := hd.2.2; rw [e] at this; exact this.symm
    rw [e] at gn
    rw [eo] at h0
    exact absurd ⟨gn, om⟩ hc
   ·exact h.step i o hd gn (GK i (ho.mem hd.1) hi e) h0 x hx
  ·rcases h.sup w hw with h1 | h1 | ⟨i, o, h1, h2, h3⟩
   ·exact .inl h1
   ·exact .inr (.inl h1)
   ·exact .inr (.inr ⟨i, o, h1, om, h3⟩)
theorem C5 (hM : VT n) (ho : Ord n l) : ∀ k, k ≤ l.length → TP n l (l.length - k) (mD n (Cy n) (((List.range l.length).reverse.take k).map (fun j : Nat => ((j : Int), l.getD j 0)))) := by
 intro k
 induction k with
 | zero =>
  intro _
  have h := wa hM.formed (fL n) (fun e he => he)
  simp only [List.take_zero, List.map_nil, Nat.sub_zero]
  refine ⟨h.len, h.cmp, h.lo, fun i o hd _ hi => ?_, fun w hw => (h.snd w hw).imp id .inl⟩
  have := List.idxOf_lt_length_of_mem (ho.mem hd.1)
  omega
 | succ k ih =>
  intro hk
  have h := ih om
  have e1 : ((List.range l.length).reverse.take (k + 1)).map (fun j : Nat => ((j : Int), l.getD j 0)) = ((List.range l.length).reverse.take k).map (fun j : Nat => ((j : Int), l.getD j 0)) ++ [(((l.length - (k + 1) : Nat) : Int), l.getD (l.length - (k + 1)) 0)] := by
   rw [take_one (d := (0 : Nat)) (by simp; omega), List.map_append]
   congr 1
   have : (List.range l.length).reverse.getD k 0 = l.length - (k + 1) := by
    rw [List.getD_eq_getElem?_getD, List.getElem?_eq_getElem (by simp; omega)]
    simp; omega
   rw [this]; rfl
  rw [e1, kA]
  rw [show l.length - k = (l.length - (k + 1)) + 1 by omega] at h
  exact h.next hM ho om
theorem C6 (hM : VT n) (ho : Ord n l) : Tl n (oo n l) := by
 have h := C5 hM ho l.length (Nat.le_refl _)
 rw [List.take_of_length_le (by simp), Nat.sub_self] at h
 change TP n l 0 (oo n l) at h
 exact ⟨⟨h.len, h.ends, h.lo, fun i o hd hc h0 x hx => h.step i o hd hc (Nat.zero_le _) h0 x hx⟩, fun w hw => ⟨l, h.sup w hw⟩⟩
end
open Go Go.AW Go.Proofs
def HD : List Int → List Int → Nat
 | x :: xs, y :: ys => (x - y).toNat + HD xs ys
 | _, _ => 0
theorem yJ : ∀ {a b : List Int} {i : Nat} {v : Int}, i < a.length → i < b.length → b.getD i 0 < v → v ≤ a.getD i 0 → HD a (b.set i v) + 1 ≤ HD a b
 | [], _, _, _, h, _, _, _ => by simp at h
 | _ :: _, [], _, _, _, h, _, _ => by simp at h
 | x :: xs, y :: ys, 0, v, _, _, h1, h2 => by
  simp only [List.getD_cons_zero] at h1 h2
  simp only [List.set_cons_zero, HD]; omega
 | x :: xs, y :: ys, i + 1, v, ha, hb, h1, h2 => by
  simp only [List.getD_cons_succ] at h1 h2
  simp only [List.set_cons_succ, HD]
  have := yJ (a := xs) (b := ys) (i := i) (v := v) (by simpa using ha) (by simpa using hb) h1 h2
  omega
structure IE (n : ab) (Ts T : List Int) : Prop where
 len : T.length = n.aa.length
 lo : ∀ w, In w n.aa.length → -1 ≤ T.getD w.toNat 0 ∧ T.getD w.toNat 0 ≤ Ts.getD w.toNat 0
 ends : ∀ e ∈ fL n, e.2 ≤ T.getD e.1.toNat 0
section
variable {n : ab} {l Ts T T0 : List Int}
theorem EN.xD (h : EN n T) (hT : Tl n Ts) : IE n Ts T := ⟨h.len, fun w hw => ⟨(h.lo w hw).1, by
 rcases h.snd w hw with h1 | h1
 ·have := hT.cl.lo w hw; omega
 ·exact hT.cl.ends _ h1⟩, h.cmp⟩
theorem IE.set (h : IE n Ts T) (hf : aU n) {x v : Int} (hx : In x n.aa.length) (h1 : T.getD x.toNat 0 ≤ v) (h2 : v ≤ Ts.getD x.toNat 0) : IE n Ts (T.set x.toNat v) := by
 have hl := h.len
 have Dw := hx
 unfold In at Dw
 have key : ∀ w, In w n.aa.length → (T.set x.toNat v).getD w.toNat 0 = if x = w then v else T.getD w.toNat 0 := fun w hw => by
  unfold In at hw
  rw [bs]
  by_cases e : x = w
  ·rw [if_pos ⟨om, om⟩, if_pos e]
  ·rw [if_neg om, if_neg e]
 have h0 := h.lo x hx
 refine ⟨by rw [List.length_set]; exact hl, fun w hw => ?_, fun e he => ?_⟩
 ·rw [key w hw]
  have := h.lo w hw
  split
  ·rename_i e; subst e; omega
  ·exact this
 ·have qR := (iH hf he).1
  rw [key _ qR]
  have := h.ends e he
  split
  ·rename_i e2; rw [← e2] at this; omega
  ·exact this
structure TR (n : ab) (Ts T0 : List Int) (i : Nat) (more : Bool) (T : List Int) : Prop where
 xD : IE n Ts T
 pr : more = false → ∀ j o, b7 n j o → j < i → bJ (n.cell j).kind → 0 ≤ T.getD o.toNat 0 → ∀ x ∈ (n.cell j).args, T.getD o.toNat 0 + eJ n (n.cell j) ≤ T.getD x.toNat 0
 Eg : HD Ts T + (if more then 1 else 0) ≤ HD Ts T0
theorem TR.init (h : IE n Ts T) : TR n Ts T 0 false T := ⟨h, fun _ j o hd hj => by have := hd.1.1; omega, by simp⟩
variable {i k : Nat} {more : Bool}
theorem TR.pass (h : TR n Ts T0 i more T) (hc : ¬ bJ (n.cells.getD i default).kind ∨ T.getD (n.cells.getD i default).out.toNat 0 < 0) : TR n Ts T0 (i + 1) more T := by
 refine ⟨h.xD, fun hm j o hd hj gn h0 x hx => ?_, h.Eg⟩
 rcases Int.lt_or_eq_of_le (show j ≤ i by omega) with h3 | h3
 ·exact h.pr hm j o hd h3 gn h0 x hx
 ·subst h3
  have eo : (n.cells.getD i default).out = o := hd.2.2
  rcases hc with h4 | h4
  ·exact absurd gn h4
  ·rw [eo] at h4; omega
structure TI (n : ab) (Ts T0 : List Int) (i k : Nat) (more : Bool) (T : List Int) : Prop where
 tr : TR n Ts T0 i more T
 o0 : 0 ≤ T.getD (n.cells.getD i default).out.toNat 0
 Q8 : more = false → ∀ x ∈ (n.cells.getD i default).args.take k, T.getD (n.cells.getD i default).out.toNat 0 + eJ n (n.cells.getD i default) ≤ T.getD x.toNat 0
theorem TI.init (h : TR n Ts T0 i more T) (h0 : ¬ T.getD (n.cells.getD i default).out.toNat 0 < 0) : TI n Ts T0 i 0 more T := ⟨h, om, fun _ x hx => by simp at hx⟩
theorem TI.ah (h : TI n Ts T0 i k more T) (hk : k < (n.cells.getD i default).args.length) (hc : ¬ T.getD (n.cells.getD i default).out.toNat 0 + eJ n (n.cells.getD i default) > T.getD ((n.cells.getD i default).args.getD k 0).toNat 0) : TI n Ts T0 i (k + 1) more T := by
 refine ⟨h.tr, h.o0, fun hm x hx => ?_⟩
 rw [take_one (d := (0 : Int)) hk] at hx
 rcases List.mem_append.1 hx with hx | hx
 ·exact h.Q8 hm x hx
 ·rw [List.mem_singleton.1 hx]; omega
theorem TI.set (hM : VT n) (hT : Tl n Ts) (h : TI n Ts T0 i k more T) (hi : i < n.cells.length) (gn : bJ (n.cells.getD i default).kind) (hk : k < (n.cells.getD i default).args.length) (hc : T.getD (n.cells.getD i default).out.toNat 0 + eJ n (n.cells.getD i default) > T.getD ((n.cells.getD i default).args.getD k 0).toNat 0) :
  TI n Ts T0 i (k + 1) true (T.set ((n.cells.getD i default).args.getD k 0).toNat (T.getD (n.cells.getD i default).out.toNat 0 + eJ n (n.cells.getD i default))) := by
 have hf := hM.formed
 have h7 : (n.cells.getD i default).kind ≠ 7 := fun e => by rw [e] at gn; revert gn; unfold bJ; omega
 have hd : b7 n (i : Int) (n.cells.getD i default).out := ⟨⟨om, om⟩, h7, rfl⟩
 have hx := (hf.cells i hi).1 _ (br hk)
 have Dw := hx
 unfold In at Dw
 have ho := h.tr.xD.lo _ (hf.eF hd)
 have h0 := h.o0
 have Si : Ts.getD (n.cells.getD i default).out.toNat 0 + eJ n (n.cells.getD i default) ≤ Ts.getD ((n.cells.getD i default).args.getD k 0).toNat 0 := hT.cl.step _ _ hd gn om _ (br hk)
 have Q9 := h.tr.xD.lo _ hx
 have hl := h.tr.xD.len
 have wK := hM.eJ hi
 refine ⟨⟨h.tr.xD.set hf hx om om, (fun hm => by cases hm), ?_⟩, ?_, fun hm => by cases hm⟩
 ·have h5 := yJ (a := Ts) (b := T) (i := ((n.cells.getD i default).args.getD k 0).toNat) (v := T.getD (n.cells.getD i default).out.toNat 0 + eJ n (n.cells.getD i default)) (by rw [hT.cl.len]; omega) om hc om
  have h6 := h.tr.Eg
  simp only [if_true]
  split at h6 <;> omega
 ·rw [bs]; split <;> omega
theorem TI.done (h : TI n Ts T0 i k more T) (hk : k = (n.cells.getD i default).args.length) : TR n Ts T0 (i + 1) more T := by
 refine ⟨h.tr.xD, fun hm j o hd hj gn h0 x hx => ?_, h.tr.Eg⟩
 rcases Int.lt_or_eq_of_le (show j ≤ i by omega) with h3 | h3
 ·exact h.tr.pr hm j o hd h3 gn h0 x hx
 ·subst h3
  have eo : (n.cells.getD i default).out = o := hd.2.2
  have := h.Q8 hm x (by rw [hk, List.take_length]; exact hx)
  rw [eo] at this
  exact this
theorem TR.eq (hf : aU n) (ho : Ord n l) (hT : Tl n Ts) (h : TR n Ts T0 i false T) (hi : i = n.cells.length) : T = Ts :=
 hT.FZ hf ho ⟨h.xD.len, h.xD.ends, fun w hw => (h.xD.lo w hw).1, fun j o hd gn h0 x hx => h.pr rfl j o hd (by rw [hi]; exact hd.1.2) gn h0 x hx⟩ (fun w hw => (h.xD.lo w hw).2)
structure qB (n : ab) (Ts T : List Int) : Prop where
 len : T.length = n.aa.length
 lo : ∀ w, In w n.aa.length → -1 ≤ T.getD w.toNat 0 ∧ T.getD w.toNat 0 ≤ Ts.getD w.toNat 0
theorem qB.init (hf : aU n) (hT : Tl n Ts) : qB n Ts (Cy n) := by
 have h := wa hf (fL n) (fun e he => he)
 refine ⟨h.len, fun w hw => ⟨h.lo w hw, ?_⟩⟩
 rcases h.snd w hw with h1 | h1
 ·have := hT.cl.lo w hw; unfold Cy; omega
 ·exact hT.cl.ends _ h1
theorem qB.qA (hM : VT n) (hT : Tl n Ts) (h : qB n Ts T) {i : Nat} (hi : i < n.cells.length) (gn : bJ (n.cells.getD i default).kind) (h0 : 0 ≤ T.getD (n.cells.getD i default).out.toNat 0) {a : Int} (ha : a ∈ (n.cells.getD i default).args) : qB n Ts (qA n (n.cells.getD i default) T a) ∧ 0 ≤ (qA n (n.cells.getD i default) T a).getD (n.cells.getD i default).out.toNat 0 := by
 have hf := hM.formed
 have h7 : (n.cells.getD i default).kind ≠ 7 := fun e => by rw [e] at gn; revert gn; unfold bJ; omega
 have hd : b7 n (i : Int) (n.cells.getD i default).out := ⟨⟨om, om⟩, h7, rfl⟩
 have hx := (hf.cells i hi).1 a ha
 have Dw := hx
 unfold In at Dw
 have ho := h.lo _ (hf.eF hd)
 have Si : Ts.getD (n.cells.getD i default).out.toNat 0 + eJ n (n.cells.getD i default) ≤ Ts.getD a.toNat 0 := hT.cl.step _ _ hd gn om _ ha
 have hl := h.len
 have wK := hM.eJ hi
 have Q9 := h.lo a hx
 have key : ∀ w, 0 ≤ w → (Proofs.Ytligpghohcfpnaa.qA n (n.cells.getD i default) T a).getD w.toNat 0 = if a = w then (if T.getD (n.cells.getD i default).out.toNat 0 + eJ n (n.cells.getD i default) > T.getD a.toNat 0 then T.getD (n.cells.getD i default).out.toNat 0 + eJ n (n.cells.getD i default) else T.getD a.toNat 0) else T.getD w.toNat 0 := fun w hw => by
  unfold Proofs.Ytligpghohcfpnaa.qA
  rw [bs]
  by_cases e : a = w
  ·rw [if_pos ⟨om, om⟩, if_pos e]
  ·rw [if_neg om, if_neg e]
 refine ⟨⟨by rw [vY]; exact hl, fun w hw => ?_⟩, ?_⟩
 ·rw [key w hw.1]
  have := h.lo w hw
  split
  ·rename_i e; subst e; split <;> omega
  ·exact this
 ·rw [key _ (hf.eF hd).1]
  split
  ·split <;> omega
  ·exact h0
theorem qB.jw (hM : VT n) (hT : Tl n Ts) (h : qB n Ts T) {i : Nat} (hi : i < n.cells.length) (gn : bJ (n.cells.getD i default).kind) (h0 : 0 ≤ T.getD (n.cells.getD i default).out.toNat 0) : ∀ m : List Int, (∀ a ∈ m, a ∈ (n.cells.getD i default).args) →
  qB n Ts (jw n (n.cells.getD i default) T m) ∧ 0 ≤ (jw n (n.cells.getD i default) T m).getD (n.cells.getD i default).out.toNat 0 := by
 intro m
 induction m using p6 with
 | nil => intro _; exact ⟨h, h0⟩
 | snoc m a ih =>
  intro hm
  obtain ⟨h1, h2⟩ := ih (fun x hx => hm x (List.mem_append.2 (.inl hx)))
  have e1 : Proofs.Ytligpghohcfpnaa.jw n (n.cells.getD i default) T (m ++ [a]) = Proofs.Ytligpghohcfpnaa.qA n (n.cells.getD i default) (Proofs.Ytligpghohcfpnaa.jw n (n.cells.getD i default) T m) a := by simp [Proofs.Ytligpghohcfpnaa.jw]
  rw [e1]
  exact h1.qA hM hT hi gn h2 (hm a (List.mem_append.2 (.inr (List.mem_singleton.2 rfl))))
theorem qB.k0 (hM : VT n) (hT : Tl n Ts) (h : qB n Ts T) {i : Nat} (hi : i < n.cells.length) : qB n Ts (k0 n T (n.cells.getD i default)) := by
 unfold Proofs.Ytligpghohcfpnaa.k0
 split
 ·rename_i hc; exact (h.jw hM hT hi hc.1 (by have := hc.2; omega) _ (fun _ h => h)).1
 ·exact h
theorem Ac (hM : VT n) (hT : Tl n Ts) : ∀ i : List (Int × Int), (∀ e ∈ i, 0 ≤ e.2 ∧ e.2 < n.cells.length) → qB n Ts (mD n (Cy n) i) := by
 intro i
 induction i using p6 with
 | nil => exact fun _ => qB.init hM.formed hT
 | snoc i e ih =>
  intro h
  rw [kA]
  have := h e (List.mem_append.2 (.inr (List.mem_singleton.2 rfl)))
  exact (ih (fun e he => h e (List.mem_append.2 (.inl he)))).k0 hM hT om
structure SL (n : ab) (p : Int) (at_ T : List Int) (k : Nat) (s : List Int) : Prop where
 len : s.length = n.aa.length
 at_ : ∀ j, j < k → s.getD j 0 = if T.getD j 0 ≥ 0 then p - at_.getD j 0 - T.getD j 0 else p
variable {p : Int} {at_ s : List Int}
theorem SL.init : SL n p at_ T 0 (List.replicate n.aa.length 0) := ⟨by simp, fun j h => by omega⟩
theorem SL.step (h : SL n p at_ T k s) (hk : k < n.aa.length) {v w : Int} (hv : w = if T.getD k 0 ≥ 0 then p - at_.getD k 0 - T.getD k 0 else p) : SL n p at_ T (k + 1) ((s.set k v).set k w) := by
 have := h.len
 refine ⟨by simp [this], fun j hj => ?_⟩
 rw [bs, bs]
 simp only [List.length_set]
 by_cases e : k = j
 ·rw [if_pos ⟨e, om⟩, hv, e]
 ·rw [if_neg om, if_neg om]; exact h.at_ j om
theorem SL.KS (h : SL n p at_ T k s) (hk : k < n.aa.length) (hv : ¬ T.getD k 0 ≥ 0) : SL n p at_ T (k + 1) (s.set k p) := by
 have := h.len
 refine ⟨by simp [this], fun j hj => ?_⟩
 rw [bs]
 by_cases e : k = j
 ·rw [if_pos ⟨e, om⟩, ← e, if_neg hv]
 ·rw [if_neg om]; exact h.at_ j om
def s9 (l : List Int) (k : Nat) : List (Int × Int) := ((List.range l.length).reverse.take k).map (fun j : Nat => ((j : Int), l.getD j 0))
theorem xE {t : Int} (h0 : 0 ≤ t) (h1 : t < l.length) : s9 l ((l.length : Int) - 1 - (t - 1)).toNat = s9 l ((l.length : Int) - 1 - t).toNat ++ [(t, l.getD t.toNat 0)] := by
 unfold s9
 rw [show ((l.length : Int) - 1 - (t - 1)).toNat = ((l.length : Int) - 1 - t).toNat + 1 by omega, take_one (d := (0 : Nat)) (by simp; omega), List.map_append]
 congr 1
 have : (List.range l.length).reverse.getD ((l.length : Int) - 1 - t).toNat 0 = t.toNat := by
  rw [List.getD_eq_getElem?_getD, List.getElem?_eq_getElem (by simp; omega)]
  simp; omega
 rw [this]
 simp [Int.toNat_of_nonneg h0]
theorem Ad {t : Int} (h : t = -1) : s9 l ((l.length : Int) - 1 - t).toNat = rf l := by
 subst h
 unfold s9 rf
 rw [List.take_of_length_le (by simp)]
theorem ED {t : Int} (h0 : 0 ≤ t) (h1 : t < l.length) : (t, l.getD t.toNat 0) ∈ rf l := by
 unfold rf
 refine List.mem_map.2 ⟨t.toNat, by simp; omega, ?_⟩
 simp [Int.toNat_of_nonneg h0]
theorem EI.rep {k : Nat} {out : List Int} (h : EI n k out) (hk : k = n.aa.length) : out = List.replicate n.aa.length (-1) := by
 refine List.ext_getElem (by rw [h.len]; simp) fun j h1 h2 => ?_
 have := h.at_ j (by rw [hk, ← h.len]; exact h1)
 rw [List.getD_eq_getElem?_getD, List.getElem?_eq_getElem h1] at this
 simp only [List.getElem_replicate]; exact this
theorem qC {c : Cell} (h : ¬ bJ c.kind) : k0 n T c = T := by unfold k0; rw [if_neg (fun h2 => h h2.1)]
theorem qD {c : Cell} (h : T.getD c.out.toNat 0 < 0) : k0 n T c = T := by unfold k0; rw [if_neg (fun h2 => h2.2 h)]
theorem qE {c : Cell} (hc : bJ c.kind) (h : ¬ T.getD c.out.toNat 0 < 0) {k : Nat} (hk : k = c.args.length) : k0 n T c = jw n c T (c.args.take k) := by unfold k0; rw [if_pos ⟨hc, h⟩, hk, List.take_length]
end
open Go Go.AW Go.Proofs
theorem qF {w : Int} : au Try.prog 93 [vi w] [] [] (fun r o => r = .v (.bool (decide (eO w))) ∧ o = []) := by
 refine au.of Try.func93 rfl rfl rfl (n := 9) ae (aI rfl) (.sr ?_)
 refine .an ?_
 refine .nil (.sr ?_)
 refine .mv ?_
 refine .vl (Y.qq rfl rfl) ?_
 refine .mv ?_
 refine .ax (d := 5) rfl (fun c5 => ?_) (fun c5 => ?_)
 refine .gw 5 (Y.zg rfl rfl) (.gw 5 (Y.qz rfl rfl) ?_)
 refine .pk ?_
 refine .an ?_
 refine .nil (.ret ?_)
 exact .rb rfl (dd (by (simp only [eO]) <;> (first | omega | grind)))
 refine .gz 5 (.gz 5 ?_)
 refine .pk ?_
 refine .an ?_
 refine .nil (.ret ?_)
 exact .rb rfl (df (by (simp only [eO]) <;> (first | omega | grind)))
theorem oI {w : Int} : au Try.prog 117 [vi w] [] [] (fun r o => r = .v (.bool (decide (eO w))) ∧ o = []) := by
 refine au.of Try.func117 rfl rfl rfl (n := 9) ae (aI rfl) (.sr ?_)
 refine .an ?_
 refine .nil (.sr ?_)
 refine .mv ?_
 refine .vl (Y.qq rfl rfl) ?_
 refine .mv ?_
 refine .ax (d := 5) rfl (fun c5 => ?_) (fun c5 => ?_)
 refine .gw 5 (Y.zg rfl rfl) (.gw 5 (Y.qz rfl rfl) ?_)
 refine .pk ?_
 refine .an ?_
 refine .nil (.ret ?_)
 exact .rb rfl (dd (by (simp only [eO]) <;> (first | omega | grind)))
 refine .gz 5 (.gz 5 ?_)
 refine .pk ?_
 refine .an ?_
 refine .nil (.ret ?_)
 exact .rb rfl (df (by (simp only [eO]) <;> (first | omega | grind)))
theorem oJ {s : ByteArray} (hs : s.size ≤ 140737488351232) : au Try.prog 92 [.v (.string s)] [] [] (fun r o => r = .v (.bool (decide (ks s))) ∧ o = []) := by
 refine au.of Try.func92 rfl rfl rfl (n := 44) ae (aI rfl) (.sr ?_)
 refine .an ?_
 refine .nil (.seq (.sr ?_))
 refine .mv ?_
 refine .vl (Y.qy Hw rfl) ?_
 refine .mv ?_
 refine .nil (.block ?_)
 refine .fY (fun (cf : Nat) => ⟨[(0, .v (.string s)), (6, vi s.size), (7, vi cf)], []⟩) (fun cf => ((cf : Int) ≤ (s.size : Int)) ∧ (∀ j, j < cf → ed (aK s j))) (fun cf => ((s.size : Int) - (cf : Int)).toNat) 0 (⟨om, by intro j h; omega⟩) (Le.mk (.c2 (.cons (aj rfl bf) .nil)) .nil) (fun cf th => ?_)
 obtain ⟨rz, hb⟩ := th
 refine .sr (.vl (Y.zc rfl rfl) (.nil ?_))
 refine .seq ?_
 refine .a8 rfl (fun c8 => ?_) (fun c8 => ?_)
 refine .skip ?_
 refine .nn (⟨[(0, .v (.string s)), (6, vi s.size), (7, vi cf)], []⟩) (((97 ≤ ((aK s cf : Nat) : Int)) ∧ (((aK s cf : Nat) : Int) ≤ 122)) ∨ ((97 ≤ ((aK s cf : Nat) : Int)) ∧ (¬ (((aK s cf : Nat) : Int) ≤ 122)) ∧ (65 ≤ ((aK s cf : Nat) : Int)) ∧ (((aK s cf : Nat) : Int) ≤ 90)) ∨ ((97 ≤ ((aK s cf : Nat) : Int)) ∧ (¬ (((aK s cf : Nat) : Int) ≤ 122)) ∧ (65 ≤ ((aK s cf : Nat) : Int)) ∧ (¬ (((aK s cf : Nat) : Int) ≤ 90)) ∧ (48 ≤ ((aK s cf : Nat) : Int)) ∧ (((aK s cf : Nat) : Int) ≤ 57)) ∨ ((97 ≤ ((aK s cf : Nat) : Int)) ∧ (¬ (((aK s cf : Nat) : Int) ≤ 122)) ∧ (65 ≤ ((aK s cf : Nat) : Int)) ∧ (¬ (((aK s cf : Nat) : Int) ≤ 90)) ∧ (48 ≤ ((aK s cf : Nat) : Int)) ∧ (¬ (((aK s cf : Nat) : Int) ≤ 57)) ∧ (((aK s cf : Nat) : Int) = 95)) ∨ ((97 ≤ ((aK s cf : Nat) : Int)) ∧ (¬ (((aK s cf : Nat) : Int) ≤ 122)) ∧ (65 ≤ ((aK s cf : Nat) : Int)) ∧ (¬ (((aK s cf : Nat) : Int) ≤ 90)) ∧ (¬ (48 ≤ ((aK s cf : Nat) : Int))) ∧ (((aK s cf : Nat) : Int) = 95)) ∨ ((97 ≤ ((aK s cf : Nat) : Int)) ∧ (¬ (((aK s cf : Nat) : Int) ≤ 122)) ∧ (¬ (65 ≤ ((aK s cf : Nat) : Int))) ∧ (48 ≤ ((aK s cf : Nat) : Int)) ∧ (((aK s cf : Nat) : Int) ≤ 57)) ∨ ((97 ≤ ((aK s cf : Nat) : Int)) ∧ (¬ (((aK s cf : Nat) : Int) ≤ 122)) ∧ (¬ (65 ≤ ((aK s cf : Nat) : Int))) ∧ (48 ≤ ((aK s cf : Nat) : Int)) ∧ (¬ (((aK s cf : Nat) : Int) ≤ 57)) ∧ (((aK s cf : Nat) : Int) = 95)) ∨ ((97 ≤ ((aK s cf : Nat) : Int)) ∧ (¬ (((aK s cf : Nat) : Int) ≤ 122)) ∧ (¬ (65 ≤ ((aK s cf : Nat) : Int))) ∧ (¬ (48 ≤ ((aK s cf : Nat) : Int))) ∧ (((aK s cf : Nat) : Int) = 95)) ∨ ((¬ (97 ≤ ((aK s cf : Nat) : Int))) ∧ (65 ≤ ((aK s cf : Nat) : Int)) ∧ (((aK s cf : Nat) : Int) ≤ 90)) ∨ ((¬ (97 ≤ ((aK s cf : Nat) : Int))) ∧ (65 ≤ ((aK s cf : Nat) : Int)) ∧ (¬ (((aK s cf : Nat) : Int) ≤ 90)) ∧ (48 ≤ ((aK s cf : Nat) : Int)) ∧ (((aK s cf : Nat) : Int) ≤ 57)) ∨ ((¬ (97 ≤ ((aK s cf : Nat) : Int))) ∧ (65 ≤ ((aK s cf : Nat) : Int)) ∧ (¬ (((aK s cf : Nat) : Int) ≤ 90)) ∧ (48 ≤ ((aK s cf : Nat) : Int)) ∧ (¬ (((aK s cf : Nat) : Int) ≤ 57)) ∧ (((aK s cf : Nat) : Int) = 95)) ∨ ((¬ (97 ≤ ((aK s cf : Nat) : Int))) ∧ (65 ≤ ((aK s cf : Nat) : Int)) ∧ (¬ (((aK s cf : Nat) : Int) ≤ 90)) ∧ (¬ (48 ≤ ((aK s cf : Nat) : Int))) ∧ (((aK s cf : Nat) : Int) = 95)) ∨ ((¬ (97 ≤ ((aK s cf : Nat) : Int))) ∧ (¬ (65 ≤ ((aK s cf : Nat) : Int))) ∧ (48 ≤ ((aK s cf : Nat) : Int)) ∧ (((aK s cf : Nat) : Int) ≤ 57)) ∨ ((¬ (97 ≤ ((aK s cf : Nat) : Int))) ∧ (¬ (65 ≤ ((aK s cf : Nat) : Int))) ∧ (48 ≤ ((aK s cf : Nat) : Int)) ∧ (¬ (((aK s cf : Nat) : Int) ≤ 57)) ∧ (((aK s cf : Nat) : Int) = 95)) ∨ ((¬ (97 ≤ ((aK s cf : Nat) : Int))) ∧ (¬ (65 ≤ ((aK s cf : Nat) : Int))) ∧ (¬ (48 ≤ ((aK s cf : Nat) : Int))) ∧ (((aK s cf : Nat) : Int) = 95))) ?_ (fun KT => ?_)
 refine .block (.sr ?_)
 refine .mv ?_
 refine .an ?_
 refine .nil (.sr ?_)
 refine .mv ?_
 refine .mv ?_
 refine .vl (Y.qw (m := cf) Hw rfl rfl bf om) ?_
 refine .an ?_
 refine .nil (.sr ?_)
 refine .mv ?_
 refine .vl (Y.qq rfl rfl) ?_
 refine .mv ?_
 refine .ax (d := 15) rfl (fun rJ => ?_) (fun rJ => ?_)
 refine .gw 15 (Y.zg rfl rfl) (.gw 15 (Y.qz rfl rfl) ?_)
 refine .pk ?_
 refine .mv ?_
 refine .ax (d := 19) rfl (fun oq => ?_) (fun oq => ?_)
 refine .gz 19 (.gz 19 (.gz 19 ?_))
 refine .gz 22 (.gz 22 (.gz 19 ?_))
 refine .pk ?_
 refine .mv ?_
 refine .gz 27 (.gz 27 (.gz 27 ?_))
 refine .gz 30 (.gz 30 (.gz 27 ?_))
 refine .pk ?_
 refine .mv ?_
 refine .gz 35 (.gz 35 ?_)
 refine .pk ?_
 refine .vl (Y.zm rfl) (.nil (.bO rfl ?_))
 refine .skip (⟨.inl ⟨rJ, oq⟩, Le.mk (.c2 (.c .nil)) .nil⟩)
 refine .gw 19 (Y.zg rfl rfl) (.gw 19 (Y.qq rfl rfl) (.gw 19 (Y.zg rfl rfl) ?_))
 refine .ax (d := 22) rfl (fun nY => ?_) (fun nY => ?_)
 refine .gw 22 (Y.zg rfl rfl) (.gw 22 (Y.qz rfl rfl) (.gw 19 (Y.zn rfl rfl rfl) ?_))
 refine .pk ?_
 refine .mv ?_
 refine .ax (d := 27) rfl (fun xF => ?_) (fun xF => ?_)
 refine .gz 27 (.gz 27 (.gz 27 ?_))
 refine .gz 30 (.gz 30 (.gz 27 ?_))
 refine .pk ?_
 refine .mv ?_
 refine .gz 35 (.gz 35 ?_)
 refine .pk ?_
 refine .vl (Y.zm rfl) (.nil (.bO rfl ?_))
 refine .skip (⟨.inr (.inl ⟨rJ, oq, nY, xF⟩), Le.mk (.c2 (.c .nil)) .nil⟩)
 refine .gw 27 (Y.zg rfl rfl) (.gw 27 (Y.qq rfl rfl) (.gw 27 (Y.zg rfl rfl) ?_))
 refine .ax (d := 30) rfl (fun rh => ?_) (fun rh => ?_)
 refine .gw 30 (Y.zg rfl rfl) (.gw 30 (Y.qz rfl rfl) (.gw 27 (Y.zn rfl rfl rfl) ?_))
 refine .pk ?_
 refine .mv ?_
 refine .ax (d := 35) rfl (fun r6 => ?_) (fun r6 => ?_)
 refine .gz 35 (.gz 35 ?_)
 refine .pk ?_
 refine .vl (Y.zm rfl) (.nil (.bO rfl ?_))
 refine .skip (⟨.inr (.inr (.inl ⟨rJ, oq, nY, xF, rh, r6⟩)), Le.mk (.c2 (.c .nil)) .nil⟩)
 refine .gw 35 (Y.zg rfl rfl) (.gw 35 (Y.ql rfl rfl) ?_)
 refine .pk ?_
 refine .vl (Y.zm rfl) (.nil ?_)
 refine .dB rfl (fun r7 => ?_) (fun r7 => ?_)
 refine .sr ?_
 refine .an ?_
 refine .nil (.ret ?_)
 exact .rb rfl (df (fun h => by have h1 := h.1 cf om; unfold ed at h1; omega))
 refine .skip (⟨.inr (.inr (.inr (.inl ⟨rJ, oq, nY, xF, rh, r6, r7⟩))), Le.mk (.c2 (.c .nil)) .nil⟩)
 refine .gz 30 (.gz 30 (.gw 27 (Y.zn rfl rfl rfl) ?_))
 refine .pk ?_
 refine .mv ?_
 refine .gw 35 (Y.zg rfl rfl) (.gw 35 (Y.ql rfl rfl) ?_)
 refine .pk ?_
 refine .vl (Y.zm rfl) (.nil ?_)
 refine .dB rfl (fun r7 => ?_) (fun r7 => ?_)
 refine .sr ?_
 refine .an ?_
 refine .nil (.ret ?_)
 exact .rb rfl (df (fun h => by have h1 := h.1 cf om; unfold ed at h1; omega))
 refine .skip (⟨.inr (.inr (.inr (.inr (.inl ⟨rJ, oq, nY, xF, rh, r7⟩)))), Le.mk (.c2 (.c .nil)) .nil⟩)
 refine .gz 22 (.gz 22 (.gw 19 (Y.zn rfl rfl rfl) ?_))
 refine .pk ?_
 refine .mv ?_
 refine .gw 27 (Y.zg rfl rfl) (.gw 27 (Y.qq rfl rfl) (.gw 27 (Y.zg rfl rfl) ?_))
 refine .ax (d := 30) rfl (fun rh => ?_) (fun rh => ?_)
 refine .gw 30 (Y.zg rfl rfl) (.gw 30 (Y.qz rfl rfl) (.gw 27 (Y.zn rfl rfl rfl) ?_))
 refine .pk ?_
 refine .mv ?_
 refine .ax (d := 35) rfl (fun r6 => ?_) (fun r6 => ?_)
 refine .gz 35 (.gz 35 ?_)
 refine .pk ?_
 refine .vl (Y.zm rfl) (.nil (.bO rfl ?_))
 refine .skip (⟨.inr (.inr (.inr (.inr (.inr (.inl ⟨rJ, oq, nY, rh, r6⟩))))), Le.mk (.c2 (.c .nil)) .nil⟩)
 refine .gw 35 (Y.zg rfl rfl) (.gw 35 (Y.ql rfl rfl) ?_)
 refine .pk ?_
 refine .vl (Y.zm rfl) (.nil ?_)
 refine .dB rfl (fun r7 => ?_) (fun r7 => ?_)
 refine .sr ?_
 refine .an ?_
 refine .nil (.ret ?_)
 exact .rb rfl (df (fun h => by have h1 := h.1 cf om; unfold ed at h1; omega))
 refine .skip (⟨.inr (.inr (.inr (.inr (.inr (.inr (.inl ⟨rJ, oq, nY, rh, r6, r7⟩)))))), Le.mk (.c2 (.c .nil)) .nil⟩)
 refine .gz 30 (.gz 30 (.gw 27 (Y.zn rfl rfl rfl) ?_))
 refine .pk ?_
 refine .mv ?_
 refine .gw 35 (Y.zg rfl rfl) (.gw 35 (Y.ql rfl rfl) ?_)
 refine .pk ?_
 refine .vl (Y.zm rfl) (.nil ?_)
 refine .dB rfl (fun r7 => ?_) (fun r7 => ?_)
 refine .sr ?_
 refine .an ?_
 refine .nil (.ret ?_)
 exact .rb rfl (df (fun h => by have h1 := h.1 cf om; unfold ed at h1; omega))
 refine .skip (⟨.inr (.inr (.inr (.inr (.inr (.inr (.inr (.inl ⟨rJ, oq, nY, rh, r7⟩))))))), Le.mk (.c2 (.c .nil)) .nil⟩)
 refine .gz 15 (.gz 15 ?_)
 refine .pk ?_
 refine .mv ?_
 refine .gw 19 (Y.zg rfl rfl) (.gw 19 (Y.qq rfl rfl) (.gw 19 (Y.zg rfl rfl) ?_))
 refine .ax (d := 22) rfl (fun nY => ?_) (fun nY => ?_)
 refine .gw 22 (Y.zg rfl rfl) (.gw 22 (Y.qz rfl rfl) (.gw 19 (Y.zn rfl rfl rfl) ?_))
 refine .pk ?_
 refine .mv ?_
 refine .ax (d := 27) rfl (fun xF => ?_) (fun xF => ?_)
 refine .gz 27 (.gz 27 (.gz 27 ?_))
 refine .gz 30 (.gz 30 (.gz 27 ?_))
 refine .pk ?_
 refine .mv ?_
 refine .gz 35 (.gz 35 ?_)
 refine .pk ?_
 refine .vl (Y.zm rfl) (.nil (.bO rfl ?_))
 refine .skip (⟨.inr (.inr (.inr (.inr (.inr (.inr (.inr (.inr (.inl ⟨rJ, nY, xF⟩)))))))), Le.mk (.c2 (.c .nil)) .nil⟩)
 refine .gw 27 (Y.zg rfl rfl) (.gw 27 (Y.qq rfl rfl) (.gw 27 (Y.zg rfl rfl) ?_))
 refine .ax (d := 30) rfl (fun rh => ?_) (fun rh => ?_)
 refine .gw 30 (Y.zg rfl rfl) (.gw 30 (Y.qz rfl rfl) (.gw 27 (Y.zn rfl rfl rfl) ?_))
 refine .pk ?_
 refine .mv ?_
 refine .ax (d := 35) rfl (fun r6 => ?_) (fun r6 => ?_)
 refine .gz 35 (.gz 35 ?_)
 refine .pk ?_
 refine .vl (Y.zm rfl) (.nil (.bO rfl ?_))
 refine .skip (⟨.inr (.inr (.inr (.inr (.inr (.inr (.inr (.inr (.inr (.inl ⟨rJ, nY, xF, rh, r6⟩))))))))), Le.mk (.c2 (.c .nil)) .nil⟩)
 refine .gw 35 (Y.zg rfl rfl) (.gw 35 (Y.ql rfl rfl) ?_)
 refine .pk ?_
 refine .vl (Y.zm rfl) (.nil ?_)
 refine .dB rfl (fun r7 => ?_) (fun r7 => ?_)
 refine .sr ?_
 refine .an ?_
 refine .nil (.ret ?_)
 exact .rb rfl (df (fun h => by have h1 := h.1 cf om; unfold ed at h1; omega))
 refine .skip (⟨.inr (.inr (.inr (.inr (.inr (.inr (.inr (.inr (.inr (.inr (.inl ⟨rJ, nY, xF, rh, r6, r7⟩)))))))))), Le.mk (.c2 (.c .nil)) .nil⟩)
 refine .gz 30 (.gz 30 (.gw 27 (Y.zn rfl rfl rfl) ?_))
 refine .pk ?_
 refine .mv ?_
 refine .gw 35 (Y.zg rfl rfl) (.gw 35 (Y.ql rfl rfl) ?_)
 refine .pk ?_
 refine .vl (Y.zm rfl) (.nil ?_)
 refine .dB rfl (fun r7 => ?_) (fun r7 => ?_)
 refine .sr ?_
 refine .an ?_
 refine .nil (.ret ?_)
 exact .rb rfl (df (fun h => by have h1 := h.1 cf om; unfold ed at h1; omega))
 refine .skip (⟨.inr (.inr (.inr (.inr (.inr (.inr (.inr (.inr (.inr (.inr (.inr (.inl ⟨rJ, nY, xF, rh, r7⟩))))))))))), Le.mk (.c2 (.c .nil)) .nil⟩)
 refine .gz 22 (.gz 22 (.gw 19 (Y.zn rfl rfl rfl) ?_))
 refine .pk ?_
 refine .mv ?_
 refine .gw 27 (Y.zg rfl rfl) (.gw 27 (Y.qq rfl rfl) (.gw 27 (Y.zg rfl rfl) ?_))
 refine .ax (d := 30) rfl (fun rh => ?_) (fun rh => ?_)
 refine .gw 30 (Y.zg rfl rfl) (.gw 30 (Y.qz rfl rfl) (.gw 27 (Y.zn rfl rfl rfl) ?_))
 refine .pk ?_
 refine .mv ?_
 refine .ax (d := 35) rfl (fun r6 => ?_) (fun r6 => ?_)
 refine .gz 35 (.gz 35 ?_)
 refine .pk ?_
 refine .vl (Y.zm rfl) (.nil (.bO rfl ?_))
 refine .skip (⟨.inr (.inr (.inr (.inr (.inr (.inr (.inr (.inr (.inr (.inr (.inr (.inr (.inl ⟨rJ, nY, rh, r6⟩)))))))))))), Le.mk (.c2 (.c .nil)) .nil⟩)
 refine .gw 35 (Y.zg rfl rfl) (.gw 35 (Y.ql rfl rfl) ?_)
 refine .pk ?_
 refine .vl (Y.zm rfl) (.nil ?_)
 refine .dB rfl (fun r7 => ?_) (fun r7 => ?_)
 refine .sr ?_
 refine .an ?_
 refine .nil (.ret ?_)
 exact .rb rfl (df (fun h => by have h1 := h.1 cf om; unfold ed at h1; omega))
 refine .skip (⟨.inr (.inr (.inr (.inr (.inr (.inr (.inr (.inr (.inr (.inr (.inr (.inr (.inr (.inl ⟨rJ, nY, rh, r6, r7⟩))))))))))))), Le.mk (.c2 (.c .nil)) .nil⟩)
 refine .gz 30 (.gz 30 (.gw 27 (Y.zn rfl rfl rfl) ?_))
 refine .pk ?_
 refine .mv ?_
 refine .gw 35 (Y.zg rfl rfl) (.gw 35 (Y.ql rfl rfl) ?_)
 refine .pk ?_
 refine .vl (Y.zm rfl) (.nil ?_)
 refine .dB rfl (fun r7 => ?_) (fun r7 => ?_)
 refine .sr ?_
 refine .an ?_
 refine .nil (.ret ?_)
 exact .rb rfl (df (fun h => by have h1 := h.1 cf om; unfold ed at h1; omega))
 refine .skip (⟨.inr (.inr (.inr (.inr (.inr (.inr (.inr (.inr (.inr (.inr (.inr (.inr (.inr (.inr (⟨rJ, nY, rh, r7⟩)))))))))))))), Le.mk (.c2 (.c .nil)) .nil⟩)
 refine .region (.vl (Y.qb rfl rfl bw) ?_)
 refine .mv ?_
 refine .nil (⟨cf + 1, ⟨om, rV hb (by unfold ed; omega)⟩, om, Le.mk (.c2 (.cons (aj rfl bf) .nil)) .nil⟩)
 refine .exit (.sr ?_)
 refine .mv ?_
 refine .vl (Y.qy Hw rfl) (.vl (Y.qz rfl rfl) ?_)
 refine .an ?_
 refine .nil (.ret ?_)
 exact .rb rfl (dd ⟨fun h => ⟨fun j hj => hb j om, om⟩, fun h => by have := h.2; omega⟩)
theorem lf {s : ByteArray} (hs : s.size ≤ 140737488351232) : au Try.prog 115 [.v (.string s)] [] [] (fun r o => r = .v (.bool (decide (ks s))) ∧ o = []) := by
 refine au.of Try.func115 rfl rfl rfl (n := 44) ae (aI rfl) (.sr ?_)
 refine .an ?_
 refine .nil (.seq (.sr ?_))
 refine .an ?_
 refine .nil (.block ?_)
 refine .fY (fun (bA : Nat) => ⟨[(0, .v (.string s)), (3, vi bA)], []⟩) (fun bA => ((bA : Int) ≤ (s.size : Int)) ∧ (∀ j, j < bA → ed (aK s j))) (fun bA => ((s.size : Int) - (bA : Int)).toNat) 0 (⟨om, by intro j h; omega⟩) (Le.mk (.c (.cons (aj rfl bf) .nil)) .nil) (fun bA th => ?_)
 obtain ⟨rz, hb⟩ := th
 refine .seq (.sr ?_)
 refine .mv ?_
 refine .mv ?_
 refine .vl (Y.qy Hw rfl) (.vl (Y.zc rfl rfl) (.nil ?_))
 refine .a8 rfl (fun c8 => ?_) (fun c8 => ?_)
 refine .skip ?_
 refine .nn (⟨[(0, .v (.string s)), (3, vi bA)], []⟩) (((97 ≤ ((aK s bA : Nat) : Int)) ∧ (((aK s bA : Nat) : Int) ≤ 122)) ∨ ((97 ≤ ((aK s bA : Nat) : Int)) ∧ (¬ (((aK s bA : Nat) : Int) ≤ 122)) ∧ (65 ≤ ((aK s bA : Nat) : Int)) ∧ (((aK s bA : Nat) : Int) ≤ 90)) ∨ ((97 ≤ ((aK s bA : Nat) : Int)) ∧ (¬ (((aK s bA : Nat) : Int) ≤ 122)) ∧ (65 ≤ ((aK s bA : Nat) : Int)) ∧ (¬ (((aK s bA : Nat) : Int) ≤ 90)) ∧ (48 ≤ ((aK s bA : Nat) : Int)) ∧ (((aK s bA : Nat) : Int) ≤ 57)) ∨ ((97 ≤ ((aK s bA : Nat) : Int)) ∧ (¬ (((aK s bA : Nat) : Int) ≤ 122)) ∧ (65 ≤ ((aK s bA : Nat) : Int)) ∧ (¬ (((aK s bA : Nat) : Int) ≤ 90)) ∧ (48 ≤ ((aK s bA : Nat) : Int)) ∧ (¬ (((aK s bA : Nat) : Int) ≤ 57)) ∧ (((aK s bA : Nat) : Int) = 95)) ∨ ((97 ≤ ((aK s bA : Nat) : Int)) ∧ (¬ (((aK s bA : Nat) : Int) ≤ 122)) ∧ (65 ≤ ((aK s bA : Nat) : Int)) ∧ (¬ (((aK s bA : Nat) : Int) ≤ 90)) ∧ (¬ (48 ≤ ((aK s bA : Nat) : Int))) ∧ (((aK s bA : Nat) : Int) = 95)) ∨ ((97 ≤ ((aK s bA : Nat) : Int)) ∧ (¬ (((aK s bA : Nat) : Int) ≤ 122)) ∧ (¬ (65 ≤ ((aK s bA : Nat) : Int))) ∧ (48 ≤ ((aK s bA : Nat) : Int)) ∧ (((aK s bA : Nat) : Int) ≤ 57)) ∨ ((97 ≤ ((aK s bA : Nat) : Int)) ∧ (¬ (((aK s bA : Nat) : Int) ≤ 122)) ∧ (¬ (65 ≤ ((aK s bA : Nat) : Int))) ∧ (48 ≤ ((aK s bA : Nat) : Int)) ∧ (¬ (((aK s bA : Nat) : Int) ≤ 57)) ∧ (((aK s bA : Nat) : Int) = 95)) ∨ ((97 ≤ ((aK s bA : Nat) : Int)) ∧ (¬ (((aK s bA : Nat) : Int) ≤ 122)) ∧ (¬ (65 ≤ ((aK s bA : Nat) : Int))) ∧ (¬ (48 ≤ ((aK s bA : Nat) : Int))) ∧ (((aK s bA : Nat) : Int) = 95)) ∨ ((¬ (97 ≤ ((aK s bA : Nat) : Int))) ∧ (65 ≤ ((aK s bA : Nat) : Int)) ∧ (((aK s bA : Nat) : Int) ≤ 90)) ∨ ((¬ (97 ≤ ((aK s bA : Nat) : Int))) ∧ (65 ≤ ((aK s bA : Nat) : Int)) ∧ (¬ (((aK s bA : Nat) : Int) ≤ 90)) ∧ (48 ≤ ((aK s bA : Nat) : Int)) ∧ (((aK s bA : Nat) : Int) ≤ 57)) ∨ ((¬ (97 ≤ ((aK s bA : Nat) : Int))) ∧ (65 ≤ ((aK s bA : Nat) : Int)) ∧ (¬ (((aK s bA : Nat) : Int) ≤ 90)) ∧ (48 ≤ ((aK s bA : Nat) : Int)) ∧ (¬ (((aK s bA : Nat) : Int) ≤ 57)) ∧ (((aK s bA : Nat) : Int) = 95)) ∨ ((¬ (97 ≤ ((aK s bA : Nat) : Int))) ∧ (65 ≤ ((aK s bA : Nat) : Int)) ∧ (¬ (((aK s bA : Nat) : Int) ≤ 90)) ∧ (¬ (48 ≤ ((aK s bA : Nat) : Int))) ∧ (((aK s bA : Nat) : Int) = 95)) ∨ ((¬ (97 ≤ ((aK s bA : Nat) : Int))) ∧ (¬ (65 ≤ ((aK s bA : Nat) : Int))) ∧ (48 ≤ ((aK s bA : Nat) : Int)) ∧ (((aK s bA : Nat) : Int) ≤ 57)) ∨ ((¬ (97 ≤ ((aK s bA : Nat) : Int))) ∧ (¬ (65 ≤ ((aK s bA : Nat) : Int))) ∧ (48 ≤ ((aK s bA : Nat) : Int)) ∧ (¬ (((aK s bA : Nat) : Int) ≤ 57)) ∧ (((aK s bA : Nat) : Int) = 95)) ∨ ((¬ (97 ≤ ((aK s bA : Nat) : Int))) ∧ (¬ (65 ≤ ((aK s bA : Nat) : Int))) ∧ (¬ (48 ≤ ((aK s bA : Nat) : Int))) ∧ (((aK s bA : Nat) : Int) = 95))) ?_ (fun Uf => ?_)
 refine .block (.sr ?_)
 refine .mv ?_
 refine .mv ?_
 refine .vl (Y.qw (m := bA) Hw rfl rfl bf om) ?_
 refine .an ?_
 refine .nil (.sr ?_)
 refine .mv ?_
 refine .vl (Y.qq rfl rfl) ?_
 refine .mv ?_
 refine .ax (d := 16) rfl (fun ot => ?_) (fun ot => ?_)
 refine .gw 16 (Y.zg rfl rfl) (.gw 16 (Y.qz rfl rfl) ?_)
 refine .pk ?_
 refine .mv ?_
 refine .ax (d := 20) rfl (fun sA => ?_) (fun sA => ?_)
 refine .gz 20 (.gz 20 (.gz 20 ?_))
 refine .gz 23 (.gz 23 (.gz 20 ?_))
 refine .pk ?_
 refine .mv ?_
 refine .gz 28 (.gz 28 (.gz 28 ?_))
 refine .gz 31 (.gz 31 (.gz 28 ?_))
 refine .pk ?_
 refine .mv ?_
 refine .gz 36 (.gz 36 ?_)
 refine .pk ?_
 refine .vl (Y.zm rfl) (.nil (.bO rfl ?_))
 refine .skip (⟨.inl ⟨ot, sA⟩, Le.mk (.c (.c .nil)) .nil⟩)
 refine .gw 20 (Y.zg rfl rfl) (.gw 20 (Y.qq rfl rfl) (.gw 20 (Y.zg rfl rfl) ?_))
 refine .ax (d := 23) rfl (fun pK => ?_) (fun pK => ?_)
 refine .gw 23 (Y.zg rfl rfl) (.gw 23 (Y.qz rfl rfl) (.gw 20 (Y.zn rfl rfl rfl) ?_))
 refine .pk ?_
 refine .mv ?_
 refine .ax (d := 28) rfl (fun tm => ?_) (fun tm => ?_)
 refine .gz 28 (.gz 28 (.gz 28 ?_))
 refine .gz 31 (.gz 31 (.gz 28 ?_))
 refine .pk ?_
 refine .mv ?_
 refine .gz 36 (.gz 36 ?_)
 refine .pk ?_
 refine .vl (Y.zm rfl) (.nil (.bO rfl ?_))
 refine .skip (⟨.inr (.inl ⟨ot, sA, pK, tm⟩), Le.mk (.c (.c .nil)) .nil⟩)
 refine .gw 28 (Y.zg rfl rfl) (.gw 28 (Y.qq rfl rfl) (.gw 28 (Y.zg rfl rfl) ?_))
 refine .ax (d := 31) rfl (fun tp => ?_) (fun tp => ?_)
 refine .gw 31 (Y.zg rfl rfl) (.gw 31 (Y.qz rfl rfl) (.gw 28 (Y.zn rfl rfl rfl) ?_))
 refine .pk ?_
 refine .mv ?_
 refine .ax (d := 36) rfl (fun uc => ?_) (fun uc => ?_)
 refine .gz 36 (.gz 36 ?_)
 refine .pk ?_
 refine .vl (Y.zm rfl) (.nil (.bO rfl ?_))
 refine .skip (⟨.inr (.inr (.inl ⟨ot, sA, pK, tm, tp, uc⟩)), Le.mk (.c (.c .nil)) .nil⟩)
 refine .gw 36 (Y.zg rfl rfl) (.gw 36 (Y.ql rfl rfl) ?_)
 refine .pk ?_
 refine .vl (Y.zm rfl) (.nil ?_)
 refine .dB rfl (fun p7 => ?_) (fun p7 => ?_)
 refine .sr ?_
 refine .an ?_
 refine .nil (.ret ?_)
 exact .rb rfl (df (fun h => by have h1 := h.1 bA om; unfold ed at h1; omega))
 refine .skip (⟨.inr (.inr (.inr (.inl ⟨ot, sA, pK, tm, tp, uc, p7⟩))), Le.mk (.c (.c .nil)) .nil⟩)
 refine .gz 31 (.gz 31 (.gw 28 (Y.zn rfl rfl rfl) ?_))
 refine .pk ?_
 refine .mv ?_
 refine .gw 36 (Y.zg rfl rfl) (.gw 36 (Y.ql rfl rfl) ?_)
 refine .pk ?_
 refine .vl (Y.zm rfl) (.nil ?_)
 refine .dB rfl (fun p7 => ?_) (fun p7 => ?_)
 refine .sr ?_
 refine .an ?_
 refine .nil (.ret ?_)
 exact .rb rfl (df (fun h => by have h1 := h.1 bA om; unfold ed at h1; omega))
 refine .skip (⟨.inr (.inr (.inr (.inr (.inl ⟨ot, sA, pK, tm, tp, p7⟩)))), Le.mk (.c (.c .nil)) .nil⟩)
 refine .gz 23 (.gz 23 (.gw 20 (Y.zn rfl rfl rfl) ?_))
 refine .pk ?_
 refine .mv ?_
 refine .gw 28 (Y.zg rfl rfl) (.gw 28 (Y.qq rfl rfl) (.gw 28 (Y.zg rfl rfl) ?_))
 refine .ax (d := 31) rfl (fun tp => ?_) (fun tp => ?_)
 refine .gw 31 (Y.zg rfl rfl) (.gw 31 (Y.qz rfl rfl) (.gw 28 (Y.zn rfl rfl rfl) ?_))
 refine .pk ?_
 refine .mv ?_
 refine .ax (d := 36) rfl (fun uc => ?_) (fun uc => ?_)
 refine .gz 36 (.gz 36 ?_)
 refine .pk ?_
 refine .vl (Y.zm rfl) (.nil (.bO rfl ?_))
 refine .skip (⟨.inr (.inr (.inr (.inr (.inr (.inl ⟨ot, sA, pK, tp, uc⟩))))), Le.mk (.c (.c .nil)) .nil⟩)
 refine .gw 36 (Y.zg rfl rfl) (.gw 36 (Y.ql rfl rfl) ?_)
 refine .pk ?_
 refine .vl (Y.zm rfl) (.nil ?_)
 refine .dB rfl (fun p7 => ?_) (fun p7 => ?_)
 refine .sr ?_
 refine .an ?_
 refine .nil (.ret ?_)
 exact .rb rfl (df (fun h => by have h1 := h.1 bA om; unfold ed at h1; omega))
 refine .skip (⟨.inr (.inr (.inr (.inr (.inr (.inr (.inl ⟨ot, sA, pK, tp, uc, p7⟩)))))), Le.mk (.c (.c .nil)) .nil⟩)
 refine .gz 31 (.gz 31 (.gw 28 (Y.zn rfl rfl rfl) ?_))
 refine .pk ?_
 refine .mv ?_
 refine .gw 36 (Y.zg rfl rfl) (.gw 36 (Y.ql rfl rfl) ?_)
 refine .pk ?_
 refine .vl (Y.zm rfl) (.nil ?_)
 refine .dB rfl (fun p7 => ?_) (fun p7 => ?_)
 refine .sr ?_
 refine .an ?_
 refine .nil (.ret ?_)
 exact .rb rfl (df (fun h => by have h1 := h.1 bA om; unfold ed at h1; omega))
 refine .skip (⟨.inr (.inr (.inr (.inr (.inr (.inr (.inr (.inl ⟨ot, sA, pK, tp, p7⟩))))))), Le.mk (.c (.c .nil)) .nil⟩)
 refine .gz 16 (.gz 16 ?_)
 refine .pk ?_
 refine .mv ?_
 refine .gw 20 (Y.zg rfl rfl) (.gw 20 (Y.qq rfl rfl) (.gw 20 (Y.zg rfl rfl) ?_))
 refine .ax (d := 23) rfl (fun pK => ?_) (fun pK => ?_)
 refine .gw 23 (Y.zg rfl rfl) (.gw 23 (Y.qz rfl rfl) (.gw 20 (Y.zn rfl rfl rfl) ?_))
 refine .pk ?_
 refine .mv ?_
 refine .ax (d := 28) rfl (fun tm => ?_) (fun tm => ?_)
 refine .gz 28 (.gz 28 (.gz 28 ?_))
 refine .gz 31 (.gz 31 (.gz 28 ?_))
 refine .pk ?_
 refine .mv ?_
 refine .gz 36 (.gz 36 ?_)
 refine .pk ?_
 refine .vl (Y.zm rfl) (.nil (.bO rfl ?_))
 refine .skip (⟨.inr (.inr (.inr (.inr (.inr (.inr (.inr (.inr (.inl ⟨ot, pK, tm⟩)))))))), Le.mk (.c (.c .nil)) .nil⟩)
 refine .gw 28 (Y.zg rfl rfl) (.gw 28 (Y.qq rfl rfl) (.gw 28 (Y.zg rfl rfl) ?_))
 refine .ax (d := 31) rfl (fun tp => ?_) (fun tp => ?_)
 refine .gw 31 (Y.zg rfl rfl) (.gw 31 (Y.qz rfl rfl) (.gw 28 (Y.zn rfl rfl rfl) ?_))
 refine .pk ?_
 refine .mv ?_
 refine .ax (d := 36) rfl (fun uc => ?_) (fun uc => ?_)
 refine .gz 36 (.gz 36 ?_)
 refine .pk ?_
 refine .vl (Y.zm rfl) (.nil (.bO rfl ?_))
 refine .skip (⟨.inr (.inr (.inr (.inr (.inr (.inr (.inr (.inr (.inr (.inl ⟨ot, pK, tm, tp, uc⟩))))))))), Le.mk (.c (.c .nil)) .nil⟩)
 refine .gw 36 (Y.zg rfl rfl) (.gw 36 (Y.ql rfl rfl) ?_)
 refine .pk ?_
 refine .vl (Y.zm rfl) (.nil ?_)
 refine .dB rfl (fun p7 => ?_) (fun p7 => ?_)
 refine .sr ?_
 refine .an ?_
 refine .nil (.ret ?_)
 exact .rb rfl (df (fun h => by have h1 := h.1 bA om; unfold ed at h1; omega))
 refine .skip (⟨.inr (.inr (.inr (.inr (.inr (.inr (.inr (.inr (.inr (.inr (.inl ⟨ot, pK, tm, tp, uc, p7⟩)))))))))), Le.mk (.c (.c .nil)) .nil⟩)
 refine .gz 31 (.gz 31 (.gw 28 (Y.zn rfl rfl rfl) ?_))
 refine .pk ?_
 refine .mv ?_
 refine .gw 36 (Y.zg rfl rfl) (.gw 36 (Y.ql rfl rfl) ?_)
 refine .pk ?_
 refine .vl (Y.zm rfl) (.nil ?_)
 refine .dB rfl (fun p7 => ?_) (fun p7 => ?_)
 refine .sr ?_
 refine .an ?_
 refine .nil (.ret ?_)
 exact .rb rfl (df (fun h => by have h1 := h.1 bA om; unfold ed at h1; omega))
 refine .skip (⟨.inr (.inr (.inr (.inr (.inr (.inr (.inr (.inr (.inr (.inr (.inr (.inl ⟨ot, pK, tm, tp, p7⟩))))))))))), Le.mk (.c (.c .nil)) .nil⟩)
 refine .gz 23 (.gz 23 (.gw 20 (Y.zn rfl rfl rfl) ?_))
 refine .pk ?_
 refine .mv ?_
 refine .gw 28 (Y.zg rfl rfl) (.gw 28 (Y.qq rfl rfl) (.gw 28 (Y.zg rfl rfl) ?_))
 refine .ax (d := 31) rfl (fun tp => ?_) (fun tp => ?_)
 refine .gw 31 (Y.zg rfl rfl) (.gw 31 (Y.qz rfl rfl) (.gw 28 (Y.zn rfl rfl rfl) ?_))
 refine .pk ?_
 refine .mv ?_
 refine .ax (d := 36) rfl (fun uc => ?_) (fun uc => ?_)
 refine .gz 36 (.gz 36 ?_)
 refine .pk ?_
 refine .vl (Y.zm rfl) (.nil (.bO rfl ?_))
 refine .skip (⟨.inr (.inr (.inr (.inr (.inr (.inr (.inr (.inr (.inr (.inr (.inr (.inr (.inl ⟨ot, pK, tp, uc⟩)))))))))))), Le.mk (.c (.c .nil)) .nil⟩)
 refine .gw 36 (Y.zg rfl rfl) (.gw 36 (Y.ql rfl rfl) ?_)
 refine .pk ?_
 refine .vl (Y.zm rfl) (.nil ?_)
 refine .dB rfl (fun p7 => ?_) (fun p7 => ?_)
 refine .sr ?_
 refine .an ?_
 refine .nil (.ret ?_)
 exact .rb rfl (df (fun h => by have h1 := h.1 bA om; unfold ed at h1; omega))
 refine .skip (⟨.inr (.inr (.inr (.inr (.inr (.inr (.inr (.inr (.inr (.inr (.inr (.inr (.inr (.inl ⟨ot, pK, tp, uc, p7⟩))))))))))))), Le.mk (.c (.c .nil)) .nil⟩)
 refine .gz 31 (.gz 31 (.gw 28 (Y.zn rfl rfl rfl) ?_))
 refine .pk ?_
 refine .mv ?_
 refine .gw 36 (Y.zg rfl rfl) (.gw 36 (Y.ql rfl rfl) ?_)
 refine .pk ?_
 refine .vl (Y.zm rfl) (.nil ?_)
 refine .dB rfl (fun p7 => ?_) (fun p7 => ?_)
 refine .sr ?_
 refine .an ?_
 refine .nil (.ret ?_)
 exact .rb rfl (df (fun h => by have h1 := h.1 bA om; unfold ed at h1; omega))
 refine .skip (⟨.inr (.inr (.inr (.inr (.inr (.inr (.inr (.inr (.inr (.inr (.inr (.inr (.inr (.inr (⟨ot, pK, tp, p7⟩)))))))))))))), Le.mk (.c (.c .nil)) .nil⟩)
 refine .region ?_
 refine .mv ?_
 refine .vl (Y.qb rfl rfl bw) ?_
 refine .an ?_
 refine .nil (⟨bA + 1, ⟨om, rV hb (by unfold ed; omega)⟩, om, Le.mk (.c (.cons (aj rfl bf) .nil)) .nil⟩)
 refine .exit (.sr ?_)
 refine .mv ?_
 refine .vl (Y.qy Hw rfl) (.vl (Y.qz rfl rfl) ?_)
 refine .an ?_
 refine .nil (.ret ?_)
 exact .rb rfl (dd ⟨fun h => ⟨fun j hj => hb j om, om⟩, fun h => by have := h.2; omega⟩)
theorem lg {op : Int} : au Try.prog 124 [vi op] [] [] (fun r o => r = (vi (dc op)) ∧ o = []) := by
 refine au.of Try.func124 rfl rfl rfl (n := 25) ae (aI rfl) (.sr ?_)
 refine .an ?_
 refine .nil (.seq (.sr ?_))
 refine .mv ?_
 refine .nil (.block (.seq ?_))
 refine .sr (.vl (Y.ql rfl rfl) ?_)
 refine .an ?_
 refine .nil ?_
 refine .bx rfl (fun c4 => ?_) (fun c4 => ?_)
 refine .skip (.aM rfl (.sr ?_))
 refine .an ?_
 refine .nil (.ret ?_)
 exact .ri rfl (by simp only [dc]; omega)
 refine .sr (.vl (Y.ql rfl rfl) ?_)
 refine .an ?_
 refine .nil ?_
 refine .bx rfl (fun c4 => ?_) (fun c4 => ?_)
 refine .skip (.aM rfl (.sr ?_))
 refine .an ?_
 refine .nil (.ret ?_)
 exact .ri rfl (by simp only [dc]; omega)
 refine .sr (.vl (Y.ql rfl rfl) ?_)
 refine .an ?_
 refine .nil ?_
 refine .bx rfl (fun c4 => ?_) (fun c4 => ?_)
 refine .skip (.aM rfl (.sr ?_))
 refine .an ?_
 refine .nil (.ret ?_)
 exact .ri rfl (by simp only [dc]; omega)
 refine .sr (.vl (Y.ql rfl rfl) ?_)
 refine .an ?_
 refine .nil ?_
 refine .bx rfl (fun c4 => ?_) (fun c4 => ?_)
 refine .skip (.aM rfl (.sr ?_))
 refine .an ?_
 refine .nil (.ret ?_)
 exact .ri rfl (by simp only [dc]; omega)
 refine .sr (.vl (Y.ql rfl rfl) ?_)
 refine .an ?_
 refine .nil ?_
 refine .bx rfl (fun c4 => ?_) (fun c4 => ?_)
 refine .skip (.aM rfl (.sr ?_))
 refine .an ?_
 refine .nil (.ret ?_)
 exact .ri rfl (by simp only [dc]; omega)
 refine .sr (.vl (Y.ql rfl rfl) ?_)
 refine .an ?_
 refine .nil ?_
 refine .bx rfl (fun c4 => ?_) (fun c4 => ?_)
 refine .skip (.aM rfl (.sr ?_))
 refine .an ?_
 refine .nil (.ret ?_)
 exact .ri rfl (by simp only [dc]; omega)
 refine .sr (.vl (Y.ql rfl rfl) ?_)
 refine .an ?_
 refine .nil ?_
 refine .bx rfl (fun c4 => ?_) (fun c4 => ?_)
 refine .skip (.aM rfl (.sr ?_))
 refine .an ?_
 refine .nil (.ret ?_)
 exact .ri rfl (by simp only [dc]; omega)
 refine .sr (.vl (Y.ql rfl rfl) ?_)
 refine .an ?_
 refine .nil ?_
 refine .bx rfl (fun c4 => ?_) (fun c4 => ?_)
 refine .skip (.aM rfl (.sr ?_))
 refine .an ?_
 refine .nil (.ret ?_)
 exact .ri rfl (by simp only [dc]; omega)
 refine .sr (.vl (Y.ql rfl rfl) ?_)
 refine .an ?_
 refine .nil ?_
 refine .bx rfl (fun c4 => ?_) (fun c4 => ?_)
 refine .skip (.aM rfl (.sr ?_))
 refine .an ?_
 refine .nil (.ret ?_)
 exact .ri rfl (by simp only [dc]; omega)
 refine .sr (.vl (Y.ql rfl rfl) ?_)
 refine .an ?_
 refine .nil ?_
 refine .bx rfl (fun c4 => ?_) (fun c4 => ?_)
 refine .skip (.aM rfl (.sr ?_))
 refine .an ?_
 refine .nil (.ret ?_)
 exact .ri rfl (by simp only [dc]; omega)
 refine .sr (.vl (Y.ql rfl rfl) ?_)
 refine .an ?_
 refine .nil ?_
 refine .bx rfl (fun c4 => ?_) (fun c4 => ?_)
 refine .skip (.aM rfl (.sr ?_))
 refine .an ?_
 refine .nil (.ret ?_)
 exact .ri rfl (by simp only [dc]; omega)
 refine .sr (.vl (Y.ql rfl rfl) ?_)
 refine .an ?_
 refine .nil ?_
 refine .bx rfl (fun c4 => ?_) (fun c4 => ?_)
 refine .skip (.aM rfl (.sr ?_))
 refine .an ?_
 refine .nil (.ret ?_)
 exact .ri rfl (by simp only [dc]; omega)
 refine .sr (.vl (Y.ql rfl rfl) ?_)
 refine .an ?_
 refine .nil ?_
 refine .bx rfl (fun c4 => ?_) (fun c4 => ?_)
 refine .skip (.aM rfl (.sr ?_))
 refine .an ?_
 refine .nil (.ret ?_)
 exact .ri rfl (by simp only [dc]; omega)
 refine .region (.vl (Y.ql rfl rfl) ?_)
 refine .an ?_
 refine .nil ?_
 refine .bx rfl (fun c4 => ?_) (fun c4 => ?_)
 refine .sr ?_
 refine .an ?_
 refine .nil (.ret ?_)
 exact .ri rfl (by simp only [dc]; omega)
 refine .sr (.vl (Y.ql rfl rfl) ?_)
 refine .an ?_
 refine .nil ?_
 refine .a8 rfl (fun oq => ?_) (fun oq => ?_)
 refine .sr ?_
 refine .an ?_
 refine .nil (.ret ?_)
 exact .ri rfl (by simp only [dc]; omega)
 refine .seq (.sr (.vl (Y.ql rfl rfl) ?_))
 refine .an ?_
 refine .nil ?_
 refine .bx rfl (fun xG => ?_) (fun xG => ?_)
 refine .skip (.aM rfl (.sr ?_))
 refine .an ?_
 refine .nil (.ret ?_)
 exact .ri rfl (by simp only [dc]; omega)
 refine .sr (.vl (Y.ql rfl rfl) ?_)
 refine .an ?_
 refine .nil ?_
 refine .bx rfl (fun xG => ?_) (fun xG => ?_)
 refine .skip (.aM rfl (.sr ?_))
 refine .an ?_
 refine .nil (.ret ?_)
 exact .ri rfl (by simp only [dc]; omega)
 refine .region (.vl (Y.ql rfl rfl) ?_)
 refine .an ?_
 refine .nil ?_
 refine .bx rfl (fun xG => ?_) (fun xG => ?_)
 refine .sr ?_
 refine .an ?_
 refine .nil (.ret ?_)
 exact .ri rfl (by simp only [dc]; omega)
 refine .skip (.sr ?_)
 refine .an ?_
 refine .nil (.ret ?_)
 exact .ri rfl (by simp only [dc]; omega)
open Go Go.AW Go.Proofs
theorem wb {w : Int} : au Try.prog 127 [vi w] [] [] (fun r o => r = (vi ((fO w : Nat) : Int)) ∧ o = []) := by
 refine au.of Try.func127 rfl rfl rfl (n := 6) ae (aI rfl) (.sr ?_)
 refine .an ?_
 refine .nil (.sr ?_)
 refine .mv ?_
 refine .vl (Y.ze rfl rfl rfl) (.vl (Y.zf rfl rfl rfl) ?_)
 refine .an ?_
 refine .nil (.ret ?_)
 exact .ri rfl (by unfold fO; (repeat' split) <;> omega)
theorem rj {w : Int} : au Try.prog 104 [vi w] [] [] (fun r o => r = (vi ((fO w : Nat) : Int)) ∧ o = []) := by
 refine au.of Try.func104 rfl rfl rfl (n := 6) ae (aI rfl) (.sr ?_)
 refine .an ?_
 refine .nil (.sr ?_)
 refine .mv ?_
 refine .vl (Y.ze rfl rfl rfl) (.vl (Y.zf rfl rfl rfl) ?_)
 refine .an ?_
 refine .nil (.ret ?_)
 exact .ri rfl (by unfold fO; (repeat' split) <;> omega)
theorem Ae {w : Int} : au Try.prog 103 [vi w] [] [] (fun r o => r = .v (.int .u64 ((2 ^ fO w - 1 : Nat) : Int)) ∧ o = []) := by
 refine au.of Try.func103 rfl rfl rfl (n := 10) ae (aI rfl) ?_
 have hl := jl w
 refine .sr ?_
 refine .an ?_
 refine .nil (.seq (.sr ?_))
 refine .mv ?_
 refine .aH Kq (wb (w := w)) rfl (.ah rfl rfl .nil) ae rfl ?_
 refine .an ?_
 refine .nil (.sr ?_)
 refine .mv ?_
 refine .vl (Y.ql rfl rfl) (.nil ?_)
 refine .a8 rfl (fun c6 => ?_) (fun c6 => ?_)
 refine .sr ?_
 refine .an ?_
 refine .nil (.ret ?_)
 exact .ri rfl (by rw [show fO w = 0 by omega]; rfl)
 refine .skip (.sr ?_)
 refine .mv ?_
 refine .vl (Y.zz rfl rfl bw) (.vl (Y.zv (a := 18446744073709551615) ((64 - ((fO w : Nat) : Int)).toNat) rfl rfl om om) ?_)
 refine .an ?_
 refine .nil (.ret ?_)
 exact .ri rfl (by rw [show ((64 : Int) - ((fO w : Nat) : Int)).toNat = 64 - fO w by omega, Ee])
theorem jX {w : Int} {x : Nat} (hx : x < 18446744073709551616) : au Try.prog 65 [vi w, .v (.int .u64 (x : Int))] [] [] (fun r o => r = .v (.int .u64 ((kP w x : Nat) : Int)) ∧ o = []) := by
 refine au.of Try.func65 rfl rfl rfl (n := 9) ae (aI rfl) ?_
 have hm := Ef w
 refine .sr ?_
 refine .an ?_
 refine .nil (.sr ?_)
 refine .mv ?_
 refine .mv ?_
 refine .aH Ki (Ae (w := w)) rfl (.ah rfl rfl .nil) ae rfl (.vl (Y.qe (a := x) (b := (2 ^ fO w - 1)) rfl rfl om) ?_)
 refine .an ?_
 refine .nil (.ret ?_)
 exact .ri rfl (by rw [BD])
theorem n4 {w : Int} : au Try.prog 74 [vi w] [] [] (fun r o => r = .v (.bool (decide (ga w))) ∧ o = []) := by
 refine au.of Try.func74 rfl rfl rfl (n := 9) ae (aI rfl) (.sr ?_)
 refine .an ?_
 refine .nil (.sr ?_)
 refine .mv ?_
 refine .vl (Y.qq rfl rfl) ?_
 refine .mv ?_
 refine .ax (d := 5) rfl (fun c5 => ?_) (fun c5 => ?_)
 refine .gw 5 (Y.zg rfl rfl) (.gw 5 (Y.qz rfl rfl) ?_)
 refine .pk ?_
 refine .an ?_
 refine .nil (.ret ?_)
 exact .rb rfl (dd (by (simp only [ga]) <;> (first | omega | grind)))
 refine .gz 5 (.gz 5 ?_)
 refine .pk ?_
 refine .an ?_
 refine .nil (.ret ?_)
 exact .rb rfl (df (by (simp only [ga]) <;> (first | omega | grind)))
theorem iI {w : Int} : au Try.prog 77 [vi w] [] [] (fun r o => r = .v (.bool (decide (ga w))) ∧ o = []) := by
 refine au.of Try.func77 rfl rfl rfl (n := 9) ae (aI rfl) (.sr ?_)
 refine .an ?_
 refine .nil (.sr ?_)
 refine .mv ?_
 refine .vl (Y.qq rfl rfl) ?_
 refine .mv ?_
 refine .ax (d := 5) rfl (fun c5 => ?_) (fun c5 => ?_)
 refine .gw 5 (Y.zg rfl rfl) (.gw 5 (Y.qz rfl rfl) ?_)
 refine .pk ?_
 refine .an ?_
 refine .nil (.ret ?_)
 exact .rb rfl (dd (by (simp only [ga]) <;> (first | omega | grind)))
 refine .gz 5 (.gz 5 ?_)
 refine .pk ?_
 refine .an ?_
 refine .nil (.ret ?_)
 exact .rb rfl (df (by (simp only [ga]) <;> (first | omega | grind)))
theorem tq {w : Int} : au Try.prog 132 [vi w] [] [] (fun r o => r = .v (.bool (decide (BG w))) ∧ o = []) := by
 refine au.of Try.func132 rfl rfl rfl (n := 9) ae (aI rfl) (.sr ?_)
 refine .an ?_
 refine .nil (.sr ?_)
 refine .mv ?_
 refine .vl (Y.qq rfl rfl) ?_
 refine .mv ?_
 refine .ax (d := 5) rfl (fun c5 => ?_) (fun c5 => ?_)
 refine .gw 5 (Y.zg rfl rfl) (.gw 5 (Y.qz rfl rfl) ?_)
 refine .pk ?_
 refine .an ?_
 refine .nil (.ret ?_)
 exact .rb rfl (dd (by (simp only [BG]) <;> (first | omega | grind)))
 refine .gz 5 (.gz 5 ?_)
 refine .pk ?_
 refine .an ?_
 refine .nil (.ret ?_)
 exact .rb rfl (df (by (simp only [BG]) <;> (first | omega | grind)))
theorem fD {w : Int} : au Try.prog 118 [vi w] [] [] (fun r o => r = .v (.bool (decide (Unary w))) ∧ o = []) := by
 refine au.of Try.func118 rfl rfl rfl (n := 13) ae (aI rfl) (.sr ?_)
 refine .an ?_
 refine .nil (.sr ?_)
 refine .mv ?_
 refine .vl (Y.ql rfl rfl) ?_
 refine .mv ?_
 refine .ax (d := 5) rfl (fun c5 => ?_) (fun c5 => ?_)
 refine .gz 5 (.gz 5 ?_)
 refine .pk ?_
 refine .mv ?_
 refine .gz 9 (.gz 9 ?_)
 refine .pk ?_
 refine .an ?_
 refine .nil (.ret ?_)
 exact .rb rfl (dt (by (simp only [Unary]) <;> (first | omega | grind)))
 refine .gw 5 (Y.zg rfl rfl) (.gw 5 (Y.ql rfl rfl) ?_)
 refine .pk ?_
 refine .mv ?_
 refine .ax (d := 9) rfl (fun c9 => ?_) (fun c9 => ?_)
 refine .gz 9 (.gz 9 ?_)
 refine .pk ?_
 refine .an ?_
 refine .nil (.ret ?_)
 exact .rb rfl (dt (by (simp only [Unary]) <;> (first | omega | grind)))
 refine .gw 9 (Y.zg rfl rfl) (.gw 9 (Y.ql rfl rfl) ?_)
 refine .pk ?_
 refine .an ?_
 refine .nil (.ret ?_)
 exact .rb rfl (dd (by (simp only [Unary]) <;> (first | omega | grind)))
theorem mE {w : Int} : au Try.prog 120 [vi w] [] [] (fun r o => r = .v (.bool (decide (Seq w))) ∧ o = []) := by
 refine au.of Try.func120 rfl rfl rfl (n := 9) ae (aI rfl) (.sr ?_)
 refine .an ?_
 refine .nil (.sr ?_)
 refine .mv ?_
 refine .vl (Y.qq rfl rfl) ?_
 refine .mv ?_
 refine .ax (d := 5) rfl (fun c5 => ?_) (fun c5 => ?_)
 refine .gw 5 (Y.zg rfl rfl) (.gw 5 (Y.qz rfl rfl) ?_)
 refine .pk ?_
 refine .an ?_
 refine .nil (.ret ?_)
 exact .rb rfl (dd (by (simp only [Seq]) <;> (first | omega | grind)))
 refine .gz 5 (.gz 5 ?_)
 refine .pk ?_
 refine .an ?_
 refine .nil (.ret ?_)
 exact .rb rfl (df (by (simp only [Seq]) <;> (first | omega | grind)))
theorem jY {w : Int} : au Try.prog 21 [vi w] [] [] (fun r o => r = .v (.bool (decide (bJ w))) ∧ o = []) := by
 refine au.of Try.func21 rfl rfl rfl (n := 13) ae (aI rfl) (.sr ?_)
 refine .an ?_
 refine .nil (.sr ?_)
 refine .mv ?_
 refine .vl (Y.ql rfl rfl) ?_
 refine .mv ?_
 refine .ax (d := 5) rfl (fun c5 => ?_) (fun c5 => ?_)
 refine .gz 5 (.gz 5 ?_)
 refine .pk ?_
 refine .mv ?_
 refine .gz 9 (.gz 9 ?_)
 refine .pk ?_
 refine .an ?_
 refine .nil (.ret ?_)
 exact .rb rfl (dt (by (simp only [bJ]) <;> (first | omega | grind)))
 refine .gw 5 (Y.zg rfl rfl) (.gw 5 (Y.ql rfl rfl) ?_)
 refine .pk ?_
 refine .mv ?_
 refine .ax (d := 9) rfl (fun c9 => ?_) (fun c9 => ?_)
 refine .gz 9 (.gz 9 ?_)
 refine .pk ?_
 refine .an ?_
 refine .nil (.ret ?_)
 exact .rb rfl (dt (by (simp only [bJ]) <;> (first | omega | grind)))
 refine .gw 9 (Y.zg rfl rfl) (.gw 9 (Y.ql rfl rfl) ?_)
 refine .pk ?_
 refine .an ?_
 refine .nil (.ret ?_)
 exact .rb rfl (dd (by (simp only [bJ]) <;> (first | omega | grind)))
theorem jU {w : Int} : au Try.prog 22 [vi w] [] [] (fun r o => r = .v (.bool (decide (bJ w))) ∧ o = []) := by
 refine au.of Try.func22 rfl rfl rfl (n := 13) ae (aI rfl) (.sr ?_)
 refine .an ?_
 refine .nil (.sr ?_)
 refine .mv ?_
 refine .vl (Y.ql rfl rfl) ?_
 refine .mv ?_
 refine .ax (d := 5) rfl (fun c5 => ?_) (fun c5 => ?_)
 refine .gz 5 (.gz 5 ?_)
 refine .pk ?_
 refine .mv ?_
 refine .gz 9 (.gz 9 ?_)
 refine .pk ?_
 refine .an ?_
 refine .nil (.ret ?_)
 exact .rb rfl (dt (by (simp only [bJ]) <;> (first | omega | grind)))
 refine .gw 5 (Y.zg rfl rfl) (.gw 5 (Y.ql rfl rfl) ?_)
 refine .pk ?_
 refine .mv ?_
 refine .ax (d := 9) rfl (fun c9 => ?_) (fun c9 => ?_)
 refine .gz 9 (.gz 9 ?_)
 refine .pk ?_
 refine .an ?_
 refine .nil (.ret ?_)
 exact .rb rfl (dt (by (simp only [bJ]) <;> (first | omega | grind)))
 refine .gw 9 (Y.zg rfl rfl) (.gw 9 (Y.ql rfl rfl) ?_)
 refine .pk ?_
 refine .an ?_
 refine .nil (.ret ?_)
 exact .rb rfl (dd (by (simp only [bJ]) <;> (first | omega | grind)))
theorem mb {w : Int} : au Try.prog 119 [vi w] [] [] (fun r o => r = .v (.bool (decide (Plain w))) ∧ o = []) := by
 refine au.of Try.func119 rfl rfl rfl (n := 18) ae (aI rfl) (.sr ?_)
 refine .an ?_
 refine .nil (.sr ?_)
 refine .mv ?_
 refine .aH Ku (tq (w := w)) rfl (.ah rfl rfl .nil) ae rfl ?_
 refine .mv ?_
 refine .ax (d := 5) rfl (fun c5 => ?_) (fun c5 => ?_)
 refine .gw 5 (Y.zg rfl rfl) (.ar (d := 5) rfl ae rfl (.aH FP (mE (w := w)) rfl (.ah rfl rfl .nil) ae rfl ?_))
 refine .gw 5 (Y.zm rfl) ?_
 refine .pk ?_
 refine .mv ?_
 refine .dP (d := 10) rfl (fun EE => ?_) (fun EE => ?_)
 refine .gz 10 (.gz 10 ?_)
 refine .pk ?_
 refine .mv ?_
 refine .gz 14 (.gz 14 ?_)
 refine .pk ?_
 refine .an ?_
 refine .nil (.ret ?_)
 exact .rb rfl (dt (by (simp only [Plain]) <;> (first | omega | grind)))
 refine .gw 10 (Y.zg rfl rfl) (.gw 10 (Y.ql rfl rfl) ?_)
 refine .pk ?_
 refine .mv ?_
 refine .ax (d := 14) rfl (fun Af => ?_) (fun Af => ?_)
 refine .gz 14 (.gz 14 ?_)
 refine .pk ?_
 refine .an ?_
 refine .nil (.ret ?_)
 exact .rb rfl (dt (by (simp only [Plain]) <;> (first | omega | grind)))
 refine .gw 14 (Y.zg rfl rfl) (.ar (d := 14) rfl ae rfl (.aH pw (fD (w := w)) rfl (.ah rfl rfl .nil) ae rfl ?_))
 refine .pk ?_
 refine .an ?_
 refine .nil (.ret ?_)
 exact .rb rfl (dd (by (simp only [Plain]) <;> (first | omega | grind)))
 refine .gz 5 (.gz 5 (.gz 5 ?_))
 refine .pk ?_
 refine .mv ?_
 refine .gw 10 (Y.zg rfl rfl) (.gw 10 (Y.ql rfl rfl) ?_)
 refine .pk ?_
 refine .mv ?_
 refine .ax (d := 14) rfl (fun Af => ?_) (fun Af => ?_)
 refine .gz 14 (.gz 14 ?_)
 refine .pk ?_
 refine .an ?_
 refine .nil (.ret ?_)
 exact .rb rfl (dt (by (simp only [Plain]) <;> (first | omega | grind)))
 refine .gw 14 (Y.zg rfl rfl) (.ar (d := 14) rfl ae rfl (.aH pw (fD (w := w)) rfl (.ah rfl rfl .nil) ae rfl ?_))
 refine .pk ?_
 refine .an ?_
 refine .nil (.ret ?_)
 exact .rb rfl (dd (by (simp only [Plain]) <;> (first | omega | grind)))
theorem cM {i n : Int} : au Try.prog 59 [vi i, vi n] [] [] (fun r o => r = .v (.bool (decide (In i n))) ∧ o = []) := by
 refine au.of Try.func59 rfl rfl rfl (n := 12) ae (aI rfl) (.sr ?_)
 refine .an ?_
 refine .nil (.sr ?_)
 refine .mv ?_
 refine .vl (Y.qq rfl rfl) ?_
 refine .mv ?_
 refine .ax (d := 7) rfl (fun c7 => ?_) (fun c7 => ?_)
 refine .gw 7 (Y.zg rfl rfl) (.gw 7 (Y.zg rfl rfl) (.gw 7 (Y.zc rfl rfl) ?_))
 refine .pk ?_
 refine .an ?_
 refine .nil (.ret ?_)
 exact .rb rfl (dd (by (simp only [In]) <;> (first | omega | grind)))
 refine .gz 7 (.gz 7 (.gz 7 ?_))
 refine .pk ?_
 refine .an ?_
 refine .nil (.ret ?_)
 exact .rb rfl (df (by (simp only [In]) <;> (first | omega | grind)))
open Go Go.AW Go.Proofs
theorem kB {x : Int} (h0 : 0 ≤ x) (h1 : x ≤ 256) : au Try.prog 79 [vi x] [] [] (fun r o => r = (vi ((fe x.toNat : Nat) : Int)) ∧ o = []) := by
 refine au.of Try.func79 rfl rfl rfl (n := 17) ae (aI rfl) (.sr ?_)
 refine .an ?_
 refine .nil (.sr ?_)
 refine .an ?_
 refine .nil (.seq (.sr ?_))
 refine .an ?_
 refine .nil (.block ?_)
 refine .e0 (fun (xH : Nat) (Ag : Nat) => ⟨[(0, vi x), (3, vi xH), (4, vi Ag)], []⟩) (fun xH Ag => (s6 x xH Ag)) (fun xH Ag => 9 - xH) 0 1 (s6.init) (Le.mk (.c (.cons (aj rfl bf) (.cons (aj rfl bf) .nil))) .nil) (fun xH Ag uR => ?_)
 have hL := uR
 refine .seq (.sr ?_)
 refine .mv ?_
 refine .mv ?_
 refine .vl (Y.zc rfl rfl) ?_
 refine .mv ?_
 refine .ax (d := 8) rfl (fun c8 => ?_) (fun c8 => ?_)
 refine .gw 8 (Y.zg rfl rfl) (.gw 8 (Y.zc rfl rfl) ?_)
 refine .pk ?_
 refine .nil ?_
 refine .a8 rfl (fun Gb => ?_) (fun Gb => ?_)
 refine .skip (.seq (.block ?_))
 have h5 := hL.le h1
 refine .region ?_
 refine .mv ?_
 refine .vl (Y.qb rfl rfl bw) ?_
 refine .an ?_
 refine .nil (.region ?_)
 refine .mv ?_
 refine .vl (Y.zi rfl rfl om) ?_
 refine .an ?_
 refine .nil ⟨xH + 1, 2 * Ag, hL.step bm, om, Le.mk (.c (.cons (aj rfl bf) (.cons (aj rfl bf) .nil))) .nil⟩
 refine .exit (.sr ?_)
 refine .mv ?_
 refine .an ?_
 refine .nil (.ret ?_)
 exact .ri rfl (congrArg Nat.cast (hL.done h0 (by have h9 := hL.le h1; omega)))
 refine .gz 8 (.gz 8 ?_)
 refine .pk ?_
 refine .nil (.bO rfl (.exit ?_))
 refine .sr ?_
 refine .mv ?_
 refine .an ?_
 refine .nil (.ret ?_)
 exact .ri rfl (congrArg Nat.cast (hL.done h0 (by have h9 := hL.le h1; omega)))
theorem dF {a b c : Int} : au Try.prog 110 [vi a, vi b, vi c] [] [] (fun r o => r = .agg [vi 0, vi a, vi b, vi 0, vi 0, vi c] ∧ o = []) := by
 refine au.of Try.func110 rfl rfl rfl (n := 11) ae (aI rfl) (.sr (.alloc 106 jM rfl rfl ae ?_))
 refine .nil (.sr ?_)
 refine .mv ?_
 refine .mv ?_
 refine .mv ?_
 refine .vl (Y.qh nz jM rfl rfl rfl) (.ak cO rfl rfl rfl rfl rfl rfl (aI rfl) rfl (.nil ?_))
 refine .ret ⟨_, _, rfl, rfl, rfl, rfl⟩
theorem xI {op x : Int} (hp : Plain op) (h0 : 1 ≤ x) (h1 : x ≤ 64) : au Try.prog 78 [vi op, vi x] [] [] (fun r o => ∃ c : Int, r = .agg [vi 0, vi x, vi (aQ op x.toNat), vi 0, vi 0, vi c] ∧ o = []) := by
 refine au.of Try.func78 rfl rfl rfl (n := 161) ae (aI rfl) ?_
 have EF := hp; unfold Plain BG Seq Unary at EF; have AK := q8 (n := x.toNat) om; have HE := q8 (n := (x + 1).toNat) om; have hle : (x + 1).toNat = x.toNat + 1 := om; have Ov := rI h0 h1 AK; have Mu := rI h0 h1 HE
 refine .sr (.alloc 104 jM rfl rfl ae (.nil ?_))
 refine .sr ?_
 refine .mv ?_
 refine .aH Ho (kB (x := x) (om) (om)) rfl (.ah rfl rfl .nil) ae rfl ?_
 refine .mv ?_
 refine .vl (Y.qb rfl rfl bw) (.aH Ho (kB (x := (x + 1)) (om) (om)) rfl (.ah rfl rfl .nil) ae rfl ?_)
 refine .an ?_
 refine .an ?_
 refine .nil (.seq (.sr ?_))
 refine .mv ?_
 refine .nil (.block (.sr ?_))
 refine .vl (Y.ql rfl rfl) ?_
 refine .an ?_
 refine .nil ?_
 refine .a8 rfl (fun wL => ?_) (fun wL => ?_)
 refine .sr ?_
 refine .mv ?_
 refine .mv ?_
 refine .vl (Y.zi rfl rfl om) (.vl (Y.qb rfl rfl bw) ?_)
 refine .mv ?_
 refine .vl (Y.zi rfl rfl om) ?_
 refine .mv ?_
 refine .vl (Y.zi rfl rfl om) ?_
 refine .mv ?_
 refine .vl (Y.zi rfl rfl om) (.vl (Y.qb rfl rfl bw) ?_)
 refine .aH jL (dF (a := x) (b := (40 + (40 * ((fe x.toNat : Nat) : Int)))) (c := ((3 * x) + ((3 * x) * ((fe x.toNat : Nat) : Int))))) rfl (.ah rfl rfl (.ah rfl rfl (.ah rfl rfl .nil))) ae rfl (.ak cO rfl rfl rfl rfl rfl rfl (aI rfl) rfl (.nil ?_))
 refine .ret ?_
 first | (exfalso; omega) | exact ⟨_, _, rfl, rfl, (3 * x) + ((3 * x) * ((fe x.toNat : Nat) : Int)), by rw [show aQ op x.toNat = 40 + (40 * ((fe x.toNat : Nat) : Int)) by (try rw [hle]); unfold aQ; (repeat' split) <;> omega]; rfl, rfl⟩
 refine .sr (.vl (Y.ql rfl rfl) ?_)
 refine .an ?_
 refine .nil ?_
 refine .a8 rfl (fun xF => ?_) (fun xF => ?_)
 refine .sr ?_
 refine .mv ?_
 refine .mv ?_
 refine .vl (Y.zi rfl rfl om) (.vl (Y.qb rfl rfl bw) ?_)
 refine .mv ?_
 refine .vl (Y.zi rfl rfl om) ?_
 refine .mv ?_
 refine .vl (Y.zi rfl rfl om) ?_
 refine .mv ?_
 refine .vl (Y.zi rfl rfl om) (.vl (Y.qb rfl rfl bw) ?_)
 refine .aH jL (dF (a := x) (b := (50 + (40 * ((fe x.toNat : Nat) : Int)))) (c := ((4 * x) + ((3 * x) * ((fe x.toNat : Nat) : Int))))) rfl (.ah rfl rfl (.ah rfl rfl (.ah rfl rfl .nil))) ae rfl (.ak cO rfl rfl rfl rfl rfl rfl (aI rfl) rfl (.nil ?_))
 refine .ret ?_
 first | (exfalso; omega) | exact ⟨_, _, rfl, rfl, (4 * x) + ((3 * x) * ((fe x.toNat : Nat) : Int)), by rw [show aQ op x.toNat = 50 + (40 * ((fe x.toNat : Nat) : Int)) by (try rw [hle]); unfold aQ; (repeat' split) <;> omega]; rfl, rfl⟩
 refine .seq (.sr (.vl (Y.ql rfl rfl) ?_))
 refine .an ?_
 refine .nil ?_
 refine .bx rfl (fun tt => ?_) (fun tt => ?_)
 refine .skip (.aM rfl (.sr ?_))
 refine .mv ?_
 refine .mv ?_
 refine .aH jL (dF (a := x) (b := 20) (c := x)) rfl (.ah rfl rfl (.ah rfl rfl (.ah rfl rfl .nil))) ae rfl (.ak cO rfl rfl rfl rfl rfl rfl (aI rfl) rfl (.nil ?_))
 refine .ret ?_
 first | (exfalso; omega) | exact ⟨_, _, rfl, rfl, x, by rw [show aQ op x.toNat = 20 by (try rw [hle]); unfold aQ; (repeat' split) <;> omega]; rfl, rfl⟩
 refine .sr (.vl (Y.ql rfl rfl) ?_)
 refine .an ?_
 refine .nil ?_
 refine .bx rfl (fun tt => ?_) (fun tt => ?_)
 refine .skip (.aM rfl (.sr ?_))
 refine .mv ?_
 refine .mv ?_
 refine .aH jL (dF (a := x) (b := 20) (c := x)) rfl (.ah rfl rfl (.ah rfl rfl (.ah rfl rfl .nil))) ae rfl (.ak cO rfl rfl rfl rfl rfl rfl (aI rfl) rfl (.nil ?_))
 refine .ret ?_
 first | (exfalso; omega) | exact ⟨_, _, rfl, rfl, x, by rw [show aQ op x.toNat = 20 by (try rw [hle]); unfold aQ; (repeat' split) <;> omega]; rfl, rfl⟩
 refine .region (.vl (Y.ql rfl rfl) ?_)
 refine .an ?_
 refine .nil ?_
 refine .bx rfl (fun tt => ?_) (fun tt => ?_)
 refine .sr ?_
 refine .mv ?_
 refine .mv ?_
 refine .aH jL (dF (a := x) (b := 20) (c := x)) rfl (.ah rfl rfl (.ah rfl rfl (.ah rfl rfl .nil))) ae rfl (.ak cO rfl rfl rfl rfl rfl rfl (aI rfl) rfl (.nil ?_))
 refine .ret ?_
 first | (exfalso; omega) | exact ⟨_, _, rfl, rfl, x, by rw [show aQ op x.toNat = 20 by (try rw [hle]); unfold aQ; (repeat' split) <;> omega]; rfl, rfl⟩
 refine .seq (.sr (.vl (Y.ql rfl rfl) ?_))
 refine .an ?_
 refine .nil ?_
 refine .bx rfl (fun KU => ?_) (fun KU => ?_)
 refine .skip (.aM rfl (.sr ?_))
 refine .mv ?_
 refine .mv ?_
 refine .vl (Y.zi rfl rfl om) (.vl (Y.qb rfl rfl bw) ?_)
 refine .mv ?_
 refine .vl (Y.zi rfl rfl om) ?_
 refine .mv ?_
 refine .vl (Y.zi rfl rfl om) ?_
 refine .mv ?_
 refine .vl (Y.zi rfl rfl om) (.vl (Y.qb rfl rfl bw) ?_)
 refine .aH jL (dF (a := x) (b := (30 + (40 * ((fe x.toNat : Nat) : Int)))) (c := ((2 * x) + ((3 * x) * ((fe x.toNat : Nat) : Int))))) rfl (.ah rfl rfl (.ah rfl rfl (.ah rfl rfl .nil))) ae rfl (.ak cO rfl rfl rfl rfl rfl rfl (aI rfl) rfl (.nil ?_))
 refine .ret ?_
 first | (exfalso; omega) | exact ⟨_, _, rfl, rfl, (2 * x) + ((3 * x) * ((fe x.toNat : Nat) : Int)), by rw [show aQ op x.toNat = 30 + (40 * ((fe x.toNat : Nat) : Int)) by (try rw [hle]); unfold aQ; (repeat' split) <;> omega]; rfl, rfl⟩
 refine .region (.vl (Y.ql rfl rfl) ?_)
 refine .an ?_
 refine .nil ?_
 refine .bx rfl (fun KU => ?_) (fun KU => ?_)
 refine .sr ?_
 refine .mv ?_
 refine .mv ?_
 refine .vl (Y.zi rfl rfl om) (.vl (Y.qb rfl rfl bw) ?_)
 refine .mv ?_
 refine .vl (Y.zi rfl rfl om) ?_
 refine .mv ?_
 refine .vl (Y.zi rfl rfl om) ?_
 refine .mv ?_
 refine .vl (Y.zi rfl rfl om) (.vl (Y.qb rfl rfl bw) ?_)
 refine .aH jL (dF (a := x) (b := (30 + (40 * ((fe x.toNat : Nat) : Int)))) (c := ((2 * x) + ((3 * x) * ((fe x.toNat : Nat) : Int))))) rfl (.ah rfl rfl (.ah rfl rfl (.ah rfl rfl .nil))) ae rfl (.ak cO rfl rfl rfl rfl rfl rfl (aI rfl) rfl (.nil ?_))
 refine .ret ?_
 first | (exfalso; omega) | exact ⟨_, _, rfl, rfl, (2 * x) + ((3 * x) * ((fe x.toNat : Nat) : Int)), by rw [show aQ op x.toNat = 30 + (40 * ((fe x.toNat : Nat) : Int)) by (try rw [hle]); unfold aQ; (repeat' split) <;> omega]; rfl, rfl⟩
 refine .sr (.vl (Y.ql rfl rfl) ?_)
 refine .an ?_
 refine .nil ?_
 refine .a8 rfl (fun tc => ?_) (fun tc => ?_)
 refine .sr ?_
 refine .mv ?_
 refine .mv ?_
 refine .vl (Y.zi rfl rfl om) (.vl (Y.qb rfl rfl bw) ?_)
 refine .mv ?_
 refine .vl (Y.zi rfl rfl om) ?_
 refine .mv ?_
 refine .vl (Y.zi rfl rfl om) ?_
 refine .mv ?_
 refine .vl (Y.zi rfl rfl om) (.vl (Y.qb rfl rfl bw) ?_)
 refine .aH jL (dF (a := x) (b := (50 + (40 * ((fe x.toNat : Nat) : Int)))) (c := ((4 * x) + ((3 * x) * ((fe x.toNat : Nat) : Int))))) rfl (.ah rfl rfl (.ah rfl rfl (.ah rfl rfl .nil))) ae rfl (.ak cO rfl rfl rfl rfl rfl rfl (aI rfl) rfl (.nil ?_))
 refine .ret ?_
 first | (exfalso; omega) | exact ⟨_, _, rfl, rfl, (4 * x) + ((3 * x) * ((fe x.toNat : Nat) : Int)), by rw [show aQ op x.toNat = 50 + (40 * ((fe x.toNat : Nat) : Int)) by (try rw [hle]); unfold aQ; (repeat' split) <;> omega]; rfl, rfl⟩
 refine .seq (.sr (.vl (Y.ql rfl rfl) ?_))
 refine .an ?_
 refine .nil ?_
 refine .bx rfl (fun EG => ?_) (fun EG => ?_)
 refine .skip (.aM rfl (.sr ?_))
 refine .mv ?_
 refine .mv ?_
 refine .vl (Y.zi rfl rfl om) (.vl (Y.qb rfl rfl bw) ?_)
 refine .mv ?_
 refine .vl (Y.zi rfl rfl om) ?_
 refine .aH jL (dF (a := x) (b := (30 + (20 * ((fe x.toNat : Nat) : Int)))) (c := (2 * x))) rfl (.ah rfl rfl (.ah rfl rfl (.ah rfl rfl .nil))) ae rfl (.ak cO rfl rfl rfl rfl rfl rfl (aI rfl) rfl (.nil ?_))
 refine .ret ?_
 first | (exfalso; omega) | exact ⟨_, _, rfl, rfl, 2 * x, by rw [show aQ op x.toNat = 30 + (20 * ((fe x.toNat : Nat) : Int)) by (try rw [hle]); unfold aQ; (repeat' split) <;> omega]; rfl, rfl⟩
 refine .region (.vl (Y.ql rfl rfl) ?_)
 refine .an ?_
 refine .nil ?_
 refine .bx rfl (fun EG => ?_) (fun EG => ?_)
 refine .sr ?_
 refine .mv ?_
 refine .mv ?_
 refine .vl (Y.zi rfl rfl om) (.vl (Y.qb rfl rfl bw) ?_)
 refine .mv ?_
 refine .vl (Y.zi rfl rfl om) ?_
 refine .aH jL (dF (a := x) (b := (30 + (20 * ((fe x.toNat : Nat) : Int)))) (c := (2 * x))) rfl (.ah rfl rfl (.ah rfl rfl (.ah rfl rfl .nil))) ae rfl (.ak cO rfl rfl rfl rfl rfl rfl (aI rfl) rfl (.nil ?_))
 refine .ret ?_
 first | (exfalso; omega) | exact ⟨_, _, rfl, rfl, 2 * x, by rw [show aQ op x.toNat = 30 + (20 * ((fe x.toNat : Nat) : Int)) by (try rw [hle]); unfold aQ; (repeat' split) <;> omega]; rfl, rfl⟩
 refine .seq (.sr (.vl (Y.ql rfl rfl) ?_))
 refine .an ?_
 refine .nil ?_
 refine .bx rfl (fun KV => ?_) (fun KV => ?_)
 refine .skip (.aM rfl (.sr ?_))
 refine .mv ?_
 refine .mv ?_
 refine .vl (Y.zi rfl rfl om) (.vl (Y.qb rfl rfl bw) ?_)
 refine .mv ?_
 refine .vl (Y.zi rfl rfl om) ?_
 refine .mv ?_
 refine .vl (Y.zi rfl rfl om) ?_
 refine .mv ?_
 refine .vl (Y.zi rfl rfl om) (.vl (Y.qb rfl rfl bw) ?_)
 refine .aH jL (dF (a := x) (b := (40 + (40 * ((fe (x + 1).toNat : Nat) : Int)))) (c := ((4 * x) + ((3 * x) * ((fe (x + 1).toNat : Nat) : Int))))) rfl (.ah rfl rfl (.ah rfl rfl (.ah rfl rfl .nil))) ae rfl (.ak cO rfl rfl rfl rfl rfl rfl (aI rfl) rfl (.nil ?_))
 refine .ret ?_
 first | (exfalso; omega) | exact ⟨_, _, rfl, rfl, (4 * x) + ((3 * x) * ((fe (x + 1).toNat : Nat) : Int)), by rw [show aQ op x.toNat = 40 + (40 * ((fe (x + 1).toNat : Nat) : Int)) by (try rw [hle]); unfold aQ; (repeat' split) <;> omega]; rfl, rfl⟩
 refine .region (.vl (Y.ql rfl rfl) ?_)
 refine .an ?_
 refine .nil ?_
 refine .bx rfl (fun KV => ?_) (fun KV => ?_)
 refine .sr ?_
 refine .mv ?_
 refine .mv ?_
 refine .vl (Y.zi rfl rfl om) (.vl (Y.qb rfl rfl bw) ?_)
 refine .mv ?_
 refine .vl (Y.zi rfl rfl om) ?_
 refine .mv ?_
 refine .vl (Y.zi rfl rfl om) ?_
 refine .mv ?_
 refine .vl (Y.zi rfl rfl om) (.vl (Y.qb rfl rfl bw) ?_)
 refine .aH jL (dF (a := x) (b := (40 + (40 * ((fe (x + 1).toNat : Nat) : Int)))) (c := ((4 * x) + ((3 * x) * ((fe (x + 1).toNat : Nat) : Int))))) rfl (.ah rfl rfl (.ah rfl rfl (.ah rfl rfl .nil))) ae rfl (.ak cO rfl rfl rfl rfl rfl rfl (aI rfl) rfl (.nil ?_))
 refine .ret ?_
 first | (exfalso; omega) | exact ⟨_, _, rfl, rfl, (4 * x) + ((3 * x) * ((fe (x + 1).toNat : Nat) : Int)), by rw [show aQ op x.toNat = 40 + (40 * ((fe (x + 1).toNat : Nat) : Int)) by (try rw [hle]); unfold aQ; (repeat' split) <;> omega]; rfl, rfl⟩
 refine .seq (.sr (.vl (Y.ql rfl rfl) ?_))
 refine .an ?_
 refine .nil ?_
 refine .bx rfl (fun C7 => ?_) (fun C7 => ?_)
 refine .skip (.aM rfl (.sr ?_))
 refine .mv ?_
 refine .mv ?_
 refine .vl (Y.zi rfl rfl om) (.vl (Y.qb rfl rfl bw) ?_)
 refine .mv ?_
 refine .vl (Y.zi rfl rfl om) ?_
 refine .mv ?_
 refine .vl (Y.zi rfl rfl om) ?_
 refine .mv ?_
 refine .vl (Y.zi rfl rfl om) (.vl (Y.qb rfl rfl bw) (.vl (Y.qb rfl rfl bw) ?_))
 refine .aH jL (dF (a := x) (b := (50 + (40 * ((fe (x + 1).toNat : Nat) : Int)))) (c := (((4 * x) + ((3 * x) * ((fe (x + 1).toNat : Nat) : Int))) + 2))) rfl (.ah rfl rfl (.ah rfl rfl (.ah rfl rfl .nil))) ae rfl (.ak cO rfl rfl rfl rfl rfl rfl (aI rfl) rfl (.nil ?_))
 refine .ret ?_
 first | (exfalso; omega) | exact ⟨_, _, rfl, rfl, ((4 * x) + ((3 * x) * ((fe (x + 1).toNat : Nat) : Int))) + 2, by rw [show aQ op x.toNat = 50 + (40 * ((fe (x + 1).toNat : Nat) : Int)) by (try rw [hle]); unfold aQ; (repeat' split) <;> omega]; rfl, rfl⟩
 refine .region (.vl (Y.ql rfl rfl) ?_)
 refine .an ?_
 refine .nil ?_
 refine .bx rfl (fun C7 => ?_) (fun C7 => ?_)
 refine .sr ?_
 refine .mv ?_
 refine .mv ?_
 refine .vl (Y.zi rfl rfl om) (.vl (Y.qb rfl rfl bw) ?_)
 refine .mv ?_
 refine .vl (Y.zi rfl rfl om) ?_
 refine .mv ?_
 refine .vl (Y.zi rfl rfl om) ?_
 refine .mv ?_
 refine .vl (Y.zi rfl rfl om) (.vl (Y.qb rfl rfl bw) (.vl (Y.qb rfl rfl bw) ?_))
 refine .aH jL (dF (a := x) (b := (50 + (40 * ((fe (x + 1).toNat : Nat) : Int)))) (c := (((4 * x) + ((3 * x) * ((fe (x + 1).toNat : Nat) : Int))) + 2))) rfl (.ah rfl rfl (.ah rfl rfl (.ah rfl rfl .nil))) ae rfl (.ak cO rfl rfl rfl rfl rfl rfl (aI rfl) rfl (.nil ?_))
 refine .ret ?_
 first | (exfalso; omega) | exact ⟨_, _, rfl, rfl, ((4 * x) + ((3 * x) * ((fe (x + 1).toNat : Nat) : Int))) + 2, by rw [show aQ op x.toNat = 50 + (40 * ((fe (x + 1).toNat : Nat) : Int)) by (try rw [hle]); unfold aQ; (repeat' split) <;> omega]; rfl, rfl⟩
 refine .sr (.vl (Y.ql rfl rfl) ?_)
 refine .an ?_
 refine .nil ?_
 refine .a8 rfl (fun C8 => ?_) (fun C8 => ?_)
 refine .sr ?_
 refine .mv ?_
 refine .mv ?_
 refine .vl (Y.zi rfl rfl om) (.vl (Y.qb rfl rfl bw) ?_)
 refine .aH jL (dF (a := x) (b := 50) (c := ((3 * x) + 1))) rfl (.ah rfl rfl (.ah rfl rfl (.ah rfl rfl .nil))) ae rfl (.ak cO rfl rfl rfl rfl rfl rfl (aI rfl) rfl (.nil ?_))
 refine .ret ?_
 first | (exfalso; omega) | exact ⟨_, _, rfl, rfl, (3 * x) + 1, by rw [show aQ op x.toNat = 50 by (try rw [hle]); unfold aQ; (repeat' split) <;> omega]; rfl, rfl⟩
 refine .sr (.vl (Y.ql rfl rfl) ?_)
 refine .an ?_
 refine .nil ?_
 refine .a8 rfl (fun xJ => ?_) (fun xJ => ?_)
 refine .sr ?_
 refine .mv ?_
 refine .mv ?_
 refine .vl (Y.qb rfl rfl bw) (.vl (Y.zp rfl rfl om) (.vl (Y.qb rfl rfl bw) ?_))
 refine .mv ?_
 refine .vl (Y.zi rfl rfl om) ?_
 refine .mv ?_
 refine .vl (Y.zi rfl rfl om) ?_
 refine .vl (Y.qh nz jM rfl rfl rfl) (.ak cO rfl rfl rfl rfl rfl rfl (aI rfl) rfl (.nil ?_))
 refine .ret ?_
 first | (exfalso; omega) | exact ⟨_, _, rfl, rfl, (6 * x) * x, by rw [show aQ op x.toNat = 0 by (try rw [hle]); unfold aQ; (repeat' split) <;> omega]; rfl, rfl⟩
 refine .seq (.sr (.vl (Y.ql rfl rfl) ?_))
 refine .an ?_
 refine .nil ?_
 refine .bx rfl (fun oK => ?_) (fun oK => ?_)
 refine .skip (.aM rfl (.sr ?_))
 refine .mv ?_
 refine .vl (Y.qb rfl rfl bw) (.vl (Y.zz rfl rfl bw) ?_)
 refine .mv ?_
 refine .mv ?_
 refine .vl (Y.qb rfl rfl bw) (.vl (Y.zp rfl rfl om) (.vl (Y.qb rfl rfl bw) ?_))
 refine .mv ?_
 refine .vl (Y.qb rfl rfl bw) (.vl (Y.zp rfl rfl om) (.vl (Y.qb rfl rfl bw) ?_))
 refine .mv ?_
 refine .vl (Y.zi rfl rfl om) ?_
 refine .mv ?_
 refine .vl (Y.zi rfl rfl om) ?_
 refine .vl (Y.qh nz jM rfl rfl rfl) (.ak cO rfl rfl rfl rfl rfl rfl (aI rfl) rfl (.nil ?_))
 refine .ret ?_
 first | (exfalso; omega) | exact ⟨_, _, rfl, rfl, (8 * x) * x, by rw [show aQ op x.toNat = 0 by (try rw [hle]); unfold aQ; (repeat' split) <;> omega]; rfl, rfl⟩
 refine .sr (.vl (Y.ql rfl rfl) ?_)
 refine .an ?_
 refine .nil ?_
 refine .bx rfl (fun oK => ?_) (fun oK => ?_)
 refine .skip (.aM rfl (.sr ?_))
 refine .mv ?_
 refine .vl (Y.qb rfl rfl bw) (.vl (Y.zz rfl rfl bw) ?_)
 refine .mv ?_
 refine .mv ?_
 refine .vl (Y.qb rfl rfl bw) (.vl (Y.zp rfl rfl om) (.vl (Y.qb rfl rfl bw) ?_))
 refine .mv ?_
 refine .vl (Y.qb rfl rfl bw) (.vl (Y.zp rfl rfl om) (.vl (Y.qb rfl rfl bw) ?_))
 refine .mv ?_
 refine .vl (Y.zi rfl rfl om) ?_
 refine .mv ?_
 refine .vl (Y.zi rfl rfl om) ?_
 refine .vl (Y.qh nz jM rfl rfl rfl) (.ak cO rfl rfl rfl rfl rfl rfl (aI rfl) rfl (.nil ?_))
 refine .ret ?_
 first | (exfalso; omega) | exact ⟨_, _, rfl, rfl, (8 * x) * x, by rw [show aQ op x.toNat = 0 by (try rw [hle]); unfold aQ; (repeat' split) <;> omega]; rfl, rfl⟩
 refine .sr (.vl (Y.ql rfl rfl) ?_)
 refine .an ?_
 refine .nil ?_
 refine .bx rfl (fun oK => ?_) (fun oK => ?_)
 refine .skip (.aM rfl (.sr ?_))
 refine .mv ?_
 refine .vl (Y.qb rfl rfl bw) (.vl (Y.zz rfl rfl bw) ?_)
 refine .mv ?_
 refine .mv ?_
 refine .vl (Y.qb rfl rfl bw) (.vl (Y.zp rfl rfl om) (.vl (Y.qb rfl rfl bw) ?_))
 refine .mv ?_
 refine .vl (Y.qb rfl rfl bw) (.vl (Y.zp rfl rfl om) (.vl (Y.qb rfl rfl bw) ?_))
 refine .mv ?_
 refine .vl (Y.zi rfl rfl om) ?_
 refine .mv ?_
 refine .vl (Y.zi rfl rfl om) ?_
 refine .vl (Y.qh nz jM rfl rfl rfl) (.ak cO rfl rfl rfl rfl rfl rfl (aI rfl) rfl (.nil ?_))
 refine .ret ?_
 first | (exfalso; omega) | exact ⟨_, _, rfl, rfl, (8 * x) * x, by rw [show aQ op x.toNat = 0 by (try rw [hle]); unfold aQ; (repeat' split) <;> omega]; rfl, rfl⟩
 refine .region (.vl (Y.ql rfl rfl) ?_)
 refine .an ?_
 refine .nil ?_
 refine .bx rfl (fun oK => ?_) (fun oK => ?_)
 refine .sr ?_
 refine .mv ?_
 refine .vl (Y.qb rfl rfl bw) (.vl (Y.zz rfl rfl bw) ?_)
 refine .mv ?_
 refine .mv ?_
 refine .vl (Y.qb rfl rfl bw) (.vl (Y.zp rfl rfl om) (.vl (Y.qb rfl rfl bw) ?_))
 refine .mv ?_
 refine .vl (Y.qb rfl rfl bw) (.vl (Y.zp rfl rfl om) (.vl (Y.qb rfl rfl bw) ?_))
 refine .mv ?_
 refine .vl (Y.zi rfl rfl om) ?_
 refine .mv ?_
 refine .vl (Y.zi rfl rfl om) ?_
 refine .vl (Y.qh nz jM rfl rfl rfl) (.ak cO rfl rfl rfl rfl rfl rfl (aI rfl) rfl (.nil ?_))
 refine .ret ?_
 first | (exfalso; omega) | exact ⟨_, _, rfl, rfl, (8 * x) * x, by rw [show aQ op x.toNat = 0 by (try rw [hle]); unfold aQ; (repeat' split) <;> omega]; rfl, rfl⟩
 refine .skip (.sr ?_)
 refine .mv ?_
 refine .aH jL (dF (a := x) (b := 0) (c := 0)) rfl (.ah rfl rfl (.ah rfl rfl (.ah rfl rfl .nil))) ae rfl (.ak cO rfl rfl rfl rfl rfl rfl (aI rfl) rfl (.nil ?_))
 refine .ret ?_
 first | (exfalso; omega) | exact ⟨_, _, rfl, rfl, 0, by rw [show aQ op x.toNat = 0 by (try rw [hle]); unfold aQ; (repeat' split) <;> omega]; rfl, rfl⟩
theorem ou {n : ab} {c : Cell} (hw : ∀ w ∈ n.aa, eO w) (j9 : gS n c) (ha : c.args.length ≤ 200) : au Try.prog 42 [.agg (ab.row n), .agg (Cell.row c)] [] [] (fun r o => r = (vi (eJ n c)) ∧ o = []) := by
 refine au.of Try.func42 rfl rfl rfl (n := 43) ae (aI rfl) (.sr (.box 102 rfl rfl rfl rfl rfl ae ?_))
 refine .box 103 rfl rfl rfl rfl rfl ae ?_
 refine .an ?_
 refine .nil (.seq (.seq ?_))
 refine .sh (Sh.cW 102 rfl rfl) (.sh (Sh.cW 103 rfl rfl) (.region ?_))
 refine .fa bP ?_
 refine .ld aV ?_
 refine .nil (.block (.sr ?_))
 refine .vl (Y.ql rfl rfl) ?_
 refine .an ?_
 refine .nil ?_
 refine .a8 rfl (fun c8 => ?_) (fun c8 => ?_)
 refine .sr ?_
 refine .an ?_
 refine .nil (.ret ?_)
 exact .ri rfl (by unfold eJ; rw [if_pos bm])
 refine .sr (.vl (Y.ql rfl rfl) ?_)
 refine .an ?_
 refine .nil ?_
 refine .a8 rfl (fun EE => ?_) (fun EE => ?_)
 refine .seq ?_
 have h5 := Cp j9 bm; have Ow := h5.1; unfold In at Ow; have Sj := uP hw h5.1; have KW := j9.1 (c.args.getD 0 0) (br om); have Sk := uP hw KW; have Ox := KW; unfold In at Ox
 refine .region ?_
 refine .fa bu ?_
 refine .ld aW ?_
 refine .fa cN ?_
 refine .ld aV ?_
 refine .vl (Y.qs (m := (c.out).toNat) az rfl rfl om (aq (d := 0) om)) ?_
 refine .ld aV ?_
 refine .an ?_
 refine .nil ?_
 refine .fb (fun (kC : Int) => ⟨[(3, .fp (Cell.row c) 0), (5, vi kC)], []⟩) (fun kC => kC = (if ga c.op then n.av c 0 else n.wd c.out)) ?_ (fun kC Dx => ?_)
 refine .sr ?_
 refine .fa ct ?_
 refine .ld aV ?_
 refine .aH Hn (iI (w := c.op)) rfl (.ah rfl rfl .nil) ae rfl (.nil ?_)
 refine .a8 rfl (fun sA => ?_) (fun sA => ?_)
 refine .fR rfl ao (.val (Y.qp bu rfl rfl) ae (.val (Y.za aW rfl rfl rfl rfl) ae ?_))
 refine .val (Y.qp bF rfl rfl) ae (.val (Y.za aW rfl rfl rfl rfl) ae ?_)
 refine .val (Y.qs (m := 0) az rfl rfl bf (aq (d := 0) om)) ae (.val (Y.za aV rfl rfl rfl rfl) ae (.val (Y.qs (m := (c.args.getD 0 0).toNat) az rfl rfl om (aq (d := 0) om)) ae ?_))
 refine .val (Y.za aV rfl rfl rfl rfl) ae (.val (Y.qf rfl rfl) ae (.nil ?_))
 exact ⟨n.aa.getD ((c.args.getD 0 0).toNat) 0, by rw [if_pos bm]; rfl, Le.mk (.c (.cons (aj rfl bf) .nil)) .nil⟩
 refine .skip ⟨n.aa.getD ((c.out).toNat) 0, by rw [if_neg bm]; rfl, Le.mk (.c (.cons (aj rfl bf) .nil)) .nil⟩
 have h8 : 1 ≤ kC ∧ kC ≤ 64 := by (rw [Dx]; split <;> assumption)
 refine .sr ?_
 refine .fa ct ?_
 refine .ld aV ?_
 refine .mv ?_
 refine .kh NL (xI (op := c.op) (x := kC) h5.2.1 h8.1 h8.2) rfl (.ah rfl rfl (.ah rfl rfl .nil)) ae ?_
 rintro _ ⟨Sl, rfl, _⟩
 refine ⟨rfl, ?_⟩
 refine .vl (Y.qo eP aV rfl rfl rfl) ?_
 refine .an ?_
 refine .nil (.ret ?_)
 exact .ri rfl (by unfold eJ; rw [if_neg om, if_pos bm, Dx])
 refine .sr (.vl (Y.ql rfl rfl) ?_)
 refine .an ?_
 refine .nil ?_
 refine .a8 rfl (fun wc => ?_) (fun wc => ?_)
 refine .seq ?_
 have Q6 := q8 (n := ((c.args.length : Int) / 2).toNat) om
 refine .region ?_
 refine .fa bF ?_
 refine .ld aW ?_
 refine .vl (Y.qx (n := c.args.length) az rfl cS) (.vl (Y.zp rfl rfl om) (.aH Ho (kB (x := ((c.args.length : Int) / 2)) (om) (om)) rfl (.ah rfl rfl .nil) ae rfl (.vl (Y.zi rfl rfl om) (.vl (Y.qb rfl rfl bw) ?_))))
 refine .an ?_
 refine .nil (.ret ?_)
 exact .ri rfl (by unfold eJ; rw [if_neg om, if_neg om, if_pos bm, show ((c.args.length : Int) / 2).toNat = c.args.length / 2 by omega])
 refine .skip (.sr ?_)
 refine .an ?_
 refine .nil (.ret ?_)
 exact .ri rfl (by unfold eJ; rw [if_neg om, if_neg om, if_neg om])
open Go Go.AW Go.Proofs
theorem wi {c : Cell} : au Try.prog 85 [.agg (Cell.row c)] [] [] (fun r o => r = .v (.bool (decide (c.out ≥ 0 ∧ ¬ bJ c.kind))) ∧ o = []) := by
 refine au.of Try.func85 rfl rfl rfl (n := 12) ae (aI rfl) (.sr (.box 101 rfl rfl rfl rfl rfl ae ?_))
 refine .an ?_
 refine .nil (.seq (.sh (Sh.cW 101 rfl rfl) ?_))
 refine .region ?_
 refine .fa cN ?_
 refine .ld aV ?_
 refine .vl (Y.qq rfl rfl) ?_
 refine .mv ?_
 refine .ax (d := 6) rfl (fun c6 => ?_) (fun c6 => ?_)
 refine .gw 6 (Y.qp bP rfl rfl) (.gw 6 (Y.za aV rfl rfl rfl rfl) (.ar (d := 6) rfl ae rfl ?_))
 refine .aH Em (jU (w := c.kind)) rfl (.ah rfl rfl .nil) ae rfl (.gw 6 (Y.zm rfl) ?_)
 refine .pk ?_
 refine .an ?_
 refine .nil (.ret ?_)
 exact .rb rfl (db (by (first | omega | grind)))
 refine .gz 6 (.gz 6 (.gz 6 ?_))
 refine .gz 6 ?_
 refine .pk ?_
 refine .an ?_
 refine .nil (.ret ?_)
 exact .rb rfl (df (by (first | omega | grind)))
theorem wj {n : ab} (hM : VT n) : au Try.prog 47 [.agg (ab.row n)] [] [] (fun r o => ∃ at_ : List Int, vk n at_ ∧ r = .ei 1 (at_.map ai) ∧ o = []) := by
 refine au.of Try.func47 rfl rfl rfl (n := 113) ae (aI rfl) ?_
 have hs := hM.small; have hf := hM.formed; have Ct := hM.bR; have Gf := hM.b8; have sa := hM.ic; have tD := hM.iS; have HH := hM.bt; have FV := hf.cb; have IG := hf.dR; have O1 := hM.acyclic
 refine .sr (.box 101 rfl rfl rfl rfl rfl ae ?_)
 refine .an ?_
 refine .nil (.seq (.sh (Sh.cW 101 rfl rfl) ?_))
 refine .region ?_
 refine .fa bu ?_
 refine .ld aW ?_
 refine .vl (Y.qx (n := n.aa.length) az rfl cS) (.makeSlice (n := n.aa.length) az ey rfl rfl rfl rfl om om ae ?_)
 refine .dy rfl ae (.sh (Sh.ep (d := 3) (n := n.aa.length) 103 ((List.replicate n.aa.length 0).map ai) rfl jJ (b5 (by simp)) ae) (.nil ?_))
 refine .sr ?_
 refine .fa bu ?_
 refine .ld aW ?_
 refine .vl (Y.qx (n := n.aa.length) az rfl cS) (.makeSlice (n := n.aa.length) mN Mp rfl rfl rfl rfl om om ae ?_)
 refine .dy rfl ae (.sh (Sh.ep (d := 4) (n := n.aa.length) 104 ((List.replicate n.aa.length false).map fI) rfl jJ (b5 (by simp)) ae) (.nil ?_))
 refine .seq (.sr ?_)
 refine .an ?_
 refine .nil (.block ?_)
 refine .jt (fun (eH : Nat) (kE : List Int) (gi : List Bool) => ⟨[(1, .fp (ab.row n) 0), (3, .ba 103 1 0 n.aa.length), (4, .ba 104 1 0 n.aa.length), (5, vi eH)], [(103, .rows 1 (kE.map ai)), (104, .rows 1 (gi.map fI))]⟩) (fun eH kE gi => (kE.length = n.aa.length) ∧ (gi.length = n.aa.length) ∧ ((eH : Int) ≤ (n.cells.length : Int)) ∧ (RS n eH kE gi) ∧ (RB n kE gi)) (fun eH kE gi => ((n.cells.length : Int) - (eH : Int)).toNat) 0 (List.replicate n.aa.length 0) (List.replicate n.aa.length false) (⟨oS, oS, oS, RS.init, RB.init⟩) (Le.mk (.c2 (.c (.cons (aj rfl bf) .nil))) (.c (.c .nil))) (fun eH kE gi CD => ?_)
 obtain ⟨mF, wk, Lj, hS, hB⟩ := CD
 refine .seq (.sr ?_)
 refine .mv ?_
 refine .fa bL ?_
 refine .ld eT ?_
 refine .vl (Y.qx (n := n.cells.length) dr rfl cS) (.vl (Y.zc rfl rfl) (.nil ?_))
 refine .a8 rfl (fun EL => ?_) (fun EL => ?_)
 refine .skip ?_
 refine .np (fun (me : List Int) (ja : List Bool) => ⟨[(1, .fp (ab.row n) 0), (3, .ba 103 1 0 n.aa.length), (4, .ba 104 1 0 n.aa.length), (5, vi eH)], [(103, .rows 1 (me.map ai)), (104, .rows 1 (ja.map fI))]⟩) (fun me ja => (me.length = n.aa.length) ∧ ((ja.length = n.aa.length) ∧ (RS n (eH + 1) me ja ∧ RB n me ja))) ?_ (fun me ja HJ => ?_)
 refine .block (.seq ?_)
 have h6 := x8 hf (j := eH) om
 refine .region ?_
 refine .fa bL ?_
 refine .ld eT ?_
 refine .mv ?_
 refine .vl (Y.qs (m := eH) dr rfl rfl bf (aq (d := default) om)) ?_
 refine .vl (Y.zb dS rfl rfl (aI rfl) rfl rfl) (.alloc 106 dM rfl rfl ae (.ak eE rfl rfl rfl rfl rfl rfl (aI rfl) rfl ?_))
 refine .nil (.sr (.vl (Y.zb dS rfl rfl (aI rfl) rfl rfl) ?_))
 refine .aH NO (wi (c := (n.cells.getD eH default))) rfl (.ah rfl rfl .nil) ae rfl (.nil ?_)
 refine .a8 rfl (fun wc => ?_) (fun wc => ?_)
 refine .seq (.eU [106] [103, 104, 106] rfl (.blind 0 rfl ao (aw.move rfl rfl) ae ?_))
 refine .blind 1 rfl ao (aw.fieldAddr cN rfl rfl) ae (.load 2 rfl ao aV rfl rfl rfl rfl rfl ae (.e8 3 rfl ao dD rfl rfl rfl (aI rfl) rfl rfl ae ?_))
 refine .e8 4 rfl ao dS rfl rfl rfl (aI rfl) rfl rfl ae (.AP rfl rfl (cq.cells rfl rfl rfl cq.nil) (.one 5 rfl ao ?_))
 refine .aH Kw (ou (n := n) (c := (n.cells.getD eH default)) hf.p3 (hf.cells _ om) (sa _ (getD_in om))) rfl (.ah rfl rfl (.ah rfl rfl .nil)) ae rfl ?_
 refine .nil ⟨rfl, ?_⟩
 refine .one 6 rfl ao (.vl (Y.qt (m := ((n.cells.getD eH default).out).toNat) az rfl rfl om om) ?_)
 refine .nil ⟨rfl, ?_⟩
 refine .one 7 rfl ao (.dC ((kE.set (((n.cells.getD eH default).out).toNat) (eJ n (n.cells.getD eH default))).map ai) eQ rfl rfl rfl rfl rfl rfl rfl (aB (d := 0) om) (aI rfl) (ck rfl) ?_)
 refine .nil ⟨rfl, ?_⟩
 refine .done ao (.region ?_)
 refine .mv ?_
 refine .fa cN ?_
 refine .ld aV ?_
 refine .vl (Y.qt (m := ((n.cells.getD eH default).out).toNat) mN rfl rfl om om) (.dC ((gi.set (((n.cells.getD eH default).out).toNat) true).map fI) IA rfl rfl rfl rfl rfl rfl rfl (aB (d := false) om) (aI rfl) (ck rfl) (.nil (⟨kE.set (((n.cells.getD eH default).out).toNat) (eJ n (n.cells.getD eH default)), gi.set (((n.cells.getD eH default).out).toNat) true, ⟨oS, ⟨oS, ⟨hS.set hf om wc.1 wc.2, hB.src hM hS om wc.1⟩⟩⟩, Le.mk (.c2 (.c (.c .nil))) (.c (.c .nil))⟩)))
 refine .skip (⟨kE, gi, ⟨om, ⟨om, ⟨hS.skip hf om bm, hB⟩⟩⟩, Le.mk (.c2 (.c (.c .nil))) (.c (.c .nil))⟩)
 obtain ⟨CE, Lk, yL⟩ := HJ
 refine .region ?_
 refine .mv ?_
 refine .vl (Y.qb rfl rfl bw) ?_
 refine .an ?_
 refine .nil (⟨eH + 1, me, ja, ⟨om, om, om, yL.1, yL.2⟩, om, Le.mk (.c2 (.c (.cons (aj rfl bf) .nil))) (.c (.c .nil))⟩)
 refine .exit (.seq (.sr ?_))
 refine .an ?_
 refine .nil (.block ?_)
 refine .jt (fun (lA : Bool) (jm : List Int) (eK : List Bool) => ⟨[(1, .fp (ab.row n) 0), (3, .ba 103 1 0 n.aa.length), (4, .ba 104 1 0 n.aa.length), (7, .v (.bool lA))], [(103, .rows 1 (jm.map ai)), (104, .rows 1 (eK.map fI))]⟩) (fun lA jm eK => (jm.length = n.aa.length) ∧ (eK.length = n.aa.length) ∧ (RA n jm eK) ∧ (∀ i w, b7 n i w → ¬ bJ (n.cell i).kind → kn eK w = true) ∧ (RB n jm eK) ∧ (lA = false → vk n jm)) (fun lA jm eK => gf eK + (if lA then 1 else 0)) true kE gi (⟨om, om, hS.ra, fun i w hd hc => (hS.iff i w hd).2 ⟨by have := hd.1; omega, hc⟩, hB, fun h => by cases h⟩) (Le.mk (.c2 (.c (.cons (aF rfl fw) .nil))) (.c (.c .nil))) (fun lA jm eK CF => ?_)
 obtain ⟨mF, wk, hA, O2, O3, O4⟩ := CF
 refine .seq (.sr ?_)
 refine .mv ?_
 refine .nil ?_
 refine .cond rfl (fun xM => ?_) (fun xM => ?_)
 refine .skip (.block (.sr ?_))
 refine .an ?_
 refine .nil (.sr ?_)
 refine .an ?_
 refine .nil (.block ?_)
 refine .vF (fun (gj : Bool) (bW : Nat) (et : List Int) (cK : List Bool) => ⟨[(1, .fp (ab.row n) 0), (3, .ba 103 1 0 n.aa.length), (4, .ba 104 1 0 n.aa.length), (7, .v (.bool gj)), (8, vi bW)], [(103, .rows 1 (et.map ai)), (104, .rows 1 (cK.map fI))]⟩) (fun gj bW et cK => (et.length = n.aa.length) ∧ (cK.length = n.aa.length) ∧ ((bW : Int) ≤ (n.cells.length : Int)) ∧ (RR n eK bW gj et cK) ∧ (RB n et cK)) (fun gj bW et cK => ((n.cells.length : Int) - (bW : Int)).toNat) false 0 jm eK (⟨om, om, om, RR.init hA O2, O3⟩) (Le.mk (.c2 (.c (.cons (aF rfl fw) (.cons (aj rfl bf) .nil)))) (.c (.c .nil))) (fun gj bW et cK HK => ?_)
 obtain ⟨mF, wk, O5, hR, Ah⟩ := HK
 refine .seq (.sr ?_)
 refine .mv ?_
 refine .fa bL ?_
 refine .ld eT ?_
 refine .vl (Y.qx (n := n.cells.length) dr rfl cS) (.vl (Y.zc rfl rfl) (.nil ?_))
 refine .a8 rfl (fun O6 => ?_) (fun O6 => ?_)
 refine .skip ?_
 refine .vE (fun (lB : Bool) (kF : List Int) (gW : List Bool) => ⟨[(1, .fp (ab.row n) 0), (3, .ba 103 1 0 n.aa.length), (4, .ba 104 1 0 n.aa.length), (7, .v (.bool lB)), (8, vi bW)], [(103, .rows 1 (kF.map ai)), (104, .rows 1 (gW.map fI))]⟩) (fun lB kF gW => (kF.length = n.aa.length) ∧ ((gW.length = n.aa.length) ∧ (RR n eK (bW + 1) lB kF gW ∧ RB n kF gW))) ?_ (fun lB kF gW Ll => ?_)
 refine .block (.sr ?_)
 refine .fa bL ?_
 refine .ld eT ?_
 refine .mv ?_
 refine .vl (Y.qs (m := bW) dr rfl rfl bf (aq (d := default) om)) ?_
 refine .vl (Y.zb dS rfl rfl (aI rfl) rfl rfl) (.alloc 109 dM rfl rfl ae (.ak eE rfl rfl rfl rfl rfl rfl (aI rfl) rfl ?_))
 refine .nil (.seq (.seq ?_))
 have Lm := hf.cells bW om; have So := sa (n.cells.getD bW default) (getD_in om)
 refine .region ?_
 refine .fa bP ?_
 refine .ld aV ?_
 refine .aH Em (jU (w := ((n.cells.getD bW default).kind))) rfl (.ah rfl rfl .nil) ae rfl (.vl (Y.zm rfl) ?_)
 refine .mv ?_
 refine .dP (d := 63) rfl (fun tc => ?_) (fun tc => ?_)
 refine .gz 63 (.gz 63 (.gz 63 ?_))
 refine .gz 63 (.gz 63 ?_)
 refine .pk ?_
 refine .nil (.aM rfl (.exit ?_))
 exact ⟨gj, et, cK, ⟨om, ⟨om, ⟨hR.pass hf om (.inl tc), Ah⟩⟩⟩, Le.mk (.c2 (.c (.cons (aF rfl fw) (.c .nil)))) (.c (.c .nil))⟩
 have O7 := Lm.2.2.2 (fun e => by rw [e] at tc; revert tc; unfold bJ; omega); unfold In at O7
 refine .gw 63 (Y.zg rfl rfl) (.gw 63 (Y.qp cN rfl rfl) (.gw 63 (Y.za aV rfl rfl rfl rfl) ?_))
 refine .gw 63 (Y.qt (m := ((n.cells.getD bW default).out).toNat) mN rfl rfl om om) (.gw 63 (Y.za ta rfl (aB (d := false) om) rfl rfl) ?_)
 refine .pk ?_
 refine .nil ?_
 refine .cond rfl (fun Gg => ?_) (fun Gg => ?_)
 refine .exit (⟨gj, et, cK, ⟨om, ⟨om, ⟨hR.pass hf om (.inr (.inl Gg)), Ah⟩⟩⟩, Le.mk (.c2 (.c (.cons (aF rfl fw) (.c .nil)))) (.c (.c .nil))⟩)
 refine .skip (.sr ?_)
 refine .an ?_
 refine .an ?_
 refine .nil (.seq (.sr ?_))
 refine .an ?_
 refine .nil (.block ?_)
 refine .jt (fun (kG : Int) (mh : Bool) (eV : Nat) => ⟨[(1, .fp (ab.row n) 0), (3, .ba 103 1 0 n.aa.length), (4, .ba 104 1 0 n.aa.length), (7, .v (.bool gj)), (8, vi bW), (9, .ptr 109 0 0 0), (10, vi kG), (11, .v (.bool mh)), (12, vi eV), (64, .ba 104 1 0 n.aa.length), (65, .ptr 109 0 0 2), (66, vi ((n.cells.getD bW default).out)), (67, .ptr 104 1 (0 + (((n.cells.getD bW default).out).toNat)) 0), (68, .v (.bool (cK.getD (((n.cells.getD bW default).out).toNat) false)))], [(103, .rows 1 (et.map ai)), (104, .rows 1 (cK.map fI)), (109, .cells [vi ((n.cells.getD bW default).kind), vi ((n.cells.getD bW default).op), vi ((n.cells.getD bW default).out), .fz 1 (((n.cells.getD bW default).args).map ai), .v (.int .u64 (((n.cells.getD bW default).num : Nat) : Int)), vi ((n.cells.getD bW default).mem)])]⟩) (fun kG mh eV => ((eV : Int) ≤ ((((n.cells.getD bW default).args).length : Nat) : Int)) ∧ (kG = gG et ((n.cells.getD bW default).args.take eV)) ∧ (mh = FW cK ((n.cells.getD bW default).args.take eV))) (fun kG mh eV => (((((n.cells.getD bW default).args).length : Nat) : Int) - (eV : Int)).toNat) 0 true 0 (⟨om, rfl, rfl⟩) (Le.mk (.c4 (.c2 (.cons (aj rfl bf) (.cons (aF rfl fw) (.cons (aj rfl bf) (.c4 (.c .nil))))))) (.c2 (.c .nil))) (fun kG mh eV CG => ?_)
 obtain ⟨Ln, ht, QD⟩ := CG
 refine .seq (.sr ?_)
 refine .mv ?_
 refine .fa bF ?_
 refine .ld aW ?_
 refine .vl (Y.qx (n := ((n.cells.getD bW default).args).length) az rfl cS) (.vl (Y.zc rfl rfl) (.nil ?_))
 refine .a8 rfl (fun qH => ?_) (fun qH => ?_)
 have QE := Lm.1 ((n.cells.getD bW default).args.getD eV 0) (br om); unfold In at QE
 refine .skip (.seq (.block ?_))
 refine .fb (fun (n5 : Bool) => ⟨[(1, .fp (ab.row n) 0), (3, .ba 103 1 0 n.aa.length), (4, .ba 104 1 0 n.aa.length), (7, .v (.bool gj)), (8, vi bW), (9, .ptr 109 0 0 0), (10, vi kG), (11, .v (.bool n5)), (12, vi eV), (64, .ba 104 1 0 n.aa.length), (65, .ptr 109 0 0 2), (66, vi ((n.cells.getD bW default).out)), (67, .ptr 104 1 (0 + (((n.cells.getD bW default).out).toNat)) 0), (68, .v (.bool (cK.getD (((n.cells.getD bW default).out).toNat) false)))], [(103, .rows 1 (et.map ai)), (104, .rows 1 (cK.map fI)), (109, .cells [vi ((n.cells.getD bW default).kind), vi ((n.cells.getD bW default).op), vi ((n.cells.getD bW default).out), .fz 1 (((n.cells.getD bW default).args).map ai), .v (.int .u64 (((n.cells.getD bW default).num : Nat) : Int)), vi ((n.cells.getD bW default).mem)])]⟩) (fun n5 => n5 = (mh && cK.getD (((n.cells.getD bW default).args).getD eV 0).toNat false)) ?_ (fun n5 O8 => ?_)
 refine .region ?_
 refine .mv ?_
 refine .mv ?_
 refine .split (d := 78) rfl (fun CH => ?_) (fun CH => ?_)
 refine .gw 78 (Y.zg rfl rfl) (.gw 78 (Y.qp bF rfl rfl) (.gw 78 (Y.za aW rfl rfl rfl rfl) ?_))
 refine .gw 78 (Y.zg rfl rfl) (.gw 78 (Y.qs (m := eV) az rfl rfl bf (aq (d := 0) om)) (.gw 78 (Y.za aV rfl rfl rfl rfl) (.gw 78 (Y.qt (m := (((n.cells.getD bW default).args).getD eV 0).toNat) mN rfl rfl om om) (.gw 78 (Y.za ta rfl (aB (d := false) om) rfl rfl) ?_))))
 refine .pk ?_
 refine .an ?_
 refine .nil ⟨cK.getD ((((n.cells.getD bW default).args).getD eV 0).toNat) false, by rw [CH]; rfl, Le.mk (.c4 (.c2 (.c (.cons (aF rfl fw) (.c4 (.c (.c .nil))))))) (.c2 (.c .nil))⟩
 refine .gz 78 (.gz 78 (.gz 78 ?_))
 refine .gz 78 (.gz 78 (.gz 78 ?_))
 refine .gz 78 (.gz 78 ?_)
 refine .pk ?_
 refine .an ?_
 refine .nil ⟨false, by rw [CH]; rfl, Le.mk (.c4 (.c2 (.c (.cons (aF rfl fw) (.c4 (.c (.c .nil))))))) (.c2 (.c .nil))⟩
 refine .region ?_
 refine .mv ?_
 refine .mv ?_
 refine .fa bF ?_
 refine .ld aW ?_
 refine .mv ?_
 refine .vl (Y.qs (m := eV) az rfl rfl bf (aq (d := 0) om)) ?_
 refine .ld aV ?_
 refine .vl (Y.qt (m := (((n.cells.getD bW default).args).getD eV 0).toNat) az rfl rfl om om) (.vl (Y.za aV rfl (aB (d := 0) om) rfl rfl) (.vl (Y.ze rfl rfl rfl) ?_))
 refine .an ?_
 refine .nil (.region ?_)
 refine .mv ?_
 refine .vl (Y.qb rfl rfl bw) ?_
 refine .an ?_
 refine .nil (⟨if (et.getD ((((n.cells.getD bW default).args).getD eV 0).toNat) 0) > kG then (et.getD ((((n.cells.getD bW default).args).getD eV 0).toNat) 0) else kG, n5, eV + 1, ⟨om, vX ht om, by rw [Cv om, ← QD, O8]; rfl⟩, om, Le.mk (.c4 (.c2 (.cons (aj rfl bf) (.cons (aF rfl fw) (.cons (aj rfl bf) (.c4 (.c .nil))))))) (.c2 (.c .nil))⟩)
 refine .exit (.seq ?_)
 have Mx : kG = gG et (n.cells.getD bW default).args := by rw [ht, show eV = (n.cells.getD bW default).args.length by omega, List.take_length]
 have j9 : mh = FW cK (n.cells.getD bW default).args := by rw [QD, show eV = (n.cells.getD bW default).args.length by omega, List.take_length]
 have Ug := Ah.gG wk (n.cells.getD bW default).args; have Sp := hM.eJ (i := bW) om
 refine .region ?_
 refine .mv ?_
 refine .nil ?_
 refine .cond rfl (fun mO => ?_) (fun mO => ?_)
 refine .seq (.eU [109] [103, 104, 109] rfl (.blind 0 rfl ao (aw.move rfl rfl) ae ?_))
 refine .blind 1 rfl ao (aw.fieldAddr cN rfl rfl) ae (.load 2 rfl ao aV rfl rfl rfl rfl rfl ae (.blind 3 rfl ao (aw.move rfl rfl) ae ?_))
 refine .e8 4 rfl ao dD rfl rfl rfl (aI rfl) rfl rfl ae (.e8 5 rfl ao dS rfl rfl rfl (aI rfl) rfl rfl ae (.AP rfl rfl (cq.cells rfl rfl rfl cq.nil) ?_))
 refine .one 6 rfl ao (.aH Kw (ou (n := n) (c := (n.cells.getD bW default)) hf.p3 (hf.cells _ om) (sa _ (getD_in om))) rfl (.ah rfl rfl (.ah rfl rfl .nil)) ae rfl ?_)
 refine .nil ⟨rfl, ?_⟩
 refine .one 7 rfl ao (.vl (Y.qb rfl rfl bw) ?_)
 refine .nil ⟨rfl, ?_⟩
 refine .one 8 rfl ao (.vl (Y.qt (m := ((n.cells.getD bW default).out).toNat) az rfl rfl om om) ?_)
 refine .nil ⟨rfl, ?_⟩
 refine .one 9 rfl ao (.dC ((et.set (((n.cells.getD bW default).out).toNat) (kG + (eJ n (n.cells.getD bW default)))).map ai) eQ rfl rfl rfl rfl rfl rfl rfl (aB (d := 0) om) (aI rfl) (ck rfl) ?_)
 refine .nil ⟨rfl, ?_⟩
 refine .done ao (.sr ?_)
 refine .mv ?_
 refine .fa cN ?_
 refine .ld aV ?_
 refine .vl (Y.qt (m := ((n.cells.getD bW default).out).toNat) mN rfl rfl om om) (.dC ((cK.set (((n.cells.getD bW default).out).toNat) true).map fI) IA rfl rfl rfl rfl rfl rfl rfl (aB (d := false) om) (aI rfl) (ck rfl) ?_)
 refine .nil (.region ?_)
 refine .an ?_
 refine .nil (⟨true, et.set (((n.cells.getD bW default).out).toNat) (kG + (eJ n (n.cells.getD bW default))), cK.set (((n.cells.getD bW default).out).toNat) true, ⟨oS, ⟨oS, ⟨hR.mark hf om tc Gg (EA (by rw [← j9]; exact mO)) Mx, Ah.set om Gg om om⟩⟩⟩, Le.mk (.c2 (.c (.cons (aF rfl fw) (.c .nil)))) (.c (.c .nil))⟩)
 refine .skip (⟨gj, et, cK, ⟨om, ⟨om, ⟨hR.pass hf om (.inr (.inr (HB (by rw [← j9]; exact mO)))), Ah⟩⟩⟩, Le.mk (.c2 (.c (.cons (aF rfl fw) (.c .nil)))) (.c (.c .nil))⟩)
 obtain ⟨IH, II, EM⟩ := Ll
 refine .region ?_
 refine .mv ?_
 refine .vl (Y.qb rfl rfl bw) ?_
 refine .an ?_
 refine .nil (⟨lB, bW + 1, kF, gW, ⟨om, om, om, EM.1, EM.2⟩, om, Le.mk (.c2 (.c (.cons (aF rfl fw) (.cons (aj rfl bf) .nil)))) (.c (.c .nil))⟩)
 refine .exit (⟨gj, et, cK, ⟨om, om, hR.ra, hR.src, Ah, fun hm => by subst hm; exact hR.done hf O1 om⟩, by have h := hR.Eg; rw [if_pos xM]; omega, Le.mk (.c2 (.c (.cons (aF rfl fw) .nil))) (.c (.c .nil))⟩)
 refine .exit (.sr ?_)
 refine .mv ?_
 refine .an ?_
 refine .sh (Sh.kX (d := 2) (o := 103) rfl rfl (b5 om) ae) ?_
 refine .nil (.ret ?_)
 exact ⟨_, _, rfl, rfl, jm, O4 (by simpa using xM), rfl, rfl⟩
open Go Go.AW Go.Proofs
end Go.Proofs.Ytligpghohcfpnaa
namespace Go.Proofs.Ytligpghohcfpnaa
open Go Go.AW Go.Proofs
theorem Ai {n : Nat} (hn : n ≤ 35184372088832) : au Try.prog 108 [vn, vi n] [] [] (fun r o => r = .ei 1 (([] : List Int).map ai) ∧ o = []) := by
 refine au.of Try.func108 rfl rfl rfl (n := 27) ae (aI rfl) (.sr ?_)
 refine .an ?_
 refine .nil (.seq (.sr ?_))
 refine .mv ?_
 refine .vl (Y.zc rfl rfl) (.nil ?_)
 refine .a8 rfl (fun c6 => ?_) (fun c6 => ?_)
 exfalso; omega
 refine .skip (.seq (.sr ?_))
 refine .mv ?_
 refine .mv ?_
 refine .vl (Y.qi az rfl) ?_
 refine .mv ?_
 refine .vl (Y.qx (n := 0) az rfl rfl) (.vl (Y.zz rfl rfl bw) (.vl (Y.zz rfl rfl bw) ?_))
 refine .an ?_
 refine .nil (.sr ?_)
 refine .mv ?_
 refine .vl (Y.qr rfl rfl) (.nil ?_)
 refine .a8 rfl (fun ot => ?_) (fun ot => ?_)
 refine .region ?_
 refine .mv ?_
 refine .mv ?_
 refine .vl (Y.qi az rfl) (.vl (Y.zw az rfl (.none _) (.some rfl)) ?_)
 refine .mv ?_
 refine .xh (n := (((n : Int) - (0 - 0)).toNat)) az ey rfl rfl q4 rfl (by first | rfl | (rw [show ((n : Int) - (0 - 0) : Int) = ((((n : Int) - (0 - 0)).toNat : Nat) : Int) by omega]; rfl)) om ae om om ae ?_
 refine .mv ?_
 refine .vl (Y.qx (n := 0) az rfl rfl) (.sh (Sh.ep (d := 22) (n := (List.replicate (((n : Int) - (0 - 0)).toNat) 0).length) 122 ((List.replicate (((n : Int) - (0 - 0)).toNat) 0).map ai) rfl jJ (b5 rfl) ae) ?_)
 refine .vl (Y.zx (l := 0) (h := 0) az rfl (.none _) (.some rfl) om om) ?_
 refine .an ?_
 refine .nil (.sr ?_)
 refine .mv ?_
 refine .an ?_
 refine .sh (Sh.Fy (d := 4) (o := 122) (([] : List Int).map ai) rfl rfl (by simp) (by simp) ae) (.sh (Sh.kX (d := 4) (o := 122) rfl rfl (b5 bw) ae) ?_)
 refine .nil (.ret ?_)
 exact ⟨_, _, rfl, rfl, (Ml (fun (z0 : List Int) => X.ei 1 (z0.map ai)) (rfl : ([] : List Int) = ([] : List Int)) : X.ei 1 (([] : List Int).map ai) = X.ei 1 (([] : List Int).map ai)), rfl⟩
 refine .skip (.sr ?_)
 refine .mv ?_
 refine .an ?_
 refine .nil (.sh (Sh.z2 (d := 4) 1 rfl) (.ret ?_))
 exact ⟨_, _, rfl, rfl, (Ml (fun (z0 : List Int) => X.ei 1 (z0.map ai)) (rfl : ([] : List Int) = ([] : List Int)) : X.ei 1 (([] : List Int).map ai) = X.ei 1 (([] : List Int).map ai)), rfl⟩
theorem rp {ls : List (List Int)} (h1 : ls.length ≤ 1000) (hn : ls.flatten.length ≤ 17592186044416) : au Try.prog 72 [.fz 1 (ls.map nq)] [] [] (fun r o => r = .ei 1 (ls.flatten.map ai) ∧ o = []) := by
 refine au.of Try.func72 rfl rfl rfl (n := 36) ae (aI rfl) (.sr ?_)
 refine .an ?_
 refine .nil (.sr ?_)
 refine .an ?_
 refine .nil (.seq (.sr ?_))
 refine .mv ?_
 refine .vl (Y.qx (n := ls.length) tk rfl cS) ?_
 refine .mv ?_
 refine .nil (.block ?_)
 refine .e0 (fun (mi : Nat) (kH : Nat) => ⟨[(0, .fz 1 (ls.map nq)), (3, vi mi), (9, .fz 1 (ls.map nq)), (10, vi ls.length), (11, vi kH)], []⟩) (fun mi kH => ((kH : Int) ≤ (ls.length : Int)) ∧ (mi = (ls.take kH).flatten.length)) (fun mi kH => ((ls.length : Int) - (kH : Int)).toNat) 0 0 (⟨om, rfl⟩) (Le.mk (.c (.cons (aj rfl bf) (.c2 (.cons (aj rfl bf) .nil)))) .nil) (fun mi kH uR => ?_)
 obtain ⟨HL, hs⟩ := uR
 refine .sr (.vl (Y.zc rfl rfl) (.nil ?_))
 refine .seq ?_
 refine .a8 rfl (fun EO => ?_) (fun EO => ?_)
 refine .skip (.seq (.block ?_))
 refine .sr ?_
 have hf := congrArg List.length (tR (ls := ls) (i := kH) om)
 rw [List.length_append] at hf
 have QF := pf ls (kH + 1)
 have O9 := pf ls kH
 refine .vl (Y.qs (m := kH) tk rfl rfl bf (aq (d := []) om)) ?_
 refine .ld aW ?_
 refine .an ?_
 refine .nil (.sr ?_)
 refine .mv ?_
 refine .mv ?_
 refine .vl (Y.qx (n := (ls.getD kH []).length) az rfl cS) (.vl (Y.qb rfl rfl bw) ?_)
 refine .an ?_
 refine .nil (.sr ?_)
 refine .mv ?_
 refine .vl (Y.zc rfl rfl) (.nil ?_)
 refine .a8 rfl (fun sA => ?_) (fun sA => ?_)
 exfalso; omega
 refine .skip (.region ?_)
 refine .vl (Y.qb rfl rfl bw) ?_
 refine .mv ?_
 refine .nil (⟨mi + ((ls.getD kH []).length), kH + 1, ⟨om, om⟩, om, Le.mk (.c (.cons (aj rfl bf) (.c2 (.cons (aj rfl bf) .nil)))) .nil⟩)
 refine .exit (.sr ?_)
 have O9 := pf ls kH
 refine .mv ?_
 refine .aH Kj (Ai (n := mi) (om)) rfl (.ah rfl rfl (.ah rfl rfl .nil)) ae rfl ?_
 refine .dy rfl ae (.sh (Sh.ep (d := 6) (n := ([] : List Int).length) 106 (([] : List Int).map ai) rfl jJ (b5 rfl) ae) (.nil ?_))
 refine .seq (.sr ?_)
 refine .mv ?_
 refine .vl (Y.qx (n := ls.length) tk rfl cS) ?_
 refine .mv ?_
 refine .nil (.block ?_)
 refine .e0 (fun (gX : Nat) (dE : List Int) => ⟨[(6, .ba 106 1 0 dE.length), (25, .fz 1 (ls.map nq)), (26, vi ls.length), (27, vi gX)], [(106, .rows 1 (dE.map ai))]⟩) (fun gX dE => ((gX : Int) ≤ (ls.length : Int)) ∧ (dE = (ls.take gX).flatten)) (fun gX dE => ((ls.length : Int) - (gX : Int)).toNat) 0 ([] : List Int) (⟨om, rfl⟩) (Le.mk (.cons (bV rfl om) (.c2 (.cons (aj rfl bf) .nil))) (.c .nil)) (fun gX dE CF => ?_)
 obtain ⟨Sq, ht⟩ := CF
 refine .sr (.vl (Y.zc rfl rfl) (.nil ?_))
 refine .seq ?_
 refine .a8 rfl (fun tm => ?_) (fun tm => ?_)
 refine .skip (.seq (.block ?_))
 refine .sr ?_
 have hf := tR (ls := ls) (i := gX) om
 have QG := congrArg List.length hf
 rw [List.length_append] at QG
 have QF := pf ls (gX + 1)
 have O9 := pf ls gX
 have Sr := congrArg List.length ht
 refine .vl (Y.qs (m := gX) tk rfl rfl bf (aq (d := []) om)) ?_
 refine .ld aW ?_
 refine .an ?_
 refine .nil (.region ?_)
 refine .mv ?_
 refine .mv ?_
 refine .Br ((dE ++ (ls.getD gX [])).map ai) (dE ++ (ls.getD gX [])).length az ey rfl rfl rfl rfl (bK bw) (bq bw) (cD bw) bw bw ae ae ?_
 refine .an ?_
 refine .nil (.region ?_)
 refine .vl (Y.qb rfl rfl bw) ?_
 refine .mv ?_
 refine .nil (⟨gX + 1, dE ++ (ls.getD gX []), ⟨om, by rw [ht]; exact hf.symm⟩, om, Le.mk (.cons (bV rfl om) (.c2 (.cons (aj rfl bf) .nil))) (.c .nil)⟩)
 refine .exit (.sr ?_)
 refine .mv ?_
 refine .an ?_
 refine .sh (Sh.kX (d := 2) (o := 106) rfl rfl (b5 om) ae) ?_
 refine .nil (.ret ?_)
 exact ⟨_, _, rfl, rfl, (Ml (fun (z0 : List Int) => X.ei 1 (z0.map ai)) (by rw [ht, List.take_of_length_le om] : dE = ls.flatten) : X.ei 1 (dE.map ai) = X.ei 1 (ls.flatten.map ai)), rfl⟩
open Go Go.AW Go.Proofs
theorem An {k : Int} : au Try.prog 131 [vi k] [] [] (fun r o => r = .v (.bool (decide (Port k))) ∧ o = []) := by
 refine au.of Try.func131 rfl rfl rfl (n := 13) ae (aI rfl) (.sr ?_)
 refine .an ?_
 refine .nil (.sr ?_)
 refine .mv ?_
 refine .vl (Y.ql rfl rfl) ?_
 refine .mv ?_
 refine .ax (d := 5) rfl (fun c5 => ?_) (fun c5 => ?_)
 refine .gz 5 (.gz 5 ?_)
 refine .pk ?_
 refine .mv ?_
 refine .gz 9 (.gz 9 ?_)
 refine .pk ?_
 refine .an ?_
 refine .nil (.ret ?_)
 exact .rb rfl (dt (by (simp only [Port]) <;> (first | omega | grind)))
 refine .gw 5 (Y.zg rfl rfl) (.gw 5 (Y.ql rfl rfl) ?_)
 refine .pk ?_
 refine .mv ?_
 refine .ax (d := 9) rfl (fun c9 => ?_) (fun c9 => ?_)
 refine .gz 9 (.gz 9 ?_)
 refine .pk ?_
 refine .an ?_
 refine .nil (.ret ?_)
 exact .rb rfl (dt (by (simp only [Port]) <;> (first | omega | grind)))
 refine .gw 9 (Y.zg rfl rfl) (.gw 9 (Y.ql rfl rfl) ?_)
 refine .pk ?_
 refine .an ?_
 refine .nil (.ret ?_)
 exact .rb rfl (dd (by (simp only [Port]) <;> (first | omega | grind)))
theorem EW {n : ab} (hM : VT n) : jn Try.prog 130 [.fp (ab.row n) 0] (sx n) := by
 refine jn.of Try.func130 rfl rfl (n := 67) rfl (aI rfl) (fun yc ix mH => ?_) rfl
 have hs := hM.small; have hf := hM.formed; have Ct := hM.bR; have Gf := hM.b8; have sa := hM.ic; have tD := hM.iS; have HH := hM.bt; have FV := hf.cb; have IG := hf.dR
 refine aJ.seq (aJ.region ?_)
 refine .an ?_
 refine .nil (aJ.seq (aJ.seq ?_))
 refine aJ.region ?_
 refine .fa bL ?_
 refine .ld eT ?_
 refine .vl (Y.qx (n := n.cells.length) dr rfl cS) ?_
 refine .mv ?_
 refine .nil (aJ.block ?_)
 refine aJ.jt (fun (gH : Bool) (eA : Nat) (mn : List (Int × Int)) => (mn, ⟨[(0, yc.v), (1, .fp (ab.row n) 0), (3, .v (.bool gH)), (11, .fz 6 (n.cells.map Cell.row)), (12, .v (.int .i64 (n.cells.length : Int))), (13, .v (.int .i64 (eA : Int)))], []⟩)) (fun gH eA mn => ((eA : Int) ≤ (n.cells.length : Int)) ∧ (mn = ix ++ jN n eA) ∧ (gH = fS n eA)) (fun gH eA mn => ((n.cells.length : Int) - (eA : Int)).toNat) false 0 ix (⟨om, by simp [jN], rfl⟩) (⟨rfl, Le.mk (.c2 (.cons (aF rfl fw) (.c2 (.cons (aj rfl bf) .nil)))) .nil⟩) (fun gH eA mn th => ?_)
 obtain ⟨rz, hx, hp⟩ := th
 refine aJ.seq (aJ.region (.vl (Y.zc rfl rfl) ?_))
 refine .nil (aJ.seq ?_)
 refine aJ.a8 rfl (fun Af => ?_) (fun Af => ?_)
 refine aJ.skip ?_
 refine aJ.np (fun (kJ : Bool) (sF : List (Int × Int)) => (sF, ⟨[(0, yc.v), (1, .fp (ab.row n) 0), (3, .v (.bool kJ)), (11, .fz 6 (n.cells.map Cell.row)), (12, .v (.int .i64 (n.cells.length : Int))), (13, .v (.int .i64 (eA : Int)))], []⟩)) (fun kJ sF => sF = ix ++ jN n (eA + 1) ∧ kJ = fS n (eA + 1)) ?_ (fun kJ sF wu => ?_)
 refine aJ.block (aJ.seq (aJ.region ?_))
 refine .vl (Y.qs (m := eA) dr rfl rfl bf (aq (d := default) om)) ?_
 refine .vl (Y.zb dS rfl rfl (aI rfl) rfl rfl) (.alloc 105 dM rfl rfl ae (.ak eE rfl rfl rfl rfl rfl rfl (aI rfl) rfl ?_))
 refine .nil (aJ.seq (aJ.seq ?_))
 refine aJ.region ?_
 refine .fa bP ?_
 refine .ld aV ?_
 refine .aH Kt (An (k := ((n.cells.getD eA default).kind))) rfl (.ah rfl rfl .nil) ae rfl (.vl (Y.zm rfl) (.nil ?_))
 refine aJ.cond rfl (fun sA => ?_) (fun sA => ?_)
 replace sA : ¬ (Port ((n.cells.getD eA default).kind)) := by simpa using sA
 refine aJ.exit (⟨gH, mn, by first | exact yE hx hp om bm | exact vW ON om om bm, ⟨rfl, Le.mk (.c2 (.cons (aF rfl fw) (.c2 (.c .nil)))) .nil⟩⟩)
 replace sA : Port ((n.cells.getD eA default).kind) := by simpa using sA
 refine aJ.skip (aJ.seq (aJ.region ?_))
 refine .an ?_
 refine .nil (aJ.seq ?_)
 have h6 := sa (n.cells.getD eA default) (getD_in om)
 refine aJ.region ?_
 refine .fa bF ?_
 refine .ld aW ?_
 refine .vl (Y.qx (n := ((n.cells.getD eA default).args).length) az rfl cS) ?_
 refine .mv ?_
 refine .nil (aJ.block ?_)
 refine aJ.e0 (fun (ov : Nat) (xS : List (Int × Int)) => (xS, ⟨[(0, yc.v), (1, .fp (ab.row n) 0), (3, .v (.bool true)), (11, .fz 6 (n.cells.map Cell.row)), (12, .v (.int .i64 (n.cells.length : Int))), (13, .v (.int .i64 (eA : Int))), (22, .fz 1 (((n.cells.getD eA default).args).map ai)), (23, .v (.int .i64 ((((n.cells.getD eA default).args).length : Nat) : Int))), (24, .v (.int .i64 (ov : Int)))], []⟩)) (fun ov xS => ((ov : Int) ≤ ((((n.cells.getD eA default).args).length : Nat) : Int)) ∧ (xS = (ix ++ jN n eA) ++ ((n.cells.getD eA default).args.take ov).map (fun w => (w, (20 : Int))))) (fun ov xS => (((((n.cells.getD eA default).args).length : Nat) : Int) - (ov : Int)).toNat) 0 mn (⟨om, by rw [hx]; simp⟩) (⟨rfl, Le.mk (.c8 (.cons (aj rfl bf) .nil)) .nil⟩) (fun ov xS OO => ?_)
 obtain ⟨SC, ON⟩ := OO
 refine aJ.seq (aJ.region (.vl (Y.zc rfl rfl) ?_))
 refine .nil (aJ.seq ?_)
 refine aJ.a8 rfl (fun EL => ?_) (fun EL => ?_)
 refine aJ.skip (aJ.seq (aJ.block ?_))
 refine aJ.seq (aJ.region ?_)
 refine .vl (Y.qs (m := ov) az rfl rfl bf (aq (d := 0) om)) ?_
 refine .ld aV ?_
 refine .an ?_
 refine .nil (aJ.seq (aJ.mj ?_))
 refine aS.op ?_
 refine .mv ?_
 refine .nil (aS.op ?_)
 refine .mv ?_
 refine .nil (aS.yield rfl rfl (mH _ (by first | exact s0 om bm om | exact uM (by rw [show n.cells.length = eA by omega]; rw [← hp]; assumption) | exact uN om bm)) ae (aS.op ?_))
 refine .vl (Y.zm rfl) (.nil (aS.nil ?_))
 refine aJ.bO rfl (aJ.skip (aJ.region ?_))
 refine .vl (Y.qb rfl rfl bw) ?_
 refine .mv ?_
 refine .nil (⟨ov + 1, xS ++ [(((n.cells.getD eA default).args).getD ov 0, 20)], ⟨om, by rw [ON, take_one (d := (0 : Int)) om, List.map_append, List.append_assoc]; rfl⟩, om, ⟨rfl, Le.mk (.c8 (.cons (aj rfl bf) .nil)) .nil⟩⟩)
 refine aJ.exit (⟨true, xS, by first | exact yE hx hp om bm | exact vW ON om om bm, ⟨rfl, Le.mk (.c2 (.cons (aF rfl fw) (.c2 (.c .nil)))) .nil⟩⟩)
 refine aJ.region (.vl (Y.qb rfl rfl bw) ?_)
 refine .mv ?_
 refine .nil (⟨kJ, eA + 1, sF, ⟨om, wu.1, wu.2⟩, om, ⟨rfl, Le.mk (.c2 (.cons (aF rfl fw) (.c2 (.cons (aj rfl bf) .nil)))) .nil⟩⟩)
 refine aJ.exit ?_
 refine aJ.fb (fun (sG : List (Int × Int)) => (sG, ⟨[(0, yc.v), (1, .fp (ab.row n) 0)], []⟩)) (fun sG => sG = ix ++ (jN n n.cells.length ++ l4 n (fS n n.cells.length) 20)) ?_ (fun sG OP => ?_)
 refine aJ.seq (aJ.mj (aS.op ?_))
 refine .mv ?_
 refine .nil (aS.op ?_)
 refine .mv ?_
 refine .nil ?_
 refine aS.split (d := 35) rfl (fun r6 => ?_) (fun r6 => ?_)
 refine aS.op (.gw 35 (Y.zg rfl rfl) (.nil ?_))
 refine aS.op (.gw 35 (Y.qp oE rfl rfl) (.nil ?_))
 refine aS.op (.gw 35 (Y.za aV rfl rfl rfl rfl) (.nil ?_))
 refine aS.ar (d := 35) rfl ae rfl (aS.yield rfl rfl (mH _ (by first | exact s0 om bm om | exact uM (by rw [show n.cells.length = eA by omega]; rw [← hp]; assumption) | exact uN om bm)) ae (aS.op ?_))
 refine .gw 35 (Y.zm rfl) (.nil (aS.op ?_))
 refine .pk ?_
 refine .nil (aS.nil (aJ.bO rfl ?_))
 refine aJ.skip (⟨mn ++ [(n.freeze, 20)], by rw [show n.cells.length = eA by omega, ← hp, hx]; first | (rw [show gH = true by assumption]; simp [l4]) | (rw [show gH = false by assumption]; simp [l4]), ⟨rfl, Le.mk (.c (.c .nil)) .nil⟩⟩)
 refine aS.op (.gz 35 (.nil ?_))
 refine aS.op (.gz 35 (.nil ?_))
 refine aS.op (.gz 35 (.nil ?_))
 refine aS.op (.gz 35 (.nil ?_))
 refine aS.op (.gz 35 (.nil ?_))
 refine aS.op ?_
 refine .pk ?_
 refine .nil (aS.nil (aJ.bO rfl ?_))
 refine aJ.skip (⟨mn, by rw [show n.cells.length = eA by omega, ← hp, hx]; first | (rw [show gH = true by assumption]; simp [l4]) | (rw [show gH = false by assumption]; simp [l4]), ⟨rfl, Le.mk (.c (.c .nil)) .nil⟩⟩)
 refine aJ.seq ?_
 have Fj := Cj hf tD HH
 refine aJ.region ?_
 refine .fa pZ ?_
 refine .ld aV ?_
 refine .buildSlice (([n.done] : List Int).map ai) az ey rfl rfl rfl rfl rfl (aA (s := 1) (f := ai) (fun _ => rfl)) rfl rfl rfl ae ?_
 refine .fa jR ?_
 refine .ld aW ?_
 refine .fa jE ?_
 refine .ld aW ?_
 refine .fa iF ?_
 refine .ld aW ?_
 refine .sh (Sh.dg (d := 44) (([n.done] : List Int).map ai) rfl jJ (cQ.map aE)) ?_
 refine .buildSlice (([([n.done] : List Int), n.bE, n.aR, n.data] : List (List Int)).map nq) tk zN rfl rfl rfl rfl rfl (aA (s := 1) (f := nq) (fun _ => rfl)) rfl rfl rfl ae ?_
 refine .sh (Sh.dg (d := 51) (([([n.done] : List Int), n.bE, n.aR, n.data] : List (List Int)).map nq) rfl jJ (cQ.map si)) (.aH Kz (rp (ls := ([([n.done] : List Int), n.bE, n.aR, n.data] : List (List Int))) (by simp) (by simp; omega)) rfl (.ah rfl rfl .nil) ae rfl (.vl (Y.qx (n := (([([n.done] : List Int), n.bE, n.aR, n.data] : List (List Int)).flatten).length) az rfl cS) ?_))
 refine .mv ?_
 refine .nil (aJ.block (aJ.sh (Sh.dg (d := 52) ((([([n.done] : List Int), n.bE, n.aR, n.data] : List (List Int)).flatten).map ai) rfl jJ (cQ.map aE)) ?_))
 refine aJ.e0 (fun (jb : Nat) (rq : List (Int × Int)) => (rq, ⟨[(0, yc.v), (52, .fz 1 ((([([n.done] : List Int), n.bE, n.aR, n.data] : List (List Int)).flatten).map ai)), (53, .v (.int .i64 (((([([n.done] : List Int), n.bE, n.aR, n.data] : List (List Int)).flatten).length : Nat) : Int))), (54, .v (.int .i64 (jb : Int)))], []⟩)) (fun jb rq => ((jb : Int) ≤ (((([([n.done] : List Int), n.bE, n.aR, n.data] : List (List Int)).flatten).length : Nat) : Int)) ∧ (rq = (ix ++ (jN n n.cells.length ++ l4 n (fS n n.cells.length) 20)) ++ tl (([([n.done] : List Int), n.bE, n.aR, n.data] : List (List Int)).flatten) jb)) (fun jb rq => ((((([([n.done] : List Int), n.bE, n.aR, n.data] : List (List Int)).flatten).length : Nat) : Int) - (jb : Int)).toNat) 0 sG (⟨om, by rw [OP]; simp [tl]⟩) (⟨rfl, Le.mk (.c2 (.c (.cons (aj rfl bf) .nil))) .nil⟩) (fun jb rq HK => ?_)
 obtain ⟨O5, CN⟩ := HK
 refine aJ.seq (aJ.region (.vl (Y.zc rfl rfl) ?_))
 refine .nil (aJ.seq ?_)
 refine aJ.a8 rfl (fun OQ => ?_) (fun OQ => ?_)
 refine aJ.skip ?_
 refine aJ.fb (fun (sH : List (Int × Int)) => (sH, ⟨[(0, yc.v), (52, .fz 1 ((([([n.done] : List Int), n.bE, n.aR, n.data] : List (List Int)).flatten).map ai)), (53, .v (.int .i64 (((([([n.done] : List Int), n.bE, n.aR, n.data] : List (List Int)).flatten).length : Nat) : Int))), (54, .v (.int .i64 (jb : Int)))], []⟩)) (fun sH => sH = (ix ++ (jN n n.cells.length ++ l4 n (fS n n.cells.length) 20)) ++ tl (([([n.done] : List Int), n.bE, n.aR, n.data] : List (List Int)).flatten) (jb + 1)) ?_ (fun sH CO => ?_)
 refine aJ.block (aJ.seq (aJ.region ?_))
 refine .vl (Y.qs (m := jb) az rfl rfl bf (aq (d := 0) om)) ?_
 refine .ld aV ?_
 refine .an ?_
 refine .nil (aJ.seq (aJ.mj ?_))
 refine aS.op ?_
 refine .mv ?_
 refine .nil (aS.op (.vl (Y.qq rfl rfl) ?_))
 refine .nil (aS.op ?_)
 refine .mv ?_
 refine .nil ?_
 refine aS.ax (d := 60) rfl (fun SD => ?_) (fun SD => ?_)
 refine aS.op (.gw 60 (Y.zg rfl rfl) (.nil ?_))
 refine aS.op (.gw 60 (Y.zg rfl rfl) (.nil ?_))
 refine aS.ar (d := 60) rfl ae rfl (aS.yield rfl rfl (mH _ (by first | exact s0 om bm om | exact uM (by rw [show n.cells.length = eA by omega]; rw [← hp]; assumption) | exact uN om bm)) ae (aS.op ?_))
 refine .gw 60 (Y.zm rfl) (.nil (aS.op ?_))
 refine .pk ?_
 refine .nil (aS.nil (aJ.bO rfl ?_))
 refine aJ.skip (⟨rq ++ [((([([n.done] : List Int), n.bE, n.aR, n.data] : List (List Int)).flatten).getD jb 0, 0)], by first | (rw [nS om, if_pos bm, CN]; simp only [List.append_assoc]) | (rw [nS om, if_neg bm, CN]; simp), ⟨rfl, Le.mk (.c2 (.c (.c .nil))) .nil⟩⟩)
 refine aS.op (.gz 60 (.nil ?_))
 refine aS.op (.gz 60 (.nil ?_))
 refine aS.op (.gz 60 (.nil ?_))
 refine aS.op (.gz 60 (.nil ?_))
 refine aS.op ?_
 refine .pk ?_
 refine .nil (aS.nil (aJ.bO rfl ?_))
 refine aJ.skip (⟨rq, by first | (rw [nS om, if_pos bm, CN]; simp only [List.append_assoc]) | (rw [nS om, if_neg bm, CN]; simp), ⟨rfl, Le.mk (.c2 (.c (.c .nil))) .nil⟩⟩)
 refine aJ.region (.vl (Y.qb rfl rfl bw) ?_)
 refine .mv ?_
 refine .nil (⟨jb + 1, sH, ⟨om, CO⟩, om, ⟨rfl, Le.mk (.c2 (.c (.cons (aj rfl bf) .nil))) .nil⟩⟩)
 refine aJ.exit ⟨.inl rfl, by show rq = _; rw [CN, show jb = (([([n.done] : List Int), n.bE, n.aR, n.data] : List (List Int)).flatten).length by omega]; simp [sx]⟩
theorem Ao {n : ab} : au Try.prog 112 [.agg (ab.row n)] [] [] (fun r o => r = .gB (.func 130) [] [.fp (ab.row n) 0] ∧ o = []) := by
 refine au.of Try.func112 rfl rfl rfl (n := 4) ae (aI rfl) (.sr (.box 101 rfl rfl rfl rfl rfl ae ?_))
 refine .an ?_
 refine .nil (.sr (.sh (Sh.cW 101 rfl rfl) ?_))
 refine .vl (Y.zd rfl rfl rfl rfl) ?_
 refine .an ?_
 refine .nil (.ret ?_)
 exact ⟨_, _, rfl, rfl, rfl, rfl⟩
theorem CP {n : ab} (hM : VT n) : jn Try.prog 111 [.fp (ab.row n) 0] (fL n) := by
 refine jn.of Try.func111 rfl rfl (n := 45) rfl (aI rfl) (fun yc ix mH => ?_) rfl
 have hs := hM.small; have hf := hM.formed; have Ct := hM.bR; have Gf := hM.b8; have sa := hM.ic; have tD := hM.iS; have HH := hM.bt; have FV := hf.cb; have IG := hf.dR
 refine aJ.seq (aJ.region ?_)
 refine .an ?_
 refine .nil (aJ.seq (aJ.seq ?_))
 refine aJ.region ?_
 refine .fa bL ?_
 refine .ld eT ?_
 refine .vl (Y.qx (n := n.cells.length) dr rfl cS) ?_
 refine .mv ?_
 refine .nil (aJ.block ?_)
 refine aJ.jt (fun (jo : Bool) (lk : Nat) (mn : List (Int × Int)) => (mn, ⟨[(0, yc.v), (1, .fp (ab.row n) 0), (3, .v (.bool jo)), (7, .fz 6 (n.cells.map Cell.row)), (8, .v (.int .i64 (n.cells.length : Int))), (9, .v (.int .i64 (lk : Int)))], []⟩)) (fun jo lk mn => ((lk : Int) ≤ (n.cells.length : Int)) ∧ (mn = ix ++ q6 n lk) ∧ (jo = jF n lk)) (fun jo lk mn => ((n.cells.length : Int) - (lk : Int)).toNat) false 0 ix (⟨om, by simp [q6], rfl⟩) (⟨rfl, Le.mk (.c2 (.cons (aF rfl fw) (.c2 (.cons (aj rfl bf) .nil)))) .nil⟩) (fun jo lk mn th => ?_)
 obtain ⟨rz, hx, hp⟩ := th
 refine aJ.seq (aJ.region (.vl (Y.zc rfl rfl) ?_))
 refine .nil (aJ.seq ?_)
 refine aJ.a8 rfl (fun EE => ?_) (fun EE => ?_)
 refine aJ.skip ?_
 refine aJ.np (fun (n6 : Bool) (wv : List (Int × Int)) => (wv, ⟨[(0, yc.v), (1, .fp (ab.row n) 0), (3, .v (.bool n6)), (7, .fz 6 (n.cells.map Cell.row)), (8, .v (.int .i64 (n.cells.length : Int))), (9, .v (.int .i64 (lk : Int)))], []⟩)) (fun n6 wv => wv = ix ++ q6 n (lk + 1) ∧ n6 = jF n (lk + 1)) ?_ (fun n6 wv KT => ?_)
 refine aJ.block (aJ.seq (aJ.region ?_))
 refine .vl (Y.qs (m := lk) dr rfl rfl bf (aq (d := default) om)) ?_
 refine .vl (Y.zb dS rfl rfl (aI rfl) rfl rfl) (.alloc 105 dM rfl rfl ae (.ak eE rfl rfl rfl rfl rfl rfl (aI rfl) rfl ?_))
 refine .nil (aJ.seq (aJ.seq ?_))
 refine aJ.region ?_
 refine .fa bP ?_
 refine .ld aV ?_
 refine .vl (Y.zk rfl rfl) (.nil ?_)
 refine aJ.a8 rfl (fun rJ => ?_) (fun rJ => ?_)
 refine aJ.exit (⟨jo, mn, by first | exact Ck hx hp om bm | exact yF hx om bm, ⟨rfl, Le.mk (.c2 (.cons (aF rfl fw) (.c2 (.c .nil)))) .nil⟩⟩)
 replace rJ := Classical.not_not.1 rJ
 refine aJ.skip (aJ.seq (aJ.region ?_))
 refine .an ?_
 refine .nil (aJ.seq ?_)
 have h6 := E6 hf (i := lk) om bm
 refine aJ.mj (aS.op ?_)
 refine .mv ?_
 refine .nil (aS.op ?_)
 refine .fa bF ?_
 refine .nil (aS.op ?_)
 refine .ld aW ?_
 refine .nil (aS.op ?_)
 refine .vl (Y.qs (m := 0) az rfl rfl bf (aq (d := 0) om)) ?_
 refine .nil (aS.op ?_)
 refine .ld aV ?_
 refine .nil (aS.yield rfl rfl (mH _ (by first | exact s4 om bm | exact s5 om bm | exact uO (by rw [show n.cells.length = lk by omega]; rw [← hp]; assumption))) ae (aS.op ?_))
 refine .vl (Y.zm rfl) (.nil (aS.op ?_))
 refine .mv ?_
 refine .nil (aS.op (.gw 23 (Y.zg rfl rfl) ?_))
 refine .nil (aS.op (.gw 23 (Y.qp bF rfl rfl) ?_))
 refine .nil (aS.op (.gw 23 (Y.za aW rfl rfl rfl rfl) ?_))
 refine .nil (aS.op ?_)
 refine .gw 23 (Y.qs (m := 1) az rfl rfl bf (aq (d := 0) om)) ?_
 refine .nil (aS.op (.gw 23 (Y.za aV rfl rfl rfl rfl) ?_))
 refine .nil (aS.ar (d := 23) rfl ae rfl (aS.yield rfl rfl (mH _ (by first | exact s4 om bm | exact s5 om bm | exact uO (by rw [show n.cells.length = lk by omega]; rw [← hp]; assumption))) ae ?_))
 refine aS.op (.gw 23 (Y.zm rfl) (.nil ?_))
 refine aS.op ?_
 refine .pk ?_
 refine .nil (aS.nil (aJ.bO rfl ?_))
 refine aJ.skip (⟨true, (mn ++ [(((n.cells.getD lk default).args).getD 0 0, 100)]) ++ [(((n.cells.getD lk default).args).getD 1 0, 60)], by first | exact Ck hx hp om bm | exact yF hx om bm, ⟨rfl, Le.mk (.c2 (.cons (aF rfl fw) (.c2 (.c .nil)))) .nil⟩⟩)
 refine aJ.region (.vl (Y.qb rfl rfl bw) ?_)
 refine .mv ?_
 refine .nil (⟨n6, lk + 1, wv, ⟨om, KT.1, KT.2⟩, om, ⟨rfl, Le.mk (.c2 (.cons (aF rfl fw) (.c2 (.cons (aj rfl bf) .nil)))) .nil⟩⟩)
 refine aJ.exit ?_
 refine aJ.fb (fun (wx : List (Int × Int)) => (wx, ⟨[(0, yc.v), (1, .fp (ab.row n) 0)], []⟩)) (fun wx => wx = ix ++ (q6 n n.cells.length ++ l4 n (jF n n.cells.length) 100)) ?_ (fun wx SE => ?_)
 refine aJ.seq (aJ.mj (aS.op ?_))
 refine .mv ?_
 refine .nil (aS.op ?_)
 refine .mv ?_
 refine .nil ?_
 refine aS.split (d := 34) rfl (fun wc => ?_) (fun wc => ?_)
 refine aS.op (.gw 34 (Y.zg rfl rfl) (.nil ?_))
 refine aS.op (.gw 34 (Y.qp oE rfl rfl) (.nil ?_))
 refine aS.op (.gw 34 (Y.za aV rfl rfl rfl rfl) (.nil ?_))
 refine aS.ar (d := 34) rfl ae rfl (aS.yield rfl rfl (mH _ (by first | exact s4 om bm | exact s5 om bm | exact uO (by rw [show n.cells.length = lk by omega]; rw [← hp]; assumption))) ae (aS.op ?_))
 refine .gw 34 (Y.zm rfl) (.nil (aS.op ?_))
 refine .pk ?_
 refine .nil (aS.nil (aJ.bO rfl ?_))
 refine aJ.skip (⟨mn ++ [(n.freeze, 100)], by rw [show n.cells.length = lk by omega, ← hp, hx]; first | (rw [show jo = true by assumption]; simp [l4]) | (rw [show jo = false by assumption]; simp [l4]), ⟨rfl, Le.mk (.c (.c .nil)) .nil⟩⟩)
 refine aS.op (.gz 34 (.nil ?_))
 refine aS.op (.gz 34 (.nil ?_))
 refine aS.op (.gz 34 (.nil ?_))
 refine aS.op (.gz 34 (.nil ?_))
 refine aS.op (.gz 34 (.nil ?_))
 refine aS.op ?_
 refine .pk ?_
 refine .nil (aS.nil (aJ.bO rfl ?_))
 refine aJ.skip (⟨mn, by rw [show n.cells.length = lk by omega, ← hp, hx]; first | (rw [show jo = true by assumption]; simp [l4]) | (rw [show jo = false by assumption]; simp [l4]), ⟨rfl, Le.mk (.c (.c .nil)) .nil⟩⟩)
 refine aJ.mj (aS.op (.vl (Y.zb dD rfl rfl (aI rfl) rfl rfl) ?_))
 refine .nil (aS.op (.aH Kl (Ao (n := n)) rfl (.ah rfl rfl .nil) ae rfl ?_))
 refine .nil (aS.op ?_)
 refine .mv ?_
 refine .nil ?_
 refine aS.HP rfl Ks (EW (n := n) hM) rfl (fun e he => mH e (E5 he)) ae ?_
 refine aS.nil ⟨.inl rfl, by show wx ++ sx n = _; rw [SE]; simp [fL]⟩
theorem um {n : ab} : au Try.prog 80 [.agg (ab.row n)] [] [] (fun r o => r = .gB (.func 111) [] [.fp (ab.row n) 0] ∧ o = []) := by
 refine au.of Try.func80 rfl rfl rfl (n := 4) ae (aI rfl) (.sr (.box 101 rfl rfl rfl rfl rfl ae ?_))
 refine .an ?_
 refine .nil (.sr (.sh (Sh.cW 101 rfl rfl) ?_))
 refine .vl (Y.zd rfl rfl rfl rfl) ?_
 refine .an ?_
 refine .nil (.ret ?_)
 exact ⟨_, _, rfl, rfl, rfl, rfl⟩
open Go Go.AW Go.Proofs
theorem wy {l : List Int} (hl : l.length ≤ 1000) : jn Try.prog 114 [.fp [.fz 1 (l.map ai)] 0] (rf l) := by
 refine jn.of Try.func114 rfl rfl (n := 19) rfl (aI rfl) (fun yc ix mH => ?_) rfl
 refine aJ.seq (aJ.region ?_)
 refine .ld aW ?_
 refine .vl (Y.qx (n := l.length) az rfl cS) (.vl (Y.zz rfl rfl bw) ?_)
 refine .an ?_
 refine .nil (aJ.block ?_)
 refine aJ.e0 (fun (rA : Int) (xT : List (Int × Int)) => (xT, ⟨[(0, yc.v), (1, .fp [.fz 1 (l.map ai)] 0), (3, .v (.int .i64 rA))], []⟩)) (fun rA xT => (-1 ≤ rA ∧ rA < l.length) ∧ (xT = ix ++ s9 l ((l.length : Int) - 1 - rA).toNat)) (fun rA xT => (rA + 1).toNat) ((l.length : Int) - 1) ix (⟨om, by simp [s9]⟩) (⟨rfl, Le.mk (.c2 (.cons (aj rfl bf) .nil)) .nil⟩) (fun rA xT JD => ?_)
 obtain ⟨hr, hx⟩ := JD
 refine aJ.seq (aJ.seq (aJ.region ?_))
 refine .mv ?_
 refine .vl (Y.qq rfl rfl) (.nil ?_)
 refine aJ.a8 rfl (fun c8 => ?_) (fun c8 => ?_)
 refine aJ.skip (aJ.seq (aJ.block ?_))
 refine aJ.seq (aJ.mj (aS.op ?_))
 refine .mv ?_
 refine .nil (aS.op ?_)
 refine .mv ?_
 refine .nil (aS.op ?_)
 refine .ld aW ?_
 refine .nil (aS.op ?_)
 refine .mv ?_
 refine .nil (aS.op ?_)
 refine .vl (Y.qs (m := (rA).toNat) az rfl rfl om (aq (d := 0) om)) ?_
 refine .nil (aS.op ?_)
 refine .ld aV ?_
 refine .nil (aS.yield rfl rfl (mH _ (ED om om)) ae (aS.op ?_))
 refine .vl (Y.zm rfl) (.nil (aS.nil ?_))
 refine aJ.bO rfl (aJ.skip (aJ.region ?_))
 refine .mv ?_
 refine .vl (Y.zz rfl rfl bw) ?_
 refine .an ?_
 refine .nil (⟨rA - 1, xT ++ [(rA, l.getD ((rA).toNat) 0)], ⟨om, by rw [hx, xE om om, List.append_assoc]⟩, om, ⟨rfl, Le.mk (.c2 (.cons (aj rfl bf) .nil)) .nil⟩⟩)
 refine aJ.exit ⟨.inl rfl, by show xT = _; rw [hx, Ad om]⟩
theorem tw {l : List Int} : au Try.prog 86 [.fz 1 (l.map ai)] [] [] (fun r o => r = .gB (.func 114) [] [.fp [.fz 1 (l.map ai)] 0] ∧ o = []) := by
 refine au.of Try.func86 rfl rfl rfl (n := 4) ae (aI rfl) (.sr (.box 101 rfl rfl rfl rfl rfl ae ?_))
 refine .an ?_
 refine .nil (.sr (.sh (Sh.cW 101 rfl rfl) ?_))
 refine .vl (Y.zd rfl rfl rfl rfl) ?_
 refine .an ?_
 refine .nil (.ret ?_)
 exact ⟨_, _, rfl, rfl, rfl, rfl⟩
open Go Go.AW Go.Proofs
theorem xU {x : Int} (h0 : 0 ≤ x) (h1 : x < 256) : au Try.prog 129 [.v (.int .u64 x)] [] [] (fun r o => r = (vi ((fe (x.toNat + 1) : Nat) : Int)) ∧ o = []) := by
 refine au.of Try.func129 rfl rfl rfl (n := 25) ae (aI rfl) ?_
 have Ui := zW
 refine .sr ?_
 refine .an ?_
 refine .nil (.seq (.sr ?_))
 refine .mv ?_
 refine .vl (Y.qq rfl rfl) (.nil ?_)
 refine .a8 rfl (fun c4 => ?_) (fun c4 => ?_)
 exfalso; omega
 refine .skip (.seq (.sr ?_))
 refine .mv ?_
 refine .vl (Y.qq rfl rfl) (.nil ?_)
 refine .a8 rfl (fun c8 => ?_) (fun c8 => ?_)
 exfalso; omega
 refine .skip (.seq (.sr ?_))
 refine .mv ?_
 refine .vl (Y.qq rfl rfl) (.nil ?_)
 refine .a8 rfl (fun Af => ?_) (fun Af => ?_)
 exfalso; omega
 refine .skip (.sr ?_)
 have yM := By Cm x.toNat
 refine .mv ?_
 refine .mv ?_
 refine .vl (Y.qk xy tX rfl (by first | rfl | exact IntWalk.u8_in _ om)) (.vl (Y.qw (b := Cm) (m := (x).toNat) Hw rfl rfl om om) (.vl (Y.qk tX q4 rfl wG) (.vl (Y.qb rfl rfl bw) ?_)))
 refine .an ?_
 refine .nil (.ret ?_)
 exact .ri rfl (by rw [E7 om]; omega)
theorem CQ {x : Int} (h0 : 0 ≤ x) (h1 : x < 256) : au Try.prog 109 [.v (.int .u64 x)] [] [] (fun r o => r = (vi ((fe (x.toNat + 1) : Nat) : Int)) ∧ o = []) := by
 refine au.of Try.func109 rfl rfl rfl (n := 8) ae (aI rfl) (.sr ?_)
 refine .an ?_
 refine .nil (.seq (.bO rfl ?_))
 refine .skip (.sr ?_)
 refine .mv ?_
 refine .aH Kr (xU (x := x) (om) (om)) rfl (.ah rfl rfl .nil) ae rfl ?_
 refine .an ?_
 refine .nil (.ret ?_)
 exact .ri rfl (rfl)
theorem n7 {x : Int} (h0 : 0 ≤ x) (h1 : x ≤ 256) : au Try.prog 76 [vi x] [] [] (fun r o => r = (vi ((fe x.toNat : Nat) : Int)) ∧ o = []) := by
 refine au.of Try.func76 rfl rfl rfl (n := 9) ae (aI rfl) (.sr ?_)
 refine .an ?_
 refine .nil (.seq (.sr ?_))
 refine .mv ?_
 refine .vl (Y.zc rfl rfl) (.nil ?_)
 refine .a8 rfl (fun c4 => ?_) (fun c4 => ?_)
 refine .sr ?_
 refine .an ?_
 refine .nil (.ret ?_)
 exact .ri rfl (by unfold fe; rw [if_pos om]; rfl)
 refine .skip (.sr ?_)
 refine .mv ?_
 refine .vl (Y.zz rfl rfl bw) (.vl (Y.qj q4 Ke rfl (tO _ om)) (.aH Kk (CQ (x := (((x - 1).toNat : Nat) : Int)) (om) (om)) rfl (.ah rfl rfl .nil) ae rfl ?_))
 refine .an ?_
 refine .nil (.ret ?_)
 exact .ri rfl (by rw [show ((((x - 1).toNat : Nat) : Int).toNat + 1) = x.toNat by omega])
end Go.Proofs.Ytligpghohcfpnaa
