/- The table of lengths; small facts for walks of timing. -/
import Derived.Test.YtligpghohcfpnaaNetx0
import Derived.Test.YtligpghohcfpnaaAWx2
set_option linter.unusedSimpArgs false
set_option linter.unusedVariables false
set_option linter.unusedSectionVars false
set_option maxRecDepth 4000
set_option maxHeartbeats 8000000
namespace Go.Proofs.Ytligpghohcfpnaa
open Go Go.AW Go.Proofs

def len8 : ByteArray := ⟨(([0, 1, 2, 2, 3, 3, 3, 3, 4, 4, 4, 4, 4, 4, 4, 4, 5, 5, 5, 5, 5, 5, 5, 5, 5, 5, 5, 5, 5, 5, 5, 5, 6, 6, 6, 6, 6, 6, 6, 6, 6, 6, 6, 6, 6, 6, 6, 6, 6, 6, 6, 6, 6, 6, 6, 6, 6, 6, 6, 6, 6, 6, 6, 6].append [7, 7, 7, 7, 7, 7, 7, 7, 7, 7, 7, 7, 7, 7, 7, 7, 7, 7, 7, 7, 7, 7, 7, 7, 7, 7, 7, 7, 7, 7, 7, 7, 7, 7, 7, 7, 7, 7, 7, 7, 7, 7, 7, 7, 7, 7, 7, 7, 7, 7, 7, 7, 7, 7, 7, 7, 7, 7, 7, 7, 7, 7, 7, 7]).append ([8, 8, 8, 8, 8, 8, 8, 8, 8, 8, 8, 8, 8, 8, 8, 8, 8, 8, 8, 8, 8, 8, 8, 8, 8, 8, 8, 8, 8, 8, 8, 8, 8, 8, 8, 8, 8, 8, 8, 8, 8, 8, 8, 8, 8, 8, 8, 8, 8, 8, 8, 8, 8, 8, 8, 8, 8, 8, 8, 8, 8, 8, 8, 8].append [8, 8, 8, 8, 8, 8, 8, 8, 8, 8, 8, 8, 8, 8, 8, 8, 8, 8, 8, 8, 8, 8, 8, 8, 8, 8, 8, 8, 8, 8, 8, 8, 8, 8, 8, 8, 8, 8, 8, 8, 8, 8, 8, 8, 8, 8, 8, 8, 8, 8, 8, 8, 8, 8, 8, 8, 8, 8, 8, 8, 8, 8, 8, 8])).toArray⟩
theorem len8_all : (List.range 256).all (fun m => sbyte len8 m == lev (m + 1)) = true := by kernel_rfl
theorem len8_size : len8.size = 256 := by kernel_rfl
theorem len8_at {m : Nat} (h : m < 256) : sbyte len8 m = lev (m + 1) := by
 have := List.all_eq_true.1 len8_all m (List.mem_range.2 h)
 simpa using this
theorem lev_lt {n : Nat} (h : n ≤ 256) : lev n ≤ 8 := lev_le om
theorem mul_rng {x : Int} {k : Nat} (h0 : 1 ≤ x) (h1 : x ≤ 64) (hk : k ≤ 8) : 0 ≤ 3 * x * (k : Int) ∧ 3 * x * (k : Int) ≤ 1536 :=
 ⟨Int.mul_nonneg om om, Int.le_trans (Int.mul_le_mul (show 3 * x ≤ 192 by omega) (show (k : Int) ≤ 8 by omega) om om) dcd⟩
theorem wd_rng {n : Netlist} {w : Int} (hw : ∀ w ∈ n.widths, Wide w) (hi : In w n.widths.length) : 1 ≤ n.widths.getD w.toNat 0 ∧ n.widths.getD w.toNat 0 ≤ 64 := by
 unfold In at hi
 have := hw _ (getD_mem (l := n.widths) (i := w.toNat) om)
 unfold Wide at this
 omega
theorem op_len {n : Netlist} {c : Cell} (h : CellOK n c) (h2 : c.kind = 2) : In c.out n.widths.length ∧ Plain c.op ∧ 1 ≤ c.args.length := by
 have hs := h.2.1
 refine ⟨h.2.2.2 om, ?_⟩
 have h3 : opArgs c.op ≠ 0 ∧ (c.args.length : Int) = opArgs c.op := by
  unfold Shaped at hs
  rcases hs with ⟨h, _⟩ | ⟨_, a, b, _⟩ | ⟨h, _⟩ | ⟨h, _⟩ | ⟨h, _⟩ | ⟨h, _⟩ | ⟨h, _⟩ | ⟨h, _⟩ | ⟨h, _⟩ | ⟨h, _⟩ <;> first | omega | exact ⟨a, b⟩
 exact ⟨(Plain_args _).1 h3.1, om⟩
theorem maxA_ife {at_ l : List Int} {k : Nat} {t : Int} (ht : t = maxA at_ (l.take k)) (hk : k < l.length) : (if at_.getD (l.getD k 0).toNat 0 > t then at_.getD (l.getD k 0).toNat 0 else t) = maxA at_ (l.take (k + 1)) := by
 rw [← maxA_take hk, ← ht]
 split <;> omega
theorem ArrK.in17 {n : Netlist} {l out : List Int} {k : Nat} {t : Int} (hv : VT n) (ho : Ord n l) (h : ArrK n l k out) (hk : k < l.length) (ht : t = if Comb (n.cells.getD (l.getD k 0).toNat default).kind then maxA out (n.cells.getD (l.getD k 0).toNat default).args else 0) : 0 ≤ t ∧ t ≤ 400000 := by
 rw [ht]
 split
 ·rename_i hc
  have := h.maxA_le hv ho hk hc (n.cell (l.getD k 0)).args.length
  rw [List.take_length] at this
  exact this
 ·omega
theorem out_neg {n : Netlist} (hf : Formed n) {i : Nat} (hi : i < n.cells.length) (h : (n.cells.getD i default).out < 0) : (n.cells.getD i default).kind = 7 := by
 refine Classical.byContradiction fun h7 => ?_
 have := (hf.cells i hi).2.2.2 h7
 unfold In at this; omega
theorem ArrK.set17 {n : Netlist} {l out : List Int} {k : Nat} {t : Int} (hf : Formed n) (ho : Ord n l) (h : ArrK n l k out) (hk : k < l.length) (h0 : ¬ (n.cells.getD (l.getD k 0).toNat default).out < 0)
  (ht : t = if Comb (n.cells.getD (l.getD k 0).toNat default).kind then maxA out (n.cells.getD (l.getD k 0).toNat default).args else 0) :
  ArrK n l (k + 1) (out.set (n.cells.getD (l.getD k 0).toNat default).out.toNat (t + dly n (n.cells.getD (l.getD k 0).toNat default))) := by
 have hr := ho.rng _ (getD_mem hk)
 refine h.set hf ho hk (w := (n.cells.getD (l.getD k 0).toNat default).out) ⟨hr, fun h7 => ?_, rfl⟩ (by rw [ht]; rfl)
 have := (hf.cells (l.getD k 0).toNat om).2.2.1 h7
 omega
structure DrvC (n : Netlist) (l : List Cell) : Prop where
 len : l.length = n.widths.length
 at_ : ∀ i w, Drives n i w → l.getD w.toNat default = n.cell i
structure DrvCK (n : Netlist) (k : Nat) (l : List Cell) : Prop where
 len : l.length = n.widths.length
 at_ : ∀ i w, Drives n i w → i < k → l.getD w.toNat default = n.cell i
theorem DrvCK.init {n : Netlist} {z : Cell} : DrvCK n 0 (List.replicate n.widths.length z) := ⟨by simp, fun i w hd h => by have := hd.1; omega⟩
theorem DrvCK.set {n : Netlist} {k : Nat} {l : List Cell} (hf : Formed n) (h : DrvCK n k l) (hk : k < n.cells.length) (h0 : (n.cells.getD k default).out ≥ 0) : DrvCK n (k + 1) (l.set (n.cells.getD k default).out.toNat (n.cells.getD k default)) := by
 refine ⟨by rw [List.length_set]; exact h.len, fun i w hd hi => ?_⟩
 have hw := hf.outIn hd
 unfold In at hw
 have hl := h.len
 have h7 : (n.cells.getD k default).kind ≠ 7 := fun e => by have := (hf.cells k hk).2.2.1 e; omega
 have hdk : Drives n (k : Int) (n.cells.getD k default).out := ⟨⟨om, om⟩, h7, rfl⟩
 have hwk := hf.outIn hdk
 unfold In at hwk
 rw [getD_set]
 by_cases e : (n.cells.getD k default).out = w
 ·rw [if_pos ⟨om, om⟩]
  rw [e] at hdk
  have := hf.unique hd hdk
  subst this; rfl
 ·rw [if_neg om]
  refine h.at_ i w hd ?_
  rcases Int.lt_or_eq_of_le (show i ≤ k by omega) with h1 | h1
  ·exact h1
  ·subst h1; exact absurd hd.2.2 e
theorem DrvCK.skip {n : Netlist} {k : Nat} {l : List Cell} (hf : Formed n) (h : DrvCK n k l) (hk : k < n.cells.length) (h0 : ¬ (n.cells.getD k default).out ≥ 0) : DrvCK n (k + 1) l := by
 refine ⟨h.len, fun i w hd hi => ?_⟩
 refine h.at_ i w hd ?_
 rcases Int.lt_or_eq_of_le (show i ≤ k by omega) with h1 | h1
 ·exact h1
 ·subst h1
  have hw := hf.outIn hd
  unfold In at hw
  have : n.cell (k : Int) = n.cells.getD k default := rfl
  rw [← this, hd.2.2] at h0
  omega
theorem DrvCK.done {n : Netlist} {k : Nat} {l : List Cell} (h : DrvCK n k l) (hk : k = n.cells.length) : DrvC n l := ⟨h.len, fun i w hd => h.at_ i w hd (by rw [hk]; exact hd.1.2)⟩
structure Rvs (l m : List Int) (i j : Int) : Prop where
 len : m.length = l.length
 sum : i + j = (l.length : Int) - 1
 i0 : 0 ≤ i
 out : ∀ k : Nat, k < l.length → ((k : Int) < i ∨ j < k) → m.getD k 0 = l.getD (l.length - 1 - k) 0
 mid : ∀ k : Nat, i ≤ k → (k : Int) ≤ j → m.getD k 0 = l.getD k 0
theorem Rvs.init (l : List Int) : Rvs l l 0 ((l.length : Int) - 1) := ⟨rfl, om, om, fun k hk h => by omega, fun _ _ _ => rfl⟩
theorem Rvs.step {l m : List Int} {i j : Int} (h : Rvs l m i j) (hij : i < j) : Rvs l ((m.set i.toNat (m.getD j.toNat 0)).set j.toNat (m.getD i.toNat 0)) (i + 1) (j - 1) := by
 have h1 := h.len; have h2 := h.sum; have h3 := h.i0
 refine ⟨by simp [h1], om, om, fun k hk hc => ?_, fun k ha hb => ?_⟩
 ·rw [getD_set, getD_set]
  by_cases e : j.toNat = k
  ·rw [if_pos ⟨e, by rw [List.length_set]; omega⟩, h.mid i.toNat om om]
   congr 1; omega
  ·rw [if_neg om]
   by_cases e2 : i.toNat = k
   ·rw [if_pos ⟨e2, om⟩, h.mid j.toNat om om]
    congr 1; omega
   ·rw [if_neg om]
    exact h.out k hk om
 ·rw [getD_set, getD_set, if_neg om, if_neg om]
  exact h.mid k om om
theorem Rvs.done {l m : List Int} {i j : Int} (h : Rvs l m i j) (hij : ¬ i < j) : m = l.reverse := by
 have h1 := h.len; have h2 := h.sum
 refine List.ext_getElem (by simp [h1]) fun k hk hk' => ?_
 have e : m.getD k 0 = l.getD (l.length - 1 - k) 0 := by
  by_cases e : (k : Int) < i ∨ j < k
  ·exact h.out k om e
  ·rw [h.mid k om om]
   congr 1; omega
 rw [List.getD_eq_getElem?_getD, List.getElem?_eq_getElem hk, List.getD_eq_getElem?_getD, List.getElem?_eq_getElem om] at e
 rw [List.getElem_reverse]
 exact e
end Go.Proofs.Ytligpghohcfpnaa
/- The longest path, step by step, in plain Lean. -/
namespace Go.Proofs.Ytligpghohcfpnaa
open Go Go.AW Go.Proofs

def Lnk (n : Netlist) (at_ : List Int) (y x : Int) : Prop := ∃ i, Drives n i y ∧ Comb (n.cell i).kind ∧ x ∈ (n.cell i).args ∧ at_.getD y.toNat 0 = at_.getD x.toNat 0 + dly n (n.cell i)
def Rt0 (n : Netlist) (at_ : List Int) (y : Int) : Prop := ∃ i, Drives n i y ∧ at_.getD y.toNat 0 = dly n (n.cell i) ∧ (¬ Comb (n.cell i).kind ∨ (n.cell i).kind = 1)
structure PP (n : Netlist) (l at_ : List Int) (w0 : Int) (st : List Int) (last : Int) : Prop where
 rk : 0 ≤ last → ∀ i, Drives n i last → st.length + l.idxOf i + 1 ≤ n.cells.length
 len : st.length ≤ n.cells.length
 in_ : 0 ≤ last → In last n.widths.length
 stin : ∀ j, j < st.length → In (st.getD j 0) n.widths.length
 link : ∀ j, j + 1 < st.length → Lnk n at_ (st.getD j 0) (st.getD (j + 1) 0)
 nxt : 0 ≤ last → 0 < st.length → Lnk n at_ (st.getD (st.length - 1) 0) last
 end_ : last < 0 → 0 < st.length ∧ Rt0 n at_ (st.getD (st.length - 1) 0)
 fst : (0 < st.length → st.getD 0 0 = w0) ∧ (st.length = 0 → last = w0)
def Best (at_ l : List Int) (last : Int) : Prop := (l = [] ∧ last = -1) ∨ (last ∈ l ∧ ∀ x ∈ l, at_.getD x.toNat 0 ≤ at_.getD last.toNat 0)
theorem Best.nil {at_ l : List Int} : Best at_ (l.take 0) (-1) := .inl ⟨by simp, rfl⟩
theorem Best.step {at_ l : List Int} {k : Nat} {last : Int} (h : Best at_ (l.take k) last) (hk : k < l.length) (h0 : ∀ x ∈ l, 0 ≤ x) (hc : last < 0 ∨ at_.getD (l.getD k 0).toNat 0 > at_.getD last.toNat 0) : Best at_ (l.take (k + 1)) (l.getD k 0) := by
 rw [take_one (d := (0 : Int)) hk]
 refine .inr ⟨by simp, fun x hx => ?_⟩
 rcases List.mem_append.1 hx with hx | hx
 ·rcases h with ⟨h1, _⟩ | ⟨h1, h2⟩
  ·rw [h1] at hx; cases hx
  ·have := h2 x hx
   rcases hc with hc | hc
   ·have := h0 last (List.mem_of_mem_take h1); omega
   ·omega
 ·rw [List.mem_singleton.1 hx]; exact Int.le_refl _
theorem Best.keep {at_ l : List Int} {k : Nat} {last : Int} (h : Best at_ (l.take k) last) (hk : k < l.length) (hc : ¬ (last < 0 ∨ at_.getD (l.getD k 0).toNat 0 > at_.getD last.toNat 0)) : Best at_ (l.take (k + 1)) last := by
 rw [take_one (d := (0 : Int)) hk]
 rcases h with ⟨h1, h2⟩ | ⟨h1, h2⟩
 ·omega
 ·refine .inr ⟨List.mem_append.2 (.inl h1), fun x hx => ?_⟩
  rcases List.mem_append.1 hx with hx | hx
  ·exact h2 x hx
  ·rw [List.mem_singleton.1 hx]; omega
theorem Best.in_ {at_ l : List Int} {k : Nat} {last : Int} (h : Best at_ (l.take k) last) (h0 : 0 ≤ last) : last ∈ l := by
 rcases h with ⟨_, h2⟩ | ⟨h1, _⟩
 ·omega
 ·exact List.mem_of_mem_take h1
theorem getD_app1 {st : List Int} {x : Int} {j : Nat} (h : j < st.length) : (st ++ [x]).getD j 0 = st.getD j 0 := by
 rw [List.getD_eq_getElem?_getD, List.getElem?_append_left h, List.getD_eq_getElem?_getD]
theorem getD_app2 {st : List Int} {x : Int} : (st ++ [x]).getD st.length 0 = x := by
 rw [List.getD_eq_getElem?_getD, List.getElem?_append_right (Nat.le_refl _), Nat.sub_self]; rfl
section
variable {n : Netlist} {l at_ st : List Int} {w0 last : Int}
theorem PP.init (hf : Formed n) (ho : Ord n l) (hw : In w0 n.widths.length) : PP n l at_ w0 [] w0 where
 rk := fun _ i hd => by
  have h1 := List.idxOf_lt_length_of_mem (ho.mem hd.1)
  have h2 := ho.len
  simp only [List.length_nil]; omega
 len := by simp
 in_ := fun _ => hw
 stin := fun j h => by simp at h
 link := fun j h => by simp at h
 nxt := fun _ h => by simp at h
 end_ := fun h => by unfold In at hw; omega
 fst := ⟨fun h => by simp at h, fun _ => rfl⟩
theorem PP.more (h : PP n l at_ w0 st last) (h0 : 0 ≤ last) : (∀ j, j < (st ++ [last]).length → In ((st ++ [last]).getD j 0) n.widths.length) ∧ (∀ j, j + 1 < (st ++ [last]).length → Lnk n at_ ((st ++ [last]).getD j 0) ((st ++ [last]).getD (j + 1) 0)) ∧
  (st ++ [last]).getD ((st ++ [last]).length - 1) 0 = last ∧ (st ++ [last]).getD 0 0 = w0 := by
 have hl : (st ++ [last]).length = st.length + 1 := by simp
 refine ⟨fun j hj => ?_, fun j hj => ?_, ?_, ?_⟩
 ·rcases Nat.lt_or_ge j st.length with h1 | h1
  ·rw [getD_app1 h1]; exact h.stin j h1
  ·obtain rfl : j = st.length := by omega
   rw [getD_app2]; exact h.in_ h0
 ·rcases Nat.lt_or_ge (j + 1) st.length with h1 | h1
  ·rw [getD_app1 h1, getD_app1 om]; exact h.link j h1
  ·have e : j + 1 = st.length := by omega
   rw [e, getD_app2, getD_app1 om, show j = st.length - 1 by omega]
   exact h.nxt h0 om
 ·rw [hl, Nat.add_sub_cancel, getD_app2]
 ·rcases Nat.eq_zero_or_pos st.length with h1 | h1
  ·have : st = [] := List.eq_nil_of_length_eq_zero h1
   subst this
   exact h.fst.2 rfl
  ·rw [getD_app1 h1]; exact h.fst.1 h1
theorem PP.lt (hf : Formed n) (h : PP n l at_ w0 st last) (h0 : 0 ≤ last) : st.length + 1 ≤ n.cells.length := by
 obtain ⟨i, hi⟩ := hf.driver (h.in_ h0)
 have := h.rk h0 i hi
 omega
structure PD (n : Netlist) (at_ : List Int) (w0 : Int) (st : List Int) : Prop where
 pos : 0 < st.length
 len : st.length ≤ n.cells.length
 stin : ∀ j, j < st.length → In (st.getD j 0) n.widths.length
 link : ∀ j, j + 1 < st.length → Lnk n at_ (st.getD j 0) (st.getD (j + 1) 0)
 root : Rt0 n at_ (st.getD (st.length - 1) 0)
 fst : st.getD 0 0 = w0
theorem PP.stop (hf : Formed n) (ha : Arv n at_) {cs : List Cell} (hc : DrvC n cs) (h : PP n l at_ w0 st last) (h0 : 0 ≤ last) (hk : ¬ Comb (cs.getD last.toNat default).kind) : PD n at_ w0 (st ++ [last]) := by
 obtain ⟨h1, h2, h3, h4⟩ := h.more h0
 obtain ⟨i, hi⟩ := hf.driver (h.in_ h0)
 rw [hc.at_ i last hi] at hk
 refine ⟨by simp, by simp; have := h.lt hf h0; omega, h1, h2, ?_, h4⟩
 rw [h3]
 refine ⟨i, hi, ?_, .inl hk⟩
 rw [ha.eq i last hi]
 unfold arrC
 rw [if_neg hk]; omega
theorem PP.done (h : PP n l at_ w0 st last) (h0 : last < 0) : PD n at_ w0 st :=
 ⟨(h.end_ h0).1, h.len, h.stin, h.link, (h.end_ h0).2, h.fst.1 (h.end_ h0).1⟩
theorem PP.go (hf : Formed n) (ho : Ord n l) (ha : Arv n at_) (h0a : ∀ w, In w n.widths.length → 0 ≤ at_.getD w.toNat 0) {cs : List Cell} (hc : DrvC n cs) (h : PP n l at_ w0 st last) (h0 : 0 ≤ last) (hk : Comb (cs.getD last.toNat default).kind) {k : Nat} {nl : Int} (hkl : k = (cs.getD last.toNat default).args.length)
  (hb : Best at_ ((cs.getD last.toNat default).args.take k) nl) : PP n l at_ w0 (st ++ [last]) nl := by
 obtain ⟨h1, h2, h3, h4⟩ := h.more h0
 obtain ⟨i, hi⟩ := hf.driver (h.in_ h0)
 rw [hc.at_ i last hi] at hk hkl hb
 rw [hkl, List.take_length] at hb
 have hlt := h.rk h0 i hi
 have hl : (st ++ [last]).length = st.length + 1 := by simp
 have harr : at_.getD last.toNat 0 = maxA at_ (n.cell i).args + dly n (n.cell i) := by
  rw [ha.eq i last hi]; unfold arrC; rw [if_pos hk]
 have hmem : 0 ≤ nl → nl ∈ (n.cell i).args := fun h5 => by
  rcases hb with ⟨_, h6⟩ | ⟨h6, _⟩
  ·omega
  ·exact h6
 exact {
  rk := fun h5 j hj => by
   obtain ⟨j', hj', hlt'⟩ := ho.lt hi.1 hk (hmem h5)
   rw [hf.unique hj hj', hl]; omega
  len := by rw [hl]; omega
  in_ := fun h5 => hf.argIn hi.1 (hmem h5)
  stin := h1
  link := h2
  nxt := fun h5 _ => by
   rw [h3]
   refine ⟨i, hi, hk, hmem h5, ?_⟩
   rw [harr]
   rcases hb with ⟨_, h6⟩ | ⟨h6, h7⟩
   ·omega
   ·have h8 := maxA_ge (at_ := at_) h6
    have h9 := (maxA_le (at_ := at_) (l := (n.cell i).args) (B := at_.getD nl.toNat 0) (h0a nl (hf.argIn hi.1 h6)) h7).2
    omega
  end_ := fun h5 => by
   refine ⟨by rw [hl]; omega, ?_⟩
   rw [h3]
   rcases hb with ⟨h6, _⟩ | ⟨h6, _⟩
   ·refine ⟨i, hi, ?_, .inr ?_⟩
    ·rw [harr, h6]; simp [maxA]
    ·have hok := (hf.cellAt hi.1).2.1
     have hlen : (n.cell i).args.length = 0 := by rw [h6]; rfl
     unfold Shaped at hok
     unfold Comb at hk
     rcases hok with hx | ⟨hx, hy, hz, _⟩ | hx | hx | hx | hx | hx | hx | hx | hx
     ·exact hx.1
     ·rw [hlen] at hz; exact absurd hz.symm hy
     all_goals omega
   ·have := (hf.argIn hi.1 h6).1; omega
  fst := ⟨fun _ => h4, fun h5 => by rw [hl] at h5; omega⟩ }
end
end Go.Proofs.Ytligpghohcfpnaa
/- The longest path, forwards, in plain Lean. -/
namespace Go.Proofs.Ytligpghohcfpnaa
open Go Go.AW Go.Proofs

structure WPath (n : Netlist) (at_ st : List Int) (d : Int) : Prop where
 pos : 0 < st.length
 len : st.length ≤ n.cells.length
 stin : ∀ j, j < st.length → In (st.getD j 0) n.widths.length
 link : ∀ j, j + 1 < st.length → Lnk n at_ (st.getD (j + 1) 0) (st.getD j 0)
 root : Rt0 n at_ (st.getD 0 0)
 end_ : ∃ a, (st.getD (st.length - 1) 0, a) ∈ allL n ∧ d = at_.getD (st.getD (st.length - 1) 0).toNat 0 + a
 max : ∀ e ∈ allL n, at_.getD e.1.toNat 0 + e.2 ≤ d
theorem getD_rev {l : List Int} {j : Nat} (h : j < l.length) : l.reverse.getD j 0 = l.getD (l.length - 1 - j) 0 := by
 rw [List.getD_eq_getElem?_getD, List.getElem?_eq_getElem (by simpa using h), List.getD_eq_getElem?_getD, List.getElem?_eq_getElem om]
 simp
section
variable {n : Netlist} {l at_ st : List Int} {w0 last d a : Int} {cs : List Cell}
theorem PD.rev (h : PD n at_ w0 st) (he : (w0, a) ∈ allL n) (hd : d = at_.getD w0.toNat 0 + a) (hm : ∀ e ∈ allL n, at_.getD e.1.toNat 0 + e.2 ≤ d) : WPath n at_ st.reverse d := by
 have hp := h.pos
 have hl : st.reverse.length = st.length := by simp
 refine ⟨om, by rw [hl]; exact h.len, fun j hj => ?_, fun j hj => ?_, ?_, ⟨a, ?_, ?_⟩, hm⟩
 ·rw [getD_rev om]; exact h.stin _ om
 ·rw [getD_rev om, getD_rev om]
  have := h.link (st.length - 1 - (j + 1)) om
  rw [show st.length - 1 - (j + 1) + 1 = st.length - 1 - j by omega] at this
  exact this
 ·rw [getD_rev om, Nat.sub_zero]; exact h.root
 ·rw [hl, getD_rev om, show st.length - 1 - (st.length - 1) = 0 by omega, h.fst]; exact he
 ·rw [hl, getD_rev om, show st.length - 1 - (st.length - 1) = 0 by omega, h.fst]; exact hd
theorem PP.args (hf : Formed n) (hc : DrvC n cs) (h : PP n l at_ w0 st last) (h0 : 0 ≤ last) : ∀ x ∈ (cs.getD last.toNat default).args, In x n.widths.length := by
 obtain ⟨i, hi⟩ := hf.driver (h.in_ h0)
 rw [hc.at_ i last hi]
 exact fun x hx => hf.argIn hi.1 hx
theorem PP.alen (hM : VT n) (hc : DrvC n cs) (h : PP n l at_ w0 st last) (h0 : 0 ≤ last) : (cs.getD last.toNat default).args.length ≤ 200 := by
 obtain ⟨i, hi⟩ := hM.formed.driver (h.in_ h0)
 have h1 := hi.1
 rw [hc.at_ i last hi]
 exact hM.nargs _ (getD_in om)
end
end Go.Proofs.Ytligpghohcfpnaa
/- Powers of two, counted; the example of the statements on timing. -/
namespace Go.Proofs.Ytligpghohcfpnaa
open Go Go.AW Go.Proofs

structure LevI (x : Int) (k p : Nat) : Prop where
 p : p = 2 ^ k
 lt : k = 0 ∨ 2 ^ (k - 1) < x.toNat
theorem LevI.init {x : Int} : LevI x 0 1 := ⟨rfl, .inl rfl⟩
theorem LevI.step {x : Int} {k p : Nat} (h : LevI x k p) (hx : (p : Int) < x) : LevI x (k + 1) (2 * p) := by
 have h1 := h.p
 refine ⟨by rw [Nat.pow_succ, h1]; omega, .inr ?_⟩
 rw [Nat.add_sub_cancel]; omega
theorem LevI.le {x : Int} {k p : Nat} (h : LevI x k p) (hx : x ≤ 256) : k ≤ 8 ∧ 1 ≤ p ∧ p ≤ 256 := by
 have hk : k ≤ 8 := by
  rcases h.lt with h1 | h1
  ·omega
  ·rcases Nat.lt_or_ge k 9 with h2 | h2
   ·omega
   ·have : 2 ^ 8 ≤ 2 ^ (k - 1) := Nat.pow_le_pow_right om om
    omega
 have h1 : 2 ^ k ≤ 2 ^ 8 := Nat.pow_le_pow_right om hk
 have h2 : 1 ≤ 2 ^ k := Nat.one_le_two_pow
 have h3 := h.p
 refine ⟨hk, om, om⟩
theorem LevI.done {x : Int} {k p : Nat} (h : LevI x k p) (h0 : 0 ≤ x) (hx : ¬ (p : Int) < x) : k = lev x.toNat := by
 have h1 := h.p
 refine (lev_of om ?_).symm
 exact h.lt

def nA : Netlist := ⟨ByteArray.empty, [1, 1], [⟨4, 0, 0, [1, 0], 0, 0⟩, ⟨1, 0, 1, [], 0, 0⟩], [], [], [], [], [], 1, 0, []⟩
theorem nA_formed : Formed nA where
 name := ⟨fun i h => by have h : i < 0 := h; omega, dcd⟩
 ncells := by decide
 nwidths := by decide
 nmems := by decide
 nstreams := by decide
 nactive := rfl
 ndata := rfl
 wide := fun j hj => by
  have hj : j < 2 := hj
  rcases j with _ | _ | j
  ·decide
  ·decide
  ·omega
 mems := fun j hj => by cases hj
 strs := fun j hj => by cases hj
 freeze := by decide
 done := by decide
 rets := fun r hr => by cases hr
 cells := fun j hj => by
  have hj : j < 2 := hj
  rcases j with _ | _ | j
  ·refine ⟨fun x hx => ?_, ?_, fun h => ?_, fun _ => ?_⟩
   ·have hx : x ∈ ([1, 0] : List Int) := hx
    simp at hx
    rcases hx with rfl | rfl <;> decide
   ·exact .inr (.inr (.inr (.inl ⟨rfl, rfl, rfl, rfl⟩)))
   ·exact absurd h dcd
   ·show In 0 2; decide
  ·refine ⟨fun x hx => ?_, ?_, fun h => ?_, fun _ => ?_⟩
   ·cases hx
   ·exact .inl ⟨rfl, rfl, rfl, rfl⟩
   ·exact absurd h dcd
   ·show In 1 2; decide
  ·omega
 driven := fun w hw => by
  have hw : w < 2 := hw
  rcases w with _ | _ | w
  ·decide
  ·decide
  ·omega
theorem nA_fit : Fit nA where
 freeze := rfl
 done := rfl
 strs := fun j hj => by cases hj
 cells := fun j hj => by
  have hj : j < 2 := hj
  rcases j with _ | _ | j
  ·exact .inr (.inr (.inr (.inl ⟨rfl, rfl, rfl, rfl⟩)))
  ·exact .inl ⟨rfl, rfl⟩
  ·omega
theorem nA_acyclic : Acyclic nA := ⟨fun _ => 0, fun i j hi _ h => by
 exfalso
 obtain ⟨⟨h1, h2⟩, h3⟩ := hi
 have h2 : i < 2 := h2
 have : i = 0 ∨ i = 1 := by omega
 rcases this with rfl | rfl
 ·exact absurd h3 dcd
 ·cases h⟩
theorem nA_vt : VT nA where
 formed := nA_formed
 fit := nA_fit
 acyclic := nA_acyclic
 small := {
  name := by decide
  widths := by decide
  cells := by decide
  args := fun c hc => by
   have hc : c ∈ ([⟨4, 0, 0, [1, 0], 0, 0⟩, ⟨1, 0, 1, [], 0, 0⟩] : List Cell) := hc
   simp at hc
   rcases hc with rfl | rfl <;> simp
  tot := by decide
  nums := fun c hc => by
   have hc : c ∈ ([⟨4, 0, 0, [1, 0], 0, 0⟩, ⟨1, 0, 1, [], 0, 0⟩] : List Cell) := hc
   simp at hc
   rcases hc with rfl | rfl <;> simp
  memNames := fun m hm => by cases hm
  strNames := fun m hm => by cases hm
  ins := by decide
  mems := by decide
  streams := by decide
  active := by decide
  data := by decide
  rets := by decide }
 ncells := by decide
 nwidths := by decide
 nargs := fun c hc => by
  have hc : c ∈ ([⟨4, 0, 0, [1, 0], 0, 0⟩, ⟨1, 0, 1, [], 0, 0⟩] : List Cell) := hc
  simp at hc
  rcases hc with rfl | rfl <;> simp
 nrets := by decide
 nstreams := by decide
 nins := by decide
theorem nA_all : allL nA = [(1, 100), (0, 60), (1, 100), (0, 0)] := by decide
theorem nA_path {at_ st : List Int} {d : Int} (ha : Arv nA at_) (h : WPath nA at_ st d) : d = 100 ∧ st.length = 1 := by
 have d0 : Drives nA 0 0 := ⟨⟨dcd, dcd⟩, dcd, rfl⟩
 have d1 : Drives nA 1 1 := ⟨⟨dcd, dcd⟩, dcd, rfl⟩
 have a0 : at_.getD 0 0 = 30 := (ha.eq 0 0 d0).trans (by
  have : arrC nA at_ (nA.cell 0) = 0 + 30 := rfl
  rw [this]; rfl)
 have a1 : at_.getD 1 0 = 0 := (ha.eq 1 1 d1).trans (by
  have : arrC nA at_ (nA.cell 1) = maxA at_ [] + 0 := rfl
  rw [this]; rfl)
 have hm := h.max (1, 100) (by rw [nA_all]; simp)
 obtain ⟨a, he, hd⟩ := h.end_
 rw [nA_all] at he
 have hm : at_.getD 1 0 + 100 ≤ d := hm
 simp only [List.mem_cons, List.not_mem_nil, or_false, Prod.mk.injEq] at he
 have key : st.getD (st.length - 1) 0 = 1 ∧ d = 100 := by
  rcases he with ⟨h1, h2⟩ | ⟨h1, h2⟩ | ⟨h1, h2⟩ | ⟨h1, h2⟩ <;> rw [h1] at hd
  ·have hd : d = at_.getD 1 0 + a := hd
   exact ⟨h1, om⟩
  ·have hd : d = at_.getD 0 0 + a := hd
   omega
  ·have hd : d = at_.getD 1 0 + a := hd
   exact ⟨h1, om⟩
  ·have hd : d = at_.getD 0 0 + a := hd
   omega
 refine ⟨key.2, Classical.byContradiction fun hne => ?_⟩
 have hp := h.pos
 obtain ⟨i, hi, _, hx, _⟩ := h.link (st.length - 2) om
 rw [show st.length - 2 + 1 = st.length - 1 by omega, key.1] at hi
 rw [nA_formed.unique hi d1] at hx
 cases hx
end Go.Proofs.Ytligpghohcfpnaa
/- A valid netlist with one more cell behind the others, in plain Lean. -/
namespace Go.Proofs.Ytligpghohcfpnaa
open Go Go.AW Go.Proofs

section
variable {n : Netlist} {x : Int}
end
end Go.Proofs.Ytligpghohcfpnaa
/- Arrivals by repetition, in plain Lean. -/
namespace Go.Proofs.Ytligpghohcfpnaa
open Go Go.AW Go.Proofs

def kn (known : List Bool) (w : Int) : Bool := known.getD w.toNat false
structure RA (n : Netlist) (out : List Int) (known : List Bool) : Prop where
 ol : out.length = n.widths.length
 kl : known.length = n.widths.length
 fin : ∀ i w, Drives n i w → kn known w = true → out.getD w.toNat 0 = arrC n out (n.cell i) ∧ (Comb (n.cell i).kind → ∀ x ∈ (n.cell i).args, kn known x = true)
structure RS (n : Netlist) (k : Nat) (out : List Int) (known : List Bool) : Prop where
 ra : RA n out known
 iff : ∀ i w, Drives n i w → (kn known w = true ↔ i < k ∧ ¬ Comb (n.cell i).kind)
section
variable {n : Netlist} {out : List Int} {known : List Bool} {k : Nat}
theorem kn_set {b : Bool} {o w : Int} (ho : 0 ≤ o) (hw : 0 ≤ w) (hl : o.toNat < known.length) : kn (known.set o.toNat b) w = if o = w then b else kn known w := by
 unfold kn
 rw [getD_set]
 by_cases e : o = w
 ·rw [if_pos e, if_pos ⟨om, hl⟩]
 ·rw [if_neg e, if_neg om]
theorem out_set {v o w : Int} (ho : 0 ≤ o) (hw : 0 ≤ w) (hl : o.toNat < out.length) : (out.set o.toNat v).getD w.toNat 0 = if o = w then v else out.getD w.toNat 0 := by
 rw [getD_set]
 by_cases e : o = w
 ·rw [if_pos e, if_pos ⟨om, hl⟩]
 ·rw [if_neg e, if_neg om]
theorem RS.init : RS n 0 (List.replicate n.widths.length 0) (List.replicate n.widths.length false) where
 ra := ⟨by simp, by simp, fun i w _ h => by unfold kn at h; rw [getD_rep] at h; cases h⟩
 iff := fun i w hd => by
  unfold kn
  rw [getD_rep]
  have := hd.1
  constructor
  ·intro h; cases h
  ·intro h; omega
theorem RS.set (hf : Formed n) (h : RS n k out known) (hk : k < n.cells.length) (h0 : (n.cells.getD k default).out ≥ 0) (hc : ¬ Comb (n.cells.getD k default).kind) :
  RS n (k + 1) (out.set (n.cells.getD k default).out.toNat (dly n (n.cells.getD k default))) (known.set (n.cells.getD k default).out.toNat true) := by
 have h7 : (n.cells.getD k default).kind ≠ 7 := fun e => by have := (hf.cells k hk).2.2.1 e; omega
 have hdk : Drives n (k : Int) (n.cells.getD k default).out := ⟨⟨om, om⟩, h7, rfl⟩
 have hwk := hf.outIn hdk
 unfold In at hwk
 have h1 := h.ra.ol; have h2 := h.ra.kl
 have iff' : ∀ i w, Drives n i w → (kn (known.set (n.cells.getD k default).out.toNat true) w = true ↔ i < (k + 1 : Nat) ∧ ¬ Comb (n.cell i).kind) := fun i w hd => by
  have hw := hf.outIn hd
  unfold In at hw
  rw [kn_set hwk.1 hw.1 om]
  by_cases e : (n.cells.getD k default).out = w
  ·rw [if_pos e]
   rw [e] at hdk
   have := hf.unique hd hdk
   subst this
   exact ⟨fun _ => ⟨om, hc⟩, fun _ => rfl⟩
  ·rw [if_neg e, h.iff i w hd]
   have hne : i ≠ k := fun e2 => by subst e2; exact e hd.2.2
   constructor
   ·exact fun h => ⟨om, h.2⟩
   ·exact fun h => ⟨om, h.2⟩
 refine ⟨⟨by rw [List.length_set]; exact h1, by rw [List.length_set]; exact h2, fun i w hd hkn => ?_⟩, iff'⟩
 have hnc := ((iff' i w hd).1 hkn).2
 refine ⟨?_, fun hc => absurd hc hnc⟩
 have hw := hf.outIn hd
 unfold In at hw
 have harr : ∀ o : List Int, arrC n o (n.cell i) = 0 + dly n (n.cell i) := fun o => by unfold arrC; rw [if_neg hnc]
 rw [out_set hwk.1 hw.1 om, harr]
 by_cases e : (n.cells.getD k default).out = w
 ·rw [if_pos e]
  rw [e] at hdk
  have := hf.unique hd hdk
  subst this
  show dly n (n.cell k) = _
  omega
 ·rw [if_neg e]
  have hne : i ≠ k := fun e2 => by subst e2; exact e hd.2.2
  have h3 := (h.ra.fin i w hd ((h.iff i w hd).2 ⟨by have := ((iff' i w hd).1 hkn).1; omega, hnc⟩)).1
  rw [h3, harr]
theorem RS.skip (hf : Formed n) (h : RS n k out known) (hk : k < n.cells.length) (hc : ¬ ((n.cells.getD k default).out ≥ 0 ∧ ¬ Comb (n.cells.getD k default).kind)) : RS n (k + 1) out known := by
 refine ⟨h.ra, fun i w hd => ?_⟩
 rw [h.iff i w hd]
 have hw := hf.outIn hd
 unfold In at hw
 constructor
 ·exact fun h => ⟨om, h.2⟩
 ·rintro ⟨h1, h2⟩
  refine ⟨?_, h2⟩
  rcases Int.lt_or_eq_of_le (show i ≤ k by omega) with h3 | h3
  ·exact h3
  ·subst h3
   refine absurd ⟨?_, h2⟩ hc
   have : (n.cells.getD k default).out = w := hd.2.2
   omega
structure RR (n : Netlist) (known0 : List Bool) (i : Nat) (more : Bool) (out : List Int) (known : List Bool) : Prop where
 ra : RA n out known
 src : ∀ i w, Drives n i w → ¬ Comb (n.cell i).kind → kn known w = true
 pr : more = false → ∀ j w, Drives n j w → j < i → Comb (n.cell j).kind → kn known w = false → ∃ x ∈ (n.cell j).args, kn known x = false
 cnt : unseen known + (if more then 1 else 0) ≤ unseen known0
theorem RR.init (ha : RA n out known) (hs : ∀ i w, Drives n i w → ¬ Comb (n.cell i).kind → kn known w = true) : RR n known 0 false out known :=
 ⟨ha, hs, fun _ j w hd h => by have := hd.1; omega, by simp⟩
variable {known0 : List Bool} {more : Bool}
theorem RR.pass (hf : Formed n) (h : RR n known0 k more out known) (hk : k < n.cells.length) (hc : ¬ Comb (n.cells.getD k default).kind ∨ kn known (n.cells.getD k default).out = true ∨ ∃ x ∈ (n.cells.getD k default).args, kn known x = false) : RR n known0 (k + 1) more out known := by
 refine ⟨h.ra, h.src, fun hm j w hd hj hcb hu => ?_, h.cnt⟩
 rcases Int.lt_or_eq_of_le (show j ≤ k by omega) with h3 | h3
 ·exact h.pr hm j w hd h3 hcb hu
 ·subst h3
  rcases hc with h4 | h4 | h4
  ·exact absurd hcb h4
  ·have : (n.cells.getD k default).out = w := hd.2.2
   rw [this, hu] at h4; cases h4
  ·exact h4
theorem RR.mark (hf : Formed n) (h : RR n known0 k more out known) (hk : k < n.cells.length) (hc : Comb (n.cells.getD k default).kind) (hu : kn known (n.cells.getD k default).out = false) (ha : ∀ x ∈ (n.cells.getD k default).args, kn known x = true) {t : Int} (ht : t = maxA out (n.cells.getD k default).args) :
  RR n known0 (k + 1) true (out.set (n.cells.getD k default).out.toNat (t + dly n (n.cells.getD k default))) (known.set (n.cells.getD k default).out.toNat true) := by
 have h7 : (n.cells.getD k default).kind ≠ 7 := fun e => by rw [e] at hc; revert hc; unfold Comb; omega
 have hdk : Drives n (k : Int) (n.cells.getD k default).out := ⟨⟨om, om⟩, h7, rfl⟩
 have hwk := hf.outIn hdk
 unfold In at hwk
 have h1 := h.ra.ol; have h2 := h.ra.kl
 have kset : ∀ w : Int, 0 ≤ w → kn (known.set (n.cells.getD k default).out.toNat true) w = if (n.cells.getD k default).out = w then true else kn known w := fun w hw => kn_set hwk.1 hw om
 have keep : ∀ w : Int, 0 ≤ w → kn known w = true → kn (known.set (n.cells.getD k default).out.toNat true) w = true := fun w hw hkw => by
  rw [kset w hw]; split <;> simp_all
 have oset : ∀ w : Int, 0 ≤ w → kn known w = true → (out.set (n.cells.getD k default).out.toNat (t + dly n (n.cells.getD k default))).getD w.toNat 0 = out.getD w.toNat 0 := fun w hw hkw => by
  rw [out_set hwk.1 hw om, if_neg]
  intro e; rw [← e, hu] at hkw; cases hkw
 have arr : ∀ j w, Drives n j w → (Comb (n.cell j).kind → ∀ x ∈ (n.cell j).args, kn known x = true) → arrC n (out.set (n.cells.getD k default).out.toNat (t + dly n (n.cells.getD k default))) (n.cell j) = arrC n out (n.cell j) := fun j w hd hargs => by
  unfold arrC
  by_cases hcb : Comb (n.cell j).kind
  ·rw [if_pos hcb, if_pos hcb, maxA_congr (fun x hx => oset x (hf.argIn hd.1 hx).1 (hargs hcb x hx))]
  ·rw [if_neg hcb, if_neg hcb]
 refine ⟨⟨by rw [List.length_set]; exact h1, by rw [List.length_set]; exact h2, fun j w hd hkn => ?_⟩, fun j w hd hcb => keep w (hf.outIn hd).1 (h.src j w hd hcb), (fun hm => by cases hm), ?_⟩
 ·have hw := hf.outIn hd
  unfold In at hw
  by_cases e : (n.cells.getD k default).out = w
  ·rw [e] at hdk
   have := hf.unique hd hdk
   subst this
   refine ⟨?_, fun _ x hx => keep x (hf.argIn hd.1 hx).1 (ha x hx)⟩
   rw [arr _ _ hd (fun _ => ha), out_set hwk.1 hw.1 om, if_pos e]
   unfold arrC
   have e3 : n.cell (k : Int) = n.cells.getD k default := rfl
   rw [e3, if_pos hc, ht]
  ·rw [kset w hw.1, if_neg e] at hkn
   obtain ⟨h3, h4⟩ := h.ra.fin j w hd hkn
   exact ⟨by rw [oset w hw.1 hkn, h3, arr j w hd h4], fun hcb x hx => keep x (hf.argIn hd.1 hx).1 (h4 hcb x hx)⟩
 ·have h5 := unseen_set (l := known) (i := (n.cells.getD k default).out.toNat) om hu
  have h6 := h.cnt
  simp only [if_true]
  split at h6 <;> omega
theorem RR.done (hf : Formed n) (hac : Acyclic n) (h : RR n known0 k false out known) (hk : k = n.cells.length) : Arv n out := by
 obtain ⟨r, hr⟩ := hac
 have all : ∀ m : Nat, ∀ j w, Drives n j w → r j ≤ m → kn known w = true := by
  intro m
  induction m with
  | zero =>
   intro j w hd hm
   refine Classical.byContradiction fun hn => ?_
   have hn : kn known w = false := by simpa using hn
   by_cases hcb : Comb (n.cell j).kind
   ·obtain ⟨x, hx, hxu⟩ := h.pr rfl j w hd (by rw [hk]; exact hd.1.2) hcb hn
    obtain ⟨j', hj'⟩ := hf.driver (hf.argIn hd.1 hx)
    by_cases hcb' : Comb (n.cell j').kind
    ·have := hr j j' ⟨hd.1, hcb⟩ ⟨hj'.1, hcb'⟩ (by rw [hj'.2.2]; exact hx)
     omega
    ·rw [h.src j' x hj' hcb'] at hxu; cases hxu
   ·rw [h.src j w hd hcb] at hn; cases hn
  | succ m ih =>
   intro j w hd hm
   refine Classical.byContradiction fun hn => ?_
   have hn : kn known w = false := by simpa using hn
   by_cases hcb : Comb (n.cell j).kind
   ·obtain ⟨x, hx, hxu⟩ := h.pr rfl j w hd (by rw [hk]; exact hd.1.2) hcb hn
    obtain ⟨j', hj'⟩ := hf.driver (hf.argIn hd.1 hx)
    by_cases hcb' : Comb (n.cell j').kind
    ·have := hr j j' ⟨hd.1, hcb⟩ ⟨hj'.1, hcb'⟩ (by rw [hj'.2.2]; exact hx)
     rw [ih j' x hj' om] at hxu; cases hxu
    ·rw [h.src j' x hj' hcb'] at hxu; cases hxu
   ·rw [h.src j w hd hcb] at hn; cases hn
 exact ⟨h.ra.ol, fun i w hd => (h.ra.fin i w hd (all _ i w hd (Nat.le_refl _))).1⟩
def okL (known : List Bool) (l : List Int) : Bool := l.all (fun x => kn known x)
theorem okL_take {l : List Int} {m : Nat} (hm : m < l.length) : okL known (l.take (m + 1)) = (okL known (l.take m) && kn known (l.getD m 0)) := by
 unfold okL; rw [take_one (d := (0 : Int)) hm, List.all_append]; simp
theorem okL_yes {l : List Int} (h : okL known l = true) : ∀ x ∈ l, kn known x = true := fun x hx => List.all_eq_true.1 h x hx
theorem okL_no {l : List Int} (h : okL known l = false) : ∃ x ∈ l, kn known x = false := by
 unfold okL at h
 obtain ⟨x, hx, h2⟩ := List.all_eq_false.1 h
 exact ⟨x, hx, by simpa using h2⟩
end
end Go.Proofs.Ytligpghohcfpnaa
/- Bounds of arrivals by repetition, ends by the specification, paths, in plain Lean. -/
namespace Go.Proofs.Ytligpghohcfpnaa
open Go Go.AW Go.Proofs

structure RB (n : Netlist) (out : List Int) (known : List Bool) : Prop where
 bd : ∀ j, 0 ≤ out.getD j 0 ∧ out.getD j 0 + 400 * (unseen known : Int) ≤ 400 * (n.widths.length : Int)
section
variable {n : Netlist} {out : List Int} {known : List Bool}
theorem RB.init : RB n (List.replicate n.widths.length 0) (List.replicate n.widths.length false) := ⟨fun j => by
 have := unseen_le (List.replicate n.widths.length false)
 simp only [List.length_replicate] at this
 have h0 : (List.replicate n.widths.length (0 : Int)).getD j 0 = 0 := by
  rw [List.getD_eq_getElem?_getD, List.getElem?_replicate]; split <;> rfl
 rw [h0]; omega⟩
theorem RB.set {i : Nat} {v : Int} (h : RB n out known) (hi : i < known.length) (hu : known.getD i false = false) (hv : 0 ≤ v) (hv2 : v + 400 * (unseen known : Int) ≤ 400 * (n.widths.length : Int) + 400) : RB n (out.set i v) (known.set i true) := ⟨fun j => by
 have h1 := unseen_set hi hu
 have h2 := h.bd j
 rw [getD_set]
 split <;> omega⟩
theorem RB.maxA (h : RB n out known) (hk : known.length = n.widths.length) (l : List Int) : 0 ≤ maxA out l ∧ maxA out l + 400 * (unseen known : Int) ≤ 400 * (n.widths.length : Int) := by
 have h1 := unseen_le known
 have := maxA_le (at_ := out) (l := l) (B := 400 * (n.widths.length : Int) - 400 * (unseen known : Int)) om (fun w _ => by have := h.bd w.toNat; omega)
 omega
theorem RB.src {k : Nat} (hM : VT n) (hB : RB n out known) (h : RS n k out known) (hk : k < n.cells.length) (h0 : (n.cells.getD k default).out ≥ 0) :
  RB n (out.set (n.cells.getD k default).out.toNat (dly n (n.cells.getD k default))) (known.set (n.cells.getD k default).out.toNat true) := by
 have h7 : (n.cells.getD k default).kind ≠ 7 := fun e => by have := (hM.formed.cells k hk).2.2.1 e; omega
 have hdk : Drives n (k : Int) (n.cells.getD k default).out := ⟨⟨om, om⟩, h7, rfl⟩
 have hwk := hM.formed.outIn hdk
 unfold In at hwk
 have h1 := h.ra.kl
 have h2 := hM.dly hk
 have h3 := unseen_le known
 refine hB.set om ?_ h2.1 om
 refine Classical.byContradiction fun hn => ?_
 have hn : kn known (n.cells.getD k default).out = true := by simpa [kn] using hn
 have := ((h.iff _ _ hdk).1 hn).1
 omega
end

def endF (out : List Int) (w a : Int) : List Int := if w ≥ 0 then out.set w.toNat (max (out.getD w.toNat 0) a) else out
theorem endF_len {out : List Int} {w a : Int} : (endF out w a).length = out.length := by unfold endF; split <;> simp
theorem omf {p : Prop} (h : p := by first | omega | (simp only [endF_len]; omega)) : p := h
theorem ome {p : Prop} (h : p := by first | omega | (simp [-List.getD_eq_getElem?_getD, endF_len]; done) | (simp [-List.getD_eq_getElem?_getD, endF_len]; omega)) : p := h
structure EK (n : Netlist) (L : List (Int × Int)) (out : List Int) : Prop where
 len : out.length = n.widths.length
 snd : ∀ w, In w n.widths.length → out.getD w.toNat 0 = -1 ∨ (w, out.getD w.toNat 0) ∈ L
 cmp : ∀ e ∈ L, 0 ≤ e.1 → e.2 ≤ out.getD e.1.toNat 0
 lo : ∀ w, In w n.widths.length → -1 ≤ out.getD w.toNat 0 ∧ out.getD w.toNat 0 ≤ 100
structure EI (n : Netlist) (k : Nat) (out : List Int) : Prop where
 len : out.length = n.widths.length
 at_ : ∀ j, j < k → out.getD j 0 = -1
theorem EI.init {n : Netlist} : EI n 0 (List.replicate n.widths.length 0) := ⟨by simp, fun j h => by omega⟩
theorem EI.step {n : Netlist} {k : Nat} {out : List Int} (h : EI n k out) (hk : k < n.widths.length) : EI n (k + 1) (out.set k (-1)) := by
 have := h.len
 refine ⟨by simp [this], fun j hj => ?_⟩
 rw [getD_set]
 by_cases e : k = j
 ·rw [if_pos ⟨e, om⟩]
 ·rw [if_neg om]; exact h.at_ j om
theorem EI.done {n : Netlist} {k : Nat} {out : List Int} (h : EI n k out) (hk : k = n.widths.length) : EK n [] out :=
 have h1 : ∀ w, In w n.widths.length → out.getD w.toNat 0 = -1 := fun w hw => by unfold In at hw; exact h.at_ _ om
 ⟨h.len, fun w hw => .inl (h1 w hw), (fun e he => by cases he), fun w hw => by rw [h1 w hw]; omega⟩
theorem EK.step {n : Netlist} {L : List (Int × Int)} {out : List Int} {w a : Int} (h : EK n L out) (hw : w < 0 ∨ In w n.widths.length) (ha : 0 ≤ a ∧ a ≤ 100) : EK n (L ++ [(w, a)]) (endF out w a) := by
 unfold endF
 by_cases h0 : w ≥ 0
 ·have hw : In w n.widths.length := by rcases hw with h | h; exact absurd h0 om; exact h
  have hlo := h.lo w hw
  rw [if_pos h0]
  unfold In at hw
  have hl := h.len
  have key : ∀ j, (out.set w.toNat (max (out.getD w.toNat 0) a)).getD j 0 = if w.toNat = j then max (out.getD w.toNat 0) a else out.getD j 0 := fun j => by
   rw [getD_set]
   by_cases e : w.toNat = j
   ·rw [if_pos ⟨e, om⟩, if_pos e]
   ·rw [if_neg om, if_neg e]
  refine ⟨by rw [List.length_set]; exact hl, fun v hv => ?_, fun e he h1 => ?_, fun v hv => ?_⟩
  ·have hv' := hv
   unfold In at hv'
   rw [key]
   split
   ·obtain rfl : w = v := by omega
    refine .inr (List.mem_append.2 ?_)
    rcases Int.le_total (out.getD w.toNat 0) a with h2 | h2
    ·rw [Int.max_eq_right h2]; exact .inr (List.mem_singleton.2 rfl)
    ·rw [Int.max_eq_left h2]
     rcases h.snd w hv with h3 | h3
     ·omega
     ·exact .inl h3
   ·rcases h.snd v hv with h3 | h3
    ·exact .inl h3
    ·exact .inr (List.mem_append.2 (.inl h3))
  ·rw [key]
   rcases List.mem_append.1 he with h2 | h2
   ·have := h.cmp e h2 h1
    split
    ·rename_i h3; rw [← h3] at this; omega
    ·exact this
   ·rw [List.mem_singleton.1 h2]
    rw [if_pos rfl]
    exact Int.le_max_right ..
  ·rw [key]
   have := h.lo v hv
   split <;> omega
 ·rw [if_neg h0]
  refine ⟨h.len, fun v hv => (h.snd v hv).imp id (fun h => List.mem_append.2 (.inl h)), fun e he h1 => ?_, h.lo⟩
  rcases List.mem_append.1 he with h2 | h2
  ·exact h.cmp e h2 h1
  ·rw [List.mem_singleton.1 h2] at h1; exact absurd h1 h0
theorem EK.cast {n : Netlist} {L M : List (Int × Int)} {out : List Int} (h : EK n L out) (e : L = M) : EK n M out := e ▸ h
def cellE (n : Netlist) (c : Cell) : List (Int × Int) := if c.kind = 4 then [(c.args.getD 0 0, 100), (c.args.getD 1 0, 60), (n.freeze, 100)] else if Port c.kind then c.args.map (fun w => (w, 20)) ++ [(n.freeze, 20)] else []
def refR (n : Netlist) (k : Nat) : List (Int × Int) := [(n.done, 0)] ++ (n.rets.take k).map (fun w => (w, 0))
def refS (n : Netlist) (k : Nat) : List (Int × Int) := refR n n.rets.length ++ (List.range k).flatMap (fun i => [(n.active.getD i 0, 0), (n.data.getD i 0, 0)])
def refC (n : Netlist) (k : Nat) : List (Int × Int) := refS n n.active.length ++ (n.cells.take k).flatMap (cellE n)
section
variable {n : Netlist} {k : Nat}
theorem refR_succ (hk : k < n.rets.length) : refR n (k + 1) = refR n k ++ [(n.rets.getD k 0, 0)] := by
 unfold refR; rw [take_one (d := (0 : Int)) hk]; simp
theorem refR_zero : refR n 0 = [] ++ [(n.done, 0)] := by simp [refR]
theorem refS_succ : refS n (k + 1) = (refS n k ++ [(n.active.getD k 0, 0)]) ++ [(n.data.getD k 0, 0)] := by
 unfold refS; rw [List.range_succ, List.flatMap_append]; simp
theorem refS_zero (hk : k = n.rets.length) : refR n k = refS n 0 := by subst hk; simp [refS]
theorem refC_succ (hk : k < n.cells.length) : refC n (k + 1) = refC n k ++ cellE n (n.cells.getD k default) := by
 unfold refC; rw [take_one (d := (default : Cell)) hk, List.flatMap_append]; simp
theorem refC_zero (hk : k = n.active.length) : refS n k = refC n 0 := by subst hk; simp [refC]
theorem mem_ref {e : Int × Int} : e ∈ refC n n.cells.length ↔ (e = (n.done, 0) ∨ (∃ w ∈ n.rets, (w, 0) = e)) ∨ (∃ i, i < n.active.length ∧ (e = (n.active.getD i 0, 0) ∨ e = (n.data.getD i 0, 0))) ∨ ∃ c ∈ n.cells, e ∈ cellE n c := by
 unfold refC refS refR
 simp only [List.take_length, List.mem_append, List.mem_map, List.mem_flatMap, List.mem_range, List.mem_cons, List.not_mem_nil, or_false]
 constructor
 ·rintro ((h | h) | h)
  ·exact .inl h
  ·exact .inr (.inl h)
  ·exact .inr (.inr h)
 ·rintro (h | h | h)
  ·exact .inl (.inl h)
  ·exact .inl (.inr h)
  ·exact .inr h
theorem mem_all {e : Int × Int} : e ∈ allL n ↔ ((∃ c ∈ n.cells, e ∈ regE c) ∨ (e = (n.freeze, 100) ∧ ∃ c ∈ n.cells, c.kind = 4)) ∨ ((∃ c ∈ n.cells, e ∈ portE c) ∨ (e = (n.freeze, 20) ∧ ∃ c ∈ n.cells, Port c.kind)) ∨ (e.2 = 0 ∧ 0 ≤ e.1 ∧ e.1 ∈ rest n) := by
 have hfr : ∀ (b : Bool) (v : Int), e ∈ frzE n b v ↔ e = (n.freeze, v) ∧ b = true := fun b v => by unfold frzE; cases b <;> simp
 unfold allL endL
 simp only [List.mem_append, hfr]
 unfold regL portL hasReg hasPort othL
 simp only [List.take_length, List.mem_flatMap, List.any_eq_true, decide_eq_true_eq, List.mem_map, List.mem_filter]
 constructor
 ·rintro (h | (h | h) | ⟨w, h, rfl⟩)
  ·exact .inl h
  ·exact .inr (.inl (.inl h))
  ·exact .inr (.inl (.inr h))
  ·exact .inr (.inr ⟨rfl, h.2, h.1⟩)
 ·rintro (h | (h | h) | ⟨h1, h2, h3⟩)
  ·exact .inl h
  ·exact .inr (.inl (.inl h))
  ·exact .inr (.inl (.inr h))
  ·exact .inr (.inr ⟨e.1, ⟨h3, h2⟩, by rw [← h1]⟩)
theorem ref_all (hl : n.active.length = n.data.length) {e : Int × Int} (h : e ∈ refC n n.cells.length) (h0 : 0 ≤ e.1) : e ∈ allL n := by
 rw [mem_all]
 rcases mem_ref.1 h with (rfl | ⟨w, hw, rfl⟩) | ⟨i, hi, rfl | rfl⟩ | ⟨c, hc, he⟩
 ·exact .inr (.inr ⟨rfl, h0, rest_mem.2 (.inl rfl)⟩)
 ·exact .inr (.inr ⟨rfl, h0, rest_mem.2 (.inr (.inl hw))⟩)
 ·exact .inr (.inr ⟨rfl, h0, rest_mem.2 (.inr (.inr (.inl (getD_mem hi))))⟩)
 ·exact .inr (.inr ⟨rfl, h0, rest_mem.2 (.inr (.inr (.inr (getD_mem om))))⟩)
 ·unfold cellE at he
  split at he
  ·rename_i h4
   simp only [List.mem_cons, List.not_mem_nil, or_false] at he
   rcases he with he | he | he
   ·exact .inl (.inl ⟨c, hc, by unfold regE; rw [if_pos h4, he]; simp⟩)
   ·exact .inl (.inl ⟨c, hc, by unfold regE; rw [if_pos h4, he]; simp⟩)
   ·exact .inl (.inr ⟨he, c, hc, h4⟩)
  ·split at he
   ·rename_i hp
    rcases List.mem_append.1 he with he | he
    ·exact .inr (.inl (.inl ⟨c, hc, by unfold portE; rw [if_pos hp]; exact he⟩))
    ·exact .inr (.inl (.inr ⟨List.mem_singleton.1 he, c, hc, hp⟩))
   ·cases he
theorem all_ref (hl : n.active.length = n.data.length) {e : Int × Int} (h : e ∈ allL n) : e ∈ refC n n.cells.length := by
 rw [mem_ref]
 have port4 : ∀ k : Int, Port k → k ≠ 4 := fun k h => by unfold Port at h; omega
 rcases mem_all.1 h with (⟨c, hc, he⟩ | ⟨he, c, hc, h4⟩) | (⟨c, hc, he⟩ | ⟨he, c, hc, hp⟩) | ⟨h1, h2, h3⟩
 ·refine .inr (.inr ⟨c, hc, ?_⟩)
  unfold regE at he
  split at he
  ·rename_i h4
   unfold cellE; rw [if_pos h4]
   simp only [List.mem_cons, List.not_mem_nil, or_false] at he
   rcases he with rfl | rfl <;> simp
  ·cases he
 ·refine .inr (.inr ⟨c, hc, ?_⟩)
  unfold cellE; rw [if_pos h4, he]; simp
 ·refine .inr (.inr ⟨c, hc, ?_⟩)
  unfold portE at he
  split at he
  ·rename_i hp
   unfold cellE; rw [if_neg (port4 _ hp), if_pos hp]
   exact List.mem_append.2 (.inl he)
  ·cases he
 ·refine .inr (.inr ⟨c, hc, ?_⟩)
  unfold cellE; rw [if_neg (port4 _ hp), if_pos hp, he]
  exact List.mem_append.2 (.inr (List.mem_singleton.2 rfl))
 ·obtain ⟨w, a⟩ := e
  simp only at h1 h2 h3
  subst h1
  rcases rest_mem.1 h3 with rfl | h | h | h
  ·exact .inl (.inl rfl)
  ·exact .inl (.inr ⟨w, h, rfl⟩)
  ·obtain ⟨i, hi, rfl⟩ := List.mem_iff_getElem.1 h
   exact .inr (.inl ⟨i, hi, .inl (by rw [List.getD_eq_getElem?_getD, List.getElem?_eq_getElem hi]; rfl)⟩)
  ·obtain ⟨i, hi, rfl⟩ := List.mem_iff_getElem.1 h
   exact .inr (.inl ⟨i, om, .inr (by rw [List.getD_eq_getElem?_getD, List.getElem?_eq_getElem hi]; rfl)⟩)
structure EN (n : Netlist) (out : List Int) : Prop where
 len : out.length = n.widths.length
 snd : ∀ w, In w n.widths.length → out.getD w.toNat 0 = -1 ∨ (w, out.getD w.toNat 0) ∈ allL n
 cmp : ∀ e ∈ allL n, e.2 ≤ out.getD e.1.toNat 0
 lo : ∀ w, In w n.widths.length → -1 ≤ out.getD w.toNat 0 ∧ out.getD w.toNat 0 ≤ 100
theorem EK.en (hf : Formed n) (hl : n.active.length = n.data.length) {out : List Int} (h : EK n (refC n n.cells.length) out) : EN n out where
 len := h.len
 snd := fun w hw => (h.snd w hw).imp id (fun h1 => ref_all hl h1 hw.1)
 cmp := fun e he => h.cmp e (all_ref hl he) (allL_in hf he).1.1
 lo := h.lo
structure LK (at_ en : List Int) (k : Nat) (d : Int) : Prop where
 lo : 0 ≤ d
 up : ∀ j, j < k → 0 ≤ en.getD j 0 → at_.getD j 0 + en.getD j 0 ≤ d
 of : d = 0 ∨ ∃ j, j < k ∧ 0 ≤ en.getD j 0 ∧ d = at_.getD j 0 + en.getD j 0
theorem LK.init {at_ en : List Int} : LK at_ en 0 0 := ⟨Int.le_refl _, fun j h => by omega, .inl rfl⟩
theorem LK.skip {at_ en : List Int} {d : Int} (h : LK at_ en k d) (h0 : ¬ en.getD k 0 ≥ 0) : LK at_ en (k + 1) d := by
 refine ⟨h.lo, fun j hj h1 => ?_, ?_⟩
 ·rcases Nat.lt_or_ge j k with h2 | h2
  ·exact h.up j h2 h1
  ·obtain rfl : j = k := by omega
   exact absurd h1 h0
 ·rcases h.of with h | ⟨j, h1, h2⟩
  ·exact .inl h
  ·exact .inr ⟨j, om, h2⟩
theorem LK.step {at_ en : List Int} {d : Int} (h : LK at_ en k d) (h0 : en.getD k 0 ≥ 0) : LK at_ en (k + 1) (if at_.getD k 0 + en.getD k 0 > d then at_.getD k 0 + en.getD k 0 else d) := by
 have hlo := h.lo
 refine ⟨by split <;> omega, fun j hj h1 => ?_, ?_⟩
 ·rcases Nat.lt_or_ge j k with h2 | h2
  ·have := h.up j h2 h1
   split <;> omega
  ·obtain rfl : j = k := by omega
   split <;> omega
 ·split
  ·exact .inr ⟨k, om, h0, rfl⟩
  ·rcases h.of with h | ⟨j, h1, h2⟩
   ·exact .inl h
   ·exact .inr ⟨j, om, h2⟩
theorem LK.eq {l at_ en st : List Int} {d D : Int} (hM : VT n) (ho : Ord n l) (ha : Arv n at_) (he : EN n en) (h : LK at_ en k D) (hk : k = n.widths.length) (hp : WPath n at_ st d) : d = D := by
 refine Int.le_antisymm ?_ ?_
 ·obtain ⟨a, h1, h2⟩ := hp.end_
  have h3 := allL_in hM.formed h1
  have h4 := he.cmp _ h1
  have h5 := h3.1
  unfold In at h5
  simp only at h4 h5 h3
  have := h.up (st.getD (st.length - 1) 0).toNat om om
  omega
 ·rcases h.of with h1 | ⟨j, h1, h2, h3⟩
  ·have h4 := hp.max _ (done_end hM.formed)
   have := (ha.rng hM ho hM.formed.done).1
   simp only at h4
   omega
  ·have hj : In (j : Int) n.widths.length := by unfold In; omega
   rcases he.snd _ hj with h4 | h4
   ·rw [Int.toNat_natCast] at h4; omega
   ·have := hp.max _ h4
    rw [Int.toNat_natCast] at this
    omega
theorem WPath.sum {at_ st : List Int} {d : Int} (hp : WPath n at_ st d) (hf : Formed n) {j : Nat} (hj : j < st.length) {i : Int} (hd : Drives n i (st.getD j 0)) :
  (j = 0 → dly n (n.cell i) = at_.getD (st.getD 0 0).toNat 0 ∧ ¬ (Comb (n.cell i).kind ∧ (n.cell i).kind ≠ 1)) ∧
  (0 < j → at_.getD (st.getD (j - 1) 0).toNat 0 + dly n (n.cell i) = at_.getD (st.getD j 0).toNat 0 ∧ Comb (n.cell i).kind ∧ st.getD (j - 1) 0 ∈ (n.cell i).args) := by
 constructor
 ·intro h0
  subst h0
  obtain ⟨i', h1, h2, h3⟩ := hp.root
  have := hf.unique hd h1
  subst this
  exact ⟨h2.symm, by rintro ⟨h4, h5⟩; rcases h3 with h3 | h3; exact h3 h4; exact h5 h3⟩
 ·intro h0
  obtain ⟨i', h1, h2, h3, h4⟩ := hp.link (j - 1) om
  rw [show j - 1 + 1 = j by omega] at h1 h4
  have := hf.unique hd h1
  subst this
  exact ⟨h4.symm, h2, h3⟩
end
section
variable {n : Netlist} {k : Nat}
theorem refC_reg (hk : k < n.cells.length) (h : (n.cells.getD k default).kind = 4) : ((refC n k ++ [((n.cells.getD k default).args.getD 0 0, 100)]) ++ [((n.cells.getD k default).args.getD 1 0, 60)]) ++ [(n.freeze, 100)] = refC n (k + 1) := by
 rw [refC_succ hk]; unfold cellE; rw [if_pos h]; simp
theorem refC_port (hk : k < n.cells.length) (h : Port (n.cells.getD k default).kind) {m : Nat} (hm : m = (n.cells.getD k default).args.length) : (refC n k ++ ((n.cells.getD k default).args.take m).map (fun w => (w, (20 : Int)))) ++ [(n.freeze, 20)] = refC n (k + 1) := by
 rw [refC_succ hk]; unfold cellE
 rw [if_neg (by unfold Port at h; omega), if_pos h, hm, List.take_length]; simp
theorem refC_no (hk : k < n.cells.length) (h : (n.cells.getD k default).kind ≠ 4) (h2 : ¬ Port (n.cells.getD k default).kind) : refC n k = refC n (k + 1) := by
 rw [refC_succ hk]; unfold cellE
 rw [if_neg h, if_neg h2]; simp
theorem ref_port {L : List (Int × Int)} {l : List Int} {m : Nat} (hm : m < l.length) : (L ++ (l.take m).map (fun w => (w, (20 : Int)))) ++ [(l.getD m 0, 20)] = L ++ (l.take (m + 1)).map (fun w => (w, (20 : Int))) := by
 rw [take_one (d := (0 : Int)) hm]; simp
theorem act_in (hf : Formed n) (hk : k < n.active.length) : In (n.active.getD k 0) n.widths.length := Root.rng hf ⟨.inl (getD_mem hk)⟩
theorem dat_in (hf : Formed n) (hk : k < n.data.length) : n.data.getD k 0 < 0 ∨ In (n.data.getD k 0) n.widths.length := by
 rcases Int.lt_or_le (n.data.getD k 0) 0 with h | h
 ·exact .inl h
 ·exact .inr (data_in hf (getD_mem hk) h)
end
end Go.Proofs.Ytligpghohcfpnaa
/- The walks through small functions. -/
namespace Go.Proofs.Ytligpghohcfpnaa
open Go Go.AW Go.Proofs
theorem wide_spec {w : Int} : ACalls Try.prog 93 [vi w] [] [] (fun r o => r = .v (.bool (decide (Wide w))) ∧ o = []) := by
 refine ACalls.of Try.func93 rfl rfl rfl (n := 9) dcd (nbE rfl) (.sr ?_)
 refine .an ?_
 refine .nil (.sr ?_)
 refine .mv ?_
 refine .vl (Y.geq rfl rfl) ?_
 refine .mv ?_
 refine .splitD (d := 5) rfl (fun c5 => ?_) (fun c5 => ?_)
 refine .gw 5 (Y.move rfl rfl) (.gw 5 (Y.leq rfl rfl) ?_)
 refine .pk ?_
 refine .an ?_
 refine .nil (.ret ?_)
 exact .rb rfl (dd (by (simp only [Wide]) <;> (first | omega | grind)))
 refine .gz 5 (.gz 5 ?_)
 refine .pk ?_
 refine .an ?_
 refine .nil (.ret ?_)
 exact .rb rfl (df (by (simp only [Wide]) <;> (first | omega | grind)))
theorem named_spec {s : ByteArray} (hs : s.size ≤ 140737488351232) : ACalls Try.prog 92 [.v (.string s)] [] [] (fun r o => r = .v (.bool (decide (Named s))) ∧ o = []) := by
 refine ACalls.of Try.func92 rfl rfl rfl (n := 44) dcd (nbE rfl) (.sr ?_)
 refine .an ?_
 refine .nil (.seq (.sr ?_))
 refine .mv ?_
 refine .vl (Y.lenS un9 rfl) ?_
 refine .mv ?_
 refine .nil (.block ?_)
 refine .loop1 (fun (n7_2 : Nat) => ⟨[(0, .v (.string s)), (6, vi ((s.size : Nat) : Int)), (7, vi (n7_2 : Int))], []⟩) (fun (n7_2 : Nat) => ((n7_2 : Int) ≤ ((s.size : Nat) : Int)) ∧ (∀ j, j < n7_2 → okByte (sbyte s j))) (fun (n7_2 : Nat) => (((s.size : Nat) : Int) - (n7_2 : Int)).toNat) 0 (⟨om, by intro j h; omega⟩) (Le.mk (.c (.c (.cons (look_int rfl rlo) (.nil)))) (.nil)) (fun n7_2 hI2 => ?_)
 obtain ⟨hb2, hb⟩ := hI2
 refine .sr (.vl (Y.lss rfl rfl) (.nil ?_))
 refine .seq ?_
 refine .condD rfl (fun c8 => ?_) (fun c8 => ?_)
 refine .skip ?_
 refine .join0 (⟨[(0, .v (.string s)), (6, vi ((s.size : Nat) : Int)), (7, vi (n7_2 : Int))], []⟩) (((97 ≤ ((sbyte s n7_2 : Nat) : Int)) ∧ (((sbyte s n7_2 : Nat) : Int) ≤ 122)) ∨ ((97 ≤ ((sbyte s n7_2 : Nat) : Int)) ∧ (¬ (((sbyte s n7_2 : Nat) : Int) ≤ 122)) ∧ (65 ≤ ((sbyte s n7_2 : Nat) : Int)) ∧ (((sbyte s n7_2 : Nat) : Int) ≤ 90)) ∨ ((97 ≤ ((sbyte s n7_2 : Nat) : Int)) ∧ (¬ (((sbyte s n7_2 : Nat) : Int) ≤ 122)) ∧ (65 ≤ ((sbyte s n7_2 : Nat) : Int)) ∧ (¬ (((sbyte s n7_2 : Nat) : Int) ≤ 90)) ∧ (48 ≤ ((sbyte s n7_2 : Nat) : Int)) ∧ (((sbyte s n7_2 : Nat) : Int) ≤ 57)) ∨ ((97 ≤ ((sbyte s n7_2 : Nat) : Int)) ∧ (¬ (((sbyte s n7_2 : Nat) : Int) ≤ 122)) ∧ (65 ≤ ((sbyte s n7_2 : Nat) : Int)) ∧ (¬ (((sbyte s n7_2 : Nat) : Int) ≤ 90)) ∧ (48 ≤ ((sbyte s n7_2 : Nat) : Int)) ∧ (¬ (((sbyte s n7_2 : Nat) : Int) ≤ 57)) ∧ (((sbyte s n7_2 : Nat) : Int) = 95)) ∨ ((97 ≤ ((sbyte s n7_2 : Nat) : Int)) ∧ (¬ (((sbyte s n7_2 : Nat) : Int) ≤ 122)) ∧ (65 ≤ ((sbyte s n7_2 : Nat) : Int)) ∧ (¬ (((sbyte s n7_2 : Nat) : Int) ≤ 90)) ∧ (¬ (48 ≤ ((sbyte s n7_2 : Nat) : Int))) ∧ (((sbyte s n7_2 : Nat) : Int) = 95)) ∨ ((97 ≤ ((sbyte s n7_2 : Nat) : Int)) ∧ (¬ (((sbyte s n7_2 : Nat) : Int) ≤ 122)) ∧ (¬ (65 ≤ ((sbyte s n7_2 : Nat) : Int))) ∧ (48 ≤ ((sbyte s n7_2 : Nat) : Int)) ∧ (((sbyte s n7_2 : Nat) : Int) ≤ 57)) ∨ ((97 ≤ ((sbyte s n7_2 : Nat) : Int)) ∧ (¬ (((sbyte s n7_2 : Nat) : Int) ≤ 122)) ∧ (¬ (65 ≤ ((sbyte s n7_2 : Nat) : Int))) ∧ (48 ≤ ((sbyte s n7_2 : Nat) : Int)) ∧ (¬ (((sbyte s n7_2 : Nat) : Int) ≤ 57)) ∧ (((sbyte s n7_2 : Nat) : Int) = 95)) ∨ ((97 ≤ ((sbyte s n7_2 : Nat) : Int)) ∧ (¬ (((sbyte s n7_2 : Nat) : Int) ≤ 122)) ∧ (¬ (65 ≤ ((sbyte s n7_2 : Nat) : Int))) ∧ (¬ (48 ≤ ((sbyte s n7_2 : Nat) : Int))) ∧ (((sbyte s n7_2 : Nat) : Int) = 95)) ∨ ((¬ (97 ≤ ((sbyte s n7_2 : Nat) : Int))) ∧ (65 ≤ ((sbyte s n7_2 : Nat) : Int)) ∧ (((sbyte s n7_2 : Nat) : Int) ≤ 90)) ∨ ((¬ (97 ≤ ((sbyte s n7_2 : Nat) : Int))) ∧ (65 ≤ ((sbyte s n7_2 : Nat) : Int)) ∧ (¬ (((sbyte s n7_2 : Nat) : Int) ≤ 90)) ∧ (48 ≤ ((sbyte s n7_2 : Nat) : Int)) ∧ (((sbyte s n7_2 : Nat) : Int) ≤ 57)) ∨ ((¬ (97 ≤ ((sbyte s n7_2 : Nat) : Int))) ∧ (65 ≤ ((sbyte s n7_2 : Nat) : Int)) ∧ (¬ (((sbyte s n7_2 : Nat) : Int) ≤ 90)) ∧ (48 ≤ ((sbyte s n7_2 : Nat) : Int)) ∧ (¬ (((sbyte s n7_2 : Nat) : Int) ≤ 57)) ∧ (((sbyte s n7_2 : Nat) : Int) = 95)) ∨ ((¬ (97 ≤ ((sbyte s n7_2 : Nat) : Int))) ∧ (65 ≤ ((sbyte s n7_2 : Nat) : Int)) ∧ (¬ (((sbyte s n7_2 : Nat) : Int) ≤ 90)) ∧ (¬ (48 ≤ ((sbyte s n7_2 : Nat) : Int))) ∧ (((sbyte s n7_2 : Nat) : Int) = 95)) ∨ ((¬ (97 ≤ ((sbyte s n7_2 : Nat) : Int))) ∧ (¬ (65 ≤ ((sbyte s n7_2 : Nat) : Int))) ∧ (48 ≤ ((sbyte s n7_2 : Nat) : Int)) ∧ (((sbyte s n7_2 : Nat) : Int) ≤ 57)) ∨ ((¬ (97 ≤ ((sbyte s n7_2 : Nat) : Int))) ∧ (¬ (65 ≤ ((sbyte s n7_2 : Nat) : Int))) ∧ (48 ≤ ((sbyte s n7_2 : Nat) : Int)) ∧ (¬ (((sbyte s n7_2 : Nat) : Int) ≤ 57)) ∧ (((sbyte s n7_2 : Nat) : Int) = 95)) ∨ ((¬ (97 ≤ ((sbyte s n7_2 : Nat) : Int))) ∧ (¬ (65 ≤ ((sbyte s n7_2 : Nat) : Int))) ∧ (¬ (48 ≤ ((sbyte s n7_2 : Nat) : Int))) ∧ (((sbyte s n7_2 : Nat) : Int) = 95))) ?_ (fun hJ7 => ?_)
 refine .block (.sr ?_)
 refine .mv ?_
 refine .an ?_
 refine .nil (.sr ?_)
 refine .mv ?_
 refine .mv ?_
 refine .vl (Y.indexSb (m := n7_2) un9 rfl rfl rlo om) ?_
 refine .an ?_
 refine .nil (.sr ?_)
 refine .mv ?_
 refine .vl (Y.geq rfl rfl) ?_
 refine .mv ?_
 refine .splitD (d := 15) rfl (fun c15 => ?_) (fun c15 => ?_)
 refine .gw 15 (Y.move rfl rfl) (.gw 15 (Y.leq rfl rfl) ?_)
 refine .pk ?_
 refine .mv ?_
 refine .splitD (d := 19) rfl (fun c19 => ?_) (fun c19 => ?_)
 refine .gz 19 (.gz 19 (.gz 19 ?_))
 refine .gz 22 (.gz 22 (.gz 19 ?_))
 refine .pk ?_
 refine .mv ?_
 refine .gz 27 (.gz 27 (.gz 27 ?_))
 refine .gz 30 (.gz 30 (.gz 27 ?_))
 refine .pk ?_
 refine .mv ?_
 refine .gz 35 (.gz 35 ?_)
 refine .pk ?_
 refine .vl (Y.not rfl) (.nil (.condF rfl ?_))
 refine .skip ?_
 exact ⟨.inl ⟨c15, c19⟩, Le.mk (.c (.c (.c (.nil)))) (.nil)⟩
 refine .gw 19 (Y.move rfl rfl) (.gw 19 (Y.geq rfl rfl) (.gw 19 (Y.move rfl rfl) ?_))
 refine .splitD (d := 22) rfl (fun c22 => ?_) (fun c22 => ?_)
 refine .gw 22 (Y.move rfl rfl) (.gw 22 (Y.leq rfl rfl) (.gw 19 (Y.pick rfl rfl rfl) ?_))
 refine .pk ?_
 refine .mv ?_
 refine .splitD (d := 27) rfl (fun c27 => ?_) (fun c27 => ?_)
 refine .gz 27 (.gz 27 (.gz 27 ?_))
 refine .gz 30 (.gz 30 (.gz 27 ?_))
 refine .pk ?_
 refine .mv ?_
 refine .gz 35 (.gz 35 ?_)
 refine .pk ?_
 refine .vl (Y.not rfl) (.nil (.condF rfl ?_))
 refine .skip ?_
 exact ⟨.inr (.inl ⟨c15, c19, c22, c27⟩), Le.mk (.c (.c (.c (.nil)))) (.nil)⟩
 refine .gw 27 (Y.move rfl rfl) (.gw 27 (Y.geq rfl rfl) (.gw 27 (Y.move rfl rfl) ?_))
 refine .splitD (d := 30) rfl (fun c30 => ?_) (fun c30 => ?_)
 refine .gw 30 (Y.move rfl rfl) (.gw 30 (Y.leq rfl rfl) (.gw 27 (Y.pick rfl rfl rfl) ?_))
 refine .pk ?_
 refine .mv ?_
 refine .splitD (d := 35) rfl (fun c35 => ?_) (fun c35 => ?_)
 refine .gz 35 (.gz 35 ?_)
 refine .pk ?_
 refine .vl (Y.not rfl) (.nil (.condF rfl ?_))
 refine .skip ?_
 exact ⟨.inr (.inr (.inl ⟨c15, c19, c22, c27, c30, c35⟩)), Le.mk (.c (.c (.c (.nil)))) (.nil)⟩
 refine .gw 35 (Y.move rfl rfl) (.gw 35 (Y.eql rfl rfl) ?_)
 refine .pk ?_
 refine .vl (Y.not rfl) (.nil ?_)
 refine .cond rfl (fun c39 => ?_) (fun c39 => ?_)
 replace c39 : ¬ (((sbyte s n7_2 : Nat) : Int) = 95) := by simpa using c39
 refine .sr ?_
 refine .an ?_
 refine .nil (.ret ?_)
 exact .rb rfl (df (fun h => by have h1 := h.1 n7_2 om; unfold okByte at h1; omega))
 replace c39 : ((sbyte s n7_2 : Nat) : Int) = 95 := by simpa using c39
 refine .skip ?_
 exact ⟨.inr (.inr (.inr (.inl ⟨c15, c19, c22, c27, c30, c35, c39⟩))), Le.mk (.c (.c (.c (.nil)))) (.nil)⟩
 refine .gz 30 (.gz 30 (.gw 27 (Y.pick rfl rfl rfl) ?_))
 refine .pk ?_
 refine .mv ?_
 refine .gw 35 (Y.move rfl rfl) (.gw 35 (Y.eql rfl rfl) ?_)
 refine .pk ?_
 refine .vl (Y.not rfl) (.nil ?_)
 refine .cond rfl (fun c39 => ?_) (fun c39 => ?_)
 replace c39 : ¬ (((sbyte s n7_2 : Nat) : Int) = 95) := by simpa using c39
 refine .sr ?_
 refine .an ?_
 refine .nil (.ret ?_)
 exact .rb rfl (df (fun h => by have h1 := h.1 n7_2 om; unfold okByte at h1; omega))
 replace c39 : ((sbyte s n7_2 : Nat) : Int) = 95 := by simpa using c39
 refine .skip ?_
 exact ⟨.inr (.inr (.inr (.inr (.inl ⟨c15, c19, c22, c27, c30, c39⟩)))), Le.mk (.c (.c (.c (.nil)))) (.nil)⟩
 refine .gz 22 (.gz 22 (.gw 19 (Y.pick rfl rfl rfl) ?_))
 refine .pk ?_
 refine .mv ?_
 refine .gw 27 (Y.move rfl rfl) (.gw 27 (Y.geq rfl rfl) (.gw 27 (Y.move rfl rfl) ?_))
 refine .splitD (d := 30) rfl (fun c30 => ?_) (fun c30 => ?_)
 refine .gw 30 (Y.move rfl rfl) (.gw 30 (Y.leq rfl rfl) (.gw 27 (Y.pick rfl rfl rfl) ?_))
 refine .pk ?_
 refine .mv ?_
 refine .splitD (d := 35) rfl (fun c35 => ?_) (fun c35 => ?_)
 refine .gz 35 (.gz 35 ?_)
 refine .pk ?_
 refine .vl (Y.not rfl) (.nil (.condF rfl ?_))
 refine .skip ?_
 exact ⟨.inr (.inr (.inr (.inr (.inr (.inl ⟨c15, c19, c22, c30, c35⟩))))), Le.mk (.c (.c (.c (.nil)))) (.nil)⟩
 refine .gw 35 (Y.move rfl rfl) (.gw 35 (Y.eql rfl rfl) ?_)
 refine .pk ?_
 refine .vl (Y.not rfl) (.nil ?_)
 refine .cond rfl (fun c39 => ?_) (fun c39 => ?_)
 replace c39 : ¬ (((sbyte s n7_2 : Nat) : Int) = 95) := by simpa using c39
 refine .sr ?_
 refine .an ?_
 refine .nil (.ret ?_)
 exact .rb rfl (df (fun h => by have h1 := h.1 n7_2 om; unfold okByte at h1; omega))
 replace c39 : ((sbyte s n7_2 : Nat) : Int) = 95 := by simpa using c39
 refine .skip ?_
 exact ⟨.inr (.inr (.inr (.inr (.inr (.inr (.inl ⟨c15, c19, c22, c30, c35, c39⟩)))))), Le.mk (.c (.c (.c (.nil)))) (.nil)⟩
 refine .gz 30 (.gz 30 (.gw 27 (Y.pick rfl rfl rfl) ?_))
 refine .pk ?_
 refine .mv ?_
 refine .gw 35 (Y.move rfl rfl) (.gw 35 (Y.eql rfl rfl) ?_)
 refine .pk ?_
 refine .vl (Y.not rfl) (.nil ?_)
 refine .cond rfl (fun c39 => ?_) (fun c39 => ?_)
 replace c39 : ¬ (((sbyte s n7_2 : Nat) : Int) = 95) := by simpa using c39
 refine .sr ?_
 refine .an ?_
 refine .nil (.ret ?_)
 exact .rb rfl (df (fun h => by have h1 := h.1 n7_2 om; unfold okByte at h1; omega))
 replace c39 : ((sbyte s n7_2 : Nat) : Int) = 95 := by simpa using c39
 refine .skip ?_
 exact ⟨.inr (.inr (.inr (.inr (.inr (.inr (.inr (.inl ⟨c15, c19, c22, c30, c39⟩))))))), Le.mk (.c (.c (.c (.nil)))) (.nil)⟩
 refine .gz 15 (.gz 15 ?_)
 refine .pk ?_
 refine .mv ?_
 refine .gw 19 (Y.move rfl rfl) (.gw 19 (Y.geq rfl rfl) (.gw 19 (Y.move rfl rfl) ?_))
 refine .splitD (d := 22) rfl (fun c22 => ?_) (fun c22 => ?_)
 refine .gw 22 (Y.move rfl rfl) (.gw 22 (Y.leq rfl rfl) (.gw 19 (Y.pick rfl rfl rfl) ?_))
 refine .pk ?_
 refine .mv ?_
 refine .splitD (d := 27) rfl (fun c27 => ?_) (fun c27 => ?_)
 refine .gz 27 (.gz 27 (.gz 27 ?_))
 refine .gz 30 (.gz 30 (.gz 27 ?_))
 refine .pk ?_
 refine .mv ?_
 refine .gz 35 (.gz 35 ?_)
 refine .pk ?_
 refine .vl (Y.not rfl) (.nil (.condF rfl ?_))
 refine .skip ?_
 exact ⟨.inr (.inr (.inr (.inr (.inr (.inr (.inr (.inr (.inl ⟨c15, c22, c27⟩)))))))), Le.mk (.c (.c (.c (.nil)))) (.nil)⟩
 refine .gw 27 (Y.move rfl rfl) (.gw 27 (Y.geq rfl rfl) (.gw 27 (Y.move rfl rfl) ?_))
 refine .splitD (d := 30) rfl (fun c30 => ?_) (fun c30 => ?_)
 refine .gw 30 (Y.move rfl rfl) (.gw 30 (Y.leq rfl rfl) (.gw 27 (Y.pick rfl rfl rfl) ?_))
 refine .pk ?_
 refine .mv ?_
 refine .splitD (d := 35) rfl (fun c35 => ?_) (fun c35 => ?_)
 refine .gz 35 (.gz 35 ?_)
 refine .pk ?_
 refine .vl (Y.not rfl) (.nil (.condF rfl ?_))
 refine .skip ?_
 exact ⟨.inr (.inr (.inr (.inr (.inr (.inr (.inr (.inr (.inr (.inl ⟨c15, c22, c27, c30, c35⟩))))))))), Le.mk (.c (.c (.c (.nil)))) (.nil)⟩
 refine .gw 35 (Y.move rfl rfl) (.gw 35 (Y.eql rfl rfl) ?_)
 refine .pk ?_
 refine .vl (Y.not rfl) (.nil ?_)
 refine .cond rfl (fun c39 => ?_) (fun c39 => ?_)
 replace c39 : ¬ (((sbyte s n7_2 : Nat) : Int) = 95) := by simpa using c39
 refine .sr ?_
 refine .an ?_
 refine .nil (.ret ?_)
 exact .rb rfl (df (fun h => by have h1 := h.1 n7_2 om; unfold okByte at h1; omega))
 replace c39 : ((sbyte s n7_2 : Nat) : Int) = 95 := by simpa using c39
 refine .skip ?_
 exact ⟨.inr (.inr (.inr (.inr (.inr (.inr (.inr (.inr (.inr (.inr (.inl ⟨c15, c22, c27, c30, c35, c39⟩)))))))))), Le.mk (.c (.c (.c (.nil)))) (.nil)⟩
 refine .gz 30 (.gz 30 (.gw 27 (Y.pick rfl rfl rfl) ?_))
 refine .pk ?_
 refine .mv ?_
 refine .gw 35 (Y.move rfl rfl) (.gw 35 (Y.eql rfl rfl) ?_)
 refine .pk ?_
 refine .vl (Y.not rfl) (.nil ?_)
 refine .cond rfl (fun c39 => ?_) (fun c39 => ?_)
 replace c39 : ¬ (((sbyte s n7_2 : Nat) : Int) = 95) := by simpa using c39
 refine .sr ?_
 refine .an ?_
 refine .nil (.ret ?_)
 exact .rb rfl (df (fun h => by have h1 := h.1 n7_2 om; unfold okByte at h1; omega))
 replace c39 : ((sbyte s n7_2 : Nat) : Int) = 95 := by simpa using c39
 refine .skip ?_
 exact ⟨.inr (.inr (.inr (.inr (.inr (.inr (.inr (.inr (.inr (.inr (.inr (.inl ⟨c15, c22, c27, c30, c39⟩))))))))))), Le.mk (.c (.c (.c (.nil)))) (.nil)⟩
 refine .gz 22 (.gz 22 (.gw 19 (Y.pick rfl rfl rfl) ?_))
 refine .pk ?_
 refine .mv ?_
 refine .gw 27 (Y.move rfl rfl) (.gw 27 (Y.geq rfl rfl) (.gw 27 (Y.move rfl rfl) ?_))
 refine .splitD (d := 30) rfl (fun c30 => ?_) (fun c30 => ?_)
 refine .gw 30 (Y.move rfl rfl) (.gw 30 (Y.leq rfl rfl) (.gw 27 (Y.pick rfl rfl rfl) ?_))
 refine .pk ?_
 refine .mv ?_
 refine .splitD (d := 35) rfl (fun c35 => ?_) (fun c35 => ?_)
 refine .gz 35 (.gz 35 ?_)
 refine .pk ?_
 refine .vl (Y.not rfl) (.nil (.condF rfl ?_))
 refine .skip ?_
 exact ⟨.inr (.inr (.inr (.inr (.inr (.inr (.inr (.inr (.inr (.inr (.inr (.inr (.inl ⟨c15, c22, c30, c35⟩)))))))))))), Le.mk (.c (.c (.c (.nil)))) (.nil)⟩
 refine .gw 35 (Y.move rfl rfl) (.gw 35 (Y.eql rfl rfl) ?_)
 refine .pk ?_
 refine .vl (Y.not rfl) (.nil ?_)
 refine .cond rfl (fun c39 => ?_) (fun c39 => ?_)
 replace c39 : ¬ (((sbyte s n7_2 : Nat) : Int) = 95) := by simpa using c39
 refine .sr ?_
 refine .an ?_
 refine .nil (.ret ?_)
 exact .rb rfl (df (fun h => by have h1 := h.1 n7_2 om; unfold okByte at h1; omega))
 replace c39 : ((sbyte s n7_2 : Nat) : Int) = 95 := by simpa using c39
 refine .skip ?_
 exact ⟨.inr (.inr (.inr (.inr (.inr (.inr (.inr (.inr (.inr (.inr (.inr (.inr (.inr (.inl ⟨c15, c22, c30, c35, c39⟩))))))))))))), Le.mk (.c (.c (.c (.nil)))) (.nil)⟩
 refine .gz 30 (.gz 30 (.gw 27 (Y.pick rfl rfl rfl) ?_))
 refine .pk ?_
 refine .mv ?_
 refine .gw 35 (Y.move rfl rfl) (.gw 35 (Y.eql rfl rfl) ?_)
 refine .pk ?_
 refine .vl (Y.not rfl) (.nil ?_)
 refine .cond rfl (fun c39 => ?_) (fun c39 => ?_)
 replace c39 : ¬ (((sbyte s n7_2 : Nat) : Int) = 95) := by simpa using c39
 refine .sr ?_
 refine .an ?_
 refine .nil (.ret ?_)
 exact .rb rfl (df (fun h => by have h1 := h.1 n7_2 om; unfold okByte at h1; omega))
 replace c39 : ((sbyte s n7_2 : Nat) : Int) = 95 := by simpa using c39
 refine .skip ?_
 exact ⟨.inr (.inr (.inr (.inr (.inr (.inr (.inr (.inr (.inr (.inr (.inr (.inr (.inr (.inr (⟨c15, c22, c30, c39⟩)))))))))))))), Le.mk (.c (.c (.c (.nil)))) (.nil)⟩
 refine .region (.vl (Y.addI rfl rfl oms) ?_)
 refine .mv ?_
 refine .nil ?_
 exact ⟨n7_2 + 1, ⟨om, below_succ hb (by unfold okByte; omega)⟩, om, Le.mk (.c (.c (.cons (look_int rfl rlo) (.nil)))) (.nil)⟩
 refine .exit (.sr ?_)
 refine .mv ?_
 refine .vl (Y.lenS un9 rfl) (.vl (Y.leq rfl rfl) ?_)
 refine .an ?_
 refine .nil (.ret ?_)
 exact .rb rfl (dd ⟨fun h => ⟨fun j hj => hb j om, om⟩, fun h => by have := h.2; omega⟩)
theorem operands_spec {op : Int} : ACalls Try.prog 124 [vi op] [] [] (fun r o => r = (vi (opArgs op)) ∧ o = []) := by
 refine ACalls.of Try.func124 rfl rfl rfl (n := 25) dcd (nbE rfl) (.sr ?_)
 refine .an ?_
 refine .nil (.seq (.sr ?_))
 refine .mv ?_
 refine .nil (.block (.seq ?_))
 refine .sr (.vl (Y.eql rfl rfl) ?_)
 refine .an ?_
 refine .nil ?_
 refine .condKD rfl (fun c4 => ?_) (fun c4 => ?_)
 refine .skip (.condT rfl (.sr ?_))
 refine .an ?_
 refine .nil (.ret ?_)
 exact .ri rfl (by simp only [opArgs]; omega)
 refine .sr (.vl (Y.eql rfl rfl) ?_)
 refine .an ?_
 refine .nil ?_
 refine .condKD rfl (fun c4 => ?_) (fun c4 => ?_)
 refine .skip (.condT rfl (.sr ?_))
 refine .an ?_
 refine .nil (.ret ?_)
 exact .ri rfl (by simp only [opArgs]; omega)
 refine .sr (.vl (Y.eql rfl rfl) ?_)
 refine .an ?_
 refine .nil ?_
 refine .condKD rfl (fun c4 => ?_) (fun c4 => ?_)
 refine .skip (.condT rfl (.sr ?_))
 refine .an ?_
 refine .nil (.ret ?_)
 exact .ri rfl (by simp only [opArgs]; omega)
 refine .sr (.vl (Y.eql rfl rfl) ?_)
 refine .an ?_
 refine .nil ?_
 refine .condKD rfl (fun c4 => ?_) (fun c4 => ?_)
 refine .skip (.condT rfl (.sr ?_))
 refine .an ?_
 refine .nil (.ret ?_)
 exact .ri rfl (by simp only [opArgs]; omega)
 refine .sr (.vl (Y.eql rfl rfl) ?_)
 refine .an ?_
 refine .nil ?_
 refine .condKD rfl (fun c4 => ?_) (fun c4 => ?_)
 refine .skip (.condT rfl (.sr ?_))
 refine .an ?_
 refine .nil (.ret ?_)
 exact .ri rfl (by simp only [opArgs]; omega)
 refine .sr (.vl (Y.eql rfl rfl) ?_)
 refine .an ?_
 refine .nil ?_
 refine .condKD rfl (fun c4 => ?_) (fun c4 => ?_)
 refine .skip (.condT rfl (.sr ?_))
 refine .an ?_
 refine .nil (.ret ?_)
 exact .ri rfl (by simp only [opArgs]; omega)
 refine .sr (.vl (Y.eql rfl rfl) ?_)
 refine .an ?_
 refine .nil ?_
 refine .condKD rfl (fun c4 => ?_) (fun c4 => ?_)
 refine .skip (.condT rfl (.sr ?_))
 refine .an ?_
 refine .nil (.ret ?_)
 exact .ri rfl (by simp only [opArgs]; omega)
 refine .sr (.vl (Y.eql rfl rfl) ?_)
 refine .an ?_
 refine .nil ?_
 refine .condKD rfl (fun c4 => ?_) (fun c4 => ?_)
 refine .skip (.condT rfl (.sr ?_))
 refine .an ?_
 refine .nil (.ret ?_)
 exact .ri rfl (by simp only [opArgs]; omega)
 refine .sr (.vl (Y.eql rfl rfl) ?_)
 refine .an ?_
 refine .nil ?_
 refine .condKD rfl (fun c4 => ?_) (fun c4 => ?_)
 refine .skip (.condT rfl (.sr ?_))
 refine .an ?_
 refine .nil (.ret ?_)
 exact .ri rfl (by simp only [opArgs]; omega)
 refine .sr (.vl (Y.eql rfl rfl) ?_)
 refine .an ?_
 refine .nil ?_
 refine .condKD rfl (fun c4 => ?_) (fun c4 => ?_)
 refine .skip (.condT rfl (.sr ?_))
 refine .an ?_
 refine .nil (.ret ?_)
 exact .ri rfl (by simp only [opArgs]; omega)
 refine .sr (.vl (Y.eql rfl rfl) ?_)
 refine .an ?_
 refine .nil ?_
 refine .condKD rfl (fun c4 => ?_) (fun c4 => ?_)
 refine .skip (.condT rfl (.sr ?_))
 refine .an ?_
 refine .nil (.ret ?_)
 exact .ri rfl (by simp only [opArgs]; omega)
 refine .sr (.vl (Y.eql rfl rfl) ?_)
 refine .an ?_
 refine .nil ?_
 refine .condKD rfl (fun c4 => ?_) (fun c4 => ?_)
 refine .skip (.condT rfl (.sr ?_))
 refine .an ?_
 refine .nil (.ret ?_)
 exact .ri rfl (by simp only [opArgs]; omega)
 refine .sr (.vl (Y.eql rfl rfl) ?_)
 refine .an ?_
 refine .nil ?_
 refine .condKD rfl (fun c4 => ?_) (fun c4 => ?_)
 refine .skip (.condT rfl (.sr ?_))
 refine .an ?_
 refine .nil (.ret ?_)
 exact .ri rfl (by simp only [opArgs]; omega)
 refine .region (.vl (Y.eql rfl rfl) ?_)
 refine .an ?_
 refine .nil ?_
 refine .condKD rfl (fun c4 => ?_) (fun c4 => ?_)
 refine .sr ?_
 refine .an ?_
 refine .nil (.ret ?_)
 exact .ri rfl (by simp only [opArgs]; omega)
 refine .sr (.vl (Y.eql rfl rfl) ?_)
 refine .an ?_
 refine .nil ?_
 refine .condD rfl (fun c19 => ?_) (fun c19 => ?_)
 refine .sr ?_
 refine .an ?_
 refine .nil (.ret ?_)
 exact .ri rfl (by simp only [opArgs]; omega)
 refine .seq (.sr (.vl (Y.eql rfl rfl) ?_))
 refine .an ?_
 refine .nil ?_
 refine .condKD rfl (fun c21 => ?_) (fun c21 => ?_)
 refine .skip (.condT rfl (.sr ?_))
 refine .an ?_
 refine .nil (.ret ?_)
 exact .ri rfl (by simp only [opArgs]; omega)
 refine .sr (.vl (Y.eql rfl rfl) ?_)
 refine .an ?_
 refine .nil ?_
 refine .condKD rfl (fun c21 => ?_) (fun c21 => ?_)
 refine .skip (.condT rfl (.sr ?_))
 refine .an ?_
 refine .nil (.ret ?_)
 exact .ri rfl (by simp only [opArgs]; omega)
 refine .region (.vl (Y.eql rfl rfl) ?_)
 refine .an ?_
 refine .nil ?_
 refine .condKD rfl (fun c21 => ?_) (fun c21 => ?_)
 refine .sr ?_
 refine .an ?_
 refine .nil (.ret ?_)
 exact .ri rfl (by simp only [opArgs]; omega)
 refine .skip (.sr ?_)
 refine .an ?_
 refine .nil (.ret ?_)
 exact .ri rfl (by simp only [opArgs]; omega)
end Go.Proofs.Ytligpghohcfpnaa
/- Walks through small functions of words. -/
namespace Go.Proofs.Ytligpghohcfpnaa
open Go Go.AW Go.Proofs
theorem lim127_spec {w : Int} : ACalls Try.prog 127 [vi w] [] [] (fun r o => r = (vi ((limN w : Nat) : Int)) ∧ o = []) := by
 refine ACalls.of Try.func127 rfl rfl rfl (n := 6) dcd (nbE rfl) (.sr ?_)
 refine .an ?_
 refine .nil (.sr ?_)
 refine .mv ?_
 refine .vl (Y.max rfl rfl rfl) (.vl (Y.min rfl rfl rfl) ?_)
 refine .an ?_
 refine .nil (.ret ?_)
 exact .ri rfl (by unfold limN; (repeat' split) <;> omega)
theorem lim104_spec {w : Int} : ACalls Try.prog 104 [vi w] [] [] (fun r o => r = (vi ((limN w : Nat) : Int)) ∧ o = []) := by
 refine ACalls.of Try.func104 rfl rfl rfl (n := 6) dcd (nbE rfl) (.sr ?_)
 refine .an ?_
 refine .nil (.sr ?_)
 refine .mv ?_
 refine .vl (Y.max rfl rfl rfl) (.vl (Y.min rfl rfl rfl) ?_)
 refine .an ?_
 refine .nil (.ret ?_)
 exact .ri rfl (by unfold limN; (repeat' split) <;> omega)
theorem mask_spec {w : Int} : ACalls Try.prog 103 [vi w] [] [] (fun r o => r = .v (.int .u64 ((2 ^ limN w - 1 : Nat) : Int)) ∧ o = []) := by
 refine ACalls.of Try.func103 rfl rfl rfl (n := 10) dcd (nbE rfl) ?_
 have hl := limN_le w
 refine .sr ?_
 refine .an ?_
 refine .nil (.seq (.sr ?_))
 refine .mv ?_
 refine .callP ok127 (lim127_spec (w := w)) rfl (.keep rfl rfl .nil) dcd rfl ?_
 refine .an ?_
 refine .nil (.sr ?_)
 refine .mv ?_
 refine .vl (Y.eql rfl rfl) (.nil ?_)
 refine .condD rfl (fun c6 => ?_) (fun c6 => ?_)
 refine .sr ?_
 refine .an ?_
 refine .nil (.ret ?_)
 exact .ri rfl (by rw [show limN w = 0 by omega]; rfl)
 refine .skip (.sr ?_)
 refine .mv ?_
 refine .vl (Y.subI rfl rfl oms) (.vl (Y.shrN (a := 18446744073709551615) ((64 - ((limN w : Nat) : Int)).toNat) rfl rfl om om) ?_)
 refine .an ?_
 refine .nil (.ret ?_)
 exact .ri rfl (by rw [show ((64 : Int) - ((limN w : Nat) : Int)).toNat = 64 - limN w by omega, mask_eq])
theorem bfit_spec {w : Int} {x : Nat} (hx : x < 18446744073709551616) : ACalls Try.prog 65 [vi w, .v (.int .u64 (x : Int))] [] [] (fun r o => r = .v (.int .u64 ((fitN w x : Nat) : Int)) ∧ o = []) := by
 refine ACalls.of Try.func65 rfl rfl rfl (n := 9) dcd (nbE rfl) ?_
 have hm := mask_lt w
 refine .sr ?_
 refine .an ?_
 refine .nil (.sr ?_)
 refine .mv ?_
 refine .mv ?_
 refine .callP ok103 (mask_spec (w := w)) rfl (.keep rfl rfl .nil) dcd rfl (.vl (Y.andN (a := x) (b := (2 ^ limN w - 1)) rfl rfl om) ?_)
 refine .an ?_
 refine .nil (.ret ?_)
 exact .ri rfl (by rw [fitN_and])
theorem isCompare_spec {w : Int} : ACalls Try.prog 74 [vi w] [] [] (fun r o => r = .v (.bool (decide (Cmp w))) ∧ o = []) := by
 refine ACalls.of Try.func74 rfl rfl rfl (n := 9) dcd (nbE rfl) (.sr ?_)
 refine .an ?_
 refine .nil (.sr ?_)
 refine .mv ?_
 refine .vl (Y.geq rfl rfl) ?_
 refine .mv ?_
 refine .splitD (d := 5) rfl (fun c5 => ?_) (fun c5 => ?_)
 refine .gw 5 (Y.move rfl rfl) (.gw 5 (Y.leq rfl rfl) ?_)
 refine .pk ?_
 refine .an ?_
 refine .nil (.ret ?_)
 exact .rb rfl (dd (by (simp only [Cmp]) <;> (first | omega | grind)))
 refine .gz 5 (.gz 5 ?_)
 refine .pk ?_
 refine .an ?_
 refine .nil (.ret ?_)
 exact .rb rfl (df (by (simp only [Cmp]) <;> (first | omega | grind)))
theorem refIsCompare_spec {w : Int} : ACalls Try.prog 77 [vi w] [] [] (fun r o => r = .v (.bool (decide (Cmp w))) ∧ o = []) := by
 refine ACalls.of Try.func77 rfl rfl rfl (n := 9) dcd (nbE rfl) (.sr ?_)
 refine .an ?_
 refine .nil (.sr ?_)
 refine .mv ?_
 refine .vl (Y.geq rfl rfl) ?_
 refine .mv ?_
 refine .splitD (d := 5) rfl (fun c5 => ?_) (fun c5 => ?_)
 refine .gw 5 (Y.move rfl rfl) (.gw 5 (Y.leq rfl rfl) ?_)
 refine .pk ?_
 refine .an ?_
 refine .nil (.ret ?_)
 exact .rb rfl (dd (by (simp only [Cmp]) <;> (first | omega | grind)))
 refine .gz 5 (.gz 5 ?_)
 refine .pk ?_
 refine .an ?_
 refine .nil (.ret ?_)
 exact .rb rfl (df (by (simp only [Cmp]) <;> (first | omega | grind)))
theorem unary_spec {w : Int} : ACalls Try.prog 118 [vi w] [] [] (fun r o => r = .v (.bool (decide (Unary w))) ∧ o = []) := by
 refine ACalls.of Try.func118 rfl rfl rfl (n := 13) dcd (nbE rfl) (.sr ?_)
 refine .an ?_
 refine .nil (.sr ?_)
 refine .mv ?_
 refine .vl (Y.eql rfl rfl) ?_
 refine .mv ?_
 refine .splitD (d := 5) rfl (fun c5 => ?_) (fun c5 => ?_)
 refine .gz 5 (.gz 5 ?_)
 refine .pk ?_
 refine .mv ?_
 refine .gz 9 (.gz 9 ?_)
 refine .pk ?_
 refine .an ?_
 refine .nil (.ret ?_)
 exact .rb rfl (dt (by (simp only [Unary]) <;> (first | omega | grind)))
 refine .gw 5 (Y.move rfl rfl) (.gw 5 (Y.eql rfl rfl) ?_)
 refine .pk ?_
 refine .mv ?_
 refine .splitD (d := 9) rfl (fun c9 => ?_) (fun c9 => ?_)
 refine .gz 9 (.gz 9 ?_)
 refine .pk ?_
 refine .an ?_
 refine .nil (.ret ?_)
 exact .rb rfl (dt (by (simp only [Unary]) <;> (first | omega | grind)))
 refine .gw 9 (Y.move rfl rfl) (.gw 9 (Y.eql rfl rfl) ?_)
 refine .pk ?_
 refine .an ?_
 refine .nil (.ret ?_)
 exact .rb rfl (dd (by (simp only [Unary]) <;> (first | omega | grind)))
theorem comb_spec {w : Int} : ACalls Try.prog 21 [vi w] [] [] (fun r o => r = .v (.bool (decide (Comb w))) ∧ o = []) := by
 refine ACalls.of Try.func21 rfl rfl rfl (n := 13) dcd (nbE rfl) (.sr ?_)
 refine .an ?_
 refine .nil (.sr ?_)
 refine .mv ?_
 refine .vl (Y.eql rfl rfl) ?_
 refine .mv ?_
 refine .splitD (d := 5) rfl (fun c5 => ?_) (fun c5 => ?_)
 refine .gz 5 (.gz 5 ?_)
 refine .pk ?_
 refine .mv ?_
 refine .gz 9 (.gz 9 ?_)
 refine .pk ?_
 refine .an ?_
 refine .nil (.ret ?_)
 exact .rb rfl (dt (by (simp only [Comb]) <;> (first | omega | grind)))
 refine .gw 5 (Y.move rfl rfl) (.gw 5 (Y.eql rfl rfl) ?_)
 refine .pk ?_
 refine .mv ?_
 refine .splitD (d := 9) rfl (fun c9 => ?_) (fun c9 => ?_)
 refine .gz 9 (.gz 9 ?_)
 refine .pk ?_
 refine .an ?_
 refine .nil (.ret ?_)
 exact .rb rfl (dt (by (simp only [Comb]) <;> (first | omega | grind)))
 refine .gw 9 (Y.move rfl rfl) (.gw 9 (Y.eql rfl rfl) ?_)
 refine .pk ?_
 refine .an ?_
 refine .nil (.ret ?_)
 exact .rb rfl (dd (by (simp only [Comb]) <;> (first | omega | grind)))
theorem refComb_spec {w : Int} : ACalls Try.prog 22 [vi w] [] [] (fun r o => r = .v (.bool (decide (Comb w))) ∧ o = []) := by
 refine ACalls.of Try.func22 rfl rfl rfl (n := 13) dcd (nbE rfl) (.sr ?_)
 refine .an ?_
 refine .nil (.sr ?_)
 refine .mv ?_
 refine .vl (Y.eql rfl rfl) ?_
 refine .mv ?_
 refine .splitD (d := 5) rfl (fun c5 => ?_) (fun c5 => ?_)
 refine .gz 5 (.gz 5 ?_)
 refine .pk ?_
 refine .mv ?_
 refine .gz 9 (.gz 9 ?_)
 refine .pk ?_
 refine .an ?_
 refine .nil (.ret ?_)
 exact .rb rfl (dt (by (simp only [Comb]) <;> (first | omega | grind)))
 refine .gw 5 (Y.move rfl rfl) (.gw 5 (Y.eql rfl rfl) ?_)
 refine .pk ?_
 refine .mv ?_
 refine .splitD (d := 9) rfl (fun c9 => ?_) (fun c9 => ?_)
 refine .gz 9 (.gz 9 ?_)
 refine .pk ?_
 refine .an ?_
 refine .nil (.ret ?_)
 exact .rb rfl (dt (by (simp only [Comb]) <;> (first | omega | grind)))
 refine .gw 9 (Y.move rfl rfl) (.gw 9 (Y.eql rfl rfl) ?_)
 refine .pk ?_
 refine .an ?_
 refine .nil (.ret ?_)
 exact .rb rfl (dd (by (simp only [Comb]) <;> (first | omega | grind)))
end Go.Proofs.Ytligpghohcfpnaa
/- Walks through the specification of delays. -/
namespace Go.Proofs.Ytligpghohcfpnaa
open Go Go.AW Go.Proofs
theorem refLevels_spec {x : Int} (h0 : 0 ≤ x) (h1 : x ≤ 256) : ACalls Try.prog 79 [vi x] [] [] (fun r o => r = (vi ((lev x.toNat : Nat) : Int)) ∧ o = []) := by
 refine ACalls.of Try.func79 rfl rfl rfl (n := 17) dcd (nbE rfl) (.sr ?_)
 refine .an ?_
 refine .nil (.sr ?_)
 refine .an ?_
 refine .nil (.seq (.sr ?_))
 refine .an ?_
 refine .nil (.block ?_)
 refine .loop2 (fun (k3_3 : Nat) (p4_3 : Nat) => ⟨[(0, vi x), (3, vi (k3_3 : Int)), (4, vi (p4_3 : Int))], []⟩) (fun (k3_3 : Nat) (p4_3 : Nat) => (LevI x k3_3 p4_3)) (fun (k3_3 : Nat) (p4_3 : Nat) => 9 - k3_3) 0 1 (LevI.init) (Le.mk (.c (.cons (look_int rfl rlo) (.cons (look_int rfl rlo) (.nil)))) (.nil)) (fun k3_3 p4_3 hI3 => ?_)
 have hL := hI3
 refine .seq (.sr ?_)
 refine .mv ?_
 refine .mv ?_
 refine .vl (Y.lss rfl rfl) ?_
 refine .mv ?_
 refine .splitD (d := 8) rfl (fun c8 => ?_) (fun c8 => ?_)
 refine .gw 8 (Y.move rfl rfl) (.gw 8 (Y.lss rfl rfl) ?_)
 refine .pk ?_
 refine .nil ?_
 refine .condD rfl (fun c11 => ?_) (fun c11 => ?_)
 refine .skip (.seq (.block ?_))
 have h5 := hL.le h1
 refine .region ?_
 refine .mv ?_
 refine .vl (Y.addI rfl rfl oms) ?_
 refine .an ?_
 refine .nil (.region ?_)
 refine .mv ?_
 refine .vl (Y.mulI rfl rfl om) ?_
 refine .an ?_
 refine .nil ?_
 exact ⟨k3_3 + 1, 2 * p4_3, hL.step asm, om, Le.mk (.c (.cons (look_int rfl rlo) (.cons (look_int rfl rlo) (.nil)))) (.nil)⟩
 refine .exit (.sr ?_)
 refine .mv ?_
 refine .an ?_
 refine .nil (.ret ?_)
 exact .ri rfl (congrArg Nat.cast (hL.done h0 (by have h9 := hL.le h1; omega)))
 refine .gz 8 (.gz 8 ?_)
 refine .pk ?_
 refine .nil (.condF rfl (.exit ?_))
 refine .sr ?_
 refine .mv ?_
 refine .an ?_
 refine .nil (.ret ?_)
 exact .ri rfl (congrArg Nat.cast (hL.done h0 (by have h9 := hL.le h1; omega)))
theorem unit_spec {a b c : Int} : ACalls Try.prog 110 [vi a, vi b, vi c] [] [] (fun r o => r = .agg [vi 0, vi a, vi b, vi 0, vi 0, vi c] ∧ o = []) := by
 refine ACalls.of Try.func110 rfl rfl rfl (n := 11) dcd (nbE rfl) (.sr (.alloc 106 ze106 rfl rfl dcd ?_))
 refine .nil (.sr ?_)
 refine .mv ?_
 refine .mv ?_
 refine .mv ?_
 refine .vl (Y.build pl106 ze106 rfl rfl rfl) (.storeC si106 rfl rfl rfl rfl rfl rfl (nbE rfl) rfl (.nil ?_))
 refine .ret ?_
 exact ⟨_, _, rfl, rfl, rfl, rfl⟩
theorem refOf_spec {op x : Int} (hp : Plain op) (h0 : 1 ≤ x) (h1 : x ≤ 64) : ACalls Try.prog 78 [vi op, vi x] [] [] (fun r o => ∃ c : Int, r = .agg [vi 0, vi x, vi (uDelay op x.toNat), vi 0, vi 0, vi c] ∧ o = []) := by
 refine ACalls.of Try.func78 rfl rfl rfl (n := 161) dcd (nbE rfl) ?_
 have hp2 := hp; unfold Plain Bin Seq Unary at hp2; have hlv := lev_lt (n := x.toNat) om; have hlv2 := lev_lt (n := (x + 1).toNat) om; have hle : (x + 1).toNat = x.toNat + 1 := om; have hm1 := mul_rng h0 h1 hlv; have hm2 := mul_rng h0 h1 hlv2
 refine .sr (.alloc 104 ze106 rfl rfl dcd (.nil ?_))
 refine .sr ?_
 refine .mv ?_
 refine .callP ok79 (refLevels_spec (x := x) (om) (om)) rfl (.keep rfl rfl .nil) dcd rfl ?_
 refine .mv ?_
 refine .vl (Y.addI rfl rfl oms) (.callP ok79 (refLevels_spec (x := (x + 1)) (om) (om)) rfl (.keep rfl rfl .nil) dcd rfl ?_)
 refine .an ?_
 refine .an ?_
 refine .nil (.seq (.sr ?_))
 refine .mv ?_
 refine .nil (.block (.sr ?_))
 refine .vl (Y.eql rfl rfl) ?_
 refine .an ?_
 refine .nil ?_
 refine .condD rfl (fun c13 => ?_) (fun c13 => ?_)
 refine .sr ?_
 refine .mv ?_
 refine .mv ?_
 refine .vl (Y.mulI rfl rfl om) (.vl (Y.addI rfl rfl oms) ?_)
 refine .mv ?_
 refine .vl (Y.mulI rfl rfl om) ?_
 refine .mv ?_
 refine .vl (Y.mulI rfl rfl om) ?_
 refine .mv ?_
 refine .vl (Y.mulI rfl rfl om) (.vl (Y.addI rfl rfl oms) ?_)
 refine .callP ok110 (unit_spec (a := x) (b := (40 + (40 * ((lev x.toNat : Nat) : Int)))) (c := ((3 * x) + ((3 * x) * ((lev x.toNat : Nat) : Int))))) rfl (.keep rfl rfl (.keep rfl rfl (.keep rfl rfl .nil))) dcd rfl (.storeC si106 rfl rfl rfl rfl rfl rfl (nbE rfl) rfl (.nil ?_))
 refine .ret ?_
 first | (exfalso; omega) | exact ⟨_, _, rfl, rfl, (3 * x) + ((3 * x) * ((lev x.toNat : Nat) : Int)), by rw [show uDelay op x.toNat = 40 + (40 * ((lev x.toNat : Nat) : Int)) by (try rw [hle]); unfold uDelay; (repeat' split) <;> omega]; rfl, rfl⟩
 refine .sr (.vl (Y.eql rfl rfl) ?_)
 refine .an ?_
 refine .nil ?_
 refine .condD rfl (fun c27 => ?_) (fun c27 => ?_)
 refine .sr ?_
 refine .mv ?_
 refine .mv ?_
 refine .vl (Y.mulI rfl rfl om) (.vl (Y.addI rfl rfl oms) ?_)
 refine .mv ?_
 refine .vl (Y.mulI rfl rfl om) ?_
 refine .mv ?_
 refine .vl (Y.mulI rfl rfl om) ?_
 refine .mv ?_
 refine .vl (Y.mulI rfl rfl om) (.vl (Y.addI rfl rfl oms) ?_)
 refine .callP ok110 (unit_spec (a := x) (b := (50 + (40 * ((lev x.toNat : Nat) : Int)))) (c := ((4 * x) + ((3 * x) * ((lev x.toNat : Nat) : Int))))) rfl (.keep rfl rfl (.keep rfl rfl (.keep rfl rfl .nil))) dcd rfl (.storeC si106 rfl rfl rfl rfl rfl rfl (nbE rfl) rfl (.nil ?_))
 refine .ret ?_
 first | (exfalso; omega) | exact ⟨_, _, rfl, rfl, (4 * x) + ((3 * x) * ((lev x.toNat : Nat) : Int)), by rw [show uDelay op x.toNat = 50 + (40 * ((lev x.toNat : Nat) : Int)) by (try rw [hle]); unfold uDelay; (repeat' split) <;> omega]; rfl, rfl⟩
 refine .seq (.sr (.vl (Y.eql rfl rfl) ?_))
 refine .an ?_
 refine .nil ?_
 refine .condKD rfl (fun c41 => ?_) (fun c41 => ?_)
 refine .skip (.condT rfl (.sr ?_))
 refine .mv ?_
 refine .mv ?_
 refine .callP ok110 (unit_spec (a := x) (b := 20) (c := x)) rfl (.keep rfl rfl (.keep rfl rfl (.keep rfl rfl .nil))) dcd rfl (.storeC si106 rfl rfl rfl rfl rfl rfl (nbE rfl) rfl (.nil ?_))
 refine .ret ?_
 first | (exfalso; omega) | exact ⟨_, _, rfl, rfl, x, by rw [show uDelay op x.toNat = 20 by (try rw [hle]); unfold uDelay; (repeat' split) <;> omega]; rfl, rfl⟩
 refine .sr (.vl (Y.eql rfl rfl) ?_)
 refine .an ?_
 refine .nil ?_
 refine .condKD rfl (fun c41 => ?_) (fun c41 => ?_)
 refine .skip (.condT rfl (.sr ?_))
 refine .mv ?_
 refine .mv ?_
 refine .callP ok110 (unit_spec (a := x) (b := 20) (c := x)) rfl (.keep rfl rfl (.keep rfl rfl (.keep rfl rfl .nil))) dcd rfl (.storeC si106 rfl rfl rfl rfl rfl rfl (nbE rfl) rfl (.nil ?_))
 refine .ret ?_
 first | (exfalso; omega) | exact ⟨_, _, rfl, rfl, x, by rw [show uDelay op x.toNat = 20 by (try rw [hle]); unfold uDelay; (repeat' split) <;> omega]; rfl, rfl⟩
 refine .region (.vl (Y.eql rfl rfl) ?_)
 refine .an ?_
 refine .nil ?_
 refine .condKD rfl (fun c41 => ?_) (fun c41 => ?_)
 refine .sr ?_
 refine .mv ?_
 refine .mv ?_
 refine .callP ok110 (unit_spec (a := x) (b := 20) (c := x)) rfl (.keep rfl rfl (.keep rfl rfl (.keep rfl rfl .nil))) dcd rfl (.storeC si106 rfl rfl rfl rfl rfl rfl (nbE rfl) rfl (.nil ?_))
 refine .ret ?_
 first | (exfalso; omega) | exact ⟨_, _, rfl, rfl, x, by rw [show uDelay op x.toNat = 20 by (try rw [hle]); unfold uDelay; (repeat' split) <;> omega]; rfl, rfl⟩
 refine .seq (.sr (.vl (Y.eql rfl rfl) ?_))
 refine .an ?_
 refine .nil ?_
 refine .condKD rfl (fun c48 => ?_) (fun c48 => ?_)
 refine .skip (.condT rfl (.sr ?_))
 refine .mv ?_
 refine .mv ?_
 refine .vl (Y.mulI rfl rfl om) (.vl (Y.addI rfl rfl oms) ?_)
 refine .mv ?_
 refine .vl (Y.mulI rfl rfl om) ?_
 refine .mv ?_
 refine .vl (Y.mulI rfl rfl om) ?_
 refine .mv ?_
 refine .vl (Y.mulI rfl rfl om) (.vl (Y.addI rfl rfl oms) ?_)
 refine .callP ok110 (unit_spec (a := x) (b := (30 + (40 * ((lev x.toNat : Nat) : Int)))) (c := ((2 * x) + ((3 * x) * ((lev x.toNat : Nat) : Int))))) rfl (.keep rfl rfl (.keep rfl rfl (.keep rfl rfl .nil))) dcd rfl (.storeC si106 rfl rfl rfl rfl rfl rfl (nbE rfl) rfl (.nil ?_))
 refine .ret ?_
 first | (exfalso; omega) | exact ⟨_, _, rfl, rfl, (2 * x) + ((3 * x) * ((lev x.toNat : Nat) : Int)), by rw [show uDelay op x.toNat = 30 + (40 * ((lev x.toNat : Nat) : Int)) by (try rw [hle]); unfold uDelay; (repeat' split) <;> omega]; rfl, rfl⟩
 refine .region (.vl (Y.eql rfl rfl) ?_)
 refine .an ?_
 refine .nil ?_
 refine .condKD rfl (fun c48 => ?_) (fun c48 => ?_)
 refine .sr ?_
 refine .mv ?_
 refine .mv ?_
 refine .vl (Y.mulI rfl rfl om) (.vl (Y.addI rfl rfl oms) ?_)
 refine .mv ?_
 refine .vl (Y.mulI rfl rfl om) ?_
 refine .mv ?_
 refine .vl (Y.mulI rfl rfl om) ?_
 refine .mv ?_
 refine .vl (Y.mulI rfl rfl om) (.vl (Y.addI rfl rfl oms) ?_)
 refine .callP ok110 (unit_spec (a := x) (b := (30 + (40 * ((lev x.toNat : Nat) : Int)))) (c := ((2 * x) + ((3 * x) * ((lev x.toNat : Nat) : Int))))) rfl (.keep rfl rfl (.keep rfl rfl (.keep rfl rfl .nil))) dcd rfl (.storeC si106 rfl rfl rfl rfl rfl rfl (nbE rfl) rfl (.nil ?_))
 refine .ret ?_
 first | (exfalso; omega) | exact ⟨_, _, rfl, rfl, (2 * x) + ((3 * x) * ((lev x.toNat : Nat) : Int)), by rw [show uDelay op x.toNat = 30 + (40 * ((lev x.toNat : Nat) : Int)) by (try rw [hle]); unfold uDelay; (repeat' split) <;> omega]; rfl, rfl⟩
 refine .sr (.vl (Y.eql rfl rfl) ?_)
 refine .an ?_
 refine .nil ?_
 refine .condD rfl (fun c63 => ?_) (fun c63 => ?_)
 refine .sr ?_
 refine .mv ?_
 refine .mv ?_
 refine .vl (Y.mulI rfl rfl om) (.vl (Y.addI rfl rfl oms) ?_)
 refine .mv ?_
 refine .vl (Y.mulI rfl rfl om) ?_
 refine .mv ?_
 refine .vl (Y.mulI rfl rfl om) ?_
 refine .mv ?_
 refine .vl (Y.mulI rfl rfl om) (.vl (Y.addI rfl rfl oms) ?_)
 refine .callP ok110 (unit_spec (a := x) (b := (50 + (40 * ((lev x.toNat : Nat) : Int)))) (c := ((4 * x) + ((3 * x) * ((lev x.toNat : Nat) : Int))))) rfl (.keep rfl rfl (.keep rfl rfl (.keep rfl rfl .nil))) dcd rfl (.storeC si106 rfl rfl rfl rfl rfl rfl (nbE rfl) rfl (.nil ?_))
 refine .ret ?_
 first | (exfalso; omega) | exact ⟨_, _, rfl, rfl, (4 * x) + ((3 * x) * ((lev x.toNat : Nat) : Int)), by rw [show uDelay op x.toNat = 50 + (40 * ((lev x.toNat : Nat) : Int)) by (try rw [hle]); unfold uDelay; (repeat' split) <;> omega]; rfl, rfl⟩
 refine .seq (.sr (.vl (Y.eql rfl rfl) ?_))
 refine .an ?_
 refine .nil ?_
 refine .condKD rfl (fun c77 => ?_) (fun c77 => ?_)
 refine .skip (.condT rfl (.sr ?_))
 refine .mv ?_
 refine .mv ?_
 refine .vl (Y.mulI rfl rfl om) (.vl (Y.addI rfl rfl oms) ?_)
 refine .mv ?_
 refine .vl (Y.mulI rfl rfl om) ?_
 refine .callP ok110 (unit_spec (a := x) (b := (30 + (20 * ((lev x.toNat : Nat) : Int)))) (c := (2 * x))) rfl (.keep rfl rfl (.keep rfl rfl (.keep rfl rfl .nil))) dcd rfl (.storeC si106 rfl rfl rfl rfl rfl rfl (nbE rfl) rfl (.nil ?_))
 refine .ret ?_
 first | (exfalso; omega) | exact ⟨_, _, rfl, rfl, 2 * x, by rw [show uDelay op x.toNat = 30 + (20 * ((lev x.toNat : Nat) : Int)) by (try rw [hle]); unfold uDelay; (repeat' split) <;> omega]; rfl, rfl⟩
 refine .region (.vl (Y.eql rfl rfl) ?_)
 refine .an ?_
 refine .nil ?_
 refine .condKD rfl (fun c77 => ?_) (fun c77 => ?_)
 refine .sr ?_
 refine .mv ?_
 refine .mv ?_
 refine .vl (Y.mulI rfl rfl om) (.vl (Y.addI rfl rfl oms) ?_)
 refine .mv ?_
 refine .vl (Y.mulI rfl rfl om) ?_
 refine .callP ok110 (unit_spec (a := x) (b := (30 + (20 * ((lev x.toNat : Nat) : Int)))) (c := (2 * x))) rfl (.keep rfl rfl (.keep rfl rfl (.keep rfl rfl .nil))) dcd rfl (.storeC si106 rfl rfl rfl rfl rfl rfl (nbE rfl) rfl (.nil ?_))
 refine .ret ?_
 first | (exfalso; omega) | exact ⟨_, _, rfl, rfl, 2 * x, by rw [show uDelay op x.toNat = 30 + (20 * ((lev x.toNat : Nat) : Int)) by (try rw [hle]); unfold uDelay; (repeat' split) <;> omega]; rfl, rfl⟩
 refine .seq (.sr (.vl (Y.eql rfl rfl) ?_))
 refine .an ?_
 refine .nil ?_
 refine .condKD rfl (fun c87 => ?_) (fun c87 => ?_)
 refine .skip (.condT rfl (.sr ?_))
 refine .mv ?_
 refine .mv ?_
 refine .vl (Y.mulI rfl rfl om) (.vl (Y.addI rfl rfl oms) ?_)
 refine .mv ?_
 refine .vl (Y.mulI rfl rfl om) ?_
 refine .mv ?_
 refine .vl (Y.mulI rfl rfl om) ?_
 refine .mv ?_
 refine .vl (Y.mulI rfl rfl om) (.vl (Y.addI rfl rfl oms) ?_)
 refine .callP ok110 (unit_spec (a := x) (b := (40 + (40 * ((lev (x + 1).toNat : Nat) : Int)))) (c := ((4 * x) + ((3 * x) * ((lev (x + 1).toNat : Nat) : Int))))) rfl (.keep rfl rfl (.keep rfl rfl (.keep rfl rfl .nil))) dcd rfl (.storeC si106 rfl rfl rfl rfl rfl rfl (nbE rfl) rfl (.nil ?_))
 refine .ret ?_
 first | (exfalso; omega) | exact ⟨_, _, rfl, rfl, (4 * x) + ((3 * x) * ((lev (x + 1).toNat : Nat) : Int)), by rw [show uDelay op x.toNat = 40 + (40 * ((lev (x + 1).toNat : Nat) : Int)) by (try rw [hle]); unfold uDelay; (repeat' split) <;> omega]; rfl, rfl⟩
 refine .region (.vl (Y.eql rfl rfl) ?_)
 refine .an ?_
 refine .nil ?_
 refine .condKD rfl (fun c87 => ?_) (fun c87 => ?_)
 refine .sr ?_
 refine .mv ?_
 refine .mv ?_
 refine .vl (Y.mulI rfl rfl om) (.vl (Y.addI rfl rfl oms) ?_)
 refine .mv ?_
 refine .vl (Y.mulI rfl rfl om) ?_
 refine .mv ?_
 refine .vl (Y.mulI rfl rfl om) ?_
 refine .mv ?_
 refine .vl (Y.mulI rfl rfl om) (.vl (Y.addI rfl rfl oms) ?_)
 refine .callP ok110 (unit_spec (a := x) (b := (40 + (40 * ((lev (x + 1).toNat : Nat) : Int)))) (c := ((4 * x) + ((3 * x) * ((lev (x + 1).toNat : Nat) : Int))))) rfl (.keep rfl rfl (.keep rfl rfl (.keep rfl rfl .nil))) dcd rfl (.storeC si106 rfl rfl rfl rfl rfl rfl (nbE rfl) rfl (.nil ?_))
 refine .ret ?_
 first | (exfalso; omega) | exact ⟨_, _, rfl, rfl, (4 * x) + ((3 * x) * ((lev (x + 1).toNat : Nat) : Int)), by rw [show uDelay op x.toNat = 40 + (40 * ((lev (x + 1).toNat : Nat) : Int)) by (try rw [hle]); unfold uDelay; (repeat' split) <;> omega]; rfl, rfl⟩
 refine .seq (.sr (.vl (Y.eql rfl rfl) ?_))
 refine .an ?_
 refine .nil ?_
 refine .condKD rfl (fun c102 => ?_) (fun c102 => ?_)
 refine .skip (.condT rfl (.sr ?_))
 refine .mv ?_
 refine .mv ?_
 refine .vl (Y.mulI rfl rfl om) (.vl (Y.addI rfl rfl oms) ?_)
 refine .mv ?_
 refine .vl (Y.mulI rfl rfl om) ?_
 refine .mv ?_
 refine .vl (Y.mulI rfl rfl om) ?_
 refine .mv ?_
 refine .vl (Y.mulI rfl rfl om) (.vl (Y.addI rfl rfl oms) (.vl (Y.addI rfl rfl oms) ?_))
 refine .callP ok110 (unit_spec (a := x) (b := (50 + (40 * ((lev (x + 1).toNat : Nat) : Int)))) (c := (((4 * x) + ((3 * x) * ((lev (x + 1).toNat : Nat) : Int))) + 2))) rfl (.keep rfl rfl (.keep rfl rfl (.keep rfl rfl .nil))) dcd rfl (.storeC si106 rfl rfl rfl rfl rfl rfl (nbE rfl) rfl (.nil ?_))
 refine .ret ?_
 first | (exfalso; omega) | exact ⟨_, _, rfl, rfl, ((4 * x) + ((3 * x) * ((lev (x + 1).toNat : Nat) : Int))) + 2, by rw [show uDelay op x.toNat = 50 + (40 * ((lev (x + 1).toNat : Nat) : Int)) by (try rw [hle]); unfold uDelay; (repeat' split) <;> omega]; rfl, rfl⟩
 refine .region (.vl (Y.eql rfl rfl) ?_)
 refine .an ?_
 refine .nil ?_
 refine .condKD rfl (fun c102 => ?_) (fun c102 => ?_)
 refine .sr ?_
 refine .mv ?_
 refine .mv ?_
 refine .vl (Y.mulI rfl rfl om) (.vl (Y.addI rfl rfl oms) ?_)
 refine .mv ?_
 refine .vl (Y.mulI rfl rfl om) ?_
 refine .mv ?_
 refine .vl (Y.mulI rfl rfl om) ?_
 refine .mv ?_
 refine .vl (Y.mulI rfl rfl om) (.vl (Y.addI rfl rfl oms) (.vl (Y.addI rfl rfl oms) ?_))
 refine .callP ok110 (unit_spec (a := x) (b := (50 + (40 * ((lev (x + 1).toNat : Nat) : Int)))) (c := (((4 * x) + ((3 * x) * ((lev (x + 1).toNat : Nat) : Int))) + 2))) rfl (.keep rfl rfl (.keep rfl rfl (.keep rfl rfl .nil))) dcd rfl (.storeC si106 rfl rfl rfl rfl rfl rfl (nbE rfl) rfl (.nil ?_))
 refine .ret ?_
 first | (exfalso; omega) | exact ⟨_, _, rfl, rfl, ((4 * x) + ((3 * x) * ((lev (x + 1).toNat : Nat) : Int))) + 2, by rw [show uDelay op x.toNat = 50 + (40 * ((lev (x + 1).toNat : Nat) : Int)) by (try rw [hle]); unfold uDelay; (repeat' split) <;> omega]; rfl, rfl⟩
 refine .sr (.vl (Y.eql rfl rfl) ?_)
 refine .an ?_
 refine .nil ?_
 refine .condD rfl (fun c118 => ?_) (fun c118 => ?_)
 refine .sr ?_
 refine .mv ?_
 refine .mv ?_
 refine .vl (Y.mulI rfl rfl om) (.vl (Y.addI rfl rfl oms) ?_)
 refine .callP ok110 (unit_spec (a := x) (b := 50) (c := ((3 * x) + 1))) rfl (.keep rfl rfl (.keep rfl rfl (.keep rfl rfl .nil))) dcd rfl (.storeC si106 rfl rfl rfl rfl rfl rfl (nbE rfl) rfl (.nil ?_))
 refine .ret ?_
 first | (exfalso; omega) | exact ⟨_, _, rfl, rfl, (3 * x) + 1, by rw [show uDelay op x.toNat = 50 by (try rw [hle]); unfold uDelay; (repeat' split) <;> omega]; rfl, rfl⟩
 refine .sr (.vl (Y.eql rfl rfl) ?_)
 refine .an ?_
 refine .nil ?_
 refine .condD rfl (fun c125 => ?_) (fun c125 => ?_)
 refine .sr ?_
 refine .mv ?_
 refine .mv ?_
 refine .vl (Y.addI rfl rfl oms) (.vl (Y.quoI rfl rfl om) (.vl (Y.addI rfl rfl oms) ?_))
 refine .mv ?_
 refine .vl (Y.mulI rfl rfl om) ?_
 refine .mv ?_
 refine .vl (Y.mulI rfl rfl om) ?_
 refine .vl (Y.build pl106 ze106 rfl rfl rfl) (.storeC si106 rfl rfl rfl rfl rfl rfl (nbE rfl) rfl (.nil ?_))
 refine .ret ?_
 first | (exfalso; omega) | exact ⟨_, _, rfl, rfl, (6 * x) * x, by rw [show uDelay op x.toNat = 0 by (try rw [hle]); unfold uDelay; (repeat' split) <;> omega]; rfl, rfl⟩
 refine .seq (.sr (.vl (Y.eql rfl rfl) ?_))
 refine .an ?_
 refine .nil ?_
 refine .condKD rfl (fun c137 => ?_) (fun c137 => ?_)
 refine .skip (.condT rfl (.sr ?_))
 refine .mv ?_
 refine .vl (Y.addI rfl rfl oms) (.vl (Y.subI rfl rfl oms) ?_)
 refine .mv ?_
 refine .mv ?_
 refine .vl (Y.addI rfl rfl oms) (.vl (Y.quoI rfl rfl om) (.vl (Y.addI rfl rfl oms) ?_))
 refine .mv ?_
 refine .vl (Y.addI rfl rfl oms) (.vl (Y.quoI rfl rfl om) (.vl (Y.addI rfl rfl oms) ?_))
 refine .mv ?_
 refine .vl (Y.mulI rfl rfl om) ?_
 refine .mv ?_
 refine .vl (Y.mulI rfl rfl om) ?_
 refine .vl (Y.build pl106 ze106 rfl rfl rfl) (.storeC si106 rfl rfl rfl rfl rfl rfl (nbE rfl) rfl (.nil ?_))
 refine .ret ?_
 first | (exfalso; omega) | exact ⟨_, _, rfl, rfl, (8 * x) * x, by rw [show uDelay op x.toNat = 0 by (try rw [hle]); unfold uDelay; (repeat' split) <;> omega]; rfl, rfl⟩
 refine .sr (.vl (Y.eql rfl rfl) ?_)
 refine .an ?_
 refine .nil ?_
 refine .condKD rfl (fun c137 => ?_) (fun c137 => ?_)
 refine .skip (.condT rfl (.sr ?_))
 refine .mv ?_
 refine .vl (Y.addI rfl rfl oms) (.vl (Y.subI rfl rfl oms) ?_)
 refine .mv ?_
 refine .mv ?_
 refine .vl (Y.addI rfl rfl oms) (.vl (Y.quoI rfl rfl om) (.vl (Y.addI rfl rfl oms) ?_))
 refine .mv ?_
 refine .vl (Y.addI rfl rfl oms) (.vl (Y.quoI rfl rfl om) (.vl (Y.addI rfl rfl oms) ?_))
 refine .mv ?_
 refine .vl (Y.mulI rfl rfl om) ?_
 refine .mv ?_
 refine .vl (Y.mulI rfl rfl om) ?_
 refine .vl (Y.build pl106 ze106 rfl rfl rfl) (.storeC si106 rfl rfl rfl rfl rfl rfl (nbE rfl) rfl (.nil ?_))
 refine .ret ?_
 first | (exfalso; omega) | exact ⟨_, _, rfl, rfl, (8 * x) * x, by rw [show uDelay op x.toNat = 0 by (try rw [hle]); unfold uDelay; (repeat' split) <;> omega]; rfl, rfl⟩
 refine .sr (.vl (Y.eql rfl rfl) ?_)
 refine .an ?_
 refine .nil ?_
 refine .condKD rfl (fun c137 => ?_) (fun c137 => ?_)
 refine .skip (.condT rfl (.sr ?_))
 refine .mv ?_
 refine .vl (Y.addI rfl rfl oms) (.vl (Y.subI rfl rfl oms) ?_)
 refine .mv ?_
 refine .mv ?_
 refine .vl (Y.addI rfl rfl oms) (.vl (Y.quoI rfl rfl om) (.vl (Y.addI rfl rfl oms) ?_))
 refine .mv ?_
 refine .vl (Y.addI rfl rfl oms) (.vl (Y.quoI rfl rfl om) (.vl (Y.addI rfl rfl oms) ?_))
 refine .mv ?_
 refine .vl (Y.mulI rfl rfl om) ?_
 refine .mv ?_
 refine .vl (Y.mulI rfl rfl om) ?_
 refine .vl (Y.build pl106 ze106 rfl rfl rfl) (.storeC si106 rfl rfl rfl rfl rfl rfl (nbE rfl) rfl (.nil ?_))
 refine .ret ?_
 first | (exfalso; omega) | exact ⟨_, _, rfl, rfl, (8 * x) * x, by rw [show uDelay op x.toNat = 0 by (try rw [hle]); unfold uDelay; (repeat' split) <;> omega]; rfl, rfl⟩
 refine .region (.vl (Y.eql rfl rfl) ?_)
 refine .an ?_
 refine .nil ?_
 refine .condKD rfl (fun c137 => ?_) (fun c137 => ?_)
 refine .sr ?_
 refine .mv ?_
 refine .vl (Y.addI rfl rfl oms) (.vl (Y.subI rfl rfl oms) ?_)
 refine .mv ?_
 refine .mv ?_
 refine .vl (Y.addI rfl rfl oms) (.vl (Y.quoI rfl rfl om) (.vl (Y.addI rfl rfl oms) ?_))
 refine .mv ?_
 refine .vl (Y.addI rfl rfl oms) (.vl (Y.quoI rfl rfl om) (.vl (Y.addI rfl rfl oms) ?_))
 refine .mv ?_
 refine .vl (Y.mulI rfl rfl om) ?_
 refine .mv ?_
 refine .vl (Y.mulI rfl rfl om) ?_
 refine .vl (Y.build pl106 ze106 rfl rfl rfl) (.storeC si106 rfl rfl rfl rfl rfl rfl (nbE rfl) rfl (.nil ?_))
 refine .ret ?_
 first | (exfalso; omega) | exact ⟨_, _, rfl, rfl, (8 * x) * x, by rw [show uDelay op x.toNat = 0 by (try rw [hle]); unfold uDelay; (repeat' split) <;> omega]; rfl, rfl⟩
 refine .skip (.sr ?_)
 refine .mv ?_
 refine .callP ok110 (unit_spec (a := x) (b := 0) (c := 0)) rfl (.keep rfl rfl (.keep rfl rfl (.keep rfl rfl .nil))) dcd rfl (.storeC si106 rfl rfl rfl rfl rfl rfl (nbE rfl) rfl (.nil ?_))
 refine .ret ?_
 first | (exfalso; omega) | exact ⟨_, _, rfl, rfl, 0, by rw [show uDelay op x.toNat = 0 by (try rw [hle]); unfold uDelay; (repeat' split) <;> omega]; rfl, rfl⟩
theorem refDelay_spec {n : Netlist} {c : Cell} (hw : ∀ w ∈ n.widths, Wide w) (hok : CellOK n c) (ha : c.args.length ≤ 200) : ACalls Try.prog 42 [.agg (Netlist.row n), .agg (Cell.row c)] [] [] (fun r o => r = (vi (dly n c)) ∧ o = []) := by
 refine ACalls.of Try.func42 rfl rfl rfl (n := 43) dcd (nbE rfl) (.sr (.box 102 rfl rfl rfl rfl rfl dcd ?_))
 refine .box 103 rfl rfl rfl rfl rfl dcd ?_
 refine .an ?_
 refine .nil (.seq (.seq ?_))
 refine .sh (Sh.freezeO 102 rfl rfl) (.sh (Sh.freezeO 103 rfl rfl) (.region ?_))
 refine .fa fl39_0 ?_
 refine .ld sh3 ?_
 refine .nil (.block (.sr ?_))
 refine .vl (Y.eql rfl rfl) ?_
 refine .an ?_
 refine .nil ?_
 refine .condD rfl (fun c8 => ?_) (fun c8 => ?_)
 refine .sr ?_
 refine .an ?_
 refine .nil (.ret ?_)
 exact .ri rfl (by unfold dly; rw [if_pos asm])
 refine .sr (.vl (Y.eql rfl rfl) ?_)
 refine .an ?_
 refine .nil ?_
 refine .condD rfl (fun c10 => ?_) (fun c10 => ?_)
 refine .seq ?_
 have h5 := op_len hok asm; have h5i := h5.1; unfold In at h5i; have h5w := wd_rng hw h5.1; have h5a := hok.1 (c.args.getD 0 0) (getD_mem om); have h5v := wd_rng hw h5a; have h5j := h5a; unfold In at h5j
 refine .region ?_
 refine .fa fl27_1 ?_
 refine .ld sh22 ?_
 refine .fa fl39_2 ?_
 refine .ld sh3 ?_
 refine .vl (Y.indexF (m := (c.out).toNat) sl22 rfl rfl om (row_getD (d := 0) om)) ?_
 refine .ld sh3 ?_
 refine .an ?_
 refine .nil ?_
 refine .join1 (fun (w5_j8 : Int) => ⟨[(3, .fp (Cell.row c) 0), (5, vi w5_j8)], []⟩) (fun (w5_j8 : Int) => w5_j8 = (if Cmp c.op then n.av c 0 else n.wd c.out)) ?_ (fun w5_j8 hJ8 => ?_)
 refine .sr ?_
 refine .fa fl39_1 ?_
 refine .ld sh3 ?_
 refine .callP ok77 (refIsCompare_spec (w := c.op)) rfl (.keep rfl rfl .nil) dcd rfl (.nil ?_)
 refine .condD rfl (fun c20 => ?_) (fun c20 => ?_)
 refine .regionS rfl krf (.val (Y.fieldAddr fl27_1 rfl rfl) dcd (.val (Y.load sh22 rfl rfl rfl rfl) dcd ?_))
 refine .val (Y.fieldAddr fl39_3 rfl rfl) dcd (.val (Y.load sh22 rfl rfl rfl rfl) dcd ?_)
 refine .val (Y.indexF (m := 0) sl22 rfl rfl rlo (row_getD (d := 0) om)) dcd (.val (Y.load sh3 rfl rfl rfl rfl) dcd (.val (Y.indexF (m := (c.args.getD 0 0).toNat) sl22 rfl rfl om (row_getD (d := 0) om)) dcd ?_))
 refine .val (Y.load sh3 rfl rfl rfl rfl) dcd (.val (Y.assign rfl rfl) dcd (.nil ?_))
 exact ⟨n.widths.getD ((c.args.getD 0 0).toNat) 0, by rw [if_pos asm]; rfl, Le.mk (.c (.cons (look_int rfl rlo) (.nil))) (.nil)⟩
 refine .skip ?_
 exact ⟨n.widths.getD ((c.out).toNat) 0, by rw [if_neg asm]; rfl, Le.mk (.c (.cons (look_int rfl rlo) (.nil))) (.nil)⟩
 have h8 : 1 ≤ w5_j8 ∧ w5_j8 ≤ 64 := by (rw [hJ8]; split <;> assumption)
 refine .sr ?_
 refine .fa fl39_1 ?_
 refine .ld sh3 ?_
 refine .mv ?_
 refine .callV ok78 (refOf_spec (op := c.op) (x := w5_j8) h5.2.1 h8.1 h8.2) rfl (.keep rfl rfl (.keep rfl rfl .nil)) dcd ?_
 rintro _ ⟨ar32, rfl, _⟩
 refine ⟨rfl, ?_⟩
 refine .vl (Y.field fl106_2 sh3 rfl rfl rfl) ?_
 refine .an ?_
 refine .nil (.ret ?_)
 exact .ri rfl (by unfold dly; rw [if_neg om, if_pos asm, hJ8])
 refine .sr (.vl (Y.eql rfl rfl) ?_)
 refine .an ?_
 refine .nil ?_
 refine .condD rfl (fun c34 => ?_) (fun c34 => ?_)
 refine .seq ?_
 have h11 := lev_lt (n := (((c.args.length : Nat) : Int) / 2).toNat) om
 refine .region ?_
 refine .fa fl39_3 ?_
 refine .ld sh22 ?_
 refine .vl (Y.len (n := c.args.length) sl22 rfl (congrArg some (List.length_map ..))) (.vl (Y.quoI rfl rfl om) (.callP ok79 (refLevels_spec (x := (((c.args.length : Nat) : Int) / 2)) (om) (om)) rfl (.keep rfl rfl .nil) dcd rfl (.vl (Y.mulI rfl rfl om) (.vl (Y.addI rfl rfl oms) ?_))))
 refine .an ?_
 refine .nil (.ret ?_)
 exact .ri rfl (by unfold dly; rw [if_neg om, if_neg om, if_pos asm, show (((c.args.length : Nat) : Int) / 2).toNat = c.args.length / 2 by omega])
 refine .skip (.sr ?_)
 refine .an ?_
 refine .nil (.ret ?_)
 exact .ri rfl (by unfold dly; rw [if_neg om, if_neg om, if_neg om])
end Go.Proofs.Ytligpghohcfpnaa
/- Walks through the specification of arrivals. -/
namespace Go.Proofs.Ytligpghohcfpnaa
open Go Go.AW Go.Proofs
theorem source_spec {c : Cell} : ACalls Try.prog 85 [.agg (Cell.row c)] [] [] (fun r o => r = .v (.bool (decide (c.out ≥ 0 ∧ ¬ Comb c.kind))) ∧ o = []) := by
 refine ACalls.of Try.func85 rfl rfl rfl (n := 12) dcd (nbE rfl) (.sr (.box 101 rfl rfl rfl rfl rfl dcd ?_))
 refine .an ?_
 refine .nil (.seq (.sh (Sh.freezeO 101 rfl rfl) ?_))
 refine .region ?_
 refine .fa fl39_2 ?_
 refine .ld sh3 ?_
 refine .vl (Y.geq rfl rfl) ?_
 refine .mv ?_
 refine .splitD (d := 6) rfl (fun c6 => ?_) (fun c6 => ?_)
 refine .gw 6 (Y.fieldAddr fl39_0 rfl rfl) (.gw 6 (Y.load sh3 rfl rfl rfl rfl) (.guardRun (d := 6) rfl dcd rfl ?_))
 refine .callP ok22 (refComb_spec (w := c.kind)) rfl (.keep rfl rfl .nil) dcd rfl (.gw 6 (Y.not rfl) ?_)
 refine .pk ?_
 refine .an ?_
 refine .nil (.ret ?_)
 exact .rb rfl (db (by (first | omega | grind)))
 refine .gz 6 (.gz 6 (.gz 6 ?_))
 refine .gz 6 ?_
 refine .pk ?_
 refine .an ?_
 refine .nil (.ret ?_)
 exact .rb rfl (df (by (first | omega | grind)))
theorem refArr_spec {n : Netlist} (hM : VT n) : ACalls Try.prog 47 [.agg (Netlist.row n)] [] [] (fun r o => ∃ at_ : List Int, Arv n at_ ∧ r = .fz 1 (at_.map irow) ∧ o = []) := by
 refine ACalls.of Try.func47 rfl rfl rfl (n := 113) dcd (nbE rfl) ?_
 have hs := hM.small; have hf := hM.formed; have hnc := hM.ncells; have hnw := hM.nwidths; have hna := hM.nargs; have hnr := hM.nrets; have hns := hM.nstreams; have hac := hf.nactive; have hda := hf.ndata; have hac2 := hM.acyclic
 refine .sr (.box 101 rfl rfl rfl rfl rfl dcd ?_)
 refine .an ?_
 refine .nil (.seq (.sh (Sh.freezeO 101 rfl rfl) ?_))
 refine .region ?_
 refine .fa fl27_1 ?_
 refine .ld sh22 ?_
 refine .vl (Y.len (n := n.widths.length) sl22 rfl (congrArg some (List.length_map ..))) (.makeSlice (n := n.widths.length) sl22 ze3 rfl rfl rfl rfl om om dcd ?_)
 refine .assignX rfl dcd (.sh (Sh.adoptE (d := 3) (n := n.widths.length) 103 ((List.replicate n.widths.length 0).map irow) rfl (by first | rfl | exact rep_map rfl) (len_map (by simp)) dcd) (.nil ?_))
 refine .sr ?_
 refine .fa fl27_1 ?_
 refine .ld sh22 ?_
 refine .vl (Y.len (n := n.widths.length) sl22 rfl (congrArg some (List.length_map ..))) (.makeSlice (n := n.widths.length) sl63 ze4 rfl rfl rfl rfl om om dcd ?_)
 refine .assignX rfl dcd (.sh (Sh.adoptE (d := 4) (n := n.widths.length) 104 ((List.replicate n.widths.length false).map brow) rfl (by first | rfl | exact rep_map rfl) (len_map (by simp)) dcd) (.nil ?_))
 refine .seq (.sr ?_)
 refine .an ?_
 refine .nil (.block ?_)
 refine .loop3 (fun (i5_4 : Nat) (out3_4 : List Int) (known4_4 : List Bool) => ⟨[(1, .fp (Netlist.row n) 0), (3, .slc 103 1 0 n.widths.length), (4, .slc 104 1 0 n.widths.length), (5, vi (i5_4 : Int))], [(103, .rows 1 (out3_4.map irow)), (104, .rows 1 (known4_4.map brow))]⟩) (fun (i5_4 : Nat) (out3_4 : List Int) (known4_4 : List Bool) => (out3_4.length = n.widths.length) ∧ (known4_4.length = n.widths.length) ∧ ((i5_4 : Int) ≤ ((n.cells.length : Nat) : Int)) ∧ (RS n i5_4 out3_4 known4_4) ∧ (RB n out3_4 known4_4)) (fun (i5_4 : Nat) (out3_4 : List Int) (known4_4 : List Bool) => (((n.cells.length : Nat) : Int) - (i5_4 : Int)).toNat) 0 (List.replicate n.widths.length 0) (List.replicate n.widths.length false) (⟨omd, omd, omd, RS.init, RB.init⟩) (Le.mk (.c (.c (.c (.cons (look_int rfl rlo) (.nil))))) (.c (.c (.nil)))) (fun i5_4 out3_4 known4_4 hI4 => ?_)
 obtain ⟨hl103, hl104, hb4, hS, hB⟩ := hI4
 refine .seq (.sr ?_)
 refine .mv ?_
 refine .fa fl27_2 ?_
 refine .ld sh23 ?_
 refine .vl (Y.len (n := n.cells.length) sl23 rfl (congrArg some (List.length_map ..))) (.vl (Y.lss rfl rfl) (.nil ?_))
 refine .condD rfl (fun c25 => ?_) (fun c25 => ?_)
 refine .skip ?_
 refine .join2 (fun (out3_j5 : List Int) (known4_j5 : List Bool) => ⟨[(1, .fp (Netlist.row n) 0), (3, .slc 103 1 0 n.widths.length), (4, .slc 104 1 0 n.widths.length), (5, vi (i5_4 : Int))], [(103, .rows 1 (out3_j5.map irow)), (104, .rows 1 (known4_j5.map brow))]⟩) (fun (out3_j5 : List Int) (known4_j5 : List Bool) => (out3_j5.length = n.widths.length) ∧ ((known4_j5.length = n.widths.length) ∧ (RS n (i5_4 + 1) out3_j5 known4_j5 ∧ RB n out3_j5 known4_j5))) ?_ (fun out3_j5 known4_j5 hJx5 => ?_)
 refine .block (.seq ?_)
 have h6 := out_or hf (j := i5_4) om
 refine .region ?_
 refine .fa fl27_2 ?_
 refine .ld sh23 ?_
 refine .mv ?_
 refine .vl (Y.indexF (m := i5_4) sl23 rfl rfl rlo (row_getD (d := default) om)) ?_
 refine .vl (Y.loadA sh39 rfl rfl (nbE rfl) rfl rfl) (.alloc 106 ze39 rfl rfl dcd (.storeC si39 rfl rfl rfl rfl rfl rfl (nbE rfl) rfl ?_))
 refine .nil (.sr (.vl (Y.loadA sh39 rfl rfl (nbE rfl) rfl rfl) ?_))
 refine .callP ok85 (source_spec (c := (n.cells.getD i5_4 default))) rfl (.keep rfl rfl .nil) dcd rfl (.nil ?_)
 refine .condD rfl (fun c34 => ?_) (fun c34 => ?_)
 refine .seq (.regionHeld [106] [103, 104, 106] rfl (.blind 0 rfl krf (Blind.move rfl rfl) dcd ?_))
 refine .blind 1 rfl krf (Blind.fieldAddr fl39_2 rfl rfl) dcd (.load 2 rfl krf sh3 rfl rfl rfl rfl rfl dcd (.loadA 3 rfl krf sh27 rfl rfl rfl (nbE rfl) rfl rfl dcd ?_))
 refine .loadA 4 rfl krf sh39 rfl rfl rfl (nbE rfl) rfl rfl dcd (.goL rfl rfl (namesIn.cells rfl rfl rfl namesIn.nil) (.one 5 rfl krf ?_))
 refine .callP ok42 (refDelay_spec (n := n) (c := (n.cells.getD i5_4 default)) hf.wides (hf.cells _ om) (hna _ (getD_in om))) rfl (.keep rfl rfl (.keep rfl rfl .nil)) dcd rfl ?_
 refine .nil ⟨rfl, ?_⟩
 refine .one 6 rfl krf (.vl (Y.indexO (m := ((n.cells.getD i5_4 default).out).toNat) sl22 rfl rfl om om) ?_)
 refine .nil ⟨rfl, ?_⟩
 refine .one 7 rfl krf (.storeE ((out3_4.set (((n.cells.getD i5_4 default).out).toNat) (dly n (n.cells.getD i5_4 default))).map irow) si3 rfl rfl rfl rfl rfl rfl rfl (row_getD0 (d := 0) om) (nbE rfl) (set_map0 rfl) ?_)
 refine .nil ⟨rfl, ?_⟩
 refine .done krf (.region ?_)
 refine .mv ?_
 refine .fa fl39_2 ?_
 refine .ld sh3 ?_
 refine .vl (Y.indexO (m := ((n.cells.getD i5_4 default).out).toNat) sl63 rfl rfl om om) (.storeE ((known4_4.set (((n.cells.getD i5_4 default).out).toNat) true).map brow) si4 rfl rfl rfl rfl rfl rfl rfl (row_getD0 (d := false) om) (nbE rfl) (set_map0 rfl) (.nil ?_))
 exact ⟨out3_4.set (((n.cells.getD i5_4 default).out).toNat) (dly n (n.cells.getD i5_4 default)), known4_4.set (((n.cells.getD i5_4 default).out).toNat) true, ⟨omd, ⟨omd, ⟨hS.set hf om c34.1 c34.2, hB.src hM hS om c34.1⟩⟩⟩, Le.mk (.c (.c (.c (.c (.nil))))) (.c (.c (.nil)))⟩
 refine .skip ?_
 exact ⟨out3_4, known4_4, ⟨om, ⟨om, ⟨hS.skip hf om asm, hB⟩⟩⟩, Le.mk (.c (.c (.c (.c (.nil))))) (.c (.c (.nil)))⟩
 obtain ⟨hlj5_103, hlj5_104, hJ5⟩ := hJx5
 refine .region ?_
 refine .mv ?_
 refine .vl (Y.addI rfl rfl oms) ?_
 refine .an ?_
 refine .nil ?_
 exact ⟨i5_4 + 1, out3_j5, known4_j5, ⟨om, om, om, hJ5.1, hJ5.2⟩, om, Le.mk (.c (.c (.c (.cons (look_int rfl rlo) (.nil))))) (.c (.c (.nil)))⟩
 refine .exit (.seq (.sr ?_))
 refine .an ?_
 refine .nil (.block ?_)
 refine .loop3 (fun (more7_11 : Bool) (out3_11 : List Int) (known4_11 : List Bool) => ⟨[(1, .fp (Netlist.row n) 0), (3, .slc 103 1 0 n.widths.length), (4, .slc 104 1 0 n.widths.length), (7, .v (.bool more7_11))], [(103, .rows 1 (out3_11.map irow)), (104, .rows 1 (known4_11.map brow))]⟩) (fun (more7_11 : Bool) (out3_11 : List Int) (known4_11 : List Bool) => (out3_11.length = n.widths.length) ∧ (known4_11.length = n.widths.length) ∧ (RA n out3_11 known4_11) ∧ (∀ i w, Drives n i w → ¬ Comb (n.cell i).kind → kn known4_11 w = true) ∧ (RB n out3_11 known4_11) ∧ (more7_11 = false → Arv n out3_11)) (fun (more7_11 : Bool) (out3_11 : List Int) (known4_11 : List Bool) => unseen known4_11 + (if more7_11 then 1 else 0)) true out3_4 known4_4 (⟨om, om, hS.ra, fun i w hd hc => (hS.iff i w hd).2 ⟨by have := hd.1; omega, hc⟩, hB, fun h => by cases h⟩) (Le.mk (.c (.c (.c (.cons (look_bool rfl rls) (.nil))))) (.c (.c (.nil)))) (fun more7_11 out3_11 known4_11 hI11 => ?_)
 obtain ⟨hl103, hl104, hA, hs11, hB11, hd11⟩ := hI11
 refine .seq (.sr ?_)
 refine .mv ?_
 refine .nil ?_
 refine .cond rfl (fun c46 => ?_) (fun c46 => ?_)
 refine .skip (.block (.sr ?_))
 refine .an ?_
 refine .nil (.sr ?_)
 refine .an ?_
 refine .nil (.block ?_)
 refine .loop4 (fun (more7_14 : Bool) (i8_14 : Nat) (out3_14 : List Int) (known4_14 : List Bool) => ⟨[(1, .fp (Netlist.row n) 0), (3, .slc 103 1 0 n.widths.length), (4, .slc 104 1 0 n.widths.length), (7, .v (.bool more7_14)), (8, vi (i8_14 : Int))], [(103, .rows 1 (out3_14.map irow)), (104, .rows 1 (known4_14.map brow))]⟩) (fun (more7_14 : Bool) (i8_14 : Nat) (out3_14 : List Int) (known4_14 : List Bool) => (out3_14.length = n.widths.length) ∧ (known4_14.length = n.widths.length) ∧ ((i8_14 : Int) ≤ ((n.cells.length : Nat) : Int)) ∧ (RR n known4_11 i8_14 more7_14 out3_14 known4_14) ∧ (RB n out3_14 known4_14)) (fun (more7_14 : Bool) (i8_14 : Nat) (out3_14 : List Int) (known4_14 : List Bool) => (((n.cells.length : Nat) : Int) - (i8_14 : Int)).toNat) false 0 out3_11 known4_11 (⟨om, om, om, RR.init hA hs11, hB11⟩) (Le.mk (.c (.c (.c (.cons (look_bool rfl rls) (.cons (look_int rfl rlo) (.nil)))))) (.c (.c (.nil)))) (fun more7_14 i8_14 out3_14 known4_14 hI14 => ?_)
 obtain ⟨hl103, hl104, hb14, hR, hB14⟩ := hI14
 refine .seq (.sr ?_)
 refine .mv ?_
 refine .fa fl27_2 ?_
 refine .ld sh23 ?_
 refine .vl (Y.len (n := n.cells.length) sl23 rfl (congrArg some (List.length_map ..))) (.vl (Y.lss rfl rfl) (.nil ?_))
 refine .condD rfl (fun c51 => ?_) (fun c51 => ?_)
 refine .skip ?_
 refine .join3 (fun (more7_j15 : Bool) (out3_j15 : List Int) (known4_j15 : List Bool) => ⟨[(1, .fp (Netlist.row n) 0), (3, .slc 103 1 0 n.widths.length), (4, .slc 104 1 0 n.widths.length), (7, .v (.bool more7_j15)), (8, vi (i8_14 : Int))], [(103, .rows 1 (out3_j15.map irow)), (104, .rows 1 (known4_j15.map brow))]⟩) (fun (more7_j15 : Bool) (out3_j15 : List Int) (known4_j15 : List Bool) => (out3_j15.length = n.widths.length) ∧ ((known4_j15.length = n.widths.length) ∧ (RR n known4_11 (i8_14 + 1) more7_j15 out3_j15 known4_j15 ∧ RB n out3_j15 known4_j15))) ?_ (fun more7_j15 out3_j15 known4_j15 hJx15 => ?_)
 refine .block (.sr ?_)
 refine .fa fl27_2 ?_
 refine .ld sh23 ?_
 refine .mv ?_
 refine .vl (Y.indexF (m := i8_14) sl23 rfl rfl rlo (row_getD (d := default) om)) ?_
 refine .vl (Y.loadA sh39 rfl rfl (nbE rfl) rfl rfl) (.alloc 109 ze39 rfl rfl dcd (.storeC si39 rfl rfl rfl rfl rfl rfl (nbE rfl) rfl ?_))
 refine .nil (.seq (.seq ?_))
 have h17c := hf.cells i8_14 om; have h17n := hna (n.cells.getD i8_14 default) (getD_in om)
 refine .region ?_
 refine .fa fl39_0 ?_
 refine .ld sh3 ?_
 refine .callP ok22 (refComb_spec (w := ((n.cells.getD i8_14 default).kind))) rfl (.keep rfl rfl .nil) dcd rfl (.vl (Y.not rfl) ?_)
 refine .mv ?_
 refine .split (d := 63) rfl (fun c63 => ?_) (fun c63 => ?_)
 replace c63 : ¬ (Comb ((n.cells.getD i8_14 default).kind)) := by simpa using c63
 refine .gz 63 (.gz 63 (.gz 63 ?_))
 refine .gz 63 (.gz 63 ?_)
 refine .pk ?_
 refine .nil (.condT rfl (.exit ?_))
 exact ⟨more7_14, out3_14, known4_14, ⟨om, ⟨om, ⟨hR.pass hf om (.inl c63), hB14⟩⟩⟩, Le.mk (.c (.c (.c (.cons (look_bool rfl rls) (.c (.nil)))))) (.c (.c (.nil)))⟩
 replace c63 : Comb ((n.cells.getD i8_14 default).kind) := by simpa using c63
 have h17i := h17c.2.2.2 (fun e => by rw [e] at c63; revert c63; unfold Comb; omega); unfold In at h17i
 refine .gw 63 (Y.move rfl rfl) (.gw 63 (Y.fieldAddr fl39_2 rfl rfl) (.gw 63 (Y.load sh3 rfl rfl rfl rfl) ?_))
 refine .gw 63 (Y.indexO (m := ((n.cells.getD i8_14 default).out).toNat) sl63 rfl rfl om om) (.gw 63 (Y.load sh4 rfl (row_getD0 (d := false) om) rfl rfl) ?_)
 refine .pk ?_
 refine .nil ?_
 refine .cond rfl (fun c69 => ?_) (fun c69 => ?_)
 refine .exit ?_
 exact ⟨more7_14, out3_14, known4_14, ⟨om, ⟨om, ⟨hR.pass hf om (.inr (.inl c69)), hB14⟩⟩⟩, Le.mk (.c (.c (.c (.cons (look_bool rfl rls) (.c (.nil)))))) (.c (.c (.nil)))⟩
 refine .skip (.sr ?_)
 refine .an ?_
 refine .an ?_
 refine .nil (.seq (.sr ?_))
 refine .an ?_
 refine .nil (.block ?_)
 refine .loop3 (fun (t10_20 : Int) (ok11_20 : Bool) (k12_20 : Nat) => ⟨[(1, .fp (Netlist.row n) 0), (3, .slc 103 1 0 n.widths.length), (4, .slc 104 1 0 n.widths.length), (7, .v (.bool more7_14)), (8, vi (i8_14 : Int)), (9, .ptr 109 0 0 0), (10, vi t10_20), (11, .v (.bool ok11_20)), (12, vi (k12_20 : Int)), (64, .slc 104 1 0 n.widths.length), (65, .ptr 109 0 0 2), (66, vi ((n.cells.getD i8_14 default).out)), (67, .ptr 104 1 (0 + (((n.cells.getD i8_14 default).out).toNat)) 0), (68, .v (.bool (known4_14.getD (((n.cells.getD i8_14 default).out).toNat) false)))], [(103, .rows 1 (out3_14.map irow)), (104, .rows 1 (known4_14.map brow)), (109, .cells [vi ((n.cells.getD i8_14 default).kind), vi ((n.cells.getD i8_14 default).op), vi ((n.cells.getD i8_14 default).out), .fz 1 (((n.cells.getD i8_14 default).args).map irow), .v (.int .u64 (((n.cells.getD i8_14 default).num : Nat) : Int)), vi ((n.cells.getD i8_14 default).mem)])]⟩) (fun (t10_20 : Int) (ok11_20 : Bool) (k12_20 : Nat) => ((k12_20 : Int) ≤ ((((n.cells.getD i8_14 default).args).length : Nat) : Int)) ∧ (t10_20 = maxA out3_14 ((n.cells.getD i8_14 default).args.take k12_20)) ∧ (ok11_20 = okL known4_14 ((n.cells.getD i8_14 default).args.take k12_20))) (fun (t10_20 : Int) (ok11_20 : Bool) (k12_20 : Nat) => (((((n.cells.getD i8_14 default).args).length : Nat) : Int) - (k12_20 : Int)).toNat) 0 true 0 (⟨om, rfl, rfl⟩) (Le.mk (.c (.c (.c (.c (.c (.c (.cons (look_int rfl rlo) (.cons (look_bool rfl rls) (.cons (look_int rfl rlo) (.c (.c (.c (.c (.c (.nil))))))))))))))) (.c (.c (.c (.nil))))) (fun t10_20 ok11_20 k12_20 hI20 => ?_)
 obtain ⟨hb20, ht, hkk⟩ := hI20
 refine .seq (.sr ?_)
 refine .mv ?_
 refine .fa fl39_3 ?_
 refine .ld sh22 ?_
 refine .vl (Y.len (n := ((n.cells.getD i8_14 default).args).length) sl22 rfl (congrArg some (List.length_map ..))) (.vl (Y.lss rfl rfl) (.nil ?_))
 refine .condD rfl (fun c74 => ?_) (fun c74 => ?_)
 have h22 := h17c.1 ((n.cells.getD i8_14 default).args.getD k12_20 0) (getD_mem om); unfold In at h22
 refine .skip (.seq (.block ?_))
 refine .join1 (fun (ok11_j23 : Bool) => ⟨[(1, .fp (Netlist.row n) 0), (3, .slc 103 1 0 n.widths.length), (4, .slc 104 1 0 n.widths.length), (7, .v (.bool more7_14)), (8, vi (i8_14 : Int)), (9, .ptr 109 0 0 0), (10, vi t10_20), (11, .v (.bool ok11_j23)), (12, vi (k12_20 : Int)), (64, .slc 104 1 0 n.widths.length), (65, .ptr 109 0 0 2), (66, vi ((n.cells.getD i8_14 default).out)), (67, .ptr 104 1 (0 + (((n.cells.getD i8_14 default).out).toNat)) 0), (68, .v (.bool (known4_14.getD (((n.cells.getD i8_14 default).out).toNat) false)))], [(103, .rows 1 (out3_14.map irow)), (104, .rows 1 (known4_14.map brow)), (109, .cells [vi ((n.cells.getD i8_14 default).kind), vi ((n.cells.getD i8_14 default).op), vi ((n.cells.getD i8_14 default).out), .fz 1 (((n.cells.getD i8_14 default).args).map irow), .v (.int .u64 (((n.cells.getD i8_14 default).num : Nat) : Int)), vi ((n.cells.getD i8_14 default).mem)])]⟩) (fun (ok11_j23 : Bool) => ok11_j23 = (ok11_20 && known4_14.getD (((n.cells.getD i8_14 default).args).getD k12_20 0).toNat false)) ?_ (fun ok11_j23 hJ23 => ?_)
 refine .region ?_
 refine .mv ?_
 refine .mv ?_
 refine .split (d := 78) rfl (fun c78 => ?_) (fun c78 => ?_)
 refine .gw 78 (Y.move rfl rfl) (.gw 78 (Y.fieldAddr fl39_3 rfl rfl) (.gw 78 (Y.load sh22 rfl rfl rfl rfl) ?_))
 refine .gw 78 (Y.move rfl rfl) (.gw 78 (Y.indexF (m := k12_20) sl22 rfl rfl rlo (row_getD (d := 0) om)) (.gw 78 (Y.load sh3 rfl rfl rfl rfl) (.gw 78 (Y.indexO (m := (((n.cells.getD i8_14 default).args).getD k12_20 0).toNat) sl63 rfl rfl om om) (.gw 78 (Y.load sh4 rfl (row_getD0 (d := false) om) rfl rfl) ?_))))
 refine .pk ?_
 refine .an ?_
 refine .nil ?_
 exact ⟨known4_14.getD ((((n.cells.getD i8_14 default).args).getD k12_20 0).toNat) false, by rw [c78]; rfl, Le.mk (.c (.c (.c (.c (.c (.c (.c (.cons (look_bool rfl rls) (.c (.c (.c (.c (.c (.c (.nil))))))))))))))) (.c (.c (.c (.nil))))⟩
 refine .gz 78 (.gz 78 (.gz 78 ?_))
 refine .gz 78 (.gz 78 (.gz 78 ?_))
 refine .gz 78 (.gz 78 ?_)
 refine .pk ?_
 refine .an ?_
 refine .nil ?_
 exact ⟨false, by rw [c78]; rfl, Le.mk (.c (.c (.c (.c (.c (.c (.c (.cons (look_bool rfl rls) (.c (.c (.c (.c (.c (.c (.nil))))))))))))))) (.c (.c (.c (.nil))))⟩
 refine .region ?_
 refine .mv ?_
 refine .mv ?_
 refine .fa fl39_3 ?_
 refine .ld sh22 ?_
 refine .mv ?_
 refine .vl (Y.indexF (m := k12_20) sl22 rfl rfl rlo (row_getD (d := 0) om)) ?_
 refine .ld sh3 ?_
 refine .vl (Y.indexO (m := (((n.cells.getD i8_14 default).args).getD k12_20 0).toNat) sl22 rfl rfl om om) (.vl (Y.load sh3 rfl (row_getD0 (d := 0) om) rfl rfl) (.vl (Y.max rfl rfl rfl) ?_))
 refine .an ?_
 refine .nil (.region ?_)
 refine .mv ?_
 refine .vl (Y.addI rfl rfl oms) ?_
 refine .an ?_
 refine .nil ?_
 exact ⟨if (out3_14.getD ((((n.cells.getD i8_14 default).args).getD k12_20 0).toNat) 0) > t10_20 then (out3_14.getD ((((n.cells.getD i8_14 default).args).getD k12_20 0).toNat) 0) else t10_20, ok11_j23, k12_20 + 1, ⟨om, maxA_ife ht om, by rw [okL_take om, ← hkk, hJ23]; rfl⟩, om, Le.mk (.c (.c (.c (.c (.c (.c (.cons (look_int rfl rlo) (.cons (look_bool rfl rls) (.cons (look_int rfl rlo) (.c (.c (.c (.c (.c (.nil))))))))))))))) (.c (.c (.c (.nil))))⟩
 refine .exit (.seq ?_)
 have htt : t10_20 = maxA out3_14 (n.cells.getD i8_14 default).args := by rw [ht, show k12_20 = (n.cells.getD i8_14 default).args.length by omega, List.take_length]
 have hok : ok11_20 = okL known4_14 (n.cells.getD i8_14 default).args := by rw [hkk, show k12_20 = (n.cells.getD i8_14 default).args.length by omega, List.take_length]
 have h25 := hB14.maxA hl104 (n.cells.getD i8_14 default).args; have h25d := hM.dly (i := i8_14) om
 refine .region ?_
 refine .mv ?_
 refine .nil ?_
 refine .cond rfl (fun c98 => ?_) (fun c98 => ?_)
 refine .seq (.regionHeld [109] [103, 104, 109] rfl (.blind 0 rfl krf (Blind.move rfl rfl) dcd ?_))
 refine .blind 1 rfl krf (Blind.fieldAddr fl39_2 rfl rfl) dcd (.load 2 rfl krf sh3 rfl rfl rfl rfl rfl dcd (.blind 3 rfl krf (Blind.move rfl rfl) dcd ?_))
 refine .loadA 4 rfl krf sh27 rfl rfl rfl (nbE rfl) rfl rfl dcd (.loadA 5 rfl krf sh39 rfl rfl rfl (nbE rfl) rfl rfl dcd (.goL rfl rfl (namesIn.cells rfl rfl rfl namesIn.nil) ?_))
 refine .one 6 rfl krf (.callP ok42 (refDelay_spec (n := n) (c := (n.cells.getD i8_14 default)) hf.wides (hf.cells _ om) (hna _ (getD_in om))) rfl (.keep rfl rfl (.keep rfl rfl .nil)) dcd rfl ?_)
 refine .nil ⟨rfl, ?_⟩
 refine .one 7 rfl krf (.vl (Y.addI rfl rfl oms) ?_)
 refine .nil ⟨rfl, ?_⟩
 refine .one 8 rfl krf (.vl (Y.indexO (m := ((n.cells.getD i8_14 default).out).toNat) sl22 rfl rfl om om) ?_)
 refine .nil ⟨rfl, ?_⟩
 refine .one 9 rfl krf (.storeE ((out3_14.set (((n.cells.getD i8_14 default).out).toNat) (t10_20 + (dly n (n.cells.getD i8_14 default)))).map irow) si3 rfl rfl rfl rfl rfl rfl rfl (row_getD0 (d := 0) om) (nbE rfl) (set_map0 rfl) ?_)
 refine .nil ⟨rfl, ?_⟩
 refine .done krf (.sr ?_)
 refine .mv ?_
 refine .fa fl39_2 ?_
 refine .ld sh3 ?_
 refine .vl (Y.indexO (m := ((n.cells.getD i8_14 default).out).toNat) sl63 rfl rfl om om) (.storeE ((known4_14.set (((n.cells.getD i8_14 default).out).toNat) true).map brow) si4 rfl rfl rfl rfl rfl rfl rfl (row_getD0 (d := false) om) (nbE rfl) (set_map0 rfl) ?_)
 refine .nil (.region ?_)
 refine .an ?_
 refine .nil ?_
 exact ⟨true, out3_14.set (((n.cells.getD i8_14 default).out).toNat) (t10_20 + (dly n (n.cells.getD i8_14 default))), known4_14.set (((n.cells.getD i8_14 default).out).toNat) true, ⟨omd, ⟨omd, ⟨hR.mark hf om c63 c69 (okL_yes (by rw [← hok]; exact c98)) htt, hB14.set om c69 om om⟩⟩⟩, Le.mk (.c (.c (.c (.cons (look_bool rfl rls) (.c (.nil)))))) (.c (.c (.nil)))⟩
 refine .skip ?_
 exact ⟨more7_14, out3_14, known4_14, ⟨om, ⟨om, ⟨hR.pass hf om (.inr (.inr (okL_no (by rw [← hok]; exact c98)))), hB14⟩⟩⟩, Le.mk (.c (.c (.c (.cons (look_bool rfl rls) (.c (.nil)))))) (.c (.c (.nil)))⟩
 obtain ⟨hlj15_103, hlj15_104, hJ15⟩ := hJx15
 refine .region ?_
 refine .mv ?_
 refine .vl (Y.addI rfl rfl oms) ?_
 refine .an ?_
 refine .nil ?_
 exact ⟨more7_j15, i8_14 + 1, out3_j15, known4_j15, ⟨om, om, om, hJ15.1, hJ15.2⟩, om, Le.mk (.c (.c (.c (.cons (look_bool rfl rls) (.cons (look_int rfl rlo) (.nil)))))) (.c (.c (.nil)))⟩
 refine .exit ?_
 exact ⟨more7_14, out3_14, known4_14, ⟨om, om, hR.ra, hR.src, hB14, fun hm => by subst hm; exact hR.done hf hac2 om⟩, by have h := hR.cnt; rw [if_pos c46]; omega, Le.mk (.c (.c (.c (.cons (look_bool rfl rls) (.nil))))) (.c (.c (.nil)))⟩
 refine .exit (.sr ?_)
 refine .mv ?_
 refine .an ?_
 refine .sh (Sh.detach (d := 2) (o := 103) rfl rfl (len_map om) dcd) ?_
 refine .nil (.sh (Sh.freezeE (d := 2) (out3_11.map irow) rfl (by first | rfl | exact rep_map rfl) (Frees.map irow_frees)) (.ret ?_))
 exact ⟨_, _, rfl, rfl, out3_11, hd11 (by simpa using c46), rfl, rfl⟩
end Go.Proofs.Ytligpghohcfpnaa
/- Walks through the specification of ends. -/
namespace Go.Proofs.Ytligpghohcfpnaa
open Go Go.AW Go.Proofs
theorem end_spec {l : List Int} {m : Nat} {w a : Int} (hm : m = l.length) (_ : l.length ≤ 1000) (hw : w < 0 ∨ In w l.length) : ACalls Try.prog 113 [.slc 0 1 0 m, vi w, vi a] [.rows 1 (l.map irow)] [0] (fun r o => r = .tup [] ∧ o = [.rows 1 ((endF l w a).map irow)]) := by
 refine ACalls.of Try.func113 rfl rfl rfl (n := 17) dcd (nbE rfl) ?_
 unfold In at hw
 refine .sr ?_
 refine .mv ?_
 refine .vl (Y.geq rfl rfl) (.nil ?_)
 refine .condD rfl (fun c7 => ?_) (fun c7 => ?_)
 refine .region ?_
 refine .mv ?_
 refine .mv ?_
 refine .mv ?_
 refine .mv ?_
 refine .vl (Y.indexO (m := (w).toNat) sl22 rfl rfl om om) (.vl (Y.load sh3 rfl (row_getD0 (d := 0) om) rfl rfl) ?_)
 refine .mv ?_
 refine .vl (Y.max rfl rfl rfl) (.vl (Y.indexO (m := (w).toNat) sl22 rfl rfl om om) (.storeE ((l.set ((w).toNat) (if a > (l.getD ((w).toNat) 0) then a else (l.getD ((w).toNat) 0))).map irow) si3 rfl rfl rfl rfl rfl rfl rfl (row_getD0 (d := 0) om) (nbE rfl) (set_map0 rfl) (.nil ?_)))
 exact ⟨_, _, rfl, rfl, rfl, by rw [show endF l w a = l.set ((w).toNat) (if a > (l.getD ((w).toNat) 0) then a else (l.getD ((w).toNat) 0)) by (unfold endF; rw [if_pos asm]; congr 1; split <;> omega)]⟩
 refine .skip ?_
 exact ⟨_, _, rfl, rfl, rfl, by rw [show endF l w a = l by (unfold endF; rw [if_neg asm])]⟩
theorem refEnds_spec {n : Netlist} (hM : VT n) : ACalls Try.prog 84 [.agg (Netlist.row n)] [] [] (fun r o => ∃ en : List Int, EN n en ∧ r = .fz 1 (en.map irow) ∧ o = []) := by
 refine ACalls.of Try.func84 rfl rfl rfl (n := 117) dcd (nbE rfl) ?_
 have hs := hM.small; have hf := hM.formed; have hnc := hM.ncells; have hnw := hM.nwidths; have hna := hM.nargs; have hnr := hM.nrets; have hns := hM.nstreams; have hac := hf.nactive; have hda := hf.ndata; have hfz := hf.freeze; have hdo := hf.done; have hre := hf.rets
 refine .sr (.box 101 rfl rfl rfl rfl rfl dcd ?_)
 refine .an ?_
 refine .nil (.seq (.sh (Sh.freezeO 101 rfl rfl) ?_))
 refine .region ?_
 refine .fa fl27_1 ?_
 refine .ld sh22 ?_
 refine .vl (Y.len (n := n.widths.length) sl22 rfl (congrArg some (List.length_map ..))) (.makeSlice (n := n.widths.length) sl22 ze3 rfl rfl rfl rfl ome ome dcd ?_)
 refine .assignX rfl dcd (.sh (Sh.adoptE (d := 3) (n := n.widths.length) 103 ((List.replicate n.widths.length 0).map irow) rfl (by first | rfl | exact rep_map rfl) (len_map (by simp)) dcd) (.nil ?_))
 refine .seq (.sr ?_)
 refine .an ?_
 refine .nil (.block ?_)
 refine .loop2 (fun (w4_3 : Nat) (out3_3 : List Int) => ⟨[(1, .fp (Netlist.row n) 0), (3, .slc 103 1 0 n.widths.length), (4, vi (w4_3 : Int))], [(103, .rows 1 (out3_3.map irow))]⟩) (fun (w4_3 : Nat) (out3_3 : List Int) => (out3_3.length = n.widths.length) ∧ ((w4_3 : Int) ≤ ((n.widths.length : Nat) : Int)) ∧ (EI n w4_3 out3_3)) (fun (w4_3 : Nat) (out3_3 : List Int) => (((n.widths.length : Nat) : Int) - (w4_3 : Int)).toNat) 0 (List.replicate n.widths.length 0) (⟨ome, ome, EI.init⟩) (Le.mk (.c (.c (.cons (look_int rfl rlo) (.nil)))) (.c (.nil))) (fun w4_3 out3_3 hI3 => ?_)
 obtain ⟨hl103, hb3, hI⟩ := hI3
 refine .seq (.sr ?_)
 refine .mv ?_
 refine .mv ?_
 refine .vl (Y.len (n := n.widths.length) sl22 rfl rfl) (.vl (Y.lss rfl rfl) (.nil ?_))
 refine .condD rfl (fun c17 => ?_) (fun c17 => ?_)
 refine .skip (.seq (.block ?_))
 refine .region ?_
 refine .mv ?_
 refine .mv ?_
 refine .vl (Y.indexO (m := w4_3) sl22 rfl rfl rlo ome) (.storeE ((out3_3.set w4_3 (-1)).map irow) si3 rfl rfl rfl rfl rfl rfl rfl (row_getD0 (d := 0) ome) (nbE rfl) (set_map0 rfl) ?_)
 refine .nil (.region ?_)
 refine .mv ?_
 refine .vl (Y.addI rfl rfl ome) ?_
 refine .an ?_
 refine .nil ?_
 exact ⟨w4_3 + 1, out3_3.set w4_3 (-1), ⟨ome, ome, hI.step om⟩, om, Le.mk (.c (.c (.cons (look_int rfl rlo) (.nil)))) (.c (.nil))⟩
 refine .exit (.seq ?_)
 have hE0 := hI.done om
 refine .region ?_
 refine .mv ?_
 refine .fa fl27_9 ?_
 refine .ld sh3 ?_
 refine .callO [103] [] ok113 (end_spec (l := out3_3) (w := n.done) (a := 0) omf omf (by unfold In at *; first | omega | (simp only [endF_len]; omega))) rfl (.named rfl rfl (.keep rfl rfl (.keep rfl rfl .nil))) ⟨rfl, trivial⟩ rfl dcd (fun _ h => by cases h) (fun _ h => by cases h) dcd dcd ?_
 rintro r objs' ⟨rfl, rfl⟩ _
 refine ⟨⟨rfl, (by intro ob hob; simp only [List.mem_cons, List.not_mem_nil, or_false] at hob; rcases hob with rfl; rfl), .inl rfl⟩, ?_⟩
 refine .nil (.seq (.sr ?_))
 refine .an ?_
 refine .nil (.block ?_)
 refine .loop2 (fun (i5_8 : Nat) (out3_8 : List Int) => ⟨[(1, .fp (Netlist.row n) 0), (3, .slc 103 1 0 n.widths.length), (5, vi (i5_8 : Int))], [(103, .rows 1 (out3_8.map irow))]⟩) (fun (i5_8 : Nat) (out3_8 : List Int) => (out3_8.length = n.widths.length) ∧ ((i5_8 : Int) ≤ ((n.rets.length : Nat) : Int)) ∧ (EK n (refR n i5_8) out3_8)) (fun (i5_8 : Nat) (out3_8 : List Int) => (((n.rets.length : Nat) : Int) - (i5_8 : Int)).toNat) 0 (endF out3_3 n.done 0) (⟨ome, ome, (hE0.step (.inr hdo) om).cast refR_zero.symm⟩) (Le.mk (.c (.c (.cons (look_int rfl rlo) (.nil)))) (.c (.nil))) (fun i5_8 out3_8 hI8 => ?_)
 obtain ⟨hl103, hb8, hE8⟩ := hI8
 refine .seq (.sr ?_)
 refine .mv ?_
 refine .fa fl27_10 ?_
 refine .ld sh22 ?_
 refine .vl (Y.len (n := n.rets.length) sl22 rfl (congrArg some (List.length_map ..))) (.vl (Y.lss rfl rfl) (.nil ?_))
 refine .condD rfl (fun c31 => ?_) (fun c31 => ?_)
 refine .skip (.seq (.block ?_))
 have h10 := hre (n.rets.getD i5_8 0) (getD_mem om)
 refine .region ?_
 refine .mv ?_
 refine .fa fl27_10 ?_
 refine .ld sh22 ?_
 refine .mv ?_
 refine .vl (Y.indexF (m := i5_8) sl22 rfl rfl rlo (row_getD (d := 0) ome)) ?_
 refine .ld sh3 ?_
 refine .callO [103] [] ok113 (end_spec (l := out3_8) (w := n.rets.getD i5_8 0) (a := 0) omf omf (by unfold In at *; first | omega | (simp only [endF_len]; omega))) rfl (.named rfl rfl (.keep rfl rfl (.keep rfl rfl .nil))) ⟨rfl, trivial⟩ rfl dcd (fun _ h => by cases h) (fun _ h => by cases h) dcd dcd ?_
 rintro r objs' ⟨rfl, rfl⟩ _
 refine ⟨⟨rfl, (by intro ob hob; simp only [List.mem_cons, List.not_mem_nil, or_false] at hob; rcases hob with rfl; rfl), .inl rfl⟩, ?_⟩
 refine .nil (.region ?_)
 refine .mv ?_
 refine .vl (Y.addI rfl rfl ome) ?_
 refine .an ?_
 refine .nil ?_
 exact ⟨i5_8 + 1, endF out3_8 (n.rets.getD i5_8 0) 0, ⟨ome, ome, (hE8.step (.inr h10) om).cast (refR_succ om).symm⟩, om, Le.mk (.c (.c (.cons (look_int rfl rlo) (.nil)))) (.c (.nil))⟩
 refine .exit (.seq (.sr ?_))
 refine .an ?_
 refine .nil (.block ?_)
 refine .loop2 (fun (i6_12 : Nat) (out3_12 : List Int) => ⟨[(1, .fp (Netlist.row n) 0), (3, .slc 103 1 0 n.widths.length), (6, vi (i6_12 : Int))], [(103, .rows 1 (out3_12.map irow))]⟩) (fun (i6_12 : Nat) (out3_12 : List Int) => (out3_12.length = n.widths.length) ∧ ((i6_12 : Int) ≤ ((n.active.length : Nat) : Int)) ∧ (EK n (refS n i6_12) out3_12)) (fun (i6_12 : Nat) (out3_12 : List Int) => (((n.active.length : Nat) : Int) - (i6_12 : Int)).toNat) 0 out3_8 (⟨ome, ome, hE8.cast (refS_zero om)⟩) (Le.mk (.c (.c (.cons (look_int rfl rlo) (.nil)))) (.c (.nil))) (fun i6_12 out3_12 hI12 => ?_)
 obtain ⟨hl103, hb12, hE12⟩ := hI12
 refine .seq (.sr ?_)
 refine .mv ?_
 refine .fa fl27_6 ?_
 refine .ld sh22 ?_
 refine .vl (Y.len (n := n.active.length) sl22 rfl (congrArg some (List.length_map ..))) (.vl (Y.lss rfl rfl) (.nil ?_))
 refine .condD rfl (fun c45 => ?_) (fun c45 => ?_)
 refine .skip (.seq (.block ?_))
 refine .seq ?_
 have h14 := act_in hf (k := i6_12) om; have h15 := dat_in hf (k := i6_12) om
 refine .region ?_
 refine .mv ?_
 refine .fa fl27_6 ?_
 refine .ld sh22 ?_
 refine .mv ?_
 refine .vl (Y.indexF (m := i6_12) sl22 rfl rfl rlo (row_getD (d := 0) ome)) ?_
 refine .ld sh3 ?_
 refine .callO [103] [] ok113 (end_spec (l := out3_12) (w := n.active.getD i6_12 0) (a := 0) omf omf (by unfold In at *; first | omega | (simp only [endF_len]; omega))) rfl (.named rfl rfl (.keep rfl rfl (.keep rfl rfl .nil))) ⟨rfl, trivial⟩ rfl dcd (fun _ h => by cases h) (fun _ h => by cases h) dcd dcd ?_
 rintro r objs' ⟨rfl, rfl⟩ _
 refine ⟨⟨rfl, (by intro ob hob; simp only [List.mem_cons, List.not_mem_nil, or_false] at hob; rcases hob with rfl; rfl), .inl rfl⟩, ?_⟩
 refine .nil (.region ?_)
 refine .mv ?_
 refine .fa fl27_7 ?_
 refine .ld sh22 ?_
 refine .mv ?_
 refine .vl (Y.indexF (m := i6_12) sl22 rfl rfl rlo (row_getD (d := 0) ome)) ?_
 refine .ld sh3 ?_
 refine .callO [103] [] ok113 (end_spec (l := endF out3_12 (n.active.getD i6_12 0) 0) (w := n.data.getD i6_12 0) (a := 0) omf omf (by unfold In at *; first | omega | (simp only [endF_len]; omega))) rfl (.named rfl rfl (.keep rfl rfl (.keep rfl rfl .nil))) ⟨rfl, trivial⟩ rfl dcd (fun _ h => by cases h) (fun _ h => by cases h) dcd dcd ?_
 rintro r objs' ⟨rfl, rfl⟩ _
 refine ⟨⟨rfl, (by intro ob hob; simp only [List.mem_cons, List.not_mem_nil, or_false] at hob; rcases hob with rfl; rfl), .inl rfl⟩, ?_⟩
 refine .nil (.region ?_)
 refine .mv ?_
 refine .vl (Y.addI rfl rfl ome) ?_
 refine .an ?_
 refine .nil ?_
 exact ⟨i6_12 + 1, endF (endF out3_12 (n.active.getD i6_12 0) 0) (n.data.getD i6_12 0) 0, ⟨ome, ome, ((hE12.step (.inr h14) om).step h15 om).cast refS_succ.symm⟩, om, Le.mk (.c (.c (.cons (look_int rfl rlo) (.nil)))) (.c (.nil))⟩
 refine .exit (.seq (.sr ?_))
 refine .an ?_
 refine .nil (.block ?_)
 refine .loop2 (fun (i7_17 : Nat) (out3_17 : List Int) => ⟨[(1, .fp (Netlist.row n) 0), (3, .slc 103 1 0 n.widths.length), (7, vi (i7_17 : Int))], [(103, .rows 1 (out3_17.map irow))]⟩) (fun (i7_17 : Nat) (out3_17 : List Int) => (out3_17.length = n.widths.length) ∧ ((i7_17 : Int) ≤ ((n.cells.length : Nat) : Int)) ∧ (EK n (refC n i7_17) out3_17)) (fun (i7_17 : Nat) (out3_17 : List Int) => (((n.cells.length : Nat) : Int) - (i7_17 : Int)).toNat) 0 out3_12 (⟨ome, ome, hE12.cast (refC_zero om)⟩) (Le.mk (.c (.c (.cons (look_int rfl rlo) (.nil)))) (.c (.nil))) (fun i7_17 out3_17 hI17 => ?_)
 obtain ⟨hl103, hb17, hE17⟩ := hI17
 refine .seq (.sr ?_)
 refine .mv ?_
 refine .fa fl27_2 ?_
 refine .ld sh23 ?_
 refine .vl (Y.len (n := n.cells.length) sl23 rfl (congrArg some (List.length_map ..))) (.vl (Y.lss rfl rfl) (.nil ?_))
 refine .condD rfl (fun c66 => ?_) (fun c66 => ?_)
 refine .skip ?_
 refine .join1 (fun (out3_j18 : List Int) => ⟨[(1, .fp (Netlist.row n) 0), (3, .slc 103 1 0 n.widths.length), (7, vi (i7_17 : Int))], [(103, .rows 1 (out3_j18.map irow))]⟩) (fun (out3_j18 : List Int) => (out3_j18.length = n.widths.length) ∧ (EK n (refC n (i7_17 + 1)) out3_j18)) ?_ (fun out3_j18 hJx18 => ?_)
 refine .block (.sr ?_)
 refine .fa fl27_2 ?_
 refine .ld sh23 ?_
 refine .mv ?_
 refine .vl (Y.indexF (m := i7_17) sl23 rfl rfl rlo (row_getD (d := default) ome)) ?_
 refine .vl (Y.loadA sh39 rfl rfl (nbE rfl) rfl rfl) (.alloc 108 ze39 rfl rfl dcd (.storeC si39 rfl rfl rfl rfl rfl rfl (nbE rfl) rfl ?_))
 refine .nil (.seq ?_)
 have h20 := hf.cells i7_17 om; have h20n := hna (n.cells.getD i7_17 default) (getD_in om)
 refine .region ?_
 refine .fa fl39_0 ?_
 refine .ld sh3 ?_
 refine .nil (.block (.sr ?_))
 refine .vl (Y.eql rfl rfl) ?_
 refine .an ?_
 refine .nil ?_
 refine .condD rfl (fun c76 => ?_) (fun c76 => ?_)
 refine .seq ?_
 have h22 := reg_len hf (i := i7_17) om asm; have h22a := h20.1 ((n.cells.getD i7_17 default).args.getD 0 0) (getD_mem om); have h22b := h20.1 ((n.cells.getD i7_17 default).args.getD 1 0) (getD_mem om)
 refine .region ?_
 refine .mv ?_
 refine .fa fl39_3 ?_
 refine .ld sh22 ?_
 refine .vl (Y.indexF (m := 0) sl22 rfl rfl rlo (row_getD (d := 0) ome)) ?_
 refine .ld sh3 ?_
 refine .callO [103] [] ok113 (end_spec (l := out3_17) (w := ((n.cells.getD i7_17 default).args).getD 0 0) (a := 100) omf omf (by unfold In at *; first | omega | (simp only [endF_len]; omega))) rfl (.named rfl rfl (.keep rfl rfl (.keep rfl rfl .nil))) ⟨rfl, trivial⟩ rfl dcd (fun _ h => by cases h) (fun _ h => by cases h) dcd dcd ?_
 rintro r objs' ⟨rfl, rfl⟩ _
 refine ⟨⟨rfl, (by intro ob hob; simp only [List.mem_cons, List.not_mem_nil, or_false] at hob; rcases hob with rfl; rfl), .inl rfl⟩, ?_⟩
 refine .nil (.sr ?_)
 refine .mv ?_
 refine .fa fl39_3 ?_
 refine .ld sh22 ?_
 refine .vl (Y.indexF (m := 1) sl22 rfl rfl rlo (row_getD (d := 0) ome)) ?_
 refine .ld sh3 ?_
 refine .callO [103] [] ok113 (end_spec (l := endF out3_17 (((n.cells.getD i7_17 default).args).getD 0 0) 100) (w := ((n.cells.getD i7_17 default).args).getD 1 0) (a := 60) omf omf (by unfold In at *; first | omega | (simp only [endF_len]; omega))) rfl (.named rfl rfl (.keep rfl rfl (.keep rfl rfl .nil))) ⟨rfl, trivial⟩ rfl dcd (fun _ h => by cases h) (fun _ h => by cases h) dcd dcd ?_
 rintro r objs' ⟨rfl, rfl⟩ _
 refine ⟨⟨rfl, (by intro ob hob; simp only [List.mem_cons, List.not_mem_nil, or_false] at hob; rcases hob with rfl; rfl), .inl rfl⟩, ?_⟩
 refine .nil (.region ?_)
 refine .mv ?_
 refine .fa fl27_8 ?_
 refine .ld sh3 ?_
 refine .callO [103] [] ok113 (end_spec (l := endF (endF out3_17 (((n.cells.getD i7_17 default).args).getD 0 0) 100) (((n.cells.getD i7_17 default).args).getD 1 0) 60) (w := n.freeze) (a := 100) omf omf (by unfold In at *; first | omega | (simp only [endF_len]; omega))) rfl (.named rfl rfl (.keep rfl rfl (.keep rfl rfl .nil))) ⟨rfl, trivial⟩ rfl dcd (fun _ h => by cases h) (fun _ h => by cases h) dcd dcd ?_
 rintro r objs' ⟨rfl, rfl⟩ _
 refine ⟨⟨rfl, (by intro ob hob; simp only [List.mem_cons, List.not_mem_nil, or_false] at hob; rcases hob with rfl; rfl), .inl rfl⟩, ?_⟩
 refine .nil ?_
 exact ⟨endF (endF (endF out3_17 (((n.cells.getD i7_17 default).args).getD 0 0) 100) (((n.cells.getD i7_17 default).args).getD 1 0) 60) n.freeze 100, ⟨ome, by first | exact (((hE17.step (.inr h22a) om).step (.inr h22b) om).step (.inr hfz) om).cast (refC_reg om asm) | exact (hE29.step (.inr hfz) om).cast (refC_port om (by simp_all) om) | exact hE17.cast (refC_no om asm (by simp_all))⟩, Le.mk (.c (.c (.c (.nil)))) (.c (.nil))⟩
 refine .join1 (fun (n94_j28 : Bool) => ⟨[(1, .fp (Netlist.row n) 0), (3, .slc 103 1 0 n.widths.length), (7, vi (i7_17 : Int)), (8, .ptr 108 0 0 0), (94, .v (.bool n94_j28))], [(103, .rows 1 (out3_17.map irow)), (108, .cells [vi ((n.cells.getD i7_17 default).kind), vi ((n.cells.getD i7_17 default).op), vi ((n.cells.getD i7_17 default).out), .fz 1 (((n.cells.getD i7_17 default).args).map irow), .v (.int .u64 (((n.cells.getD i7_17 default).num : Nat) : Int)), vi ((n.cells.getD i7_17 default).mem)])]⟩) (fun (n94_j28 : Bool) => n94_j28 = decide (Port (n.cells.getD i7_17 default).kind)) ?_ (fun n94_j28 hJ28 => ?_)
 refine .sr (.vl (Y.eql rfl rfl) ?_)
 refine .an ?_
 refine .nil ?_
 refine .condKD rfl (fun c94 => ?_) (fun c94 => ?_)
 refine .skip ?_
 exact ⟨true, by first | (symm; rw [decide_eq_true_iff]; unfold Port; omega) | (rw [decide_eq_decide]; unfold Port; omega), Le.mk (.c (.c (.c (.c (.cons (look_bool rfl rls) (.nil)))))) (.c (.c (.nil)))⟩
 refine .sr (.vl (Y.eql rfl rfl) ?_)
 refine .an ?_
 refine .nil ?_
 refine .condKD rfl (fun c94 => ?_) (fun c94 => ?_)
 refine .skip ?_
 exact ⟨true, by first | (symm; rw [decide_eq_true_iff]; unfold Port; omega) | (rw [decide_eq_decide]; unfold Port; omega), Le.mk (.c (.c (.c (.c (.cons (look_bool rfl rls) (.nil)))))) (.c (.c (.nil)))⟩
 refine .region (.vl (Y.eql rfl rfl) ?_)
 refine .an ?_
 refine .nil ?_
 exact ⟨decide (((n.cells.getD i7_17 default).kind) = 7), by first | (symm; rw [decide_eq_true_iff]; unfold Port; omega) | (rw [decide_eq_decide]; unfold Port; omega), Le.mk (.c (.c (.c (.c (.cons (look_bool rfl rls) (.nil)))))) (.c (.c (.nil)))⟩
 refine .condK rfl (fun c94 => ?_) (fun c94 => ?_)
 refine .seq (.sr ?_)
 refine .an ?_
 refine .nil (.block ?_)
 refine .loop2 (fun (k9_29 : Nat) (out3_29 : List Int) => ⟨[(1, .fp (Netlist.row n) 0), (3, .slc 103 1 0 n.widths.length), (7, vi (i7_17 : Int)), (8, .ptr 108 0 0 0), (9, vi (k9_29 : Int))], [(103, .rows 1 (out3_29.map irow)), (108, .cells [vi ((n.cells.getD i7_17 default).kind), vi ((n.cells.getD i7_17 default).op), vi ((n.cells.getD i7_17 default).out), .fz 1 (((n.cells.getD i7_17 default).args).map irow), .v (.int .u64 (((n.cells.getD i7_17 default).num : Nat) : Int)), vi ((n.cells.getD i7_17 default).mem)])]⟩) (fun (k9_29 : Nat) (out3_29 : List Int) => (out3_29.length = n.widths.length) ∧ ((k9_29 : Int) ≤ ((((n.cells.getD i7_17 default).args).length : Nat) : Int)) ∧ (EK n (refC n i7_17 ++ ((n.cells.getD i7_17 default).args.take k9_29).map (fun w => (w, (20 : Int)))) out3_29)) (fun (k9_29 : Nat) (out3_29 : List Int) => (((((n.cells.getD i7_17 default).args).length : Nat) : Int) - (k9_29 : Int)).toNat) 0 out3_17 (⟨ome, ome, hE17.cast (by simp)⟩) (Le.mk (.c (.c (.c (.c (.cons (look_int rfl rlo) (.nil)))))) (.c (.c (.nil)))) (fun k9_29 out3_29 hI29 => ?_)
 obtain ⟨hl103, hb29, hE29⟩ := hI29
 refine .seq (.sr ?_)
 refine .mv ?_
 refine .fa fl39_3 ?_
 refine .ld sh22 ?_
 refine .vl (Y.len (n := ((n.cells.getD i7_17 default).args).length) sl22 rfl (congrArg some (List.length_map ..))) (.vl (Y.lss rfl rfl) (.nil ?_))
 refine .condD rfl (fun c102 => ?_) (fun c102 => ?_)
 refine .skip (.seq (.block ?_))
 have h31 := h20.1 ((n.cells.getD i7_17 default).args.getD k9_29 0) (getD_mem om)
 refine .region ?_
 refine .mv ?_
 refine .fa fl39_3 ?_
 refine .ld sh22 ?_
 refine .mv ?_
 refine .vl (Y.indexF (m := k9_29) sl22 rfl rfl rlo (row_getD (d := 0) ome)) ?_
 refine .ld sh3 ?_
 refine .callO [103] [] ok113 (end_spec (l := out3_29) (w := ((n.cells.getD i7_17 default).args).getD k9_29 0) (a := 20) omf omf (by unfold In at *; first | omega | (simp only [endF_len]; omega))) rfl (.named rfl rfl (.keep rfl rfl (.keep rfl rfl .nil))) ⟨rfl, trivial⟩ rfl dcd (fun _ h => by cases h) (fun _ h => by cases h) dcd dcd ?_
 rintro r objs' ⟨rfl, rfl⟩ _
 refine ⟨⟨rfl, (by intro ob hob; simp only [List.mem_cons, List.not_mem_nil, or_false] at hob; rcases hob with rfl; rfl), .inl rfl⟩, ?_⟩
 refine .nil (.region ?_)
 refine .mv ?_
 refine .vl (Y.addI rfl rfl ome) ?_
 refine .an ?_
 refine .nil ?_
 exact ⟨k9_29 + 1, endF out3_29 (((n.cells.getD i7_17 default).args).getD k9_29 0) 20, ⟨ome, ome, (hE29.step (.inr h31) om).cast (ref_port om)⟩, om, Le.mk (.c (.c (.c (.c (.cons (look_int rfl rlo) (.nil)))))) (.c (.c (.nil)))⟩
 refine .exit (.region ?_)
 refine .mv ?_
 refine .fa fl27_8 ?_
 refine .ld sh3 ?_
 refine .callO [103] [] ok113 (end_spec (l := out3_29) (w := n.freeze) (a := 20) omf omf (by unfold In at *; first | omega | (simp only [endF_len]; omega))) rfl (.named rfl rfl (.keep rfl rfl (.keep rfl rfl .nil))) ⟨rfl, trivial⟩ rfl dcd (fun _ h => by cases h) (fun _ h => by cases h) dcd dcd ?_
 rintro r objs' ⟨rfl, rfl⟩ _
 refine ⟨⟨rfl, (by intro ob hob; simp only [List.mem_cons, List.not_mem_nil, or_false] at hob; rcases hob with rfl; rfl), .inl rfl⟩, ?_⟩
 refine .nil ?_
 exact ⟨endF out3_29 n.freeze 20, ⟨ome, by first | exact (((hE17.step (.inr h22a) om).step (.inr h22b) om).step (.inr hfz) om).cast (refC_reg om asm) | exact (hE29.step (.inr hfz) om).cast (refC_port om (by simp_all) om) | exact hE17.cast (refC_no om asm (by simp_all))⟩, Le.mk (.c (.c (.c (.nil)))) (.c (.nil))⟩
 refine .skip ?_
 exact ⟨out3_17, ⟨ome, by first | exact (((hE17.step (.inr h22a) om).step (.inr h22b) om).step (.inr hfz) om).cast (refC_reg om asm) | exact (hE29.step (.inr hfz) om).cast (refC_port om (by simp_all) om) | exact hE17.cast (refC_no om asm (by simp_all))⟩, Le.mk (.c (.c (.c (.nil)))) (.c (.nil))⟩
 obtain ⟨hlj18_103, hJ18⟩ := hJx18
 refine .region ?_
 refine .mv ?_
 refine .vl (Y.addI rfl rfl ome) ?_
 refine .an ?_
 refine .nil ?_
 exact ⟨i7_17 + 1, out3_j18, ⟨ome, ome, hJ18⟩, om, Le.mk (.c (.c (.cons (look_int rfl rlo) (.nil)))) (.c (.nil))⟩
 refine .exit (.sr ?_)
 refine .mv ?_
 refine .an ?_
 refine .sh (Sh.detach (d := 2) (o := 103) rfl rfl (len_map ome) dcd) ?_
 refine .nil (.sh (Sh.freezeE (d := 2) (out3_17.map irow) rfl (by first | rfl | exact rep_map rfl) (Frees.map irow_frees)) (.ret ?_))
 exact ⟨_, _, rfl, rfl, out3_17, (hE17.cast (by rw [show i7_17 = n.cells.length by omega])).en hf om, rfl, rfl⟩
theorem refLongest_spec {n : Netlist} {lo at0 st : List Int} {d : Int} (hM : VT n) (hO : Ord n lo) (hA : Arv n at0) (hp : WPath n at0 st d) : ACalls Try.prog 45 [.agg (Netlist.row n)] [] [] (fun r o => r = (vi d) ∧ o = []) := by
 refine ACalls.of Try.func45 rfl rfl rfl (n := 34) dcd (nbE rfl) ?_
 have hs := hM.small; have hf := hM.formed; have hnc := hM.ncells; have hnw := hM.nwidths; have hna := hM.nargs; have hnr := hM.nrets; have hns := hM.nstreams; have hac := hf.nactive; have hda := hf.ndata
 refine .sr (.box 101 rfl rfl rfl rfl rfl dcd ?_)
 refine .an ?_
 refine .nil (.seq (.sh (Sh.freezeO 101 rfl rfl) ?_))
 refine .regionAny rfl ?_
 refine .two 0 2 rfl rfl krf ?_ ?_
 refine .vl (Y.loadA sh27 rfl rfl (nbE rfl) rfl rfl) ?_
 refine .nil ⟨rfl, ?_⟩
 refine .two 1 2 rfl rfl krf ?_ ?_
 refine .callV ok47 (refArr_spec (n := n) hM) rfl (.keep rfl rfl .nil) dcd ?_
 rintro _ ⟨at_8, hA8, rfl, _⟩
 refine ⟨rfl, ?_⟩
 refine .nil ⟨rfl, ?_⟩
 refine .quietN (n := 3) [2] [3, 4, 5] 3 rfl krf (.cn 2 rfl (Y.loadA sh27 rfl rfl (nbE rfl) rfl rfl) (.nil ?_))
 refine .one 3 rfl krf (.callV ok84 (refEnds_spec (n := n) hM) rfl (.keep rfl rfl .nil) dcd ?_)
 rintro _ ⟨en10, hEN10, rfl, _⟩
 refine ⟨rfl, ?_⟩
 refine .nil ⟨rfl, ?_⟩
 refine .quietN (n := 0) [4, 5] [] 0 rfl krf (.cn 4 rfl (Y.assign rfl rfl) (.cn 5 rfl (Y.assign rfl rfl) ?_))
 refine .nil (.done krf (.seq ?_))
 have hln := hA8.len; have hle := hEN10.len
 refine .region ?_
 refine .an ?_
 refine .nil (.seq (.sr ?_))
 refine .an ?_
 refine .nil (.block ?_)
 refine .loop2 (fun (t5_4 : Int) (w6_4 : Nat) => ⟨[(3, .fz 1 (at_8.map irow)), (4, .fz 1 (en10.map irow)), (5, vi t5_4), (6, vi (w6_4 : Int))], []⟩) (fun (t5_4 : Int) (w6_4 : Nat) => ((w6_4 : Int) ≤ ((at_8.length : Nat) : Int)) ∧ (LK at_8 en10 w6_4 t5_4)) (fun (t5_4 : Int) (w6_4 : Nat) => (((at_8.length : Nat) : Int) - (w6_4 : Int)).toNat) 0 0 (⟨om, LK.init⟩) (Le.mk (.c (.c (.cons (look_int rfl rlo) (.cons (look_int rfl rlo) (.nil))))) (.nil)) (fun t5_4 w6_4 hI4 => ?_)
 obtain ⟨hb4, hL⟩ := hI4
 refine .seq (.sr ?_)
 refine .mv ?_
 refine .mv ?_
 refine .vl (Y.len (n := at_8.length) sl22 rfl (congrArg some (List.length_map ..))) (.vl (Y.lss rfl rfl) (.nil ?_))
 refine .condD rfl (fun c14 => ?_) (fun c14 => ?_)
 refine .skip ?_
 refine .join1 (fun (t5_j5 : Int) => ⟨[(3, .fz 1 (at_8.map irow)), (4, .fz 1 (en10.map irow)), (5, vi t5_j5), (6, vi (w6_4 : Int))], []⟩) (fun (t5_j5 : Int) => LK at_8 en10 (w6_4 + 1) t5_j5) ?_ (fun t5_j5 hJ5 => ?_)
 refine .block (.seq ?_)
 have hlo := hEN10.lo (w6_4 : Int) (by unfold In; omega); rw [Int.toNat_natCast] at hlo; have har := hA8.rng hM hO (w := (w6_4 : Int)) (by unfold In; omega); rw [Int.toNat_natCast] at har
 refine .region ?_
 refine .mv ?_
 refine .mv ?_
 refine .vl (Y.indexF (m := w6_4) sl22 rfl rfl rlo (row_getD (d := 0) om)) ?_
 refine .ld sh3 ?_
 refine .vl (Y.geq rfl rfl) (.nil ?_)
 refine .condD rfl (fun c21 => ?_) (fun c21 => ?_)
 refine .regionS rfl krf (.val (Y.move rfl rfl) dcd (.val (Y.move rfl rfl) dcd ?_))
 refine .val (Y.move rfl rfl) dcd (.val (Y.indexF (m := w6_4) sl22 rfl rfl rlo (row_getD (d := 0) om)) dcd ?_)
 refine .val (Y.load sh3 rfl rfl rfl rfl) dcd (.val (Y.move rfl rfl) dcd (.val (Y.move rfl rfl) dcd ?_))
 refine .val (Y.indexF (m := w6_4) sl22 rfl rfl rlo (row_getD (d := 0) om)) dcd (.val (Y.load sh3 rfl rfl rfl rfl) dcd (.val (Y.addI rfl rfl om) dcd ?_))
 refine .val (Y.max rfl rfl rfl) dcd (.val (Y.assign rfl rfl) dcd (.nil ?_))
 exact ⟨if ((at_8.getD w6_4 0) + (en10.getD w6_4 0)) > t5_4 then ((at_8.getD w6_4 0) + (en10.getD w6_4 0)) else t5_4, by first | exact hL.step asm | exact hL.skip asm, Le.mk (.c (.c (.cons (look_int rfl rlo) (.c (.nil))))) (.nil)⟩
 refine .skip ?_
 exact ⟨t5_4, by first | exact hL.step asm | exact hL.skip asm, Le.mk (.c (.c (.cons (look_int rfl rlo) (.c (.nil))))) (.nil)⟩
 refine .region ?_
 refine .mv ?_
 refine .vl (Y.addI rfl rfl oms) ?_
 refine .an ?_
 refine .nil ?_
 exact ⟨t5_j5, w6_4 + 1, ⟨om, hJ5⟩, om, Le.mk (.c (.c (.cons (look_int rfl rlo) (.cons (look_int rfl rlo) (.nil))))) (.nil)⟩
 refine .exit (.sr ?_)
 refine .mv ?_
 refine .an ?_
 refine .nil (.ret ?_)
 exact ⟨_, _, rfl, rfl, by have e := hA.uniq hf hO hA8; rw [e] at hp; rw [hL.eq hM hO hA8 hEN10 om hp]; rfl, rfl⟩
 refine .vl (Y.loadA sh27 rfl rfl (nbE rfl) rfl rfl) ?_
 refine .nil ⟨rfl, ?_⟩
 refine .one 1 rfl krf (.callV ok47 (refArr_spec (n := n) hM) rfl (.keep rfl rfl .nil) dcd ?_)
 rintro _ ⟨at_8, hA8, rfl, _⟩
 refine ⟨rfl, ?_⟩
 refine .nil ⟨rfl, ?_⟩
 refine .one 3 rfl krf (.callV ok84 (refEnds_spec (n := n) hM) rfl (.keep rfl rfl .nil) dcd ?_)
 rintro _ ⟨en10, hEN10, rfl, _⟩
 refine ⟨rfl, ?_⟩
 refine .nil ⟨rfl, ?_⟩
 refine .quietN (n := 0) [4, 5] [] 0 rfl krf (.cn 4 rfl (Y.assign rfl rfl) (.cn 5 rfl (Y.assign rfl rfl) ?_))
 refine .nil (.done krf (.seq ?_))
 have hln := hA8.len; have hle := hEN10.len
 refine .region ?_
 refine .an ?_
 refine .nil (.seq (.sr ?_))
 refine .an ?_
 refine .nil (.block ?_)
 refine .loop2 (fun (t5_4 : Int) (w6_4 : Nat) => ⟨[(3, .fz 1 (at_8.map irow)), (4, .fz 1 (en10.map irow)), (5, vi t5_4), (6, vi (w6_4 : Int))], []⟩) (fun (t5_4 : Int) (w6_4 : Nat) => ((w6_4 : Int) ≤ ((at_8.length : Nat) : Int)) ∧ (LK at_8 en10 w6_4 t5_4)) (fun (t5_4 : Int) (w6_4 : Nat) => (((at_8.length : Nat) : Int) - (w6_4 : Int)).toNat) 0 0 (⟨om, LK.init⟩) (Le.mk (.c (.c (.cons (look_int rfl rlo) (.cons (look_int rfl rlo) (.nil))))) (.nil)) (fun t5_4 w6_4 hI4 => ?_)
 obtain ⟨hb4, hL⟩ := hI4
 refine .seq (.sr ?_)
 refine .mv ?_
 refine .mv ?_
 refine .vl (Y.len (n := at_8.length) sl22 rfl (congrArg some (List.length_map ..))) (.vl (Y.lss rfl rfl) (.nil ?_))
 refine .condD rfl (fun c14 => ?_) (fun c14 => ?_)
 refine .skip ?_
 refine .join1 (fun (t5_j5 : Int) => ⟨[(3, .fz 1 (at_8.map irow)), (4, .fz 1 (en10.map irow)), (5, vi t5_j5), (6, vi (w6_4 : Int))], []⟩) (fun (t5_j5 : Int) => LK at_8 en10 (w6_4 + 1) t5_j5) ?_ (fun t5_j5 hJ5 => ?_)
 refine .block (.seq ?_)
 have hlo := hEN10.lo (w6_4 : Int) (by unfold In; omega); rw [Int.toNat_natCast] at hlo; have har := hA8.rng hM hO (w := (w6_4 : Int)) (by unfold In; omega); rw [Int.toNat_natCast] at har
 refine .region ?_
 refine .mv ?_
 refine .mv ?_
 refine .vl (Y.indexF (m := w6_4) sl22 rfl rfl rlo (row_getD (d := 0) om)) ?_
 refine .ld sh3 ?_
 refine .vl (Y.geq rfl rfl) (.nil ?_)
 refine .condD rfl (fun c21 => ?_) (fun c21 => ?_)
 refine .regionS rfl krf (.val (Y.move rfl rfl) dcd (.val (Y.move rfl rfl) dcd ?_))
 refine .val (Y.move rfl rfl) dcd (.val (Y.indexF (m := w6_4) sl22 rfl rfl rlo (row_getD (d := 0) om)) dcd ?_)
 refine .val (Y.load sh3 rfl rfl rfl rfl) dcd (.val (Y.move rfl rfl) dcd (.val (Y.move rfl rfl) dcd ?_))
 refine .val (Y.indexF (m := w6_4) sl22 rfl rfl rlo (row_getD (d := 0) om)) dcd (.val (Y.load sh3 rfl rfl rfl rfl) dcd (.val (Y.addI rfl rfl om) dcd ?_))
 refine .val (Y.max rfl rfl rfl) dcd (.val (Y.assign rfl rfl) dcd (.nil ?_))
 exact ⟨if ((at_8.getD w6_4 0) + (en10.getD w6_4 0)) > t5_4 then ((at_8.getD w6_4 0) + (en10.getD w6_4 0)) else t5_4, by first | exact hL.step asm | exact hL.skip asm, Le.mk (.c (.c (.cons (look_int rfl rlo) (.c (.nil))))) (.nil)⟩
 refine .skip ?_
 exact ⟨t5_4, by first | exact hL.step asm | exact hL.skip asm, Le.mk (.c (.c (.cons (look_int rfl rlo) (.c (.nil))))) (.nil)⟩
 refine .region ?_
 refine .mv ?_
 refine .vl (Y.addI rfl rfl oms) ?_
 refine .an ?_
 refine .nil ?_
 exact ⟨t5_j5, w6_4 + 1, ⟨om, hJ5⟩, om, Le.mk (.c (.c (.cons (look_int rfl rlo) (.cons (look_int rfl rlo) (.nil))))) (.nil)⟩
 refine .exit (.sr ?_)
 refine .mv ?_
 refine .an ?_
 refine .nil (.ret ?_)
 exact ⟨_, _, rfl, rfl, by have e := hA.uniq hf hO hA8; rw [e] at hp; rw [hL.eq hM hO hA8 hEN10 om hp]; rfl, rfl⟩
 refine .vl (Y.loadA sh27 rfl rfl (nbE rfl) rfl rfl) ?_
 refine .nil ⟨rfl, ?_⟩
 refine .quietN (n := 4) [0] [1, 3, 4, 5] 1 rfl krf (.cn 0 rfl (Y.loadA sh27 rfl rfl (nbE rfl) rfl rfl) (.nil ?_))
 refine .one 1 rfl krf (.callV ok47 (refArr_spec (n := n) hM) rfl (.keep rfl rfl .nil) dcd ?_)
 rintro _ ⟨at_8, hA8, rfl, _⟩
 refine ⟨rfl, ?_⟩
 refine .nil ⟨rfl, ?_⟩
 refine .one 3 rfl krf (.callV ok84 (refEnds_spec (n := n) hM) rfl (.keep rfl rfl .nil) dcd ?_)
 rintro _ ⟨en10, hEN10, rfl, _⟩
 refine ⟨rfl, ?_⟩
 refine .nil ⟨rfl, ?_⟩
 refine .quietN (n := 0) [4, 5] [] 0 rfl krf (.cn 4 rfl (Y.assign rfl rfl) (.cn 5 rfl (Y.assign rfl rfl) ?_))
 refine .nil (.done krf (.seq ?_))
 have hln := hA8.len; have hle := hEN10.len
 refine .region ?_
 refine .an ?_
 refine .nil (.seq (.sr ?_))
 refine .an ?_
 refine .nil (.block ?_)
 refine .loop2 (fun (t5_4 : Int) (w6_4 : Nat) => ⟨[(3, .fz 1 (at_8.map irow)), (4, .fz 1 (en10.map irow)), (5, vi t5_4), (6, vi (w6_4 : Int))], []⟩) (fun (t5_4 : Int) (w6_4 : Nat) => ((w6_4 : Int) ≤ ((at_8.length : Nat) : Int)) ∧ (LK at_8 en10 w6_4 t5_4)) (fun (t5_4 : Int) (w6_4 : Nat) => (((at_8.length : Nat) : Int) - (w6_4 : Int)).toNat) 0 0 (⟨om, LK.init⟩) (Le.mk (.c (.c (.cons (look_int rfl rlo) (.cons (look_int rfl rlo) (.nil))))) (.nil)) (fun t5_4 w6_4 hI4 => ?_)
 obtain ⟨hb4, hL⟩ := hI4
 refine .seq (.sr ?_)
 refine .mv ?_
 refine .mv ?_
 refine .vl (Y.len (n := at_8.length) sl22 rfl (congrArg some (List.length_map ..))) (.vl (Y.lss rfl rfl) (.nil ?_))
 refine .condD rfl (fun c14 => ?_) (fun c14 => ?_)
 refine .skip ?_
 refine .join1 (fun (t5_j5 : Int) => ⟨[(3, .fz 1 (at_8.map irow)), (4, .fz 1 (en10.map irow)), (5, vi t5_j5), (6, vi (w6_4 : Int))], []⟩) (fun (t5_j5 : Int) => LK at_8 en10 (w6_4 + 1) t5_j5) ?_ (fun t5_j5 hJ5 => ?_)
 refine .block (.seq ?_)
 have hlo := hEN10.lo (w6_4 : Int) (by unfold In; omega); rw [Int.toNat_natCast] at hlo; have har := hA8.rng hM hO (w := (w6_4 : Int)) (by unfold In; omega); rw [Int.toNat_natCast] at har
 refine .region ?_
 refine .mv ?_
 refine .mv ?_
 refine .vl (Y.indexF (m := w6_4) sl22 rfl rfl rlo (row_getD (d := 0) om)) ?_
 refine .ld sh3 ?_
 refine .vl (Y.geq rfl rfl) (.nil ?_)
 refine .condD rfl (fun c21 => ?_) (fun c21 => ?_)
 refine .regionS rfl krf (.val (Y.move rfl rfl) dcd (.val (Y.move rfl rfl) dcd ?_))
 refine .val (Y.move rfl rfl) dcd (.val (Y.indexF (m := w6_4) sl22 rfl rfl rlo (row_getD (d := 0) om)) dcd ?_)
 refine .val (Y.load sh3 rfl rfl rfl rfl) dcd (.val (Y.move rfl rfl) dcd (.val (Y.move rfl rfl) dcd ?_))
 refine .val (Y.indexF (m := w6_4) sl22 rfl rfl rlo (row_getD (d := 0) om)) dcd (.val (Y.load sh3 rfl rfl rfl rfl) dcd (.val (Y.addI rfl rfl om) dcd ?_))
 refine .val (Y.max rfl rfl rfl) dcd (.val (Y.assign rfl rfl) dcd (.nil ?_))
 exact ⟨if ((at_8.getD w6_4 0) + (en10.getD w6_4 0)) > t5_4 then ((at_8.getD w6_4 0) + (en10.getD w6_4 0)) else t5_4, by first | exact hL.step asm | exact hL.skip asm, Le.mk (.c (.c (.cons (look_int rfl rlo) (.c (.nil))))) (.nil)⟩
 refine .skip ?_
 exact ⟨t5_4, by first | exact hL.step asm | exact hL.skip asm, Le.mk (.c (.c (.cons (look_int rfl rlo) (.c (.nil))))) (.nil)⟩
 refine .region ?_
 refine .mv ?_
 refine .vl (Y.addI rfl rfl oms) ?_
 refine .an ?_
 refine .nil ?_
 exact ⟨t5_j5, w6_4 + 1, ⟨om, hJ5⟩, om, Le.mk (.c (.c (.cons (look_int rfl rlo) (.cons (look_int rfl rlo) (.nil))))) (.nil)⟩
 refine .exit (.sr ?_)
 refine .mv ?_
 refine .an ?_
 refine .nil (.ret ?_)
 exact ⟨_, _, rfl, rfl, by have e := hA.uniq hf hO hA8; rw [e] at hp; rw [hL.eq hM hO hA8 hEN10 om hp]; rfl, rfl⟩
end Go.Proofs.Ytligpghohcfpnaa
/- Walks through equality. -/
namespace Go.Proofs.Ytligpghohcfpnaa
open Go Go.AW Go.Proofs
end Go.Proofs.Ytligpghohcfpnaa
/- Walks through what plans are made with. -/
namespace Go.Proofs.Ytligpghohcfpnaa
open Go Go.AW Go.Proofs
theorem width_spec {k : Nat} : ACalls Try.prog 53 [.v (.int .u8 (k : Int))] [] [] (fun r o => r = (vi (widthN k)) ∧ o = []) := by
 refine ACalls.of Try.func53 rfl rfl rfl (n := 8) dcd (nbE rfl) (.sr ?_)
 refine .an ?_
 refine .nil (.sr ?_)
 refine .buildSlice (([1, 2, 4, 7, 8, 13, 33, 64] : List Int).map irow) sl22 ze3 rfl rfl rfl rfl rfl (uniform_map (s := 1) (f := irow) (fun _ => rfl)) rfl rfl rfl dcd ?_
 refine .mv ?_
 refine .vl (Y.remI rfl rfl oms) (.sh (Sh.freezeE (d := 3) (([1, 2, 4, 7, 8, 13, 33, 64] : List Int).map irow) rfl (by first | rfl | exact rep_map rfl) (Frees.map irow_frees)) (.vl (Y.indexF (m := k % 8) sl22 rfl rfl rlo (row_getD (d := 0) oms)) ?_))
 refine .ld sh3 ?_
 refine .an ?_
 refine .nil (.ret ?_)
 exact .ri rfl (rfl)
theorem pick_spec {n : Netlist} {w : Int} {k : Nat} (hn : n.widths.length ≤ 1048576) (hk : k < 256) : ACalls Try.prog 56 [.agg (Netlist.prow n), vi w, .v (.int .u8 (k : Int))] [] [] (fun r o => r = (vi (pickN n.widths w k)) ∧ o = []) := by
 refine ACalls.of Try.func56 rfl rfl rfl (n := 38) dcd (nbE rfl) ?_
 have hpl0 := pickL_len n.widths w
 refine .sr (.box 103 rfl rfl rfl rfl rfl dcd ?_)
 refine .an ?_
 refine .nil (.sr ?_)
 refine .an ?_
 refine .sh (Sh.nil (d := 7) 107 1 rfl dcd) (.nil (.seq ?_))
 refine .sr ?_
 refine .an ?_
 refine .nil (.block ?_)
 refine .loop2 (fun (i_3 : Nat) (l_3 : List Int) => ⟨[(1, vi w), (2, .v (.int .u8 (k : Int))), (3, .ptr 103 0 0 0), (7, .slc 107 1 0 l_3.length), (8, vi (i_3 : Int))], [(103, .cells (Netlist.prow n)), (107, .rows 1 (l_3.map irow))]⟩) (fun (i_3 : Nat) (l_3 : List Int) => ((i_3 : Int) ≤ ((n.widths.length : Nat) : Int)) ∧ (l_3 = pickL n.widths w i_3)) (fun (i_3 : Nat) (l_3 : List Int) => (((n.widths.length : Nat) : Int) - (i_3 : Int)).toNat) 0 ([] : List Int) (⟨omd, rfl⟩) (Le.mk (.c (.c (.c (.cons (look_slc rfl oms) (.cons (look_int rfl rlo) (.nil)))))) (.c (.c (.nil)))) (fun i_3 l_3 hI3 => ?_)
 obtain ⟨hb3, hl⟩ := hI3
 refine .seq (.sr ?_)
 refine .mv ?_
 refine .fa fl27_1 ?_
 refine .ld sh22 ?_
 refine .vl (Y.len (n := n.widths.length) sl22 rfl (congrArg some (List.length_map ..))) (.vl (Y.lss rfl rfl) (.nil ?_))
 refine .condD rfl (fun c13 => ?_) (fun c13 => ?_)
 refine .skip ?_
 refine .join1 (fun (l_j4 : List Int) => ⟨[(1, vi w), (2, .v (.int .u8 (k : Int))), (3, .ptr 103 0 0 0), (7, .slc 107 1 0 l_j4.length), (8, vi (i_3 : Int))], [(103, .cells (Netlist.prow n)), (107, .rows 1 (l_j4.map irow))]⟩) (fun (l_j4 : List Int) => l_j4 = pickL n.widths w (i_3 + 1)) ?_ (fun l_j4 hJ4 => ?_)
 refine .block (.seq ?_)
 have hlb := hpl0 i_3; rw [← hl] at hlb
 refine .region ?_
 refine .fa fl27_1 ?_
 refine .ld sh22 ?_
 refine .mv ?_
 refine .vl (Y.indexF (m := i_3) sl22 rfl rfl rlo (row_getD (d := 0) om)) ?_
 refine .ld sh3 ?_
 refine .mv ?_
 refine .vl (Y.eql rfl rfl) (.nil ?_)
 refine .condD rfl (fun c22 => ?_) (fun c22 => ?_)
 refine .region ?_
 refine .mv ?_
 refine .mv ?_
 refine .buildSlice (([(i_3 : Int)] : List Int).map irow) sl22 ze3 rfl rfl rfl rfl rfl (uniform_map (s := 1) (f := irow) (fun _ => rfl)) rfl rfl rfl dcd ?_
 refine .appendE ((l_3 ++ ([(i_3 : Int)] : List Int)).map irow) (l_3 ++ ([(i_3 : Int)] : List Int)).length sl22 ze3 rfl rfl rfl rfl (app_le oms) (app_map oms) (app_n oms) oms oms dcd dcd ?_
 refine .an ?_
 refine .nil ?_
 exact ⟨l_3 ++ ([(i_3 : Int)] : List Int), by first | (rw [hl]; exact (pickL_yes asm).symm) | exact hl.trans (pickL_no asm).symm, Le.mk (.c (.c (.c (.cons (look_slc rfl om) (.c (.nil)))))) (.c (.c (.nil)))⟩
 refine .skip ?_
 exact ⟨l_3, by first | (rw [hl]; exact (pickL_yes asm).symm) | exact hl.trans (pickL_no asm).symm, Le.mk (.c (.c (.c (.cons (look_slc rfl om) (.c (.nil)))))) (.c (.c (.nil)))⟩
 refine .region ?_
 refine .mv ?_
 refine .vl (Y.addI rfl rfl oms) ?_
 refine .an ?_
 refine .nil ?_
 exact ⟨i_3 + 1, l_j4, ⟨om, hJ4⟩, om, Le.mk (.c (.c (.c (.cons (look_slc rfl om) (.cons (look_int rfl rlo) (.nil)))))) (.c (.c (.nil)))⟩
 refine .exit (.seq (.seq ?_))
 have he : l_3 = pickL n.widths w n.widths.length := by rw [hl, show i_3 = n.widths.length by omega]
 have hlb := hpl0 i_3; rw [← hl] at hlb
 refine .region ?_
 refine .mv ?_
 refine .vl (Y.len (n := l_3.length) sl22 rfl rfl) (.vl (Y.eql rfl rfl) (.nil ?_))
 refine .condD rfl (fun c29 => ?_) (fun c29 => ?_)
 refine .sr ?_
 refine .an ?_
 refine .nil (.ret ?_)
 exact .ri rfl (by unfold pickN; rw [← he, if_pos om])
 refine .skip (.seq ?_)
 have hmod : k % l_3.length < l_3.length := Nat.mod_lt _ om
 refine .region ?_
 refine .mv ?_
 refine .mv ?_
 refine .vl (Y.convK ii5 ii3 rfl (by first | rfl | exact IntWalk.i64_in _ om)) ?_
 refine .mv ?_
 refine .vl (Y.len (n := l_3.length) sl22 rfl rfl) (.vl (Y.remI rfl rfl oms) (.vl (Y.indexO (m := k % l_3.length) sl22 rfl rfl rlo om) (.vl (Y.load sh3 rfl (row_getD0 (d := 0) om) rfl rfl) ?_)))
 refine .an ?_
 refine .nil (.ret ?_)
 exact .ri rfl (by unfold pickN; rw [← he, if_neg om])
theorem pickF_spec {n : Netlist} {w : Int} {k : Nat} (hn : n.widths.length ≤ 1048576) (hk : k < 256) : ACalls Try.prog 56 [.agg (Netlist.row n), vi w, .v (.int .u8 (k : Int))] [] [] (fun r o => r = (vi (pickN n.widths w k)) ∧ o = []) := by
 refine ACalls.of Try.func56 rfl rfl rfl (n := 38) dcd (nbE rfl) ?_
 have hpl0 := pickL_len n.widths w
 refine .sr (.box 103 rfl rfl rfl rfl rfl dcd ?_)
 refine .an ?_
 refine .nil (.sr ?_)
 refine .an ?_
 refine .sh (Sh.nil (d := 7) 107 1 rfl dcd) (.nil (.seq ?_))
 refine .sr ?_
 refine .an ?_
 refine .nil (.block ?_)
 refine .loop2 (fun (i_3 : Nat) (l_3 : List Int) => ⟨[(1, vi w), (2, .v (.int .u8 (k : Int))), (3, .ptr 103 0 0 0), (7, .slc 107 1 0 l_3.length), (8, vi (i_3 : Int))], [(103, .cells (Netlist.row n)), (107, .rows 1 (l_3.map irow))]⟩) (fun (i_3 : Nat) (l_3 : List Int) => ((i_3 : Int) ≤ ((n.widths.length : Nat) : Int)) ∧ (l_3 = pickL n.widths w i_3)) (fun (i_3 : Nat) (l_3 : List Int) => (((n.widths.length : Nat) : Int) - (i_3 : Int)).toNat) 0 ([] : List Int) (⟨omd, rfl⟩) (Le.mk (.c (.c (.c (.cons (look_slc rfl oms) (.cons (look_int rfl rlo) (.nil)))))) (.c (.c (.nil)))) (fun i_3 l_3 hI3 => ?_)
 obtain ⟨hb3, hl⟩ := hI3
 refine .seq (.sr ?_)
 refine .mv ?_
 refine .fa fl27_1 ?_
 refine .ld sh22 ?_
 refine .vl (Y.len (n := n.widths.length) sl22 rfl (congrArg some (List.length_map ..))) (.vl (Y.lss rfl rfl) (.nil ?_))
 refine .condD rfl (fun c13 => ?_) (fun c13 => ?_)
 refine .skip ?_
 refine .join1 (fun (l_j4 : List Int) => ⟨[(1, vi w), (2, .v (.int .u8 (k : Int))), (3, .ptr 103 0 0 0), (7, .slc 107 1 0 l_j4.length), (8, vi (i_3 : Int))], [(103, .cells (Netlist.row n)), (107, .rows 1 (l_j4.map irow))]⟩) (fun (l_j4 : List Int) => l_j4 = pickL n.widths w (i_3 + 1)) ?_ (fun l_j4 hJ4 => ?_)
 refine .block (.seq ?_)
 have hlb := hpl0 i_3; rw [← hl] at hlb
 refine .region ?_
 refine .fa fl27_1 ?_
 refine .ld sh22 ?_
 refine .mv ?_
 refine .vl (Y.indexF (m := i_3) sl22 rfl rfl rlo (row_getD (d := 0) om)) ?_
 refine .ld sh3 ?_
 refine .mv ?_
 refine .vl (Y.eql rfl rfl) (.nil ?_)
 refine .condD rfl (fun c22 => ?_) (fun c22 => ?_)
 refine .region ?_
 refine .mv ?_
 refine .mv ?_
 refine .buildSlice (([(i_3 : Int)] : List Int).map irow) sl22 ze3 rfl rfl rfl rfl rfl (uniform_map (s := 1) (f := irow) (fun _ => rfl)) rfl rfl rfl dcd ?_
 refine .appendE ((l_3 ++ ([(i_3 : Int)] : List Int)).map irow) (l_3 ++ ([(i_3 : Int)] : List Int)).length sl22 ze3 rfl rfl rfl rfl (app_le oms) (app_map oms) (app_n oms) oms oms dcd dcd ?_
 refine .an ?_
 refine .nil ?_
 exact ⟨l_3 ++ ([(i_3 : Int)] : List Int), by first | (rw [hl]; exact (pickL_yes asm).symm) | exact hl.trans (pickL_no asm).symm, Le.mk (.c (.c (.c (.cons (look_slc rfl om) (.c (.nil)))))) (.c (.c (.nil)))⟩
 refine .skip ?_
 exact ⟨l_3, by first | (rw [hl]; exact (pickL_yes asm).symm) | exact hl.trans (pickL_no asm).symm, Le.mk (.c (.c (.c (.cons (look_slc rfl om) (.c (.nil)))))) (.c (.c (.nil)))⟩
 refine .region ?_
 refine .mv ?_
 refine .vl (Y.addI rfl rfl oms) ?_
 refine .an ?_
 refine .nil ?_
 exact ⟨i_3 + 1, l_j4, ⟨om, hJ4⟩, om, Le.mk (.c (.c (.c (.cons (look_slc rfl om) (.cons (look_int rfl rlo) (.nil)))))) (.c (.c (.nil)))⟩
 refine .exit (.seq (.seq ?_))
 have he : l_3 = pickL n.widths w n.widths.length := by rw [hl, show i_3 = n.widths.length by omega]
 have hlb := hpl0 i_3; rw [← hl] at hlb
 refine .region ?_
 refine .mv ?_
 refine .vl (Y.len (n := l_3.length) sl22 rfl rfl) (.vl (Y.eql rfl rfl) (.nil ?_))
 refine .condD rfl (fun c29 => ?_) (fun c29 => ?_)
 refine .sr ?_
 refine .an ?_
 refine .nil (.ret ?_)
 exact .ri rfl (by unfold pickN; rw [← he, if_pos om])
 refine .skip (.seq ?_)
 have hmod : k % l_3.length < l_3.length := Nat.mod_lt _ om
 refine .region ?_
 refine .mv ?_
 refine .mv ?_
 refine .vl (Y.convK ii5 ii3 rfl (by first | rfl | exact IntWalk.i64_in _ om)) ?_
 refine .mv ?_
 refine .vl (Y.len (n := l_3.length) sl22 rfl rfl) (.vl (Y.remI rfl rfl oms) (.vl (Y.indexO (m := k % l_3.length) sl22 rfl rfl rlo om) (.vl (Y.load sh3 rfl (row_getD0 (d := 0) om) rfl rfl) ?_)))
 refine .an ?_
 refine .nil (.ret ?_)
 exact .ri rfl (by unfold pickN; rw [← he, if_neg om])
end Go.Proofs.Ytligpghohcfpnaa
/- Small facts for the widths of the specification. -/
namespace Go.Proofs.Ytligpghohcfpnaa
open Go Go.AW

end Go.Proofs.Ytligpghohcfpnaa
/- Walks through the specification of words. -/
namespace Go.Proofs.Ytligpghohcfpnaa
open Go Go.AW Go.Proofs
theorem bits_spec {w : Int} {x : Nat} (hx : x < 18446744073709551616) : ACalls Try.prog 67 [vi w, .v (.int .u64 ((x : Nat) : Int))] [] [] (fun r o => r = .uni 1 ((bitsN (limN w) x).map irow) ∧ o = []) := by
 refine ACalls.of Try.func67 rfl rfl rfl (n := 22) dcd (nbE rfl) ?_
 have hl := limN_le w
 refine .sr ?_
 refine .an ?_
 refine .nil (.sr ?_)
 refine .an ?_
 refine .sh (Sh.nil (d := 5) 105 1 rfl dcd) (.nil (.seq ?_))
 refine .sr ?_
 refine .an ?_
 refine .nil (.block ?_)
 refine .loop3 (fun (x1_3 : Nat) (i6_3 : Nat) (out5_3 : List Int) => ⟨[(0, vi w), (1, .v (.int .u64 (x1_3 : Int))), (5, .slc 105 1 0 out5_3.length), (6, vi (i6_3 : Int))], [(105, .rows 1 (out5_3.map irow))]⟩) (fun (x1_3 : Nat) (i6_3 : Nat) (out5_3 : List Int) => ((i6_3 : Int) ≤ ((limN w : Nat) : Int)) ∧ (out5_3.length = i6_3) ∧ (out5_3 = bitsN i6_3 x) ∧ (x1_3 = x / 2 ^ i6_3) ∧ (x1_3 < 18446744073709551616)) (fun (x1_3 : Nat) (i6_3 : Nat) (out5_3 : List Int) => (((limN w : Nat) : Int) - (i6_3 : Int)).toNat) x 0 ([] : List Int) (⟨omd, rfl, rfl, by simp, hx⟩) (Le.mk (.c (.cons (look_int rfl rlo) (.cons (look_slc rfl oms) (.cons (look_int rfl rlo) (.nil))))) (.c (.nil))) (fun x1_3 i6_3 out5_3 hI3 => ?_)
 obtain ⟨hb3, hlen, hb, hv, hm⟩ := hI3
 refine .seq (.sr ?_)
 refine .mv ?_
 refine .mv ?_
 refine .callP ok104 (lim104_spec (w := w)) rfl (.keep rfl rfl .nil) dcd rfl (.vl (Y.lss rfl rfl) (.nil ?_))
 refine .condD rfl (fun c10 => ?_) (fun c10 => ?_)
 refine .skip (.seq (.block ?_))
 refine .sr ?_
 refine .mv ?_
 refine .mv ?_
 refine .vl (Y.remN (a := x1_3) (b := 2) rfl rfl om) (.vl (Y.convK ii37 ii3 rfl (by first | rfl | exact IntWalk.i64_in _ om)) ?_)
 refine .buildSlice (([((x1_3 % 2 : Nat) : Int)] : List Int).map irow) sl22 ze3 rfl rfl rfl rfl rfl (uniform_map (s := 1) (f := irow) (fun _ => rfl)) rfl rfl rfl dcd ?_
 refine .appendE ((out5_3 ++ ([((x1_3 % 2 : Nat) : Int)] : List Int)).map irow) (out5_3 ++ ([((x1_3 % 2 : Nat) : Int)] : List Int)).length sl22 ze3 rfl rfl rfl rfl (app_le oms) (app_map oms) (app_n oms) oms oms dcd dcd ?_
 refine .an ?_
 refine .nil (.region ?_)
 refine .mv ?_
 refine .vl (Y.quoN (a := x1_3) (b := 2) rfl rfl om) ?_
 refine .an ?_
 refine .nil (.region ?_)
 refine .mv ?_
 refine .vl (Y.addI rfl rfl oms) ?_
 refine .an ?_
 refine .nil ?_
 exact ⟨x1_3 / 2, i6_3 + 1, out5_3 ++ ([((x1_3 % 2 : Nat) : Int)] : List Int), ⟨om, by simp; omega, by rw [hb, bitsN_succ, hv], by rw [hv, Nat.div_div_eq_div_mul, Nat.pow_succ], om⟩, om, Le.mk (.c (.cons (look_int rfl rlo) (.cons (look_slc rfl om) (.cons (look_int rfl rlo) (.nil))))) (.c (.nil))⟩
 refine .exit (.sr ?_)
 refine .mv ?_
 refine .an ?_
 refine .sh (Sh.detach (d := 4) (o := 105) rfl rfl (len_map om) dcd) ?_
 refine .nil (.ret ?_)
 exact ⟨_, _, rfl, rfl, (cg1 (fun (z0 : List Int) => X.uni 1 (z0.map irow)) (by rw [hb, show i6_3 = limN w by omega] : out5_3 = bitsN (limN w) x) : X.uni 1 (out5_3.map irow) = X.uni 1 ((bitsN (limN w) x).map irow)), rfl⟩
theorem word_spec {l : List Int} (h1 : ∀ b ∈ l, 0 ≤ b ∧ b ≤ 1) (h2 : l.length ≤ 64) : ACalls Try.prog 66 [.fz 1 (l.map irow)] [] [] (fun r o => r = .v (.int .u64 ((wordN l : Nat) : Int)) ∧ o = []) := by
 refine ACalls.of Try.func66 rfl rfl rfl (n := 21) dcd (nbE rfl) (.sr ?_)
 refine .an ?_
 refine .nil (.sr ?_)
 refine .an ?_
 refine .nil (.seq (.sr ?_))
 refine .mv ?_
 refine .vl (Y.len (n := l.length) sl22 rfl (congrArg some (List.length_map ..))) (.vl (Y.subI rfl rfl oms) ?_)
 refine .an ?_
 refine .nil (.block ?_)
 refine .loop2 (fun (x3_3 : Nat) (i4_3 : Int) => ⟨[(0, .fz 1 (l.map irow)), (3, .v (.int .u64 (x3_3 : Int))), (4, vi i4_3)], []⟩) (fun (x3_3 : Nat) (i4_3 : Int) => (-1 ≤ i4_3 ∧ i4_3 < (l.length : Int)) ∧ (x3_3 = wordN (l.drop (i4_3 + 1).toNat))) (fun (x3_3 : Nat) (i4_3 : Int) => (i4_3 + 1).toNat) 0 (((l.length : Nat) : Int) - 1) (⟨om, by rw [List.drop_eq_nil_of_le om]; rfl⟩) (Le.mk (.c (.cons (look_int rfl rlo) (.cons (look_int rfl rlo) (.nil)))) (.nil)) (fun x3_3 i4_3 hI3 => ?_)
 obtain ⟨hi, hx⟩ := hI3
 refine .seq (.sr ?_)
 refine .mv ?_
 refine .vl (Y.geq rfl rfl) (.nil ?_)
 refine .condD rfl (fun c9 => ?_) (fun c9 => ?_)
 refine .skip (.seq (.block ?_))
 refine .region ?_
 refine .mv ?_
 refine .vl (Y.mulN (a := 2) (b := x3_3) rfl rfl) ?_
 refine .mv ?_
 refine .mv ?_
 refine .vl (Y.indexF (m := (i4_3).toNat) sl22 rfl rfl om (row_getD (d := 0) om)) ?_
 have hb := h1 _ (getD_mem (l := l) (i := i4_3.toNat) om)
 refine .ld sh3 ?_
 refine .vl (Y.conv ii3 ii37 rfl (u64_toNat _ om)) (.vl (Y.addN (a := ((2 * x3_3) % 18446744073709551616)) (b := ((l.getD ((i4_3).toNat) 0).toNat)) rfl rfl) ?_)
 refine .an ?_
 refine .nil (.region ?_)
 refine .mv ?_
 refine .vl (Y.subI rfl rfl oms) ?_
 refine .an ?_
 refine .nil ?_
 exact ⟨(((2 * x3_3) % 18446744073709551616) + ((l.getD ((i4_3).toNat) 0).toNat)) % 18446744073709551616, i4_3 - 1, ⟨om, word_step h1 h2 om hx⟩, om, Le.mk (.c (.cons (look_int rfl rlo) (.cons (look_int rfl rlo) (.nil)))) (.nil)⟩
 refine .exit (.sr ?_)
 refine .mv ?_
 refine .an ?_
 refine .nil (.ret ?_)
 exact .ri rfl (by rw [hx, show (i4_3 + 1).toNat = 0 by omega, List.drop_zero])
theorem rfit_spec {w : Int} {x : Nat} (hx : x < 18446744073709551616) : ACalls Try.prog 26 [vi w, .v (.int .u64 ((x : Nat) : Int))] [] [] (fun r o => r = .v (.int .u64 ((fitN w x : Nat) : Int)) ∧ o = []) := by
 refine ACalls.of Try.func26 rfl rfl rfl (n := 9) dcd (nbE rfl) (.sr ?_)
 refine .an ?_
 refine .nil (.sr ?_)
 refine .mv ?_
 refine .mv ?_
 refine .callP ok67 (bits_spec (w := w) (x := x) (om)) rfl (.keep rfl rfl (.keep rfl rfl .nil)) dcd rfl ?_
 refine .sh (Sh.freezeE (d := 7) ((bitsN (limN w) x).map irow) rfl (by first | rfl | exact rep_map rfl) (Frees.map irow_frees)) (.callP ok66 (word_spec (l := (bitsN (limN w) x)) (bitsN_01 _ _) (by rw [bitsN_len]; exact limN_le _)) rfl (.keep rfl rfl .nil) dcd rfl ?_)
 refine .an ?_
 refine .nil (.ret ?_)
 exact .ri rfl (by rw [wordN_bits]; rfl)
end Go.Proofs.Ytligpghohcfpnaa
/- Walks through the widths of the specification. -/
namespace Go.Proofs.Ytligpghohcfpnaa
open Go Go.AW Go.Proofs
end Go.Proofs.Ytligpghohcfpnaa
/- Walks through Few, Drivers, Ordered. -/
namespace Go.Proofs.Ytligpghohcfpnaa
open Go Go.AW Go.Proofs
theorem few_spec {p : Pln} : ACalls Try.prog 18 [.agg (Pln.row p)] [] [] (fun r o => r = .v (.bool (decide (p.Few))) ∧ o = []) := by
 refine ACalls.of Try.func18 rfl rfl rfl (n := 31) dcd (nbE rfl) (.sr (.box 101 rfl rfl rfl rfl rfl dcd ?_))
 refine .an ?_
 refine .nil (.sr ?_)
 refine .fa fl36_0 ?_
 refine .ld sh32 ?_
 refine .vl (Y.len (n := p.mems.length) sl32 rfl (congrArg some (List.length_map ..))) (.vl (Y.leq rfl rfl) ?_)
 refine .mv ?_
 refine .splitD (d := 7) rfl (fun c7 => ?_) (fun c7 => ?_)
 refine .gw 7 (Y.fieldAddr fl36_1 rfl rfl) (.gw 7 (Y.load sh32 rfl rfl rfl rfl) (.gw 7 (Y.len (n := p.streams.length) sl32 rfl (congrArg some (List.length_map ..))) ?_))
 refine .gw 7 (Y.leq rfl rfl) ?_
 refine .pk ?_
 refine .mv ?_
 refine .splitD (d := 13) rfl (fun c13 => ?_) (fun c13 => ?_)
 refine .gw 13 (Y.fieldAddr fl36_2 rfl rfl) (.gw 13 (Y.load sh33 rfl rfl rfl rfl) (.gw 13 (Y.len (n := p.ins.length) sl33 rfl (congrArg some (List.length_map ..))) ?_))
 refine .gw 13 (Y.leq rfl rfl) ?_
 refine .pk ?_
 refine .mv ?_
 refine .splitD (d := 19) rfl (fun c19 => ?_) (fun c19 => ?_)
 refine .gw 19 (Y.fieldAddr fl36_3 rfl rfl) (.gw 19 (Y.load sh34 rfl rfl rfl rfl) (.gw 19 (Y.len (n := p.parts.length) sl34 rfl (congrArg some (List.length_map ..))) ?_))
 refine .gw 19 (Y.leq rfl rfl) ?_
 refine .pk ?_
 refine .mv ?_
 refine .splitD (d := 25) rfl (fun c25 => ?_) (fun c25 => ?_)
 refine .gw 25 (Y.fieldAddr fl36_4 rfl rfl) (.gw 25 (Y.load sh33 rfl rfl rfl rfl) (.gw 25 (Y.len (n := p.rets.length) sl33 rfl (congrArg some (List.length_map ..))) ?_))
 refine .gw 25 (Y.leq rfl rfl) ?_
 refine .pk ?_
 refine .an ?_
 refine .nil (.ret ?_)
 exact .rb rfl (dd ⟨fun h => ⟨om, om, om, om, om⟩, fun h => by have h5 := h.rets; omega⟩)
 refine .gz 25 (.gz 25 (.gz 25 ?_))
 refine .gz 25 ?_
 refine .pk ?_
 refine .an ?_
 refine .nil (.ret ?_)
 exact .rb rfl (df (fun h => by have h1 := h.mems; have h2 := h.streams; have h3 := h.ins; have h4 := h.parts; have h5 := h.rets; omega))
 refine .gz 19 (.gz 19 (.gz 19 ?_))
 refine .gz 19 ?_
 refine .pk ?_
 refine .mv ?_
 refine .gz 25 (.gz 25 (.gz 25 ?_))
 refine .gz 25 ?_
 refine .pk ?_
 refine .an ?_
 refine .nil (.ret ?_)
 exact .rb rfl (df (fun h => by have h1 := h.mems; have h2 := h.streams; have h3 := h.ins; have h4 := h.parts; have h5 := h.rets; omega))
 refine .gz 13 (.gz 13 (.gz 13 ?_))
 refine .gz 13 ?_
 refine .pk ?_
 refine .mv ?_
 refine .gz 19 (.gz 19 (.gz 19 ?_))
 refine .gz 19 ?_
 refine .pk ?_
 refine .mv ?_
 refine .gz 25 (.gz 25 (.gz 25 ?_))
 refine .gz 25 ?_
 refine .pk ?_
 refine .an ?_
 refine .nil (.ret ?_)
 exact .rb rfl (df (fun h => by have h1 := h.mems; have h2 := h.streams; have h3 := h.ins; have h4 := h.parts; have h5 := h.rets; omega))
 refine .gz 7 (.gz 7 (.gz 7 ?_))
 refine .gz 7 ?_
 refine .pk ?_
 refine .mv ?_
 refine .gz 13 (.gz 13 (.gz 13 ?_))
 refine .gz 13 ?_
 refine .pk ?_
 refine .mv ?_
 refine .gz 19 (.gz 19 (.gz 19 ?_))
 refine .gz 19 ?_
 refine .pk ?_
 refine .mv ?_
 refine .gz 25 (.gz 25 (.gz 25 ?_))
 refine .gz 25 ?_
 refine .pk ?_
 refine .an ?_
 refine .nil (.ret ?_)
 exact .rb rfl (df (fun h => by have h1 := h.mems; have h2 := h.streams; have h3 := h.ins; have h4 := h.parts; have h5 := h.rets; omega))
theorem drivers_spec {n : Netlist} (hs : n.Small) (hf : Formed n) : ACalls Try.prog 38 [.agg (Netlist.row n)] [] [] (fun r o => ∃ l, DrvBy n l ∧ r = .uni 1 (l.map irow) ∧ o = []) := by
 refine ACalls.of Try.func38 rfl rfl rfl (n := 33) dcd (nbE rfl) ?_
 have hs1 := hs.widths; have hs2 := hs.cells
 refine .sr (.box 101 rfl rfl rfl rfl rfl dcd ?_)
 refine .an ?_
 refine .nil (.sr ?_)
 refine .fa fl27_1 ?_
 refine .ld sh22 ?_
 refine .vl (Y.len (n := n.widths.length) sl22 rfl (congrArg some (List.length_map ..))) (.makeSlice (n := n.widths.length) sl22 ze3 rfl rfl rfl rfl om om dcd ?_)
 refine .assignX rfl dcd (.sh (Sh.adoptE (d := 3) (n := n.widths.length) 103 ((List.replicate n.widths.length 0).map irow) rfl (by first | rfl | exact rep_map rfl) (len_map (by simp)) dcd) (.nil ?_))
 refine .seq (.sr ?_)
 refine .an ?_
 refine .nil (.block ?_)
 refine .loop2 (fun (i4_3 : Nat) (out3_3 : List Int) => ⟨[(1, .ptr 101 0 0 0), (3, .slc 103 1 0 n.widths.length), (4, vi (i4_3 : Int))], [(101, .cells (Netlist.row n)), (103, .rows 1 (out3_3.map irow))]⟩) (fun (i4_3 : Nat) (out3_3 : List Int) => (out3_3.length = n.widths.length) ∧ ((i4_3 : Int) ≤ ((n.cells.length : Nat) : Int)) ∧ (DrvTo n i4_3 out3_3)) (fun (i4_3 : Nat) (out3_3 : List Int) => (((n.cells.length : Nat) : Int) - (i4_3 : Int)).toNat) 0 (List.replicate n.widths.length 0) (⟨omd, omd, ⟨by simp, fun j w hd hj => by have := hd.1; omega⟩⟩) (Le.mk (.c (.c (.cons (look_int rfl rlo) (.nil)))) (.c (.c (.nil)))) (fun i4_3 out3_3 hI3 => ?_)
 obtain ⟨hl103, hb3, hD⟩ := hI3
 refine .seq (.sr ?_)
 refine .mv ?_
 refine .fa fl27_2 ?_
 refine .ld sh23 ?_
 refine .vl (Y.len (n := n.cells.length) sl23 rfl (congrArg some (List.length_map ..))) (.vl (Y.lss rfl rfl) (.nil ?_))
 refine .condD rfl (fun c13 => ?_) (fun c13 => ?_)
 refine .skip ?_
 refine .join1 (fun (out3_j4 : List Int) => ⟨[(1, .ptr 101 0 0 0), (3, .slc 103 1 0 n.widths.length), (4, vi (i4_3 : Int))], [(101, .cells (Netlist.row n)), (103, .rows 1 (out3_j4.map irow))]⟩) (fun (out3_j4 : List Int) => (out3_j4.length = n.widths.length) ∧ (DrvTo n (i4_3 + 1) out3_j4)) ?_ (fun out3_j4 hJx4 => ?_)
 refine .block (.sr ?_)
 refine .fa fl27_2 ?_
 refine .ld sh23 ?_
 refine .mv ?_
 refine .vl (Y.indexF (m := i4_3) sl23 rfl rfl rlo (row_getD (d := default) om)) ?_
 refine .fa fl39_2 ?_
 refine .ld sh3 ?_
 refine .vl (Y.geq rfl rfl) (.nil ?_)
 refine .condD rfl (fun c22 => ?_) (fun c22 => ?_)
 have ho6 : In (n.cells.getD i4_3 default).out n.widths.length := (hf.cells i4_3 om).2.2.2 (fun e => by have := (hf.cells i4_3 om).2.2.1 e; omega)
 unfold In at ho6
 refine .region ?_
 refine .mv ?_
 refine .fa fl27_2 ?_
 refine .ld sh23 ?_
 refine .mv ?_
 refine .vl (Y.indexF (m := i4_3) sl23 rfl rfl rlo (row_getD (d := default) om)) ?_
 refine .fa fl39_2 ?_
 refine .ld sh3 ?_
 refine .mv ?_
 refine .vl (Y.indexO (m := ((n.cells.getD i4_3 default).out).toNat) sl22 rfl rfl om om) (.storeE ((out3_3.set (((n.cells.getD i4_3 default).out).toNat) (i4_3 : Int)).map irow) si3 rfl rfl rfl rfl rfl rfl rfl (row_getD0 (d := 0) om) (nbE rfl) (set_map0 rfl) (.nil ?_))
 exact ⟨out3_3.set (((n.cells.getD i4_3 default).out).toNat) (i4_3 : Int), ⟨omd, by first | exact hD.set hf om asm | exact hD.skip hf asm⟩, Le.mk (.c (.c (.c (.nil)))) (.c (.c (.nil)))⟩
 refine .skip ?_
 exact ⟨out3_3, ⟨om, by first | exact hD.set hf om asm | exact hD.skip hf asm⟩, Le.mk (.c (.c (.c (.nil)))) (.c (.c (.nil)))⟩
 obtain ⟨hlj4_103, hJ4⟩ := hJx4
 refine .region ?_
 refine .mv ?_
 refine .vl (Y.addI rfl rfl oms) ?_
 refine .an ?_
 refine .nil ?_
 exact ⟨i4_3 + 1, out3_j4, ⟨om, om, hJ4⟩, om, Le.mk (.c (.c (.cons (look_int rfl rlo) (.nil)))) (.c (.c (.nil)))⟩
 refine .exit (.sr ?_)
 refine .mv ?_
 refine .an ?_
 refine .sh (Sh.detach (d := 2) (o := 103) rfl rfl (len_map om) dcd) ?_
 refine .nil (.ret ?_)
 exact ⟨_, _, rfl, rfl, out3_3, DrvTo.done hf (by rw [show n.cells.length = i4_3 by omega]; exact hD), rfl, rfl⟩
end Go.Proofs.Ytligpghohcfpnaa
/- Combinational cycles, by what is known, in plain Lean. -/
namespace Go.Proofs.Ytligpghohcfpnaa
open Go Go.AW

def KN0 (n : Netlist) (k : Nat) (kn : List Bool) : Prop := ∀ w : Int, In w n.widths.length → (kn.getD w.toNat false = true ↔ ∃ j, Drives n j w ∧ j < k ∧ ¬ Comb (n.cell j).kind)
theorem KN0.init (n : Netlist) : KN0 n 0 (List.replicate n.widths.length false) := by
 intro w hw
 unfold In at hw
 rw [List.getD_eq_getElem?_getD, List.getElem?_replicate, if_pos om]
 exact ⟨fun h => (by cases h), fun ⟨j, h1, h2, _⟩ => (by have := h1.1; omega)⟩
theorem KN0.skip {n : Netlist} {k : Nat} {l : List Bool} (h : KN0 n k l) (hc : Comb (n.cells.getD k default).kind ∨ (n.cells.getD k default).kind = 7) : KN0 n (k + 1) l := by
 intro w hw
 rw [h w hw]
 constructor
 ·rintro ⟨j, h1, h2, h3⟩; exact ⟨j, h1, om, h3⟩
 ·rintro ⟨j, h1, h2, h3⟩
  refine ⟨j, h1, ?_, h3⟩
  rcases Int.lt_or_eq_of_le (show j ≤ k by omega) with h' | h'
  ·exact h'
  ·subst h'
   rcases hc with hc | hc
   ·exact absurd hc h3
   ·exact absurd hc h1.2.1
theorem KN0.step {n : Netlist} {k : Nat} {l : List Bool} (h : KN0 n k l) (hk : k < n.cells.length) (hl : l.length = n.widths.length) (hc : ¬ Comb (n.cells.getD k default).kind) (h7 : (n.cells.getD k default).kind ≠ 7) (ho : In (n.cells.getD k default).out n.widths.length) :
  KN0 n (k + 1) (l.set (n.cells.getD k default).out.toNat true) := by
 intro w hw
 unfold In at ho
 have hw' := hw
 unfold In at hw'
 rw [getD_set]
 by_cases e : (n.cells.getD k default).out = w
 ·rw [if_pos ⟨om, om⟩]
  exact ⟨fun _ => ⟨(k : Int), ⟨⟨om, om⟩, h7, e⟩, om, hc⟩, fun _ => rfl⟩
 ·rw [if_neg om, h w hw]
  constructor
  ·rintro ⟨j, h1, h2, h3⟩; exact ⟨j, h1, om, h3⟩
  ·rintro ⟨j, h1, h2, h3⟩
   refine ⟨j, h1, ?_, h3⟩
   rcases Int.lt_or_eq_of_le (show j ≤ k by omega) with h' | h'
   ·exact h'
   ·subst h'; exact absurd h1.2.2 e
structure LD (n : Netlist) (done : List Int) (kn : List Bool) (left : Int) : Prop where
 nd : done.Nodup
 cm : ∀ x ∈ done, CombAt n x
 kn : ∀ w, In w n.widths.length → (kn.getD w.toNat false = true ↔ ¬ Open n done w)
 left : left = (n.cells.length : Int) - ((seqL n n.cells.length).length : Int) - (done.length : Int)
 topo : ∀ p i s, done = p ++ i :: s → need n p i = 0
section
variable {n : Netlist} (hf : Formed n)
include hf
theorem LD.init {kn : List Bool} (h : KN0 n n.cells.length kn) : LD n [] kn ((n.cells.length : Int) - ((seqL n n.cells.length).length : Int)) where
 nd := List.nodup_nil
 cm := fun _ h => (by cases h)
 kn := fun w hw => by
  rw [h w hw]
  constructor
  ·rintro ⟨j, h1, h2, h3⟩ ⟨⟨i, hi, e⟩, _⟩
   have := hf.unique h1 (e ▸ hi.drives)
   subst this; exact h3 hi.2
  ·intro ho
   obtain ⟨j, hj⟩ := hf.driver hw
   refine ⟨j, hj, by have := hj.1; omega, fun hc => ho ⟨⟨j, ⟨hj.1, hc⟩, hj.2.2⟩, fun _ h => (by cases h)⟩⟩
 left := by simp
 topo := fun p i s h => by simp at h
theorem LD.step {done : List Int} {kn : List Bool} {left i : Int} (h : LD n done kn left) (hl : kn.length = n.widths.length) (hi : CombAt n i) (hk : kn.getD (n.cell i).out.toNat false = false) (hz : need n done i = 0) :
  LD n (done ++ [i]) (kn.set (n.cell i).out.toNat true) (left - 1) := by
 have hio := hf.outIn hi.drives
 have hop : Open n done (n.cell i).out := Classical.byContradiction fun hh => by
  have := (h.kn _ hio).2 hh
  rw [hk] at this; cases this
 have hni : i ∉ done := fun hm => hop.2 i hm rfl
 refine ⟨?_, fun x hx => ?_, fun w hw => ?_, ?_, fun p j s e => ?_⟩
 ·rw [List.nodup_append]
  exact ⟨h.nd, by simp, fun a ha b hb e => hni (by rw [← List.mem_singleton.1 hb, ← e]; exact ha)⟩
 ·rcases List.mem_append.1 hx with hx | hx
  ·exact h.cm x hx
  ·rw [List.mem_singleton.1 hx]; exact hi
 ·unfold In at hio
  have hw' := hw
  unfold In at hw'
  have ho : Open n (done ++ [i]) w ↔ Open n done w ∧ (n.cell i).out ≠ w := by
   constructor
   ·rintro ⟨a, b⟩
    exact ⟨⟨a, fun j hj => b j (by simp [hj])⟩, b i (by simp)⟩
   ·rintro ⟨⟨a, b⟩, c⟩
    refine ⟨a, fun j hj => ?_⟩
    rcases List.mem_append.1 hj with hj | hj
    ·exact b j hj
    ·rw [List.mem_singleton.1 hj]; exact c
  rw [getD_set, ho]
  by_cases e : (n.cell i).out = w
  ·rw [if_pos ⟨om, om⟩]
   exact ⟨fun _ h => h.2 e, fun _ => rfl⟩
  ·rw [if_neg om, h.kn w hw]
   exact ⟨fun h1 h2 => h1 h2.1, fun h1 h2 => h1 ⟨h2, e⟩⟩
 ·rw [h.left, List.length_append]; simp; omega
 ·rcases List.eq_nil_or_concat s with rfl | ⟨s', x, rfl⟩
  ·obtain ⟨rfl, e3⟩ := List.append_inj' (t₁ := [i]) (t₂ := [j]) e rfl
   cases e3
   exact hz
  ·have e2 := List.append_inj' (s₁ := done) (s₂ := p ++ j :: s') (t₁ := [i]) (t₂ := [x]) (by rw [e]; simp) rfl
   exact h.topo p j s' e2.1
theorem LD.known {done : List Int} {kn : List Bool} {left : Int} (h : LD n done kn left) {i : Int} (hi : 0 ≤ i ∧ i < n.cells.length) : (∀ x ∈ (n.cell i).args, kn.getD x.toNat false = true) ↔ need n done i = 0 := by
 unfold need
 rw [List.countP_eq_zero]
 constructor
 ·intro hh x hx ho
  exact (h.kn x (hf.argIn hi hx)).1 (hh x hx) (of_decide_eq_true ho)
 ·intro hh x hx
  exact (h.kn x (hf.argIn hi hx)).2 (fun ho => hh x hx (decide_eq_true ho))
def Stuck (n : Netlist) (k : Int) (done : List Int) : Prop := ∀ i, CombAt n i → i < k → Open n done (n.cell i).out → need n done i ≠ 0
theorem LD.ki {done : List Int} {kn : List Bool} {left : Int} (h : LD n done kn left) (hs : Stuck n n.cells.length done) : KI n done [] ((List.range n.cells.length).map (fun (i : Nat) => (need n done (i : Int) : Int))) where
 nd := by simpa using h.nd
 cm := fun x hx => h.cm x (by simpa using hx)
 hrem := fun i hi => by
  have hb := hi.1
  rw [List.getD_eq_getElem?_getD, List.getElem?_map, List.getElem?_range om]
  simp only [Option.map_some, Option.getD_some]
  rw [show ((i.toNat : Nat) : Int) = i by omega]
 full := fun i hi => by
  rw [List.append_nil]
  constructor
  ·intro hm
   obtain ⟨p, s, e⟩ := List.append_of_mem hm
   have := h.topo p i s e
   rw [need_zero] at this ⊢
   intro x hx hc
   obtain ⟨j, hj, e2⟩ := this x hx hc
   exact ⟨j, by rw [e]; simp [hj], e2⟩
  ·intro hz
   refine Classical.byContradiction fun hn => hs i hi hi.1.2 ⟨⟨i, hi, rfl⟩, fun j hj e => hn ?_⟩ hz
   have := hf.unique (h.cm j hj).drives (e ▸ hi.drives)
   exact this ▸ hj
 topo := h.topo
end
theorem LD.pos {n : Netlist} {done : List Int} {kn : List Bool} {left : Int} (h : LD n done kn left) : 0 ≤ left ∧ left ≤ n.cells.length := by
 have hnd : (seqL n n.cells.length ++ done).Nodup := by
  rw [List.nodup_append]
  refine ⟨seqL_nodup _ _, h.nd, fun a ha b hb e => ?_⟩
  subst e
  exact (mem_seqL.1 ha).2 (h.cm a hb).2
 have := length_le_of_subset (m := (List.range n.cells.length).map (fun (i : Nat) => (i : Int))) hnd (fun x hx => by
  have hx' : 0 ≤ x ∧ x < n.cells.length := by
   rcases List.mem_append.1 hx with hx | hx
   ·exact (mem_seqL.1 hx).1
   ·exact (h.cm x hx).1
  exact List.mem_map.2 ⟨x.toNat, List.mem_range.2 om, om⟩)
 rw [List.length_append, List.length_map, List.length_range] at this
 have hl := h.left
 omega
def Rnd (n : Netlist) (k left0 : Int) (kn : List Bool) (left : Int) (more : Bool) : Prop := ∃ done, LD n done kn left ∧ left ≤ left0 ∧ (more = true → left < left0) ∧ (more = false → Stuck n k done)
theorem Rnd.seq {n : Netlist} {k : Nat} {left0 left : Int} {kn : List Bool} {more : Bool} (h : Rnd n k left0 kn left more) (hc : ¬ Comb (n.cells.getD k default).kind) : Rnd n ((k + 1 : Nat) : Int) left0 kn left more := by
 obtain ⟨done, h1, h2, h3, h4⟩ := h
 refine ⟨done, h1, h2, h3, fun hm i hi h0 => h4 hm i hi (lt_succ_of hc hi h0)⟩
section
variable {n : Netlist} (hf : Formed n) {k : Nat} {left0 left : Int} {kn : List Bool} {more : Bool}
include hf
theorem Rnd.skip (h : Rnd n k left0 kn left more) (hk : k < n.cells.length) (hc : kn.getD (n.cells.getD k default).out.toNat false = true ∨ ¬ ∀ x ∈ (n.cells.getD k default).args, kn.getD x.toNat false = true) (hcm : Comb (n.cells.getD k default).kind) : Rnd n ((k + 1 : Nat) : Int) left0 kn left more := by
 obtain ⟨done, h1, h2, h3, h4⟩ := h
 have hi : CombAt n (k : Int) := ⟨⟨om, om⟩, hcm⟩
 refine ⟨done, h1, h2, h3, fun hm i hii h0 => ?_⟩
 by_cases e : i = k
 ·subst e
  intro ho hz
  rcases hc with hc | hc
  ·exact (h1.kn _ (hf.outIn hi.drives)).1 hc ho
  ·exact hc ((h1.known hf hi.1).2 hz)
 ·exact h4 hm i hii om
theorem Rnd.step (h : Rnd n k left0 kn left more) (hk : k < n.cells.length) (hl : kn.length = n.widths.length) (h1 : kn.getD (n.cells.getD k default).out.toNat false = false) (h2 : ∀ x ∈ (n.cells.getD k default).args, kn.getD x.toNat false = true) (hcm : Comb (n.cells.getD k default).kind) :
  Rnd n ((k + 1 : Nat) : Int) left0 (kn.set (n.cells.getD k default).out.toNat true) (left - 1) true := by
 obtain ⟨done, a1, a2, a3, a4⟩ := h
 have hi : CombAt n (k : Int) := ⟨⟨om, om⟩, hcm⟩
 refine ⟨done ++ [(k : Int)], a1.step hf hl hi h1 ((a1.known hf hi.1).1 h2), om, fun _ => by omega, fun h => (by cases h)⟩
end
theorem KN0.next {n : Netlist} (hf : Formed n) {k : Nat} {kn : List Bool} (h : KN0 n k kn) (hk : k < n.cells.length) (hl : kn.length = n.widths.length) :
  (¬ Comb (n.cells.getD k default).kind → 0 ≤ (n.cells.getD k default).out → KN0 n (k + 1) (kn.set (n.cells.getD k default).out.toNat true)) ∧ (Comb (n.cells.getD k default).kind → KN0 n (k + 1) kn ∧ 0 ≤ (n.cells.getD k default).out) ∧
  (¬ 0 ≤ (n.cells.getD k default).out → KN0 n (k + 1) kn) ∧ (0 ≤ (n.cells.getD k default).out → (n.cells.getD k default).out < n.widths.length) := by
 obtain ⟨_, _, a3, a4⟩ := hf.cells k hk
 refine ⟨fun hc ho => ?_, fun hc => ⟨h.skip (.inl hc), ?_⟩, fun ho => ?_, fun ho => ?_⟩
 ·have h7 : (n.cells.getD k default).kind ≠ 7 := fun h7 => by have := a3 h7; omega
  exact h.step hk hl hc h7 (a4 h7)
 ·have h7 : (n.cells.getD k default).kind ≠ 7 := fun h7 => by rw [h7] at hc; revert hc; unfold Comb; omega
  exact (a4 h7).1
 ·have h7 : (n.cells.getD k default).kind = 7 := Classical.byContradiction fun h7 => ho (a4 h7).1
  exact h.skip (.inr h7)
 ·have h7 : (n.cells.getD k default).kind ≠ 7 := fun h7 => by have := a3 h7; omega
  exact (a4 h7).2
theorem Rnd.bd {n : Netlist} (hf : Formed n) {k left0 left : Int} {kn : List Bool} {more : Bool} (h : Rnd n k left0 kn left more) : 0 ≤ left ∧ left ≤ n.cells.length := by
 obtain ⟨done, b1, b2, b3, b4⟩ := h
 exact b1.pos
end Go.Proofs.Ytligpghohcfpnaa
/- The empty netlist. -/
namespace Go.Proofs.Ytligpghohcfpnaa
open Go Go.AW
end Go.Proofs.Ytligpghohcfpnaa
/- The widths of the specification, whatever the kind. -/
namespace Go.Proofs.Ytligpghohcfpnaa
open Go Go.AW Go.Proofs
end Go.Proofs.Ytligpghohcfpnaa
