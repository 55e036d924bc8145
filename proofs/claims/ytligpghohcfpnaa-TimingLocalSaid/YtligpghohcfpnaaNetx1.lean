/- The longest path, step by step, in plain Lean. -/
import Derived.Test.YtligpghohcfpnaaNetx0
import Derived.Test.YtligpghohcfpnaaAWx3
set_option linter.unusedSimpArgs false
set_option linter.unusedVariables false
set_option linter.unusedSectionVars false
set_option maxRecDepth 4000
set_option maxHeartbeats 8000000
namespace Go.Proofs.Ytligpghohcfpnaa
open Go Go.AW Go.Proofs

def Lnk (n : Netlist) (at_ : List Int) (y x : Int) : Prop := ∃ i, Drives n i y ∧ Comb (n.cell i).kind ∧ x ∈ (n.cell i).args ∧ at_.getD y.toNat 0 = at_.getD x.toNat 0 + dly n (n.cell i)
def Rt0 (n : Netlist) (at_ : List Int) (y : Int) : Prop := ∃ i, Drives n i y ∧ at_.getD y.toNat 0 = dly n (n.cell i) ∧ (¬ Comb (n.cell i).kind ∨ (n.cell i).kind = 1)
structure PP (n : Netlist) (l at_ : List Int) (w0 : Int) (st : List Int) (last : Int) : Prop where
 rk : 0 ≤ last → ∀ i, Drives n i last → st.length + l.idxOf i + 1 ≤ n.cells.length
 len : st.length ≤ n.cells.length
 in_ : 0 ≤ last → In last n.widths.length
 stin : ∀ j, j < st.length → In (st.getD j 0) n.widths.length
 link : ∀ j, j + 1 < st.length → Lnk n at_ (st.getD j 0) (st.getD (j + 1) 0)
 nxt : 0 ≤ last → 0 < st.length → Lnk n at_ (st.getD (st.length - 1) 0) last
 end_ : last < 0 → 0 < st.length ∧ Rt0 n at_ (st.getD (st.length - 1) 0)
 fst : (0 < st.length → st.getD 0 0 = w0) ∧ (st.length = 0 → last = w0)
def Best (at_ l : List Int) (last : Int) : Prop := (l = [] ∧ last = -1) ∨ (last ∈ l ∧ ∀ x ∈ l, at_.getD x.toNat 0 ≤ at_.getD last.toNat 0)
theorem Best.nil {at_ l : List Int} : Best at_ (l.take 0) (-1) := .inl ⟨by simp, rfl⟩
theorem Best.step {at_ l : List Int} {k : Nat} {last : Int} (h : Best at_ (l.take k) last) (hk : k < l.length) (h0 : ∀ x ∈ l, 0 ≤ x) (hc : last < 0 ∨ at_.getD (l.getD k 0).toNat 0 > at_.getD last.toNat 0) : Best at_ (l.take (k + 1)) (l.getD k 0) := by
 rw [take_one (d := (0 : Int)) hk]
 refine .inr ⟨by simp, fun x hx => ?_⟩
 rcases List.mem_append.1 hx with hx | hx
 ·rcases h with ⟨h1, _⟩ | ⟨h1, h2⟩
  ·rw [h1] at hx; cases hx
  ·have := h2 x hx
   rcases hc with hc | hc
   ·have := h0 last (List.mem_of_mem_take h1); omega
   ·omega
 ·rw [List.mem_singleton.1 hx]; exact Int.le_refl _
theorem Best.keep {at_ l : List Int} {k : Nat} {last : Int} (h : Best at_ (l.take k) last) (hk : k < l.length) (hc : ¬ (last < 0 ∨ at_.getD (l.getD k 0).toNat 0 > at_.getD last.toNat 0)) : Best at_ (l.take (k + 1)) last := by
 rw [take_one (d := (0 : Int)) hk]
 rcases h with ⟨h1, h2⟩ | ⟨h1, h2⟩
 ·omega
 ·refine .inr ⟨List.mem_append.2 (.inl h1), fun x hx => ?_⟩
  rcases List.mem_append.1 hx with hx | hx
  ·exact h2 x hx
  ·rw [List.mem_singleton.1 hx]; omega
theorem Best.in_ {at_ l : List Int} {k : Nat} {last : Int} (h : Best at_ (l.take k) last) (h0 : 0 ≤ last) : last ∈ l := by
 rcases h with ⟨_, h2⟩ | ⟨h1, _⟩
 ·omega
 ·exact List.mem_of_mem_take h1
theorem getD_app1 {st : List Int} {x : Int} {j : Nat} (h : j < st.length) : (st ++ [x]).getD j 0 = st.getD j 0 := by
 rw [List.getD_eq_getElem?_getD, List.getElem?_append_left h, List.getD_eq_getElem?_getD]
theorem getD_app2 {st : List Int} {x : Int} : (st ++ [x]).getD st.length 0 = x := by
 rw [List.getD_eq_getElem?_getD, List.getElem?_append_right (Nat.le_refl _), Nat.sub_self]; rfl
section
variable {n : Netlist} {l at_ st : List Int} {w0 last : Int}
theorem PP.init (hf : Formed n) (ho : Ord n l) (hw : In w0 n.widths.length) : PP n l at_ w0 [] w0 where
 rk := fun _ i hd => by
  have h1 := List.idxOf_lt_length_of_mem (ho.mem hd.1)
  have h2 := ho.len
  simp only [List.length_nil]; omega
 len := by simp
 in_ := fun _ => hw
 stin := fun j h => by simp at h
 link := fun j h => by simp at h
 nxt := fun _ h => by simp at h
 end_ := fun h => by unfold In at hw; omega
 fst := ⟨fun h => by simp at h, fun _ => rfl⟩
theorem PP.more (h : PP n l at_ w0 st last) (h0 : 0 ≤ last) : (∀ j, j < (st ++ [last]).length → In ((st ++ [last]).getD j 0) n.widths.length) ∧ (∀ j, j + 1 < (st ++ [last]).length → Lnk n at_ ((st ++ [last]).getD j 0) ((st ++ [last]).getD (j + 1) 0)) ∧
  (st ++ [last]).getD ((st ++ [last]).length - 1) 0 = last ∧ (st ++ [last]).getD 0 0 = w0 := by
 have hl : (st ++ [last]).length = st.length + 1 := by simp
 refine ⟨fun j hj => ?_, fun j hj => ?_, ?_, ?_⟩
 ·rcases Nat.lt_or_ge j st.length with h1 | h1
  ·rw [getD_app1 h1]; exact h.stin j h1
  ·obtain rfl : j = st.length := by omega
   rw [getD_app2]; exact h.in_ h0
 ·rcases Nat.lt_or_ge (j + 1) st.length with h1 | h1
  ·rw [getD_app1 h1, getD_app1 (by omega)]; exact h.link j h1
  ·have e : j + 1 = st.length := by omega
   rw [e, getD_app2, getD_app1 (by omega), show j = st.length - 1 by omega]
   exact h.nxt h0 (by omega)
 ·rw [hl, Nat.add_sub_cancel, getD_app2]
 ·rcases Nat.eq_zero_or_pos st.length with h1 | h1
  ·have : st = [] := List.eq_nil_of_length_eq_zero h1
   subst this
   exact h.fst.2 rfl
  ·rw [getD_app1 h1]; exact h.fst.1 h1
theorem PP.lt (hf : Formed n) (h : PP n l at_ w0 st last) (h0 : 0 ≤ last) : st.length + 1 ≤ n.cells.length := by
 obtain ⟨i, hi⟩ := hf.driver (h.in_ h0)
 have := h.rk h0 i hi
 omega
structure PD (n : Netlist) (at_ : List Int) (w0 : Int) (st : List Int) : Prop where
 pos : 0 < st.length
 len : st.length ≤ n.cells.length
 stin : ∀ j, j < st.length → In (st.getD j 0) n.widths.length
 link : ∀ j, j + 1 < st.length → Lnk n at_ (st.getD j 0) (st.getD (j + 1) 0)
 root : Rt0 n at_ (st.getD (st.length - 1) 0)
 fst : st.getD 0 0 = w0
theorem PP.stop (hf : Formed n) (ha : Arv n at_) {cs : List Cell} (hc : DrvC n cs) (h : PP n l at_ w0 st last) (h0 : 0 ≤ last) (hk : ¬ Comb (cs.getD last.toNat default).kind) : PD n at_ w0 (st ++ [last]) := by
 obtain ⟨h1, h2, h3, h4⟩ := h.more h0
 obtain ⟨i, hi⟩ := hf.driver (h.in_ h0)
 rw [hc.at_ i last hi] at hk
 refine ⟨by simp, by simp; have := h.lt hf h0; omega, h1, h2, ?_, h4⟩
 rw [h3]
 refine ⟨i, hi, ?_, .inl hk⟩
 rw [ha.eq i last hi]
 unfold arrC
 rw [if_neg hk]; omega
theorem PP.done (h : PP n l at_ w0 st last) (h0 : last < 0) : PD n at_ w0 st :=
 ⟨(h.end_ h0).1, h.len, h.stin, h.link, (h.end_ h0).2, h.fst.1 (h.end_ h0).1⟩
theorem PP.go (hf : Formed n) (ho : Ord n l) (ha : Arv n at_) (h0a : ∀ w, In w n.widths.length → 0 ≤ at_.getD w.toNat 0) {cs : List Cell} (hc : DrvC n cs) (h : PP n l at_ w0 st last) (h0 : 0 ≤ last) (hk : Comb (cs.getD last.toNat default).kind) {k : Nat} {nl : Int} (hkl : k = (cs.getD last.toNat default).args.length)
  (hb : Best at_ ((cs.getD last.toNat default).args.take k) nl) : PP n l at_ w0 (st ++ [last]) nl := by
 obtain ⟨h1, h2, h3, h4⟩ := h.more h0
 obtain ⟨i, hi⟩ := hf.driver (h.in_ h0)
 rw [hc.at_ i last hi] at hk hkl hb
 rw [hkl, List.take_length] at hb
 have hlt := h.rk h0 i hi
 have hl : (st ++ [last]).length = st.length + 1 := by simp
 have harr : at_.getD last.toNat 0 = maxA at_ (n.cell i).args + dly n (n.cell i) := by
  rw [ha.eq i last hi]; unfold arrC; rw [if_pos hk]
 have hmem : 0 ≤ nl → nl ∈ (n.cell i).args := fun h5 => by
  rcases hb with ⟨_, h6⟩ | ⟨h6, _⟩
  ·omega
  ·exact h6
 exact {
  rk := fun h5 j hj => by
   obtain ⟨j', hj', hlt'⟩ := ho.lt hi.1 hk (hmem h5)
   rw [hf.unique hj hj', hl]; omega
  len := by rw [hl]; omega
  in_ := fun h5 => hf.argIn hi.1 (hmem h5)
  stin := h1
  link := h2
  nxt := fun h5 _ => by
   rw [h3]
   refine ⟨i, hi, hk, hmem h5, ?_⟩
   rw [harr]
   rcases hb with ⟨_, h6⟩ | ⟨h6, h7⟩
   ·omega
   ·have h8 := maxA_ge (at_ := at_) h6
    have h9 := (maxA_le (at_ := at_) (l := (n.cell i).args) (B := at_.getD nl.toNat 0) (h0a nl (hf.argIn hi.1 h6)) h7).2
    omega
  end_ := fun h5 => by
   refine ⟨by rw [hl]; omega, ?_⟩
   rw [h3]
   rcases hb with ⟨h6, _⟩ | ⟨h6, _⟩
   ·refine ⟨i, hi, ?_, .inr ?_⟩
    ·rw [harr, h6]; simp [maxA]
    ·have hok := (hf.cellAt hi.1).2.1
     have hlen : (n.cell i).args.length = 0 := by rw [h6]; rfl
     unfold Shaped at hok
     unfold Comb at hk
     rcases hok with hx | ⟨hx, hy, hz, _⟩ | hx | hx | hx | hx | hx | hx | hx | hx
     ·exact hx.1
     ·rw [hlen] at hz; exact absurd hz.symm hy
     all_goals omega
   ·have := (hf.argIn hi.1 h6).1; omega
  fst := ⟨fun _ => h4, fun h5 => by rw [hl] at h5; omega⟩ }
end
end Go.Proofs.Ytligpghohcfpnaa
/- The longest path, forwards, in plain Lean. -/
namespace Go.Proofs.Ytligpghohcfpnaa
open Go Go.AW Go.Proofs

structure WPath (n : Netlist) (at_ st : List Int) (d : Int) : Prop where
 pos : 0 < st.length
 len : st.length ≤ n.cells.length
 stin : ∀ j, j < st.length → In (st.getD j 0) n.widths.length
 link : ∀ j, j + 1 < st.length → Lnk n at_ (st.getD (j + 1) 0) (st.getD j 0)
 root : Rt0 n at_ (st.getD 0 0)
 end_ : ∃ a, (st.getD (st.length - 1) 0, a) ∈ allL n ∧ d = at_.getD (st.getD (st.length - 1) 0).toNat 0 + a
 max : ∀ e ∈ allL n, at_.getD e.1.toNat 0 + e.2 ≤ d
theorem getD_rev {l : List Int} {j : Nat} (h : j < l.length) : l.reverse.getD j 0 = l.getD (l.length - 1 - j) 0 := by
 rw [List.getD_eq_getElem?_getD, List.getElem?_eq_getElem (by simpa using h), List.getD_eq_getElem?_getD, List.getElem?_eq_getElem (by omega)]
 simp
section
variable {n : Netlist} {l at_ st : List Int} {w0 last d a : Int} {cs : List Cell}
theorem PD.rev (h : PD n at_ w0 st) (he : (w0, a) ∈ allL n) (hd : d = at_.getD w0.toNat 0 + a) (hm : ∀ e ∈ allL n, at_.getD e.1.toNat 0 + e.2 ≤ d) : WPath n at_ st.reverse d := by
 have hp := h.pos
 have hl : st.reverse.length = st.length := by simp
 refine ⟨by omega, by rw [hl]; exact h.len, fun j hj => ?_, fun j hj => ?_, ?_, ⟨a, ?_, ?_⟩, hm⟩
 ·rw [getD_rev (by omega)]; exact h.stin _ (by omega)
 ·rw [getD_rev (by omega), getD_rev (by omega)]
  have := h.link (st.length - 1 - (j + 1)) (by omega)
  rw [show st.length - 1 - (j + 1) + 1 = st.length - 1 - j by omega] at this
  exact this
 ·rw [getD_rev (by omega), Nat.sub_zero]; exact h.root
 ·rw [hl, getD_rev (by omega), show st.length - 1 - (st.length - 1) = 0 by omega, h.fst]; exact he
 ·rw [hl, getD_rev (by omega), show st.length - 1 - (st.length - 1) = 0 by omega, h.fst]; exact hd
theorem PP.args (hf : Formed n) (hc : DrvC n cs) (h : PP n l at_ w0 st last) (h0 : 0 ≤ last) : ∀ x ∈ (cs.getD last.toNat default).args, In x n.widths.length := by
 obtain ⟨i, hi⟩ := hf.driver (h.in_ h0)
 rw [hc.at_ i last hi]
 exact fun x hx => hf.argIn hi.1 hx
theorem PP.alen (hM : VT n) (hc : DrvC n cs) (h : PP n l at_ w0 st last) (h0 : 0 ≤ last) : (cs.getD last.toNat default).args.length ≤ 200 := by
 obtain ⟨i, hi⟩ := hM.formed.driver (h.in_ h0)
 have h1 := hi.1
 rw [hc.at_ i last hi]
 exact hM.nargs _ (getD_in (by omega))
end
end Go.Proofs.Ytligpghohcfpnaa
/- Powers of two, counted; the example of the statements on timing. -/
namespace Go.Proofs.Ytligpghohcfpnaa
open Go Go.AW Go.Proofs

structure LevI (x : Int) (k p : Nat) : Prop where
 p : p = 2 ^ k
 lt : k = 0 ∨ 2 ^ (k - 1) < x.toNat
theorem LevI.init {x : Int} : LevI x 0 1 := ⟨rfl, .inl rfl⟩
theorem LevI.step {x : Int} {k p : Nat} (h : LevI x k p) (hx : (p : Int) < x) : LevI x (k + 1) (2 * p) := by
 have h1 := h.p
 refine ⟨by rw [Nat.pow_succ, h1]; omega, .inr ?_⟩
 rw [Nat.add_sub_cancel]; omega
theorem LevI.le {x : Int} {k p : Nat} (h : LevI x k p) (hx : x ≤ 256) : k ≤ 8 ∧ 1 ≤ p ∧ p ≤ 256 := by
 have hk : k ≤ 8 := by
  rcases h.lt with h1 | h1
  ·omega
  ·rcases Nat.lt_or_ge k 9 with h2 | h2
   ·omega
   ·have : 2 ^ 8 ≤ 2 ^ (k - 1) := Nat.pow_le_pow_right (by omega) (by omega)
    omega
 have h1 : 2 ^ k ≤ 2 ^ 8 := Nat.pow_le_pow_right (by omega) hk
 have h2 : 1 ≤ 2 ^ k := Nat.one_le_two_pow
 have h3 := h.p
 refine ⟨hk, by omega, by omega⟩
theorem LevI.done {x : Int} {k p : Nat} (h : LevI x k p) (h0 : 0 ≤ x) (hx : ¬ (p : Int) < x) : k = lev x.toNat := by
 have h1 := h.p
 refine (lev_of (by omega) ?_).symm
 exact h.lt

def nA : Netlist := ⟨ByteArray.empty, [1, 1], [⟨4, 0, 0, [1, 0], 0, 0⟩, ⟨1, 0, 1, [], 0, 0⟩], [], [], [], [], [], 1, 0, []⟩
theorem nA_formed : Formed nA where
 name := ⟨fun i h => by have h : i < 0 := h; omega, by decide⟩
 ncells := by decide
 nwidths := by decide
 nmems := by decide
 nstreams := by decide
 nactive := rfl
 ndata := rfl
 wide := fun j hj => by
  have hj : j < 2 := hj
  rcases j with _ | _ | j
  ·decide
  ·decide
  ·omega
 mems := fun j hj => by cases hj
 strs := fun j hj => by cases hj
 freeze := by decide
 done := by decide
 rets := fun r hr => by cases hr
 cells := fun j hj => by
  have hj : j < 2 := hj
  rcases j with _ | _ | j
  ·refine ⟨fun x hx => ?_, ?_, fun h => ?_, fun _ => ?_⟩
   ·have hx : x ∈ ([1, 0] : List Int) := hx
    simp at hx
    rcases hx with rfl | rfl <;> decide
   ·exact .inr (.inr (.inr (.inl ⟨rfl, rfl, rfl, rfl⟩)))
   ·exact absurd h (by decide)
   ·show In 0 2; decide
  ·refine ⟨fun x hx => ?_, ?_, fun h => ?_, fun _ => ?_⟩
   ·cases hx
   ·exact .inl ⟨rfl, rfl, rfl, rfl⟩
   ·exact absurd h (by decide)
   ·show In 1 2; decide
  ·omega
 driven := fun w hw => by
  have hw : w < 2 := hw
  rcases w with _ | _ | w
  ·decide
  ·decide
  ·omega
theorem nA_fit : Fit nA where
 freeze := rfl
 done := rfl
 strs := fun j hj => by cases hj
 cells := fun j hj => by
  have hj : j < 2 := hj
  rcases j with _ | _ | j
  ·exact .inr (.inr (.inr (.inl ⟨rfl, rfl, rfl, rfl⟩)))
  ·exact .inl ⟨rfl, rfl⟩
  ·omega
theorem nA_acyclic : Acyclic nA := ⟨fun _ => 0, fun i j hi _ h => by
 exfalso
 obtain ⟨⟨h1, h2⟩, h3⟩ := hi
 have h2 : i < 2 := h2
 have : i = 0 ∨ i = 1 := by omega
 rcases this with rfl | rfl
 ·exact absurd h3 (by decide)
 ·cases h⟩
theorem nA_vt : VT nA where
 formed := nA_formed
 fit := nA_fit
 acyclic := nA_acyclic
 small := {
  name := by decide
  widths := by decide
  cells := by decide
  args := fun c hc => by
   have hc : c ∈ ([⟨4, 0, 0, [1, 0], 0, 0⟩, ⟨1, 0, 1, [], 0, 0⟩] : List Cell) := hc
   simp at hc
   rcases hc with rfl | rfl <;> simp
  tot := by decide
  nums := fun c hc => by
   have hc : c ∈ ([⟨4, 0, 0, [1, 0], 0, 0⟩, ⟨1, 0, 1, [], 0, 0⟩] : List Cell) := hc
   simp at hc
   rcases hc with rfl | rfl <;> simp
  memNames := fun m hm => by cases hm
  strNames := fun m hm => by cases hm
  ins := by decide
  mems := by decide
  streams := by decide
  active := by decide
  data := by decide
  rets := by decide }
 ncells := by decide
 nwidths := by decide
 nargs := fun c hc => by
  have hc : c ∈ ([⟨4, 0, 0, [1, 0], 0, 0⟩, ⟨1, 0, 1, [], 0, 0⟩] : List Cell) := hc
  simp at hc
  rcases hc with rfl | rfl <;> simp
 nrets := by decide
 nstreams := by decide
 nins := by decide
theorem nA_all : allL nA = [(1, 100), (0, 60), (1, 100), (0, 0)] := by decide
theorem nA_path {at_ st : List Int} {d : Int} (ha : Arv nA at_) (h : WPath nA at_ st d) : d = 100 ∧ st.length = 1 := by
 have d0 : Drives nA 0 0 := ⟨⟨by decide, by decide⟩, by decide, rfl⟩
 have d1 : Drives nA 1 1 := ⟨⟨by decide, by decide⟩, by decide, rfl⟩
 have a0 : at_.getD 0 0 = 30 := (ha.eq 0 0 d0).trans (by
  have : arrC nA at_ (nA.cell 0) = 0 + 30 := rfl
  rw [this]; rfl)
 have a1 : at_.getD 1 0 = 0 := (ha.eq 1 1 d1).trans (by
  have : arrC nA at_ (nA.cell 1) = maxA at_ [] + 0 := rfl
  rw [this]; rfl)
 have hm := h.max (1, 100) (by rw [nA_all]; simp)
 obtain ⟨a, he, hd⟩ := h.end_
 rw [nA_all] at he
 have hm : at_.getD 1 0 + 100 ≤ d := hm
 simp only [List.mem_cons, List.not_mem_nil, or_false, Prod.mk.injEq] at he
 have key : st.getD (st.length - 1) 0 = 1 ∧ d = 100 := by
  rcases he with ⟨h1, h2⟩ | ⟨h1, h2⟩ | ⟨h1, h2⟩ | ⟨h1, h2⟩ <;> rw [h1] at hd
  ·have hd : d = at_.getD 1 0 + a := hd
   exact ⟨h1, by omega⟩
  ·have hd : d = at_.getD 0 0 + a := hd
   omega
  ·have hd : d = at_.getD 1 0 + a := hd
   exact ⟨h1, by omega⟩
  ·have hd : d = at_.getD 0 0 + a := hd
   omega
 refine ⟨key.2, Classical.byContradiction fun hne => ?_⟩
 have hp := h.pos
 obtain ⟨i, hi, _, hx, _⟩ := h.link (st.length - 2) (by omega)
 rw [show st.length - 2 + 1 = st.length - 1 by omega, key.1] at hi
 rw [nA_formed.unique hi d1] at hx
 cases hx
end Go.Proofs.Ytligpghohcfpnaa
/- A valid netlist with one more cell behind the others, in plain Lean. -/
namespace Go.Proofs.Ytligpghohcfpnaa
open Go Go.AW Go.Proofs

def xorC (n : Netlist) (x : Int) : Cell := ⟨2, 11, (n.widths.length : Int), [x, x], 0, 0⟩
def moreN (n : Netlist) (x : Int) : Netlist := ⟨n.name, n.widths ++ [n.widths.getD x.toNat 0], n.cells ++ [xorC n x], n.ins, n.mems, n.streams, n.active, n.data, n.freeze, n.done, n.rets⟩
section
variable {n : Netlist} {x : Int}
theorem more_wd {w : Int} (hw : In w n.widths.length) : (moreN n x).wd w = n.wd w := by
 unfold In at hw
 unfold Netlist.wd
 exact getD_app_l (by omega)
theorem more_wdN : (moreN n x).wd (n.widths.length : Int) = n.wd x := by
 unfold Netlist.wd
 rw [Int.toNat_natCast]
 show (n.widths ++ [_]).getD _ 0 = _
 rw [List.getD_eq_getElem?_getD, List.getElem?_append_right (Nat.le_refl _), Nat.sub_self]; rfl
theorem in_more {w : Int} (hw : In w n.widths.length) : In w (moreN n x).widths.length := by
 unfold In at hw ⊢
 show 0 ≤ w ∧ w < (((n.widths ++ [_]).length : Nat) : Int)
 rw [List.length_append]; simp; omega
theorem more_clen : (moreN n x).cells.length = n.cells.length + 1 := by show (n.cells ++ [_]).length = _; simp
theorem more_wlen : (moreN n x).widths.length = n.widths.length + 1 := by show (n.widths ++ [_]).length = _; simp
theorem more_cell {i : Nat} (hi : i < n.cells.length) : (moreN n x).cells.getD i default = n.cells.getD i default := getD_app_l hi
theorem more_cellN : (moreN n x).cells.getD n.cells.length default = xorC n x := by
 show (n.cells ++ [_]).getD _ _ = _
 rw [List.getD_eq_getElem?_getD, List.getElem?_append_right (Nat.le_refl _), Nat.sub_self]; rfl
theorem more_ok {c : Cell} (h : CellOK n c) : CellOK (moreN n x) c := ⟨fun y hy => in_more (h.1 y hy), h.2.1, h.2.2.1, fun h7 => in_more (h.2.2.2 h7)⟩
theorem more_formed (hf : Formed n) (hc : n.cells.length ≤ 1000) (hw : n.widths.length ≤ 1000) (hx : In x n.widths.length) : Formed (moreN n x) where
 name := hf.name
 ncells := by rw [more_clen]; omega
 nwidths := by rw [more_wlen]; omega
 nmems := hf.nmems
 nstreams := hf.nstreams
 nactive := hf.nactive
 ndata := hf.ndata
 wide := fun j hj => by
  have h1 : ((moreN n x).widths ++ (moreN n x).ins).getD j 0 ∈ (moreN n x).widths ++ (moreN n x).ins := getD_in hj
  have hin : ∀ w ∈ n.ins, Wide w := fun w hw => by
   obtain ⟨i, hi, rfl⟩ := List.mem_iff_getElem.1 hw
   have := hf.wide (n.widths.length + i) (by rw [List.length_append]; omega)
   rw [List.getD_eq_getElem?_getD, List.getElem?_append_right (by omega), show n.widths.length + i - n.widths.length = i by omega, List.getElem?_eq_getElem hi] at this
   exact this
  rcases List.mem_append.1 h1 with h2 | h2
  ·rcases List.mem_append.1 (show _ ∈ n.widths ++ [n.widths.getD x.toNat 0] from h2) with h3 | h3
   ·exact hf.wides _ h3
   ·rw [List.mem_singleton.1 h3]
    unfold In at hx
    exact hf.wides _ (getD_mem (by omega))
  ·exact hin _ h2
 mems := hf.mems
 strs := fun j hj => by
  obtain ⟨a, b, c, d, e⟩ := hf.strs j hj
  exact ⟨a, b, in_more c, fun h => in_more (d h), e⟩
 freeze := in_more hf.freeze
 done := in_more hf.done
 rets := fun r hr => in_more (hf.rets r hr)
 cells := fun j hj => by
  rw [more_clen] at hj
  rcases Nat.lt_or_ge j n.cells.length with h1 | h1
  ·rw [more_cell h1]; exact more_ok (hf.cells j h1)
  ·obtain rfl : j = n.cells.length := by omega
   rw [more_cellN]
   refine ⟨fun y hy => ?_, ?_, fun h => ?_, fun _ => ?_⟩
   ·have hy : y ∈ [x, x] := hy
    simp at hy
    rw [hy]; exact in_more hx
   ·exact .inr (.inl ⟨rfl, by show opArgs 11 ≠ 0; decide, rfl, rfl, rfl⟩)
   ·exact absurd h (by show ¬ (2 : Int) = 7; decide)
   ·show In (n.widths.length : Int) _
    rw [more_wlen]; unfold In; omega
 driven := fun w hw => by
  rw [more_wlen] at hw
  show dcount (n.cells ++ [xorC n x]) w = 1
  rw [dcount_app]
  rcases Nat.lt_or_ge w n.widths.length with h1 | h1
  ·rw [hf.driven w h1, dcount_zero (fun c hc h => ?_)]
   rw [List.mem_singleton.1 hc] at h
   have : (xorC n x).out = (n.widths.length : Int) := rfl
   omega
  ·obtain rfl : w = n.widths.length := by omega
   rw [dcount_zero (l := n.cells) (fun c hc h => ?_)]
   ·simp [dcount, xorC]
   ·have := (hf.cell hc).2.2.2 h.1
    unfold In at this; omega
theorem more_fits {c : Cell} (hok : CellOK n c) (h0 : 0 < n.widths.length) (h : Fits n c) : Fits (moreN n x) c := by
 have hav : ∀ k, (moreN n x).av c k = n.av c k := fun k => by
  unfold Netlist.av
  rcases Nat.lt_or_ge k c.args.length with h1 | h1
  ·exact more_wd (hok.1 _ (getD_mem h1))
  ·rw [List.getD_eq_getElem?_getD, List.getElem?_eq_none h1]
   exact more_wd (by show In 0 _; unfold In; omega)
 have how : (moreN n x).ow c = n.ow c := by
  unfold Netlist.ow
  split
  ·rename_i h0
   refine more_wd (hok.2.2.2 (fun h7 => ?_))
   have := hok.2.2.1 h7; omega
  ·rfl
 unfold Fits MuxFit at h ⊢
 simp only [hav, how]
 exact h
theorem more_fit (hf : Formed n) (ht : Fit n) (hx : In x n.widths.length) : Fit (moreN n x) where
 freeze := (more_wd hf.freeze).trans ht.freeze
 done := (more_wd hf.done).trans ht.done
 strs := fun j hj => by
  obtain ⟨_, _, a3, a4, _⟩ := hf.strs j hj
  obtain ⟨b1, b2⟩ := ht.strs j hj
  exact ⟨(more_wd a3).trans b1, fun h => (more_wd (a4 h)).trans (b2 h)⟩
 cells := fun j hj => by
  rw [more_clen] at hj
  have h0 : 0 < n.widths.length := by unfold In at hx; omega
  rcases Nat.lt_or_ge j n.cells.length with h1 | h1
  ·rw [more_cell h1]; exact more_fits (hf.cells j h1) h0 (ht.cells j h1)
  ·obtain rfl : j = n.cells.length := by omega
   rw [more_cellN]
   have e0 : (moreN n x).av (xorC n x) 0 = n.wd x := more_wd hx
   have e1 : (moreN n x).av (xorC n x) 1 = n.wd x := more_wd hx
   have eo : (moreN n x).ow (xorC n x) = n.wd x := by
    unfold Netlist.ow
    rw [if_pos (by show (0 : Int) ≤ (n.widths.length : Int); omega)]
    exact more_wdN
   exact .inr (.inl ⟨rfl, by rw [e0, e1, eo]; exact .inr (.inr (.inr (.inr ⟨by show ¬ Cmp 11; decide, by show (11 : Int) < 21 ∨ 24 < 11; decide, rfl, rfl⟩)))⟩)
theorem sum_ge {l : List Nat} {f : Nat → Nat} {j : Nat} (h : j ∈ l) : f j ≤ (l.map f).sum := by
 induction l with
 | nil => cases h
 | cons y r ih =>
  simp only [List.map_cons, List.sum_cons]
  rcases List.mem_cons.1 h with rfl | h
  ·omega
  ·have := ih h; omega
theorem more_acyclic (hf : Formed n) (ha : Acyclic n) (hx : In x n.widths.length) : Acyclic (moreN n x) := by
 obtain ⟨r, hr⟩ := ha
 refine ⟨fun i => if i < n.cells.length then r i else ((List.range n.cells.length).map (fun j : Nat => r (j : Int))).sum + 1, fun i j hi hj ho => ?_⟩
 have hi1 := hi.1; have hj1 := hj.1
 rw [more_clen] at hi1 hj1
 have cell_old : ∀ k : Int, 0 ≤ k → k < n.cells.length → (moreN n x).cell k = n.cell k := fun k h0 h1 => more_cell (by omega)
 have hjold : j < n.cells.length := by
  refine Classical.byContradiction fun hn => ?_
  have e : (moreN n x).cell j = xorC n x := by
   show (moreN n x).cells.getD j.toNat default = _
   rw [show j.toNat = n.cells.length by omega]; exact more_cellN
  rw [e] at ho
  have ho : (n.widths.length : Int) ∈ ((moreN n x).cell i).args := ho
  rcases Int.lt_or_le i n.cells.length with h1 | h1
  ·rw [cell_old i hi1.1 h1] at ho
   have := hf.argIn ⟨hi1.1, h1⟩ ho
   unfold In at this; omega
  ·have e2 : (moreN n x).cell i = xorC n x := by
    show (moreN n x).cells.getD i.toNat default = _
    rw [show i.toNat = n.cells.length by omega]; exact more_cellN
   rw [e2] at ho
   have ho : (n.widths.length : Int) ∈ [x, x] := ho
   simp at ho
   unfold In at hx; omega
 simp only [if_pos hjold]
 rcases Int.lt_or_le i n.cells.length with h1 | h1
 ·rw [if_pos h1]
  have ei := cell_old i hi1.1 h1
  have ej := cell_old j hj1.1 hjold
  rw [ei, ej] at ho
  exact hr i j ⟨⟨hi1.1, h1⟩, by rw [← ei]; exact hi.2⟩ ⟨⟨hj1.1, hjold⟩, by rw [← ej]; exact hj.2⟩ ho
 ·rw [if_neg (by omega)]
  have := sum_ge (f := fun k : Nat => r (k : Int)) (List.mem_range.2 (show j.toNat < n.cells.length by omega))
  simp only [Int.toNat_of_nonneg hj1.1] at this
  omega
theorem more_vt (hM : VT n) (hc : n.cells.length ≤ 900) (hw : n.widths.length ≤ 900) (_ : n.ins.length ≤ 900) (ha : ∀ c ∈ n.cells, c.args.length ≤ 4) (hx : In x n.widths.length) : VT (moreN n x) := by
 have hs := hM.small
 have hargs : ∀ c ∈ (moreN n x).cells, c.args.length ≤ 4 ∧ c.num < 18446744073709551616 := fun c hcm => by
  rcases List.mem_append.1 (show c ∈ n.cells ++ [xorC n x] from hcm) with h | h
  ·exact ⟨ha c h, hs.nums c h⟩
  ·rw [List.mem_singleton.1 h]; exact ⟨by show [x, x].length ≤ 4; simp, by show 0 < 18446744073709551616; omega⟩
 have htot := sum_le4 (fun c hc => (hargs c hc).1)
 exact {
  formed := more_formed hM.formed (by omega) (by omega) hx
  fit := more_fit hM.formed hM.fit hx
  acyclic := more_acyclic hM.formed hM.acyclic hx
  small := {
   name := hs.name
   widths := by rw [more_wlen]; omega
   cells := by rw [more_clen]; omega
   args := fun c hc => by have := (hargs c hc).1; omega
   tot := by rw [more_clen] at htot; omega
   nums := fun c hc => (hargs c hc).2
   memNames := hs.memNames
   strNames := hs.strNames
   ins := hs.ins
   mems := hs.mems
   streams := hs.streams
   active := hs.active
   data := hs.data
   rets := hs.rets }
  ncells := by rw [more_clen]; omega
  nwidths := by rw [more_wlen]; omega
  nargs := fun c hc => by have := (hargs c hc).1; omega
  nrets := hM.nrets
  nstreams := hM.nstreams
  nins := hM.nins }
theorem more_arr (hM : VT n) (hM' : VT (moreN n x)) (hx : In x n.widths.length) {l a b : List Int} (ho : Ord (moreN n x) l) (ha : Arv n a) (hb : Arv (moreN n x) b) : b = a ++ [a.getD x.toNat 0 + 20] := by
 refine Arv.uniq hM'.formed ho hb ?_
 have hl := ha.len
 have hold : ∀ w : Int, In w n.widths.length → (a ++ [a.getD x.toNat 0 + 20]).getD w.toNat 0 = a.getD w.toNat 0 := fun w hw => by
  unfold In at hw
  exact getD_app_l (by omega)
 refine ⟨by rw [more_wlen, List.length_append, hl]; rfl, fun i w hd => ?_⟩
 have hi := hd.1
 rw [more_clen] at hi
 have hdly : ∀ c : Cell, CellOK n c → dly (moreN n x) c = dly n c := fun c hok => by
  unfold dly
  by_cases h1 : c.kind = 1
  ·rw [if_pos h1, if_pos h1]
  ·rw [if_neg h1, if_neg h1]
   by_cases h2 : c.kind = 2
   ·rw [if_pos h2, if_pos h2]
    have h3 := op_len hok h2
    rw [more_wd h3.1]
    unfold Netlist.av
    rw [more_wd (hok.1 _ (getD_mem (by omega)))]
   ·rw [if_neg h2, if_neg h2]
 rcases Int.lt_or_le i n.cells.length with h1 | h1
 ·have ec : (moreN n x).cell i = n.cell i := more_cell (by omega)
  have hd' : Drives n i w := ⟨⟨hi.1, h1⟩, by rw [← ec]; exact hd.2.1, by rw [← ec]; exact hd.2.2⟩
  have hw := hM.formed.outIn hd'
  rw [hold w hw, ha.eq i w hd', ec]
  unfold arrC
  rw [hdly _ (hM.formed.cellAt ⟨hi.1, h1⟩)]
  congr 1
  split
  ·exact maxA_congr (fun y hy => (hold y (hM.formed.argIn ⟨hi.1, h1⟩ hy)).symm)
  ·rfl
 ·have ec : (moreN n x).cell i = xorC n x := by
   show (moreN n x).cells.getD i.toNat default = _
   rw [show i.toNat = n.cells.length by omega]; exact more_cellN
  have hw : w = (n.widths.length : Int) := by have := hd.2.2; rw [ec] at this; exact this.symm
  subst hw
  rw [ec, Int.toNat_natCast, ← hl, List.getD_eq_getElem?_getD, List.getElem?_append_right (Nat.le_refl _), Nat.sub_self]
  have e1 : arrC (moreN n x) (a ++ [a.getD x.toNat 0 + 20]) (xorC n x) = maxA (a ++ [a.getD x.toNat 0 + 20]) [x, x] + 20 := rfl
  rw [e1]
  show a.getD x.toNat 0 + 20 = _
  have hh := hold x hx
  have h0 : 0 ≤ a.getD x.toNat 0 := by
   obtain ⟨j, hj⟩ := hM.formed.driver hx
   rw [ha.eq j x hj]
   have hd := hM.dly (i := j.toNat) (by have := hj.1; omega)
   change 0 ≤ dly n (n.cell j) ∧ _ at hd
   unfold arrC
   split
   ·have : 0 ≤ maxA a (n.cell j).args := by
     have mono : ∀ (t : Int) (l : List Int), t ≤ l.foldl (fun t w => max t (a.getD w.toNat 0)) t := by
      intro t l
      induction l generalizing t with
      | nil => exact Int.le_refl _
      | cons x r ih => simp only [List.foldl_cons]; have := ih (max t (a.getD x.toNat 0)); omega
     exact mono 0 _
    omega
   ·omega
  unfold maxA
  simp only [List.foldl_cons, List.foldl_nil, hh]
  omega
end
end Go.Proofs.Ytligpghohcfpnaa
/- The walks through small functions. -/
namespace Go.Proofs.Ytligpghohcfpnaa
open Go Go.AW Go.Proofs
theorem wide_spec {w : Int} : ACalls Try.prog 93 [vi w] [] [] (fun r o => r = .v (.bool (decide (Wide w))) ∧ o = []) := by
 refine ACalls.of Try.func93 rfl rfl rfl (n := 9) (by decide) (nbE rfl) (.sr ?_)
 refine .an ?_
 refine .nil (.sr ?_)
 refine .mv ?_
 refine .vl (Y.geq rfl rfl) ?_
 refine .mv ?_
 refine .splitD (d := 5) rfl (fun c5 => ?_) (fun c5 => ?_)
 refine .gw 5 (Y.move rfl rfl) (.gw 5 (Y.leq rfl rfl) ?_)
 refine .pk ?_
 refine .an ?_
 refine .nil (.ret ?_)
 exact .rb rfl (dd (by (simp only [Wide]) <;> (first | omega | grind)))
 refine .gz 5 (.gz 5 ?_)
 refine .pk ?_
 refine .an ?_
 refine .nil (.ret ?_)
 exact .rb rfl (df (by (simp only [Wide]) <;> (first | omega | grind)))
theorem named_spec {s : ByteArray} (hs : s.size ≤ 140737488351232) : ACalls Try.prog 92 [.v (.string s)] [] [] (fun r o => r = .v (.bool (decide (Named s))) ∧ o = []) := by
 refine ACalls.of Try.func92 rfl rfl rfl (n := 44) (by decide) (nbE rfl) (.sr ?_)
 refine .an ?_
 refine .nil (.seq (.sr ?_))
 refine .mv ?_
 refine .vl (Y.lenS un9 rfl) ?_
 refine .mv ?_
 refine .nil (.block ?_)
 refine .loop1 (fun (n7_2 : Nat) => ⟨[(0, .v (.string s)), (6, vi ((s.size : Nat) : Int)), (7, vi (n7_2 : Int))], []⟩) (fun (n7_2 : Nat) => ((n7_2 : Int) ≤ ((s.size : Nat) : Int)) ∧ (∀ j, j < n7_2 → okByte (sbyte s j))) (fun (n7_2 : Nat) => (((s.size : Nat) : Int) - (n7_2 : Int)).toNat) 0 (⟨by omega, by intro j h; omega⟩) (Le.mk (.c (.c (.cons (look_int rfl (by first | rfl | omega)) (.nil)))) (.nil)) (fun n7_2 hI2 => ?_)
 obtain ⟨hb2, hb⟩ := hI2
 refine .sr (.vl (Y.lss rfl rfl) (.nil ?_))
 refine .seq ?_
 refine .condD rfl (fun c8 => ?_) (fun c8 => ?_)
 refine .skip ?_
 refine .join0 (⟨[(0, .v (.string s)), (6, vi ((s.size : Nat) : Int)), (7, vi (n7_2 : Int))], []⟩) (((97 ≤ ((sbyte s n7_2 : Nat) : Int)) ∧ (((sbyte s n7_2 : Nat) : Int) ≤ 122)) ∨ ((97 ≤ ((sbyte s n7_2 : Nat) : Int)) ∧ (¬ (((sbyte s n7_2 : Nat) : Int) ≤ 122)) ∧ (65 ≤ ((sbyte s n7_2 : Nat) : Int)) ∧ (((sbyte s n7_2 : Nat) : Int) ≤ 90)) ∨ ((97 ≤ ((sbyte s n7_2 : Nat) : Int)) ∧ (¬ (((sbyte s n7_2 : Nat) : Int) ≤ 122)) ∧ (65 ≤ ((sbyte s n7_2 : Nat) : Int)) ∧ (¬ (((sbyte s n7_2 : Nat) : Int) ≤ 90)) ∧ (48 ≤ ((sbyte s n7_2 : Nat) : Int)) ∧ (((sbyte s n7_2 : Nat) : Int) ≤ 57)) ∨ ((97 ≤ ((sbyte s n7_2 : Nat) : Int)) ∧ (¬ (((sbyte s n7_2 : Nat) : Int) ≤ 122)) ∧ (65 ≤ ((sbyte s n7_2 : Nat) : Int)) ∧ (¬ (((sbyte s n7_2 : Nat) : Int) ≤ 90)) ∧ (48 ≤ ((sbyte s n7_2 : Nat) : Int)) ∧ (¬ (((sbyte s n7_2 : Nat) : Int) ≤ 57)) ∧ (((sbyte s n7_2 : Nat) : Int) = 95)) ∨ ((97 ≤ ((sbyte s n7_2 : Nat) : Int)) ∧ (¬ (((sbyte s n7_2 : Nat) : Int) ≤ 122)) ∧ (65 ≤ ((sbyte s n7_2 : Nat) : Int)) ∧ (¬ (((sbyte s n7_2 : Nat) : Int) ≤ 90)) ∧ (¬ (48 ≤ ((sbyte s n7_2 : Nat) : Int))) ∧ (((sbyte s n7_2 : Nat) : Int) = 95)) ∨ ((97 ≤ ((sbyte s n7_2 : Nat) : Int)) ∧ (¬ (((sbyte s n7_2 : Nat) : Int) ≤ 122)) ∧ (¬ (65 ≤ ((sbyte s n7_2 : Nat) : Int))) ∧ (48 ≤ ((sbyte s n7_2 : Nat) : Int)) ∧ (((sbyte s n7_2 : Nat) : Int) ≤ 57)) ∨ ((97 ≤ ((sbyte s n7_2 : Nat) : Int)) ∧ (¬ (((sbyte s n7_2 : Nat) : Int) ≤ 122)) ∧ (¬ (65 ≤ ((sbyte s n7_2 : Nat) : Int))) ∧ (48 ≤ ((sbyte s n7_2 : Nat) : Int)) ∧ (¬ (((sbyte s n7_2 : Nat) : Int) ≤ 57)) ∧ (((sbyte s n7_2 : Nat) : Int) = 95)) ∨ ((97 ≤ ((sbyte s n7_2 : Nat) : Int)) ∧ (¬ (((sbyte s n7_2 : Nat) : Int) ≤ 122)) ∧ (¬ (65 ≤ ((sbyte s n7_2 : Nat) : Int))) ∧ (¬ (48 ≤ ((sbyte s n7_2 : Nat) : Int))) ∧ (((sbyte s n7_2 : Nat) : Int) = 95)) ∨ ((¬ (97 ≤ ((sbyte s n7_2 : Nat) : Int))) ∧ (65 ≤ ((sbyte s n7_2 : Nat) : Int)) ∧ (((sbyte s n7_2 : Nat) : Int) ≤ 90)) ∨ ((¬ (97 ≤ ((sbyte s n7_2 : Nat) : Int))) ∧ (65 ≤ ((sbyte s n7_2 : Nat) : Int)) ∧ (¬ (((sbyte s n7_2 : Nat) : Int) ≤ 90)) ∧ (48 ≤ ((sbyte s n7_2 : Nat) : Int)) ∧ (((sbyte s n7_2 : Nat) : Int) ≤ 57)) ∨ ((¬ (97 ≤ ((sbyte s n7_2 : Nat) : Int))) ∧ (65 ≤ ((sbyte s n7_2 : Nat) : Int)) ∧ (¬ (((sbyte s n7_2 : Nat) : Int) ≤ 90)) ∧ (48 ≤ ((sbyte s n7_2 : Nat) : Int)) ∧ (¬ (((sbyte s n7_2 : Nat) : Int) ≤ 57)) ∧ (((sbyte s n7_2 : Nat) : Int) = 95)) ∨ ((¬ (97 ≤ ((sbyte s n7_2 : Nat) : Int))) ∧ (65 ≤ ((sbyte s n7_2 : Nat) : Int)) ∧ (¬ (((sbyte s n7_2 : Nat) : Int) ≤ 90)) ∧ (¬ (48 ≤ ((sbyte s n7_2 : Nat) : Int))) ∧ (((sbyte s n7_2 : Nat) : Int) = 95)) ∨ ((¬ (97 ≤ ((sbyte s n7_2 : Nat) : Int))) ∧ (¬ (65 ≤ ((sbyte s n7_2 : Nat) : Int))) ∧ (48 ≤ ((sbyte s n7_2 : Nat) : Int)) ∧ (((sbyte s n7_2 : Nat) : Int) ≤ 57)) ∨ ((¬ (97 ≤ ((sbyte s n7_2 : Nat) : Int))) ∧ (¬ (65 ≤ ((sbyte s n7_2 : Nat) : Int))) ∧ (48 ≤ ((sbyte s n7_2 : Nat) : Int)) ∧ (¬ (((sbyte s n7_2 : Nat) : Int) ≤ 57)) ∧ (((sbyte s n7_2 : Nat) : Int) = 95)) ∨ ((¬ (97 ≤ ((sbyte s n7_2 : Nat) : Int))) ∧ (¬ (65 ≤ ((sbyte s n7_2 : Nat) : Int))) ∧ (¬ (48 ≤ ((sbyte s n7_2 : Nat) : Int))) ∧ (((sbyte s n7_2 : Nat) : Int) = 95))) ?_ (fun hJ7 => ?_)
 refine .block (.sr ?_)
 refine .mv ?_
 refine .an ?_
 refine .nil (.sr ?_)
 refine .mv ?_
 refine .mv ?_
 refine .vl (Y.indexSb (m := n7_2) un9 rfl rfl (by first | rfl | omega) (by omega)) ?_
 refine .an ?_
 refine .nil (.sr ?_)
 refine .mv ?_
 refine .vl (Y.geq rfl rfl) ?_
 refine .mv ?_
 refine .splitD (d := 15) rfl (fun c15 => ?_) (fun c15 => ?_)
 refine .gw 15 (Y.move rfl rfl) (.gw 15 (Y.leq rfl rfl) ?_)
 refine .pk ?_
 refine .mv ?_
 refine .splitD (d := 19) rfl (fun c19 => ?_) (fun c19 => ?_)
 refine .gz 19 (.gz 19 (.gz 19 ?_))
 refine .gz 22 (.gz 22 (.gz 19 ?_))
 refine .pk ?_
 refine .mv ?_
 refine .gz 27 (.gz 27 (.gz 27 ?_))
 refine .gz 30 (.gz 30 (.gz 27 ?_))
 refine .pk ?_
 refine .mv ?_
 refine .gz 35 (.gz 35 ?_)
 refine .pk ?_
 refine .vl (Y.not rfl) (.nil (.condF rfl ?_))
 refine .skip ?_
 exact ⟨.inl ⟨c15, c19⟩, Le.mk (.c (.c (.c (.nil)))) (.nil)⟩
 refine .gw 19 (Y.move rfl rfl) (.gw 19 (Y.geq rfl rfl) (.gw 19 (Y.move rfl rfl) ?_))
 refine .splitD (d := 22) rfl (fun c22 => ?_) (fun c22 => ?_)
 refine .gw 22 (Y.move rfl rfl) (.gw 22 (Y.leq rfl rfl) (.gw 19 (Y.pick rfl rfl rfl) ?_))
 refine .pk ?_
 refine .mv ?_
 refine .splitD (d := 27) rfl (fun c27 => ?_) (fun c27 => ?_)
 refine .gz 27 (.gz 27 (.gz 27 ?_))
 refine .gz 30 (.gz 30 (.gz 27 ?_))
 refine .pk ?_
 refine .mv ?_
 refine .gz 35 (.gz 35 ?_)
 refine .pk ?_
 refine .vl (Y.not rfl) (.nil (.condF rfl ?_))
 refine .skip ?_
 exact ⟨.inr (.inl ⟨c15, c19, c22, c27⟩), Le.mk (.c (.c (.c (.nil)))) (.nil)⟩
 refine .gw 27 (Y.move rfl rfl) (.gw 27 (Y.geq rfl rfl) (.gw 27 (Y.move rfl rfl) ?_))
 refine .splitD (d := 30) rfl (fun c30 => ?_) (fun c30 => ?_)
 refine .gw 30 (Y.move rfl rfl) (.gw 30 (Y.leq rfl rfl) (.gw 27 (Y.pick rfl rfl rfl) ?_))
 refine .pk ?_
 refine .mv ?_
 refine .splitD (d := 35) rfl (fun c35 => ?_) (fun c35 => ?_)
 refine .gz 35 (.gz 35 ?_)
 refine .pk ?_
 refine .vl (Y.not rfl) (.nil (.condF rfl ?_))
 refine .skip ?_
 exact ⟨.inr (.inr (.inl ⟨c15, c19, c22, c27, c30, c35⟩)), Le.mk (.c (.c (.c (.nil)))) (.nil)⟩
 refine .gw 35 (Y.move rfl rfl) (.gw 35 (Y.eql rfl rfl) ?_)
 refine .pk ?_
 refine .vl (Y.not rfl) (.nil ?_)
 refine .cond rfl (fun c39 => ?_) (fun c39 => ?_)
 replace c39 : ¬ (((sbyte s n7_2 : Nat) : Int) = 95) := by simpa using c39
 refine .sr ?_
 refine .an ?_
 refine .nil (.ret ?_)
 exact .rb rfl (df (fun h => by have h1 := h.1 n7_2 (by omega); unfold okByte at h1; omega))
 replace c39 : ((sbyte s n7_2 : Nat) : Int) = 95 := by simpa using c39
 refine .skip ?_
 exact ⟨.inr (.inr (.inr (.inl ⟨c15, c19, c22, c27, c30, c35, c39⟩))), Le.mk (.c (.c (.c (.nil)))) (.nil)⟩
 refine .gz 30 (.gz 30 (.gw 27 (Y.pick rfl rfl rfl) ?_))
 refine .pk ?_
 refine .mv ?_
 refine .gw 35 (Y.move rfl rfl) (.gw 35 (Y.eql rfl rfl) ?_)
 refine .pk ?_
 refine .vl (Y.not rfl) (.nil ?_)
 refine .cond rfl (fun c39 => ?_) (fun c39 => ?_)
 replace c39 : ¬ (((sbyte s n7_2 : Nat) : Int) = 95) := by simpa using c39
 refine .sr ?_
 refine .an ?_
 refine .nil (.ret ?_)
 exact .rb rfl (df (fun h => by have h1 := h.1 n7_2 (by omega); unfold okByte at h1; omega))
 replace c39 : ((sbyte s n7_2 : Nat) : Int) = 95 := by simpa using c39
 refine .skip ?_
 exact ⟨.inr (.inr (.inr (.inr (.inl ⟨c15, c19, c22, c27, c30, c39⟩)))), Le.mk (.c (.c (.c (.nil)))) (.nil)⟩
 refine .gz 22 (.gz 22 (.gw 19 (Y.pick rfl rfl rfl) ?_))
 refine .pk ?_
 refine .mv ?_
 refine .gw 27 (Y.move rfl rfl) (.gw 27 (Y.geq rfl rfl) (.gw 27 (Y.move rfl rfl) ?_))
 refine .splitD (d := 30) rfl (fun c30 => ?_) (fun c30 => ?_)
 refine .gw 30 (Y.move rfl rfl) (.gw 30 (Y.leq rfl rfl) (.gw 27 (Y.pick rfl rfl rfl) ?_))
 refine .pk ?_
 refine .mv ?_
 refine .splitD (d := 35) rfl (fun c35 => ?_) (fun c35 => ?_)
 refine .gz 35 (.gz 35 ?_)
 refine .pk ?_
 refine .vl (Y.not rfl) (.nil (.condF rfl ?_))
 refine .skip ?_
 exact ⟨.inr (.inr (.inr (.inr (.inr (.inl ⟨c15, c19, c22, c30, c35⟩))))), Le.mk (.c (.c (.c (.nil)))) (.nil)⟩
 refine .gw 35 (Y.move rfl rfl) (.gw 35 (Y.eql rfl rfl) ?_)
 refine .pk ?_
 refine .vl (Y.not rfl) (.nil ?_)
 refine .cond rfl (fun c39 => ?_) (fun c39 => ?_)
 replace c39 : ¬ (((sbyte s n7_2 : Nat) : Int) = 95) := by simpa using c39
 refine .sr ?_
 refine .an ?_
 refine .nil (.ret ?_)
 exact .rb rfl (df (fun h => by have h1 := h.1 n7_2 (by omega); unfold okByte at h1; omega))
 replace c39 : ((sbyte s n7_2 : Nat) : Int) = 95 := by simpa using c39
 refine .skip ?_
 exact ⟨.inr (.inr (.inr (.inr (.inr (.inr (.inl ⟨c15, c19, c22, c30, c35, c39⟩)))))), Le.mk (.c (.c (.c (.nil)))) (.nil)⟩
 refine .gz 30 (.gz 30 (.gw 27 (Y.pick rfl rfl rfl) ?_))
 refine .pk ?_
 refine .mv ?_
 refine .gw 35 (Y.move rfl rfl) (.gw 35 (Y.eql rfl rfl) ?_)
 refine .pk ?_
 refine .vl (Y.not rfl) (.nil ?_)
 refine .cond rfl (fun c39 => ?_) (fun c39 => ?_)
 replace c39 : ¬ (((sbyte s n7_2 : Nat) : Int) = 95) := by simpa using c39
 refine .sr ?_
 refine .an ?_
 refine .nil (.ret ?_)
 exact .rb rfl (df (fun h => by have h1 := h.1 n7_2 (by omega); unfold okByte at h1; omega))
 replace c39 : ((sbyte s n7_2 : Nat) : Int) = 95 := by simpa using c39
 refine .skip ?_
 exact ⟨.inr (.inr (.inr (.inr (.inr (.inr (.inr (.inl ⟨c15, c19, c22, c30, c39⟩))))))), Le.mk (.c (.c (.c (.nil)))) (.nil)⟩
 refine .gz 15 (.gz 15 ?_)
 refine .pk ?_
 refine .mv ?_
 refine .gw 19 (Y.move rfl rfl) (.gw 19 (Y.geq rfl rfl) (.gw 19 (Y.move rfl rfl) ?_))
 refine .splitD (d := 22) rfl (fun c22 => ?_) (fun c22 => ?_)
 refine .gw 22 (Y.move rfl rfl) (.gw 22 (Y.leq rfl rfl) (.gw 19 (Y.pick rfl rfl rfl) ?_))
 refine .pk ?_
 refine .mv ?_
 refine .splitD (d := 27) rfl (fun c27 => ?_) (fun c27 => ?_)
 refine .gz 27 (.gz 27 (.gz 27 ?_))
 refine .gz 30 (.gz 30 (.gz 27 ?_))
 refine .pk ?_
 refine .mv ?_
 refine .gz 35 (.gz 35 ?_)
 refine .pk ?_
 refine .vl (Y.not rfl) (.nil (.condF rfl ?_))
 refine .skip ?_
 exact ⟨.inr (.inr (.inr (.inr (.inr (.inr (.inr (.inr (.inl ⟨c15, c22, c27⟩)))))))), Le.mk (.c (.c (.c (.nil)))) (.nil)⟩
 refine .gw 27 (Y.move rfl rfl) (.gw 27 (Y.geq rfl rfl) (.gw 27 (Y.move rfl rfl) ?_))
 refine .splitD (d := 30) rfl (fun c30 => ?_) (fun c30 => ?_)
 refine .gw 30 (Y.move rfl rfl) (.gw 30 (Y.leq rfl rfl) (.gw 27 (Y.pick rfl rfl rfl) ?_))
 refine .pk ?_
 refine .mv ?_
 refine .splitD (d := 35) rfl (fun c35 => ?_) (fun c35 => ?_)
 refine .gz 35 (.gz 35 ?_)
 refine .pk ?_
 refine .vl (Y.not rfl) (.nil (.condF rfl ?_))
 refine .skip ?_
 exact ⟨.inr (.inr (.inr (.inr (.inr (.inr (.inr (.inr (.inr (.inl ⟨c15, c22, c27, c30, c35⟩))))))))), Le.mk (.c (.c (.c (.nil)))) (.nil)⟩
 refine .gw 35 (Y.move rfl rfl) (.gw 35 (Y.eql rfl rfl) ?_)
 refine .pk ?_
 refine .vl (Y.not rfl) (.nil ?_)
 refine .cond rfl (fun c39 => ?_) (fun c39 => ?_)
 replace c39 : ¬ (((sbyte s n7_2 : Nat) : Int) = 95) := by simpa using c39
 refine .sr ?_
 refine .an ?_
 refine .nil (.ret ?_)
 exact .rb rfl (df (fun h => by have h1 := h.1 n7_2 (by omega); unfold okByte at h1; omega))
 replace c39 : ((sbyte s n7_2 : Nat) : Int) = 95 := by simpa using c39
 refine .skip ?_
 exact ⟨.inr (.inr (.inr (.inr (.inr (.inr (.inr (.inr (.inr (.inr (.inl ⟨c15, c22, c27, c30, c35, c39⟩)))))))))), Le.mk (.c (.c (.c (.nil)))) (.nil)⟩
 refine .gz 30 (.gz 30 (.gw 27 (Y.pick rfl rfl rfl) ?_))
 refine .pk ?_
 refine .mv ?_
 refine .gw 35 (Y.move rfl rfl) (.gw 35 (Y.eql rfl rfl) ?_)
 refine .pk ?_
 refine .vl (Y.not rfl) (.nil ?_)
 refine .cond rfl (fun c39 => ?_) (fun c39 => ?_)
 replace c39 : ¬ (((sbyte s n7_2 : Nat) : Int) = 95) := by simpa using c39
 refine .sr ?_
 refine .an ?_
 refine .nil (.ret ?_)
 exact .rb rfl (df (fun h => by have h1 := h.1 n7_2 (by omega); unfold okByte at h1; omega))
 replace c39 : ((sbyte s n7_2 : Nat) : Int) = 95 := by simpa using c39
 refine .skip ?_
 exact ⟨.inr (.inr (.inr (.inr (.inr (.inr (.inr (.inr (.inr (.inr (.inr (.inl ⟨c15, c22, c27, c30, c39⟩))))))))))), Le.mk (.c (.c (.c (.nil)))) (.nil)⟩
 refine .gz 22 (.gz 22 (.gw 19 (Y.pick rfl rfl rfl) ?_))
 refine .pk ?_
 refine .mv ?_
 refine .gw 27 (Y.move rfl rfl) (.gw 27 (Y.geq rfl rfl) (.gw 27 (Y.move rfl rfl) ?_))
 refine .splitD (d := 30) rfl (fun c30 => ?_) (fun c30 => ?_)
 refine .gw 30 (Y.move rfl rfl) (.gw 30 (Y.leq rfl rfl) (.gw 27 (Y.pick rfl rfl rfl) ?_))
 refine .pk ?_
 refine .mv ?_
 refine .splitD (d := 35) rfl (fun c35 => ?_) (fun c35 => ?_)
 refine .gz 35 (.gz 35 ?_)
 refine .pk ?_
 refine .vl (Y.not rfl) (.nil (.condF rfl ?_))
 refine .skip ?_
 exact ⟨.inr (.inr (.inr (.inr (.inr (.inr (.inr (.inr (.inr (.inr (.inr (.inr (.inl ⟨c15, c22, c30, c35⟩)))))))))))), Le.mk (.c (.c (.c (.nil)))) (.nil)⟩
 refine .gw 35 (Y.move rfl rfl) (.gw 35 (Y.eql rfl rfl) ?_)
 refine .pk ?_
 refine .vl (Y.not rfl) (.nil ?_)
 refine .cond rfl (fun c39 => ?_) (fun c39 => ?_)
 replace c39 : ¬ (((sbyte s n7_2 : Nat) : Int) = 95) := by simpa using c39
 refine .sr ?_
 refine .an ?_
 refine .nil (.ret ?_)
 exact .rb rfl (df (fun h => by have h1 := h.1 n7_2 (by omega); unfold okByte at h1; omega))
 replace c39 : ((sbyte s n7_2 : Nat) : Int) = 95 := by simpa using c39
 refine .skip ?_
 exact ⟨.inr (.inr (.inr (.inr (.inr (.inr (.inr (.inr (.inr (.inr (.inr (.inr (.inr (.inl ⟨c15, c22, c30, c35, c39⟩))))))))))))), Le.mk (.c (.c (.c (.nil)))) (.nil)⟩
 refine .gz 30 (.gz 30 (.gw 27 (Y.pick rfl rfl rfl) ?_))
 refine .pk ?_
 refine .mv ?_
 refine .gw 35 (Y.move rfl rfl) (.gw 35 (Y.eql rfl rfl) ?_)
 refine .pk ?_
 refine .vl (Y.not rfl) (.nil ?_)
 refine .cond rfl (fun c39 => ?_) (fun c39 => ?_)
 replace c39 : ¬ (((sbyte s n7_2 : Nat) : Int) = 95) := by simpa using c39
 refine .sr ?_
 refine .an ?_
 refine .nil (.ret ?_)
 exact .rb rfl (df (fun h => by have h1 := h.1 n7_2 (by omega); unfold okByte at h1; omega))
 replace c39 : ((sbyte s n7_2 : Nat) : Int) = 95 := by simpa using c39
 refine .skip ?_
 exact ⟨.inr (.inr (.inr (.inr (.inr (.inr (.inr (.inr (.inr (.inr (.inr (.inr (.inr (.inr (⟨c15, c22, c30, c39⟩)))))))))))))), Le.mk (.c (.c (.c (.nil)))) (.nil)⟩
 refine .region ?_
 refine .vl (Y.addI rfl rfl (by omega)) ?_
 refine .mv ?_
 refine .nil ?_
 exact ⟨n7_2 + 1, ⟨by omega, below_succ hb (by unfold okByte; omega)⟩, by omega, Le.mk (.c (.c (.cons (look_int rfl (by first | rfl | omega)) (.nil)))) (.nil)⟩
 refine .exit (.sr ?_)
 refine .mv ?_
 refine .vl (Y.lenS un9 rfl) (.vl (Y.leq rfl rfl) ?_)
 refine .an ?_
 refine .nil (.ret ?_)
 exact .rb rfl (dd ⟨fun h => ⟨fun j hj => hb j (by omega), by omega⟩, fun h => by have := h.2; omega⟩)
theorem operands_spec {op : Int} : ACalls Try.prog 124 [vi op] [] [] (fun r o => r = (vi (opArgs op)) ∧ o = []) := by
 refine ACalls.of Try.func124 rfl rfl rfl (n := 25) (by decide) (nbE rfl) (.sr ?_)
 refine .an ?_
 refine .nil (.seq (.sr ?_))
 refine .mv ?_
 refine .nil (.block (.seq ?_))
 refine .sr (.vl (Y.eql rfl rfl) ?_)
 refine .an ?_
 refine .nil ?_
 refine .condKD rfl (fun c4 => ?_) (fun c4 => ?_)
 refine .skip (.condT rfl (.sr ?_))
 refine .an ?_
 refine .nil (.ret ?_)
 exact .ri rfl (by simp only [opArgs]; omega)
 refine .sr (.vl (Y.eql rfl rfl) ?_)
 refine .an ?_
 refine .nil ?_
 refine .condKD rfl (fun c4 => ?_) (fun c4 => ?_)
 refine .skip (.condT rfl (.sr ?_))
 refine .an ?_
 refine .nil (.ret ?_)
 exact .ri rfl (by simp only [opArgs]; omega)
 refine .sr (.vl (Y.eql rfl rfl) ?_)
 refine .an ?_
 refine .nil ?_
 refine .condKD rfl (fun c4 => ?_) (fun c4 => ?_)
 refine .skip (.condT rfl (.sr ?_))
 refine .an ?_
 refine .nil (.ret ?_)
 exact .ri rfl (by simp only [opArgs]; omega)
 refine .sr (.vl (Y.eql rfl rfl) ?_)
 refine .an ?_
 refine .nil ?_
 refine .condKD rfl (fun c4 => ?_) (fun c4 => ?_)
 refine .skip (.condT rfl (.sr ?_))
 refine .an ?_
 refine .nil (.ret ?_)
 exact .ri rfl (by simp only [opArgs]; omega)
 refine .sr (.vl (Y.eql rfl rfl) ?_)
 refine .an ?_
 refine .nil ?_
 refine .condKD rfl (fun c4 => ?_) (fun c4 => ?_)
 refine .skip (.condT rfl (.sr ?_))
 refine .an ?_
 refine .nil (.ret ?_)
 exact .ri rfl (by simp only [opArgs]; omega)
 refine .sr (.vl (Y.eql rfl rfl) ?_)
 refine .an ?_
 refine .nil ?_
 refine .condKD rfl (fun c4 => ?_) (fun c4 => ?_)
 refine .skip (.condT rfl (.sr ?_))
 refine .an ?_
 refine .nil (.ret ?_)
 exact .ri rfl (by simp only [opArgs]; omega)
 refine .sr (.vl (Y.eql rfl rfl) ?_)
 refine .an ?_
 refine .nil ?_
 refine .condKD rfl (fun c4 => ?_) (fun c4 => ?_)
 refine .skip (.condT rfl (.sr ?_))
 refine .an ?_
 refine .nil (.ret ?_)
 exact .ri rfl (by simp only [opArgs]; omega)
 refine .sr (.vl (Y.eql rfl rfl) ?_)
 refine .an ?_
 refine .nil ?_
 refine .condKD rfl (fun c4 => ?_) (fun c4 => ?_)
 refine .skip (.condT rfl (.sr ?_))
 refine .an ?_
 refine .nil (.ret ?_)
 exact .ri rfl (by simp only [opArgs]; omega)
 refine .sr (.vl (Y.eql rfl rfl) ?_)
 refine .an ?_
 refine .nil ?_
 refine .condKD rfl (fun c4 => ?_) (fun c4 => ?_)
 refine .skip (.condT rfl (.sr ?_))
 refine .an ?_
 refine .nil (.ret ?_)
 exact .ri rfl (by simp only [opArgs]; omega)
 refine .sr (.vl (Y.eql rfl rfl) ?_)
 refine .an ?_
 refine .nil ?_
 refine .condKD rfl (fun c4 => ?_) (fun c4 => ?_)
 refine .skip (.condT rfl (.sr ?_))
 refine .an ?_
 refine .nil (.ret ?_)
 exact .ri rfl (by simp only [opArgs]; omega)
 refine .sr (.vl (Y.eql rfl rfl) ?_)
 refine .an ?_
 refine .nil ?_
 refine .condKD rfl (fun c4 => ?_) (fun c4 => ?_)
 refine .skip (.condT rfl (.sr ?_))
 refine .an ?_
 refine .nil (.ret ?_)
 exact .ri rfl (by simp only [opArgs]; omega)
 refine .sr (.vl (Y.eql rfl rfl) ?_)
 refine .an ?_
 refine .nil ?_
 refine .condKD rfl (fun c4 => ?_) (fun c4 => ?_)
 refine .skip (.condT rfl (.sr ?_))
 refine .an ?_
 refine .nil (.ret ?_)
 exact .ri rfl (by simp only [opArgs]; omega)
 refine .sr (.vl (Y.eql rfl rfl) ?_)
 refine .an ?_
 refine .nil ?_
 refine .condKD rfl (fun c4 => ?_) (fun c4 => ?_)
 refine .skip (.condT rfl (.sr ?_))
 refine .an ?_
 refine .nil (.ret ?_)
 exact .ri rfl (by simp only [opArgs]; omega)
 refine .region (.vl (Y.eql rfl rfl) ?_)
 refine .an ?_
 refine .nil ?_
 refine .condKD rfl (fun c4 => ?_) (fun c4 => ?_)
 refine .sr ?_
 refine .an ?_
 refine .nil (.ret ?_)
 exact .ri rfl (by simp only [opArgs]; omega)
 refine .sr (.vl (Y.eql rfl rfl) ?_)
 refine .an ?_
 refine .nil ?_
 refine .condD rfl (fun c19 => ?_) (fun c19 => ?_)
 refine .sr ?_
 refine .an ?_
 refine .nil (.ret ?_)
 exact .ri rfl (by simp only [opArgs]; omega)
 refine .seq (.sr (.vl (Y.eql rfl rfl) ?_))
 refine .an ?_
 refine .nil ?_
 refine .condKD rfl (fun c21 => ?_) (fun c21 => ?_)
 refine .skip (.condT rfl (.sr ?_))
 refine .an ?_
 refine .nil (.ret ?_)
 exact .ri rfl (by simp only [opArgs]; omega)
 refine .sr (.vl (Y.eql rfl rfl) ?_)
 refine .an ?_
 refine .nil ?_
 refine .condKD rfl (fun c21 => ?_) (fun c21 => ?_)
 refine .skip (.condT rfl (.sr ?_))
 refine .an ?_
 refine .nil (.ret ?_)
 exact .ri rfl (by simp only [opArgs]; omega)
 refine .region (.vl (Y.eql rfl rfl) ?_)
 refine .an ?_
 refine .nil ?_
 refine .condKD rfl (fun c21 => ?_) (fun c21 => ?_)
 refine .sr ?_
 refine .an ?_
 refine .nil (.ret ?_)
 exact .ri rfl (by simp only [opArgs]; omega)
 refine .skip (.sr ?_)
 refine .an ?_
 refine .nil (.ret ?_)
 exact .ri rfl (by simp only [opArgs]; omega)
end Go.Proofs.Ytligpghohcfpnaa
/- Walks through small functions of words. -/
namespace Go.Proofs.Ytligpghohcfpnaa
open Go Go.AW Go.Proofs
theorem lim127_spec {w : Int} : ACalls Try.prog 127 [vi w] [] [] (fun r o => r = (vi ((limN w : Nat) : Int)) ∧ o = []) := by
 refine ACalls.of Try.func127 rfl rfl rfl (n := 6) (by decide) (nbE rfl) (.sr ?_)
 refine .an ?_
 refine .nil (.sr ?_)
 refine .mv ?_
 refine .vl (Y.max rfl rfl rfl) (.vl (Y.min rfl rfl rfl) ?_)
 refine .an ?_
 refine .nil (.ret ?_)
 exact .ri rfl (by unfold limN; (repeat' split) <;> omega)
theorem lim104_spec {w : Int} : ACalls Try.prog 104 [vi w] [] [] (fun r o => r = (vi ((limN w : Nat) : Int)) ∧ o = []) := by
 refine ACalls.of Try.func104 rfl rfl rfl (n := 6) (by decide) (nbE rfl) (.sr ?_)
 refine .an ?_
 refine .nil (.sr ?_)
 refine .mv ?_
 refine .vl (Y.max rfl rfl rfl) (.vl (Y.min rfl rfl rfl) ?_)
 refine .an ?_
 refine .nil (.ret ?_)
 exact .ri rfl (by unfold limN; (repeat' split) <;> omega)
theorem mask_spec {w : Int} : ACalls Try.prog 103 [vi w] [] [] (fun r o => r = .v (.int .u64 ((2 ^ limN w - 1 : Nat) : Int)) ∧ o = []) := by
 refine ACalls.of Try.func103 rfl rfl rfl (n := 10) (by decide) (nbE rfl) ?_
 have hl := limN_le w
 refine .sr ?_
 refine .an ?_
 refine .nil (.seq (.sr ?_))
 refine .mv ?_
 refine .callP ok127 (lim127_spec (w := w)) rfl (.keep rfl rfl .nil) (by decide) rfl ?_
 refine .an ?_
 refine .nil (.sr ?_)
 refine .mv ?_
 refine .vl (Y.eql rfl rfl) (.nil ?_)
 refine .condD rfl (fun c6 => ?_) (fun c6 => ?_)
 refine .sr ?_
 refine .an ?_
 refine .nil (.ret ?_)
 exact .ri rfl (by rw [show limN w = 0 by omega]; rfl)
 refine .skip (.sr ?_)
 refine .mv ?_
 refine .vl (Y.subI rfl rfl (by first | omega | simp [-List.getD_eq_getElem?_getD] <;> omega)) ?_
 refine .vl (Y.shrN (a := 18446744073709551615) ((64 - ((limN w : Nat) : Int)).toNat) rfl rfl (by omega) (by omega)) ?_
 refine .an ?_
 refine .nil (.ret ?_)
 exact .ri rfl (by rw [show ((64 : Int) - ((limN w : Nat) : Int)).toNat = 64 - limN w by omega, mask_eq])
theorem bfit_spec {w : Int} {x : Nat} (hx : x < 18446744073709551616) : ACalls Try.prog 65 [vi w, .v (.int .u64 (x : Int))] [] [] (fun r o => r = .v (.int .u64 ((fitN w x : Nat) : Int)) ∧ o = []) := by
 refine ACalls.of Try.func65 rfl rfl rfl (n := 9) (by decide) (nbE rfl) ?_
 have hm := mask_lt w
 refine .sr ?_
 refine .an ?_
 refine .nil (.sr ?_)
 refine .mv ?_
 refine .mv ?_
 refine .callP ok103 (mask_spec (w := w)) rfl (.keep rfl rfl .nil) (by decide) rfl ?_
 refine .vl (Y.andN (a := x) (b := (2 ^ limN w - 1)) rfl rfl (by omega)) ?_
 refine .an ?_
 refine .nil (.ret ?_)
 exact .ri rfl (by rw [fitN_and])
theorem isCompare_spec {w : Int} : ACalls Try.prog 74 [vi w] [] [] (fun r o => r = .v (.bool (decide (Cmp w))) ∧ o = []) := by
 refine ACalls.of Try.func74 rfl rfl rfl (n := 9) (by decide) (nbE rfl) (.sr ?_)
 refine .an ?_
 refine .nil (.sr ?_)
 refine .mv ?_
 refine .vl (Y.geq rfl rfl) ?_
 refine .mv ?_
 refine .splitD (d := 5) rfl (fun c5 => ?_) (fun c5 => ?_)
 refine .gw 5 (Y.move rfl rfl) (.gw 5 (Y.leq rfl rfl) ?_)
 refine .pk ?_
 refine .an ?_
 refine .nil (.ret ?_)
 exact .rb rfl (dd (by (simp only [Cmp]) <;> (first | omega | grind)))
 refine .gz 5 (.gz 5 ?_)
 refine .pk ?_
 refine .an ?_
 refine .nil (.ret ?_)
 exact .rb rfl (df (by (simp only [Cmp]) <;> (first | omega | grind)))
theorem refIsCompare_spec {w : Int} : ACalls Try.prog 77 [vi w] [] [] (fun r o => r = .v (.bool (decide (Cmp w))) ∧ o = []) := by
 refine ACalls.of Try.func77 rfl rfl rfl (n := 9) (by decide) (nbE rfl) (.sr ?_)
 refine .an ?_
 refine .nil (.sr ?_)
 refine .mv ?_
 refine .vl (Y.geq rfl rfl) ?_
 refine .mv ?_
 refine .splitD (d := 5) rfl (fun c5 => ?_) (fun c5 => ?_)
 refine .gw 5 (Y.move rfl rfl) (.gw 5 (Y.leq rfl rfl) ?_)
 refine .pk ?_
 refine .an ?_
 refine .nil (.ret ?_)
 exact .rb rfl (dd (by (simp only [Cmp]) <;> (first | omega | grind)))
 refine .gz 5 (.gz 5 ?_)
 refine .pk ?_
 refine .an ?_
 refine .nil (.ret ?_)
 exact .rb rfl (df (by (simp only [Cmp]) <;> (first | omega | grind)))
theorem unary_spec {w : Int} : ACalls Try.prog 118 [vi w] [] [] (fun r o => r = .v (.bool (decide (Unary w))) ∧ o = []) := by
 refine ACalls.of Try.func118 rfl rfl rfl (n := 13) (by decide) (nbE rfl) (.sr ?_)
 refine .an ?_
 refine .nil (.sr ?_)
 refine .mv ?_
 refine .vl (Y.eql rfl rfl) ?_
 refine .mv ?_
 refine .splitD (d := 5) rfl (fun c5 => ?_) (fun c5 => ?_)
 refine .gz 5 (.gz 5 ?_)
 refine .pk ?_
 refine .mv ?_
 refine .gz 9 (.gz 9 ?_)
 refine .pk ?_
 refine .an ?_
 refine .nil (.ret ?_)
 exact .rb rfl (dt (by (simp only [Unary]) <;> (first | omega | grind)))
 refine .gw 5 (Y.move rfl rfl) (.gw 5 (Y.eql rfl rfl) ?_)
 refine .pk ?_
 refine .mv ?_
 refine .splitD (d := 9) rfl (fun c9 => ?_) (fun c9 => ?_)
 refine .gz 9 (.gz 9 ?_)
 refine .pk ?_
 refine .an ?_
 refine .nil (.ret ?_)
 exact .rb rfl (dt (by (simp only [Unary]) <;> (first | omega | grind)))
 refine .gw 9 (Y.move rfl rfl) (.gw 9 (Y.eql rfl rfl) ?_)
 refine .pk ?_
 refine .an ?_
 refine .nil (.ret ?_)
 exact .rb rfl (dd (by (simp only [Unary]) <;> (first | omega | grind)))
theorem comb_spec {w : Int} : ACalls Try.prog 21 [vi w] [] [] (fun r o => r = .v (.bool (decide (Comb w))) ∧ o = []) := by
 refine ACalls.of Try.func21 rfl rfl rfl (n := 13) (by decide) (nbE rfl) (.sr ?_)
 refine .an ?_
 refine .nil (.sr ?_)
 refine .mv ?_
 refine .vl (Y.eql rfl rfl) ?_
 refine .mv ?_
 refine .splitD (d := 5) rfl (fun c5 => ?_) (fun c5 => ?_)
 refine .gz 5 (.gz 5 ?_)
 refine .pk ?_
 refine .mv ?_
 refine .gz 9 (.gz 9 ?_)
 refine .pk ?_
 refine .an ?_
 refine .nil (.ret ?_)
 exact .rb rfl (dt (by (simp only [Comb]) <;> (first | omega | grind)))
 refine .gw 5 (Y.move rfl rfl) (.gw 5 (Y.eql rfl rfl) ?_)
 refine .pk ?_
 refine .mv ?_
 refine .splitD (d := 9) rfl (fun c9 => ?_) (fun c9 => ?_)
 refine .gz 9 (.gz 9 ?_)
 refine .pk ?_
 refine .an ?_
 refine .nil (.ret ?_)
 exact .rb rfl (dt (by (simp only [Comb]) <;> (first | omega | grind)))
 refine .gw 9 (Y.move rfl rfl) (.gw 9 (Y.eql rfl rfl) ?_)
 refine .pk ?_
 refine .an ?_
 refine .nil (.ret ?_)
 exact .rb rfl (dd (by (simp only [Comb]) <;> (first | omega | grind)))
end Go.Proofs.Ytligpghohcfpnaa
/- Walks through slices.Concat. -/
namespace Go.Proofs.Ytligpghohcfpnaa
open Go Go.AW Go.Proofs
theorem grow_spec {n : Nat} (hn : n ≤ 35184372088832) : ACalls Try.prog 108 [.v (.slice none 0 0), vi (n : Int)] [] [] (fun r o => r = .uni 1 (([] : List Int).map irow) ∧ o = []) := by
 refine ACalls.of Try.func108 rfl rfl rfl (n := 27) (by decide) (nbE rfl) (.sr ?_)
 refine .an ?_
 refine .nil (.seq (.sr ?_))
 refine .mv ?_
 refine .vl (Y.lss rfl rfl) (.nil ?_)
 refine .condD rfl (fun c6 => ?_) (fun c6 => ?_)
 exfalso; omega
 refine .skip (.seq (.sr ?_))
 refine .mv ?_
 refine .mv ?_
 refine .vl (Y.capNil sl22 rfl) ?_
 refine .mv ?_
 refine .vl (Y.len (n := 0) sl22 rfl rfl) ?_
 refine .vl (Y.subI rfl rfl (by first | omega | simp [-List.getD_eq_getElem?_getD] <;> omega)) ?_
 refine .vl (Y.subI rfl rfl (by first | omega | simp [-List.getD_eq_getElem?_getD] <;> omega)) ?_
 refine .an ?_
 refine .nil (.sr ?_)
 refine .mv ?_
 refine .vl (Y.gtr rfl rfl) (.nil ?_)
 refine .condD rfl (fun c16 => ?_) (fun c16 => ?_)
 refine .region ?_
 refine .mv ?_
 refine .mv ?_
 refine .vl (Y.capNil sl22 rfl) (.vl (Y.sliceNil sl22 rfl (.none _) (.some rfl)) ?_)
 refine .mv ?_
 refine .appendMake (n := (((n : Int) - (0 - 0)).toNat)) sl22 ze3 rfl rfl ii3 rfl (by first | rfl | (rw [show ((n : Int) - (0 - 0) : Int) = ((((n : Int) - (0 - 0)).toNat : Nat) : Int) by omega]; rfl)) (by omega) (by decide) (by omega) (by omega) (by decide) ?_
 refine .mv ?_
 refine .vl (Y.len (n := 0) sl22 rfl rfl) (.sh (Sh.adoptE (d := 22) (n := (List.replicate (((n : Int) - (0 - 0)).toNat) 0).length) 122 ((List.replicate (((n : Int) - (0 - 0)).toNat) 0).map irow) rfl (by first | rfl | exact rep_map rfl) (len_map rfl) (by decide)) ?_)
 refine .vl (Y.sliceO (l := 0) (h := 0) sl22 rfl (.none _) (.some rfl) (by omega) (by omega)) ?_
 refine .an ?_
 refine .nil (.sr ?_)
 refine .mv ?_
 refine .an ?_
 refine .sh (Sh.trimE (d := 4) (o := 122) (([] : List Int).map irow) rfl rfl (by simp) (by simp) (by decide)) ?_
 refine .sh (Sh.detach (d := 4) (o := 122) rfl rfl (len_map (by first | omega | simp [-List.getD_eq_getElem?_getD] <;> omega)) (by decide)) ?_
 refine .nil (.ret ?_)
 exact ⟨_, _, rfl, rfl, (cg1 (fun (z0 : List Int) => X.uni 1 (z0.map irow)) (rfl : ([] : List Int) = ([] : List Int)) : X.uni 1 (([] : List Int).map irow) = X.uni 1 (([] : List Int).map irow)), rfl⟩
 refine .skip (.sr ?_)
 refine .mv ?_
 refine .an ?_
 refine .nil (.sh (Sh.nilU (d := 4) 1 rfl) (.ret ?_))
 exact ⟨_, _, rfl, rfl, (cg1 (fun (z0 : List Int) => X.uni 1 (z0.map irow)) (rfl : ([] : List Int) = ([] : List Int)) : X.uni 1 (([] : List Int).map irow) = X.uni 1 (([] : List Int).map irow)), rfl⟩
theorem concat_spec {ls : List (List Int)} (h1 : ls.length ≤ 1000) (hn : ls.flatten.length ≤ 17592186044416) : ACalls Try.prog 72 [.fz 1 (ls.map lrow)] [] [] (fun r o => r = .uni 1 (ls.flatten.map irow) ∧ o = []) := by
 refine ACalls.of Try.func72 rfl rfl rfl (n := 36) (by decide) (nbE rfl) (.sr ?_)
 refine .an ?_
 refine .nil (.sr ?_)
 refine .an ?_
 refine .nil (.seq (.sr ?_))
 refine .mv ?_
 refine .vl (Y.len (n := ls.length) sl92 rfl (congrArg some (List.length_map ..))) ?_
 refine .mv ?_
 refine .nil (.block ?_)
 refine .loop2 (fun (size3_3 : Nat) (n11_3 : Nat) => ⟨[(0, .fz 1 (ls.map lrow)), (3, vi (size3_3 : Int)), (9, .fz 1 (ls.map lrow)), (10, vi ((ls.length : Nat) : Int)), (11, vi (n11_3 : Int))], []⟩) (fun (size3_3 : Nat) (n11_3 : Nat) => ((n11_3 : Int) ≤ ((ls.length : Nat) : Int)) ∧ (size3_3 = (ls.take n11_3).flatten.length)) (fun (size3_3 : Nat) (n11_3 : Nat) => (((ls.length : Nat) : Int) - (n11_3 : Int)).toNat) 0 0 (⟨by omega, rfl⟩) (Le.mk (.c (.cons (look_int rfl (by first | rfl | omega)) (.c (.c (.cons (look_int rfl (by first | rfl | omega)) (.nil)))))) (.nil)) (fun size3_3 n11_3 hI3 => ?_)
 obtain ⟨hb3, hs⟩ := hI3
 refine .sr (.vl (Y.lss rfl rfl) (.nil ?_))
 refine .seq ?_
 refine .condD rfl (fun c12 => ?_) (fun c12 => ?_)
 refine .skip (.seq (.block ?_))
 refine .sr ?_
 have hf := congrArg List.length (flat_succ (ls := ls) (i := n11_3) (by omega))
 rw [List.length_append] at hf
 have hf2 := flat_le ls (n11_3 + 1)
 have hf3 := flat_le ls n11_3
 refine .vl (Y.indexF (m := n11_3) sl92 rfl rfl (by first | rfl | omega) (row_getD (d := []) (by omega))) ?_
 refine .ld sh22 ?_
 refine .an ?_
 refine .nil (.sr ?_)
 refine .mv ?_
 refine .mv ?_
 refine .vl (Y.len (n := (ls.getD n11_3 []).length) sl22 rfl (congrArg some (List.length_map ..))) ?_
 refine .vl (Y.addI rfl rfl (by omega)) ?_
 refine .an ?_
 refine .nil (.sr ?_)
 refine .mv ?_
 refine .vl (Y.lss rfl rfl) (.nil ?_)
 refine .condD rfl (fun c20 => ?_) (fun c20 => ?_)
 exfalso; omega
 refine .skip (.region ?_)
 refine .vl (Y.addI rfl rfl (by omega)) ?_
 refine .mv ?_
 refine .nil ?_
 exact ⟨size3_3 + ((ls.getD n11_3 []).length), n11_3 + 1, ⟨by omega, by omega⟩, by omega, Le.mk (.c (.cons (look_int rfl (by first | rfl | omega)) (.c (.c (.cons (look_int rfl (by first | rfl | omega)) (.nil)))))) (.nil)⟩
 refine .exit (.sr ?_)
 have hf3 := flat_le ls n11_3
 refine .mv ?_
 refine .callP ok108 (grow_spec (n := size3_3) ((by omega))) rfl (.keep rfl rfl (.keep rfl rfl .nil)) (by decide) rfl ?_
 refine .assignX rfl (by decide) (.sh (Sh.adoptE (d := 6) (n := ([] : List Int).length) 106 (([] : List Int).map irow) rfl (by first | rfl | exact rep_map rfl) (len_map rfl) (by decide)) (.nil ?_))
 refine .seq (.sr ?_)
 refine .mv ?_
 refine .vl (Y.len (n := ls.length) sl92 rfl (congrArg some (List.length_map ..))) ?_
 refine .mv ?_
 refine .nil (.block ?_)
 refine .loop2 (fun (n27_11 : Nat) (newslice6_11 : List Int) => ⟨[(6, .slc 106 1 0 newslice6_11.length), (25, .fz 1 (ls.map lrow)), (26, vi ((ls.length : Nat) : Int)), (27, vi (n27_11 : Int))], [(106, .rows 1 (newslice6_11.map irow))]⟩) (fun (n27_11 : Nat) (newslice6_11 : List Int) => ((n27_11 : Int) ≤ ((ls.length : Nat) : Int)) ∧ (newslice6_11 = (ls.take n27_11).flatten)) (fun (n27_11 : Nat) (newslice6_11 : List Int) => (((ls.length : Nat) : Int) - (n27_11 : Int)).toNat) 0 ([] : List Int) (⟨by omega, rfl⟩) (Le.mk (.cons (look_slc rfl (by omega)) (.c (.c (.cons (look_int rfl (by first | rfl | omega)) (.nil))))) (.c (.nil))) (fun n27_11 newslice6_11 hI11 => ?_)
 obtain ⟨hb11, ht⟩ := hI11
 refine .sr (.vl (Y.lss rfl rfl) (.nil ?_))
 refine .seq ?_
 refine .condD rfl (fun c28 => ?_) (fun c28 => ?_)
 refine .skip (.seq (.block ?_))
 refine .sr ?_
 have hf := flat_succ (ls := ls) (i := n27_11) (by omega)
 have hf1 := congrArg List.length hf
 rw [List.length_append] at hf1
 have hf2 := flat_le ls (n27_11 + 1)
 have hf3 := flat_le ls n27_11
 have hf4 := congrArg List.length ht
 refine .vl (Y.indexF (m := n27_11) sl92 rfl rfl (by first | rfl | omega) (row_getD (d := []) (by omega))) ?_
 refine .ld sh22 ?_
 refine .an ?_
 refine .nil (.region ?_)
 refine .mv ?_
 refine .mv ?_
 refine .appendFE ((newslice6_11 ++ (ls.getD n27_11 [])).map irow) (newslice6_11 ++ (ls.getD n27_11 [])).length sl22 ze3 rfl rfl rfl rfl (app_le (by first | omega | simp [-List.getD_eq_getElem?_getD] <;> omega)) (app_map (by first | omega | simp [-List.getD_eq_getElem?_getD] <;> omega)) (app_n (by first | omega | simp [-List.getD_eq_getElem?_getD] <;> omega)) (by first | omega | simp [-List.getD_eq_getElem?_getD] <;> omega) (by first | omega | simp [-List.getD_eq_getElem?_getD] <;> omega) (by decide) (by decide) ?_
 refine .an ?_
 refine .nil (.region ?_)
 refine .vl (Y.addI rfl rfl (by omega)) ?_
 refine .mv ?_
 refine .nil ?_
 exact ⟨n27_11 + 1, newslice6_11 ++ (ls.getD n27_11 []), ⟨by omega, by rw [ht]; exact hf.symm⟩, by omega, Le.mk (.cons (look_slc rfl (by omega)) (.c (.c (.cons (look_int rfl (by first | rfl | omega)) (.nil))))) (.c (.nil))⟩
 refine .exit (.sr ?_)
 refine .mv ?_
 refine .an ?_
 refine .sh (Sh.detach (d := 2) (o := 106) rfl rfl (len_map (by omega)) (by decide)) ?_
 refine .nil (.ret ?_)
 exact ⟨_, _, rfl, rfl, (cg1 (fun (z0 : List Int) => X.uni 1 (z0.map irow)) (by rw [ht, List.take_of_length_le (by omega)] : newslice6_11 = ls.flatten) : X.uni 1 (newslice6_11.map irow) = X.uni 1 (ls.flatten.map irow)), rfl⟩
end Go.Proofs.Ytligpghohcfpnaa
/- Walks through delays. -/
namespace Go.Proofs.Ytligpghohcfpnaa
open Go Go.AW Go.Proofs



set_option maxRecDepth 4000 in
set_option maxHeartbeats 1000000 in
theorem len64_spec {x : Int} (h0 : 0 ≤ x) (h1 : x < 256) : ACalls Try.prog 129 [.v (.int .u64 x)] [] [] (fun r o => r = .v (.int .i64 ((lev (x.toNat + 1) : Nat) : Int)) ∧ o = []) := by
 refine ACalls.of Try.func129 rfl rfl rfl (n := 25) (by decide) (Nat.le_of_ble_eq_true rfl) ?_
 have hl8 := len8_size
 refine AWp.sr ?_
 refine .an ?_
 refine AOps.nil (AWp.seq (AWp.sr ?_))
 refine .mv ?_
 refine .vl (Y.geq rfl rfl) (AOps.nil ?_)
 refine AWp.condD rfl (fun c4 => ?_) (fun c4 => ?_)
 exfalso; omega
 refine AWp.skip (AWp.seq (AWp.sr ?_))
 refine .mv ?_
 refine .vl (Y.geq rfl rfl) (AOps.nil ?_)
 refine AWp.condD rfl (fun c8 => ?_) (fun c8 => ?_)
 exfalso; omega
 refine AWp.skip (AWp.seq (AWp.sr ?_))
 refine .mv ?_
 refine .vl (Y.geq rfl rfl) (AOps.nil ?_)
 refine AWp.condD rfl (fun c14 => ?_) (fun c14 => ?_)
 exfalso; omega
 refine AWp.skip (AWp.sr ?_)
 have hsb := sbyte_le len8 x.toNat
 refine .mv ?_
 refine .mv ?_
 refine .vl (Y.convK ii37 ii5 rfl (by first | rfl | exact IntWalk.u8_in _ (by omega))) ?_
 refine .vl (Y.indexSb (b := len8) (m := (x).toNat) un9 rfl rfl (by omega) (by omega)) ?_
 refine .vl (Y.convK ii5 ii3 rfl (by first | rfl | exact IntWalk.i64_in _ (by omega))) ?_
 refine .vl (Y.addI rfl rfl (by omega)) ?_
 refine .an ?_
 refine AOps.nil (AWp.ret ?_)
 exact .ri rfl (by rw [len8_at (by omega)]; omega)

set_option maxRecDepth 4000 in
set_option maxHeartbeats 1000000 in
theorem len_spec {x : Int} (h0 : 0 ≤ x) (h1 : x < 256) : ACalls Try.prog 109 [.v (.int .u64 x)] [] [] (fun r o => r = .v (.int .i64 ((lev (x.toNat + 1) : Nat) : Int)) ∧ o = []) := by
 refine ACalls.of Try.func109 rfl rfl rfl (n := 8) (by decide) (Nat.le_of_ble_eq_true rfl) (AWp.sr ?_)
 refine .an ?_
 refine AOps.nil (AWp.seq (AWp.condF rfl ?_))
 refine AWp.skip (AWp.sr ?_)
 refine .mv ?_
 refine AOps.callP ok129 (len64_spec (x := x) ((by omega)) ((by omega))) rfl (.keep rfl rfl .nil) (by decide) rfl ?_
 refine .an ?_
 refine AOps.nil (AWp.ret ?_)
 exact .ri rfl (rfl)

set_option maxRecDepth 4000 in
set_option maxHeartbeats 1000000 in
theorem levels_spec {x : Int} (h0 : 0 ≤ x) (h1 : x ≤ 256) : ACalls Try.prog 76 [.v (.int .i64 x)] [] [] (fun r o => r = .v (.int .i64 ((lev x.toNat : Nat) : Int)) ∧ o = []) := by
 refine ACalls.of Try.func76 rfl rfl rfl (n := 9) (by decide) (Nat.le_of_ble_eq_true rfl) (AWp.sr ?_)
 refine .an ?_
 refine AOps.nil (AWp.seq (AWp.sr ?_))
 refine .mv ?_
 refine .vl (Y.lss rfl rfl) (AOps.nil ?_)
 refine AWp.condD rfl (fun c4 => ?_) (fun c4 => ?_)
 refine AWp.sr ?_
 refine .an ?_
 refine AOps.nil (AWp.ret ?_)
 exact .ri rfl (by unfold lev; rw [if_pos (by omega)]; rfl)
 refine AWp.skip (AWp.sr ?_)
 refine .mv ?_
 refine .vl (Y.subI rfl rfl (by first | omega | simp [-List.getD_eq_getElem?_getD] <;> omega)) ?_
 refine .vl (Y.conv ii3 ii130 rfl (u64_toNat _ (by omega))) ?_
 refine AOps.callP ok109 (len_spec (x := (((x - 1).toNat : Nat) : Int)) ((by omega)) ((by omega))) rfl (.keep rfl rfl .nil) (by decide) rfl ?_
 refine .an ?_
 refine AOps.nil (AWp.ret ?_)
 exact .ri rfl (by rw [show ((((x - 1).toNat : Nat) : Int).toNat + 1) = x.toNat by omega])

end Go.Proofs.Ytligpghohcfpnaa
/- The walk of library.Of. -/
namespace Go.Proofs.Ytligpghohcfpnaa
open Go Go.AW Go.Proofs



set_option maxRecDepth 4000 in
set_option maxHeartbeats 8000000 in
theorem of_spec {op x : Int} (hp : Plain op) (h0 : 1 ≤ x) (h1 : x ≤ 64) : ACalls Try.prog 75 [.v (.int .i64 op), .v (.int .i64 x)] [] [] (fun r o => ∃ c : Int, r = .tup [.agg [.v (.int .i64 0), .v (.int .i64 x), .v (.int .i64 (uDelay op x.toNat)), .v (.int .i64 0), .v (.int .i64 0), .v (.int .i64 c)], .v (.int .i64 0)] ∧ o = []) := by
 refine ACalls.of Try.func75 rfl rfl rfl (n := 184) (by decide) (Nat.le_of_ble_eq_true rfl) ?_
 have hp2 := hp; unfold Plain Bin Seq Unary at hp2; have hlv := lev_lt (n := x.toNat) (by omega); have hlv2 := lev_lt (n := (x + 1).toNat) (by omega); have hle : (x + 1).toNat = x.toNat + 1 := (by omega); have hm1 := mul_rng h0 h1 hlv; have hm2 := mul_rng h0 h1 hlv2
 refine AWp.sr (AOps.alloc 104 ze106 rfl rfl (by decide) ?_)
 refine .an ?_
 refine AOps.nil (AWp.seq (AWp.sr ?_))
 refine .mv ?_
 refine .vl (Y.leq rfl rfl) ?_
 refine .mv ?_
 refine AOps.splitD (d := 12) rfl (fun c12 => ?_) (fun c12 => ?_)
 refine .gz 12 (.gz 12 ?_)
 refine .pk ?_
 refine AOps.nil (AWp.condT rfl (AWp.sr ?_))
 refine .vl (Y.build pl106 ze106 rfl rfl rfl) (AOps.storeC si106 rfl rfl rfl rfl rfl rfl (Nat.le_of_ble_eq_true rfl) rfl ?_)
 refine .an ?_
 refine AOps.nil (AWp.ret ?_)
 first | (exfalso; omega) | exact ⟨_, _, rfl, rfl, 0, by rw [show uDelay op x.toNat = 0 by (try rw [hle]); unfold uDelay; (repeat' split) <;> omega]; rfl, rfl⟩
 refine .gw 12 (Y.move rfl rfl) (.gw 12 (Y.geq rfl rfl) ?_)
 refine .pk ?_
 refine AOps.nil ?_
 refine AWp.condD rfl (fun c15 => ?_) (fun c15 => ?_)
 refine AWp.sr (.vl (Y.build pl106 ze106 rfl rfl rfl) (AOps.storeC si106 rfl rfl rfl rfl rfl rfl (Nat.le_of_ble_eq_true rfl) rfl ?_))
 refine .an ?_
 refine AOps.nil (AWp.ret ?_)
 first | (exfalso; omega) | exact ⟨_, _, rfl, rfl, 0, by rw [show uDelay op x.toNat = 0 by (try rw [hle]); unfold uDelay; (repeat' split) <;> omega]; rfl, rfl⟩
 refine AWp.skip (AWp.seq (AWp.sr ?_))
 refine .mv ?_
 refine .vl (Y.lss rfl rfl) ?_
 refine .mv ?_
 refine AOps.splitD (d := 19) rfl (fun c19 => ?_) (fun c19 => ?_)
 refine .gz 19 (.gz 19 ?_)
 refine .pk ?_
 refine AOps.nil (AWp.condT rfl (AWp.sr ?_))
 refine .vl (Y.build pl106 ze106 rfl rfl rfl) (AOps.storeC si106 rfl rfl rfl rfl rfl rfl (Nat.le_of_ble_eq_true rfl) rfl ?_)
 refine .an ?_
 refine AOps.nil (AWp.ret ?_)
 first | (exfalso; omega) | exact ⟨_, _, rfl, rfl, 0, by rw [show uDelay op x.toNat = 0 by (try rw [hle]); unfold uDelay; (repeat' split) <;> omega]; rfl, rfl⟩
 refine .gw 19 (Y.move rfl rfl) (.gw 19 (Y.gtr rfl rfl) ?_)
 refine .pk ?_
 refine AOps.nil ?_
 refine AWp.condD rfl (fun c22 => ?_) (fun c22 => ?_)
 refine AWp.sr (.vl (Y.build pl106 ze106 rfl rfl rfl) (AOps.storeC si106 rfl rfl rfl rfl rfl rfl (Nat.le_of_ble_eq_true rfl) rfl ?_))
 refine .an ?_
 refine AOps.nil (AWp.ret ?_)
 first | (exfalso; omega) | exact ⟨_, _, rfl, rfl, 0, by rw [show uDelay op x.toNat = 0 by (try rw [hle]); unfold uDelay; (repeat' split) <;> omega]; rfl, rfl⟩
 refine AWp.skip (AWp.sr ?_)
 refine .mv ?_
 refine .mv ?_
 refine AOps.callP ok76 (levels_spec (x := x) ((by omega)) ((by omega))) rfl (.keep rfl rfl .nil) (by decide) rfl ?_
 refine .mv ?_
 refine .vl (Y.addI rfl rfl (by omega)) ?_
 refine AOps.callP ok76 (levels_spec (x := (x + 1)) ((by omega)) ((by omega))) rfl (.keep rfl rfl .nil) (by decide) rfl ?_
 refine .an ?_
 refine .an ?_
 refine .an ?_
 refine AOps.nil (AWp.sr ?_)
 refine .mv ?_
 refine .vl (Y.build pl106 ze106 rfl rfl rfl) (AOps.alloc 109 ze106 rfl rfl (by decide) (AOps.storeC si106 rfl rfl rfl rfl rfl rfl (Nat.le_of_ble_eq_true rfl) rfl ?_))
 refine AOps.nil (AWp.seq (AWp.sr ?_))
 refine .mv ?_
 refine AOps.nil (AWp.block (AWp.seq ?_))
 refine AWp.sr (.vl (Y.eql rfl rfl) ?_)
 refine .an ?_
 refine AOps.nil ?_
 refine AWp.condKD rfl (fun c33 => ?_) (fun c33 => ?_)
 refine AWp.skip (AWp.condT rfl (AWp.region ?_))
 refine .mv ?_
 refine .fa fl106_2 ?_
 refine AOps.storeC si3 rfl rfl rfl rfl rfl rfl (Nat.le_of_ble_eq_true rfl) rfl ?_
 refine .fa fl106_5 ?_
 refine AOps.storeC si3 rfl rfl rfl rfl rfl rfl (Nat.le_of_ble_eq_true rfl) rfl (AOps.nil (AWp.sr ?_))
 refine .vl (Y.loadA sh106 rfl rfl (Nat.le_of_ble_eq_true rfl) rfl rfl) (AOps.storeC si106 rfl rfl rfl rfl rfl rfl (Nat.le_of_ble_eq_true rfl) rfl ?_)
 refine .an ?_
 refine AOps.nil (AWp.ret ?_)
 first | (exfalso; omega) | exact ⟨_, _, rfl, rfl, x, by rw [show uDelay op x.toNat = 20 by (try rw [hle]); unfold uDelay; (repeat' split) <;> omega]; rfl, rfl⟩
 refine AWp.sr (.vl (Y.eql rfl rfl) ?_)
 refine .an ?_
 refine AOps.nil ?_
 refine AWp.condKD rfl (fun c33 => ?_) (fun c33 => ?_)
 refine AWp.skip (AWp.condT rfl (AWp.region ?_))
 refine .mv ?_
 refine .fa fl106_2 ?_
 refine AOps.storeC si3 rfl rfl rfl rfl rfl rfl (Nat.le_of_ble_eq_true rfl) rfl ?_
 refine .fa fl106_5 ?_
 refine AOps.storeC si3 rfl rfl rfl rfl rfl rfl (Nat.le_of_ble_eq_true rfl) rfl (AOps.nil (AWp.sr ?_))
 refine .vl (Y.loadA sh106 rfl rfl (Nat.le_of_ble_eq_true rfl) rfl rfl) (AOps.storeC si106 rfl rfl rfl rfl rfl rfl (Nat.le_of_ble_eq_true rfl) rfl ?_)
 refine .an ?_
 refine AOps.nil (AWp.ret ?_)
 first | (exfalso; omega) | exact ⟨_, _, rfl, rfl, x, by rw [show uDelay op x.toNat = 20 by (try rw [hle]); unfold uDelay; (repeat' split) <;> omega]; rfl, rfl⟩
 refine AWp.region (.vl (Y.eql rfl rfl) ?_)
 refine .an ?_
 refine AOps.nil ?_
 refine AWp.condKD rfl (fun c33 => ?_) (fun c33 => ?_)
 refine AWp.region ?_
 refine .mv ?_
 refine .fa fl106_2 ?_
 refine AOps.storeC si3 rfl rfl rfl rfl rfl rfl (Nat.le_of_ble_eq_true rfl) rfl ?_
 refine .fa fl106_5 ?_
 refine AOps.storeC si3 rfl rfl rfl rfl rfl rfl (Nat.le_of_ble_eq_true rfl) rfl (AOps.nil (AWp.sr ?_))
 refine .vl (Y.loadA sh106 rfl rfl (Nat.le_of_ble_eq_true rfl) rfl rfl) (AOps.storeC si106 rfl rfl rfl rfl rfl rfl (Nat.le_of_ble_eq_true rfl) rfl ?_)
 refine .an ?_
 refine AOps.nil (AWp.ret ?_)
 first | (exfalso; omega) | exact ⟨_, _, rfl, rfl, x, by rw [show uDelay op x.toNat = 20 by (try rw [hle]); unfold uDelay; (repeat' split) <;> omega]; rfl, rfl⟩
 refine AWp.sr (.vl (Y.eql rfl rfl) ?_)
 refine .an ?_
 refine AOps.nil ?_
 refine AWp.condD rfl (fun c40 => ?_) (fun c40 => ?_)
 refine AWp.region ?_
 refine .mv ?_
 refine .vl (Y.mulI rfl rfl (by omega)) ?_
 refine .vl (Y.addI rfl rfl (by omega)) ?_
 refine .mv ?_
 refine .vl (Y.mulI rfl rfl (by omega)) ?_
 refine .mv ?_
 refine .vl (Y.mulI rfl rfl (by omega)) ?_
 refine .mv ?_
 refine .vl (Y.mulI rfl rfl (by omega)) ?_
 refine .vl (Y.addI rfl rfl (by omega)) ?_
 refine .fa fl106_2 ?_
 refine AOps.storeC si3 rfl rfl rfl rfl rfl rfl (Nat.le_of_ble_eq_true rfl) rfl ?_
 refine .fa fl106_5 ?_
 refine AOps.storeC si3 rfl rfl rfl rfl rfl rfl (Nat.le_of_ble_eq_true rfl) rfl (AOps.nil (AWp.sr ?_))
 refine .vl (Y.loadA sh106 rfl rfl (Nat.le_of_ble_eq_true rfl) rfl rfl) (AOps.storeC si106 rfl rfl rfl rfl rfl rfl (Nat.le_of_ble_eq_true rfl) rfl ?_)
 refine .an ?_
 refine AOps.nil (AWp.ret ?_)
 first | (exfalso; omega) | exact ⟨_, _, rfl, rfl, (3 * x) + ((3 * x) * ((lev x.toNat : Nat) : Int)), by rw [show uDelay op x.toNat = 40 + (40 * ((lev x.toNat : Nat) : Int)) by (try rw [hle]); unfold uDelay; (repeat' split) <;> omega]; rfl, rfl⟩
 refine AWp.sr (.vl (Y.eql rfl rfl) ?_)
 refine .an ?_
 refine AOps.nil ?_
 refine AWp.condD rfl (fun c54 => ?_) (fun c54 => ?_)
 refine AWp.region ?_
 refine .mv ?_
 refine .vl (Y.mulI rfl rfl (by omega)) ?_
 refine .vl (Y.addI rfl rfl (by omega)) ?_
 refine .mv ?_
 refine .vl (Y.mulI rfl rfl (by omega)) ?_
 refine .mv ?_
 refine .vl (Y.mulI rfl rfl (by omega)) ?_
 refine .mv ?_
 refine .vl (Y.mulI rfl rfl (by omega)) ?_
 refine .vl (Y.addI rfl rfl (by omega)) ?_
 refine .fa fl106_2 ?_
 refine AOps.storeC si3 rfl rfl rfl rfl rfl rfl (Nat.le_of_ble_eq_true rfl) rfl ?_
 refine .fa fl106_5 ?_
 refine AOps.storeC si3 rfl rfl rfl rfl rfl rfl (Nat.le_of_ble_eq_true rfl) rfl (AOps.nil (AWp.sr ?_))
 refine .vl (Y.loadA sh106 rfl rfl (Nat.le_of_ble_eq_true rfl) rfl rfl) (AOps.storeC si106 rfl rfl rfl rfl rfl rfl (Nat.le_of_ble_eq_true rfl) rfl ?_)
 refine .an ?_
 refine AOps.nil (AWp.ret ?_)
 first | (exfalso; omega) | exact ⟨_, _, rfl, rfl, (4 * x) + ((3 * x) * ((lev x.toNat : Nat) : Int)), by rw [show uDelay op x.toNat = 50 + (40 * ((lev x.toNat : Nat) : Int)) by (try rw [hle]); unfold uDelay; (repeat' split) <;> omega]; rfl, rfl⟩
 refine AWp.seq (AWp.sr (.vl (Y.eql rfl rfl) ?_))
 refine .an ?_
 refine AOps.nil ?_
 refine AWp.condKD rfl (fun c68 => ?_) (fun c68 => ?_)
 refine AWp.skip (AWp.condT rfl (AWp.region ?_))
 refine .mv ?_
 refine .vl (Y.mulI rfl rfl (by omega)) ?_
 refine .vl (Y.addI rfl rfl (by omega)) ?_
 refine .mv ?_
 refine .vl (Y.mulI rfl rfl (by omega)) ?_
 refine .fa fl106_2 ?_
 refine AOps.storeC si3 rfl rfl rfl rfl rfl rfl (Nat.le_of_ble_eq_true rfl) rfl ?_
 refine .fa fl106_5 ?_
 refine AOps.storeC si3 rfl rfl rfl rfl rfl rfl (Nat.le_of_ble_eq_true rfl) rfl (AOps.nil (AWp.sr ?_))
 refine .vl (Y.loadA sh106 rfl rfl (Nat.le_of_ble_eq_true rfl) rfl rfl) (AOps.storeC si106 rfl rfl rfl rfl rfl rfl (Nat.le_of_ble_eq_true rfl) rfl ?_)
 refine .an ?_
 refine AOps.nil (AWp.ret ?_)
 first | (exfalso; omega) | exact ⟨_, _, rfl, rfl, 2 * x, by rw [show uDelay op x.toNat = 30 + (20 * ((lev x.toNat : Nat) : Int)) by (try rw [hle]); unfold uDelay; (repeat' split) <;> omega]; rfl, rfl⟩
 refine AWp.region (.vl (Y.eql rfl rfl) ?_)
 refine .an ?_
 refine AOps.nil ?_
 refine AWp.condKD rfl (fun c68 => ?_) (fun c68 => ?_)
 refine AWp.region ?_
 refine .mv ?_
 refine .vl (Y.mulI rfl rfl (by omega)) ?_
 refine .vl (Y.addI rfl rfl (by omega)) ?_
 refine .mv ?_
 refine .vl (Y.mulI rfl rfl (by omega)) ?_
 refine .fa fl106_2 ?_
 refine AOps.storeC si3 rfl rfl rfl rfl rfl rfl (Nat.le_of_ble_eq_true rfl) rfl ?_
 refine .fa fl106_5 ?_
 refine AOps.storeC si3 rfl rfl rfl rfl rfl rfl (Nat.le_of_ble_eq_true rfl) rfl (AOps.nil (AWp.sr ?_))
 refine .vl (Y.loadA sh106 rfl rfl (Nat.le_of_ble_eq_true rfl) rfl rfl) (AOps.storeC si106 rfl rfl rfl rfl rfl rfl (Nat.le_of_ble_eq_true rfl) rfl ?_)
 refine .an ?_
 refine AOps.nil (AWp.ret ?_)
 first | (exfalso; omega) | exact ⟨_, _, rfl, rfl, 2 * x, by rw [show uDelay op x.toNat = 30 + (20 * ((lev x.toNat : Nat) : Int)) by (try rw [hle]); unfold uDelay; (repeat' split) <;> omega]; rfl, rfl⟩
 refine AWp.seq (AWp.sr (.vl (Y.eql rfl rfl) ?_))
 refine .an ?_
 refine AOps.nil ?_
 refine AWp.condKD rfl (fun c78 => ?_) (fun c78 => ?_)
 refine AWp.skip (AWp.condT rfl (AWp.region ?_))
 refine .mv ?_
 refine .vl (Y.mulI rfl rfl (by omega)) ?_
 refine .vl (Y.addI rfl rfl (by omega)) ?_
 refine .mv ?_
 refine .vl (Y.mulI rfl rfl (by omega)) ?_
 refine .mv ?_
 refine .vl (Y.mulI rfl rfl (by omega)) ?_
 refine .mv ?_
 refine .vl (Y.mulI rfl rfl (by omega)) ?_
 refine .vl (Y.addI rfl rfl (by omega)) ?_
 refine .fa fl106_2 ?_
 refine AOps.storeC si3 rfl rfl rfl rfl rfl rfl (Nat.le_of_ble_eq_true rfl) rfl ?_
 refine .fa fl106_5 ?_
 refine AOps.storeC si3 rfl rfl rfl rfl rfl rfl (Nat.le_of_ble_eq_true rfl) rfl (AOps.nil (AWp.sr ?_))
 refine .vl (Y.loadA sh106 rfl rfl (Nat.le_of_ble_eq_true rfl) rfl rfl) (AOps.storeC si106 rfl rfl rfl rfl rfl rfl (Nat.le_of_ble_eq_true rfl) rfl ?_)
 refine .an ?_
 refine AOps.nil (AWp.ret ?_)
 first | (exfalso; omega) | exact ⟨_, _, rfl, rfl, (4 * x) + ((3 * x) * ((lev (x + 1).toNat : Nat) : Int)), by rw [show uDelay op x.toNat = 40 + (40 * ((lev (x + 1).toNat : Nat) : Int)) by (try rw [hle]); unfold uDelay; (repeat' split) <;> omega]; rfl, rfl⟩
 refine AWp.region (.vl (Y.eql rfl rfl) ?_)
 refine .an ?_
 refine AOps.nil ?_
 refine AWp.condKD rfl (fun c78 => ?_) (fun c78 => ?_)
 refine AWp.region ?_
 refine .mv ?_
 refine .vl (Y.mulI rfl rfl (by omega)) ?_
 refine .vl (Y.addI rfl rfl (by omega)) ?_
 refine .mv ?_
 refine .vl (Y.mulI rfl rfl (by omega)) ?_
 refine .mv ?_
 refine .vl (Y.mulI rfl rfl (by omega)) ?_
 refine .mv ?_
 refine .vl (Y.mulI rfl rfl (by omega)) ?_
 refine .vl (Y.addI rfl rfl (by omega)) ?_
 refine .fa fl106_2 ?_
 refine AOps.storeC si3 rfl rfl rfl rfl rfl rfl (Nat.le_of_ble_eq_true rfl) rfl ?_
 refine .fa fl106_5 ?_
 refine AOps.storeC si3 rfl rfl rfl rfl rfl rfl (Nat.le_of_ble_eq_true rfl) rfl (AOps.nil (AWp.sr ?_))
 refine .vl (Y.loadA sh106 rfl rfl (Nat.le_of_ble_eq_true rfl) rfl rfl) (AOps.storeC si106 rfl rfl rfl rfl rfl rfl (Nat.le_of_ble_eq_true rfl) rfl ?_)
 refine .an ?_
 refine AOps.nil (AWp.ret ?_)
 first | (exfalso; omega) | exact ⟨_, _, rfl, rfl, (4 * x) + ((3 * x) * ((lev (x + 1).toNat : Nat) : Int)), by rw [show uDelay op x.toNat = 40 + (40 * ((lev (x + 1).toNat : Nat) : Int)) by (try rw [hle]); unfold uDelay; (repeat' split) <;> omega]; rfl, rfl⟩
 refine AWp.seq (AWp.sr (.vl (Y.eql rfl rfl) ?_))
 refine .an ?_
 refine AOps.nil ?_
 refine AWp.condKD rfl (fun c93 => ?_) (fun c93 => ?_)
 refine AWp.skip (AWp.condT rfl (AWp.region ?_))
 refine .mv ?_
 refine .vl (Y.mulI rfl rfl (by omega)) ?_
 refine .vl (Y.addI rfl rfl (by omega)) ?_
 refine .mv ?_
 refine .vl (Y.mulI rfl rfl (by omega)) ?_
 refine .mv ?_
 refine .vl (Y.mulI rfl rfl (by omega)) ?_
 refine .mv ?_
 refine .vl (Y.mulI rfl rfl (by omega)) ?_
 refine .vl (Y.addI rfl rfl (by omega)) ?_
 refine .vl (Y.addI rfl rfl (by omega)) ?_
 refine .fa fl106_2 ?_
 refine AOps.storeC si3 rfl rfl rfl rfl rfl rfl (Nat.le_of_ble_eq_true rfl) rfl ?_
 refine .fa fl106_5 ?_
 refine AOps.storeC si3 rfl rfl rfl rfl rfl rfl (Nat.le_of_ble_eq_true rfl) rfl (AOps.nil (AWp.sr ?_))
 refine .vl (Y.loadA sh106 rfl rfl (Nat.le_of_ble_eq_true rfl) rfl rfl) (AOps.storeC si106 rfl rfl rfl rfl rfl rfl (Nat.le_of_ble_eq_true rfl) rfl ?_)
 refine .an ?_
 refine AOps.nil (AWp.ret ?_)
 first | (exfalso; omega) | exact ⟨_, _, rfl, rfl, ((4 * x) + ((3 * x) * ((lev (x + 1).toNat : Nat) : Int))) + 2, by rw [show uDelay op x.toNat = 50 + (40 * ((lev (x + 1).toNat : Nat) : Int)) by (try rw [hle]); unfold uDelay; (repeat' split) <;> omega]; rfl, rfl⟩
 refine AWp.region (.vl (Y.eql rfl rfl) ?_)
 refine .an ?_
 refine AOps.nil ?_
 refine AWp.condKD rfl (fun c93 => ?_) (fun c93 => ?_)
 refine AWp.region ?_
 refine .mv ?_
 refine .vl (Y.mulI rfl rfl (by omega)) ?_
 refine .vl (Y.addI rfl rfl (by omega)) ?_
 refine .mv ?_
 refine .vl (Y.mulI rfl rfl (by omega)) ?_
 refine .mv ?_
 refine .vl (Y.mulI rfl rfl (by omega)) ?_
 refine .mv ?_
 refine .vl (Y.mulI rfl rfl (by omega)) ?_
 refine .vl (Y.addI rfl rfl (by omega)) ?_
 refine .vl (Y.addI rfl rfl (by omega)) ?_
 refine .fa fl106_2 ?_
 refine AOps.storeC si3 rfl rfl rfl rfl rfl rfl (Nat.le_of_ble_eq_true rfl) rfl ?_
 refine .fa fl106_5 ?_
 refine AOps.storeC si3 rfl rfl rfl rfl rfl rfl (Nat.le_of_ble_eq_true rfl) rfl (AOps.nil (AWp.sr ?_))
 refine .vl (Y.loadA sh106 rfl rfl (Nat.le_of_ble_eq_true rfl) rfl rfl) (AOps.storeC si106 rfl rfl rfl rfl rfl rfl (Nat.le_of_ble_eq_true rfl) rfl ?_)
 refine .an ?_
 refine AOps.nil (AWp.ret ?_)
 first | (exfalso; omega) | exact ⟨_, _, rfl, rfl, ((4 * x) + ((3 * x) * ((lev (x + 1).toNat : Nat) : Int))) + 2, by rw [show uDelay op x.toNat = 50 + (40 * ((lev (x + 1).toNat : Nat) : Int)) by (try rw [hle]); unfold uDelay; (repeat' split) <;> omega]; rfl, rfl⟩
 refine AWp.sr (.vl (Y.eql rfl rfl) ?_)
 refine .an ?_
 refine AOps.nil ?_
 refine AWp.condD rfl (fun c109 => ?_) (fun c109 => ?_)
 refine AWp.region ?_
 refine .mv ?_
 refine .vl (Y.mulI rfl rfl (by omega)) ?_
 refine .vl (Y.addI rfl rfl (by omega)) ?_
 refine .fa fl106_2 ?_
 refine AOps.storeC si3 rfl rfl rfl rfl rfl rfl (Nat.le_of_ble_eq_true rfl) rfl ?_
 refine .fa fl106_5 ?_
 refine AOps.storeC si3 rfl rfl rfl rfl rfl rfl (Nat.le_of_ble_eq_true rfl) rfl (AOps.nil (AWp.sr ?_))
 refine .vl (Y.loadA sh106 rfl rfl (Nat.le_of_ble_eq_true rfl) rfl rfl) (AOps.storeC si106 rfl rfl rfl rfl rfl rfl (Nat.le_of_ble_eq_true rfl) rfl ?_)
 refine .an ?_
 refine AOps.nil (AWp.ret ?_)
 first | (exfalso; omega) | exact ⟨_, _, rfl, rfl, (3 * x) + 1, by rw [show uDelay op x.toNat = 50 by (try rw [hle]); unfold uDelay; (repeat' split) <;> omega]; rfl, rfl⟩
 refine AWp.seq (AWp.sr (.vl (Y.eql rfl rfl) ?_))
 refine .an ?_
 refine AOps.nil ?_
 refine AWp.condKD rfl (fun c116 => ?_) (fun c116 => ?_)
 refine AWp.skip (AWp.condT rfl (AWp.region ?_))
 refine .mv ?_
 refine .vl (Y.mulI rfl rfl (by omega)) ?_
 refine .vl (Y.addI rfl rfl (by omega)) ?_
 refine .mv ?_
 refine .vl (Y.mulI rfl rfl (by omega)) ?_
 refine .mv ?_
 refine .vl (Y.mulI rfl rfl (by omega)) ?_
 refine .mv ?_
 refine .vl (Y.mulI rfl rfl (by omega)) ?_
 refine .vl (Y.addI rfl rfl (by omega)) ?_
 refine .fa fl106_2 ?_
 refine AOps.storeC si3 rfl rfl rfl rfl rfl rfl (Nat.le_of_ble_eq_true rfl) rfl ?_
 refine .fa fl106_5 ?_
 refine AOps.storeC si3 rfl rfl rfl rfl rfl rfl (Nat.le_of_ble_eq_true rfl) rfl (AOps.nil (AWp.sr ?_))
 refine .vl (Y.loadA sh106 rfl rfl (Nat.le_of_ble_eq_true rfl) rfl rfl) (AOps.storeC si106 rfl rfl rfl rfl rfl rfl (Nat.le_of_ble_eq_true rfl) rfl ?_)
 refine .an ?_
 refine AOps.nil (AWp.ret ?_)
 first | (exfalso; omega) | exact ⟨_, _, rfl, rfl, (2 * x) + ((3 * x) * ((lev x.toNat : Nat) : Int)), by rw [show uDelay op x.toNat = 30 + (40 * ((lev x.toNat : Nat) : Int)) by (try rw [hle]); unfold uDelay; (repeat' split) <;> omega]; rfl, rfl⟩
 refine AWp.region (.vl (Y.eql rfl rfl) ?_)
 refine .an ?_
 refine AOps.nil ?_
 refine AWp.condKD rfl (fun c116 => ?_) (fun c116 => ?_)
 refine AWp.region ?_
 refine .mv ?_
 refine .vl (Y.mulI rfl rfl (by omega)) ?_
 refine .vl (Y.addI rfl rfl (by omega)) ?_
 refine .mv ?_
 refine .vl (Y.mulI rfl rfl (by omega)) ?_
 refine .mv ?_
 refine .vl (Y.mulI rfl rfl (by omega)) ?_
 refine .mv ?_
 refine .vl (Y.mulI rfl rfl (by omega)) ?_
 refine .vl (Y.addI rfl rfl (by omega)) ?_
 refine .fa fl106_2 ?_
 refine AOps.storeC si3 rfl rfl rfl rfl rfl rfl (Nat.le_of_ble_eq_true rfl) rfl ?_
 refine .fa fl106_5 ?_
 refine AOps.storeC si3 rfl rfl rfl rfl rfl rfl (Nat.le_of_ble_eq_true rfl) rfl (AOps.nil (AWp.sr ?_))
 refine .vl (Y.loadA sh106 rfl rfl (Nat.le_of_ble_eq_true rfl) rfl rfl) (AOps.storeC si106 rfl rfl rfl rfl rfl rfl (Nat.le_of_ble_eq_true rfl) rfl ?_)
 refine .an ?_
 refine AOps.nil (AWp.ret ?_)
 first | (exfalso; omega) | exact ⟨_, _, rfl, rfl, (2 * x) + ((3 * x) * ((lev x.toNat : Nat) : Int)), by rw [show uDelay op x.toNat = 30 + (40 * ((lev x.toNat : Nat) : Int)) by (try rw [hle]); unfold uDelay; (repeat' split) <;> omega]; rfl, rfl⟩
 refine AWp.sr (.vl (Y.eql rfl rfl) ?_)
 refine .an ?_
 refine AOps.nil ?_
 refine AWp.condD rfl (fun c131 => ?_) (fun c131 => ?_)
 refine AWp.region ?_
 refine .mv ?_
 refine .vl (Y.mulI rfl rfl (by omega)) ?_
 refine .vl (Y.addI rfl rfl (by omega)) ?_
 refine .mv ?_
 refine .vl (Y.mulI rfl rfl (by omega)) ?_
 refine .mv ?_
 refine .vl (Y.mulI rfl rfl (by omega)) ?_
 refine .mv ?_
 refine .vl (Y.mulI rfl rfl (by omega)) ?_
 refine .vl (Y.addI rfl rfl (by omega)) ?_
 refine .fa fl106_2 ?_
 refine AOps.storeC si3 rfl rfl rfl rfl rfl rfl (Nat.le_of_ble_eq_true rfl) rfl ?_
 refine .fa fl106_5 ?_
 refine AOps.storeC si3 rfl rfl rfl rfl rfl rfl (Nat.le_of_ble_eq_true rfl) rfl (AOps.nil (AWp.sr ?_))
 refine .vl (Y.loadA sh106 rfl rfl (Nat.le_of_ble_eq_true rfl) rfl rfl) (AOps.storeC si106 rfl rfl rfl rfl rfl rfl (Nat.le_of_ble_eq_true rfl) rfl ?_)
 refine .an ?_
 refine AOps.nil (AWp.ret ?_)
 first | (exfalso; omega) | exact ⟨_, _, rfl, rfl, (4 * x) + ((3 * x) * ((lev x.toNat : Nat) : Int)), by rw [show uDelay op x.toNat = 50 + (40 * ((lev x.toNat : Nat) : Int)) by (try rw [hle]); unfold uDelay; (repeat' split) <;> omega]; rfl, rfl⟩
 refine AWp.sr (.vl (Y.eql rfl rfl) ?_)
 refine .an ?_
 refine AOps.nil ?_
 refine AWp.condD rfl (fun c145 => ?_) (fun c145 => ?_)
 refine AWp.region ?_
 refine .mv ?_
 refine .vl (Y.addI rfl rfl (by omega)) ?_
 refine .vl (Y.quoI rfl rfl (by omega)) ?_
 refine .vl (Y.addI rfl rfl (by omega)) ?_
 refine .mv ?_
 refine .vl (Y.mulI rfl rfl (by omega)) ?_
 refine .mv ?_
 refine .vl (Y.mulI rfl rfl (by omega)) ?_
 refine .fa fl106_0 ?_
 refine AOps.storeC si3 rfl rfl rfl rfl rfl rfl (Nat.le_of_ble_eq_true rfl) rfl ?_
 refine .fa fl106_3 ?_
 refine AOps.storeC si3 rfl rfl rfl rfl rfl rfl (Nat.le_of_ble_eq_true rfl) rfl ?_
 refine .fa fl106_4 ?_
 refine AOps.storeC si3 rfl rfl rfl rfl rfl rfl (Nat.le_of_ble_eq_true rfl) rfl ?_
 refine .fa fl106_5 ?_
 refine AOps.storeC si3 rfl rfl rfl rfl rfl rfl (Nat.le_of_ble_eq_true rfl) rfl (AOps.nil (AWp.sr ?_))
 refine .vl (Y.loadA sh106 rfl rfl (Nat.le_of_ble_eq_true rfl) rfl rfl) (AOps.storeC si106 rfl rfl rfl rfl rfl rfl (Nat.le_of_ble_eq_true rfl) rfl ?_)
 refine .an ?_
 refine AOps.nil (AWp.ret ?_)
 first | (exfalso; omega) | exact ⟨_, _, rfl, rfl, (6 * x) * x, by rw [show uDelay op x.toNat = 0 by (try rw [hle]); unfold uDelay; (repeat' split) <;> omega]; rfl, rfl⟩
 refine AWp.seq (AWp.sr (.vl (Y.eql rfl rfl) ?_))
 refine .an ?_
 refine AOps.nil ?_
 refine AWp.condKD rfl (fun c159 => ?_) (fun c159 => ?_)
 refine AWp.skip (AWp.condT rfl (AWp.sr ?_))
 refine .mv ?_
 refine .vl (Y.addI rfl rfl (by omega)) ?_
 refine .vl (Y.subI rfl rfl (by first | omega | simp [-List.getD_eq_getElem?_getD] <;> omega)) ?_
 refine .fa fl106_0 ?_
 refine AOps.storeC si3 rfl rfl rfl rfl rfl rfl (Nat.le_of_ble_eq_true rfl) rfl (AOps.nil (AWp.region ?_))
 refine .mv ?_
 refine .vl (Y.addI rfl rfl (by omega)) ?_
 refine .vl (Y.quoI rfl rfl (by omega)) ?_
 refine .vl (Y.addI rfl rfl (by omega)) ?_
 refine .mv ?_
 refine .vl (Y.addI rfl rfl (by omega)) ?_
 refine .vl (Y.quoI rfl rfl (by omega)) ?_
 refine .vl (Y.addI rfl rfl (by omega)) ?_
 refine .mv ?_
 refine .vl (Y.mulI rfl rfl (by omega)) ?_
 refine .mv ?_
 refine .vl (Y.mulI rfl rfl (by omega)) ?_
 refine .fa fl106_3 ?_
 refine AOps.storeC si3 rfl rfl rfl rfl rfl rfl (Nat.le_of_ble_eq_true rfl) rfl ?_
 refine .fa fl106_4 ?_
 refine AOps.storeC si3 rfl rfl rfl rfl rfl rfl (Nat.le_of_ble_eq_true rfl) rfl ?_
 refine .fa fl106_5 ?_
 refine AOps.storeC si3 rfl rfl rfl rfl rfl rfl (Nat.le_of_ble_eq_true rfl) rfl (AOps.nil (AWp.sr ?_))
 refine .vl (Y.loadA sh106 rfl rfl (Nat.le_of_ble_eq_true rfl) rfl rfl) (AOps.storeC si106 rfl rfl rfl rfl rfl rfl (Nat.le_of_ble_eq_true rfl) rfl ?_)
 refine .an ?_
 refine AOps.nil (AWp.ret ?_)
 first | (exfalso; omega) | exact ⟨_, _, rfl, rfl, (8 * x) * x, by rw [show uDelay op x.toNat = 0 by (try rw [hle]); unfold uDelay; (repeat' split) <;> omega]; rfl, rfl⟩
 refine AWp.sr (.vl (Y.eql rfl rfl) ?_)
 refine .an ?_
 refine AOps.nil ?_
 refine AWp.condKD rfl (fun c159 => ?_) (fun c159 => ?_)
 refine AWp.skip (AWp.condT rfl (AWp.sr ?_))
 refine .mv ?_
 refine .vl (Y.addI rfl rfl (by omega)) ?_
 refine .vl (Y.subI rfl rfl (by first | omega | simp [-List.getD_eq_getElem?_getD] <;> omega)) ?_
 refine .fa fl106_0 ?_
 refine AOps.storeC si3 rfl rfl rfl rfl rfl rfl (Nat.le_of_ble_eq_true rfl) rfl (AOps.nil (AWp.region ?_))
 refine .mv ?_
 refine .vl (Y.addI rfl rfl (by omega)) ?_
 refine .vl (Y.quoI rfl rfl (by omega)) ?_
 refine .vl (Y.addI rfl rfl (by omega)) ?_
 refine .mv ?_
 refine .vl (Y.addI rfl rfl (by omega)) ?_
 refine .vl (Y.quoI rfl rfl (by omega)) ?_
 refine .vl (Y.addI rfl rfl (by omega)) ?_
 refine .mv ?_
 refine .vl (Y.mulI rfl rfl (by omega)) ?_
 refine .mv ?_
 refine .vl (Y.mulI rfl rfl (by omega)) ?_
 refine .fa fl106_3 ?_
 refine AOps.storeC si3 rfl rfl rfl rfl rfl rfl (Nat.le_of_ble_eq_true rfl) rfl ?_
 refine .fa fl106_4 ?_
 refine AOps.storeC si3 rfl rfl rfl rfl rfl rfl (Nat.le_of_ble_eq_true rfl) rfl ?_
 refine .fa fl106_5 ?_
 refine AOps.storeC si3 rfl rfl rfl rfl rfl rfl (Nat.le_of_ble_eq_true rfl) rfl (AOps.nil (AWp.sr ?_))
 refine .vl (Y.loadA sh106 rfl rfl (Nat.le_of_ble_eq_true rfl) rfl rfl) (AOps.storeC si106 rfl rfl rfl rfl rfl rfl (Nat.le_of_ble_eq_true rfl) rfl ?_)
 refine .an ?_
 refine AOps.nil (AWp.ret ?_)
 first | (exfalso; omega) | exact ⟨_, _, rfl, rfl, (8 * x) * x, by rw [show uDelay op x.toNat = 0 by (try rw [hle]); unfold uDelay; (repeat' split) <;> omega]; rfl, rfl⟩
 refine AWp.sr (.vl (Y.eql rfl rfl) ?_)
 refine .an ?_
 refine AOps.nil ?_
 refine AWp.condKD rfl (fun c159 => ?_) (fun c159 => ?_)
 refine AWp.skip (AWp.condT rfl (AWp.sr ?_))
 refine .mv ?_
 refine .vl (Y.addI rfl rfl (by omega)) ?_
 refine .vl (Y.subI rfl rfl (by first | omega | simp [-List.getD_eq_getElem?_getD] <;> omega)) ?_
 refine .fa fl106_0 ?_
 refine AOps.storeC si3 rfl rfl rfl rfl rfl rfl (Nat.le_of_ble_eq_true rfl) rfl (AOps.nil (AWp.region ?_))
 refine .mv ?_
 refine .vl (Y.addI rfl rfl (by omega)) ?_
 refine .vl (Y.quoI rfl rfl (by omega)) ?_
 refine .vl (Y.addI rfl rfl (by omega)) ?_
 refine .mv ?_
 refine .vl (Y.addI rfl rfl (by omega)) ?_
 refine .vl (Y.quoI rfl rfl (by omega)) ?_
 refine .vl (Y.addI rfl rfl (by omega)) ?_
 refine .mv ?_
 refine .vl (Y.mulI rfl rfl (by omega)) ?_
 refine .mv ?_
 refine .vl (Y.mulI rfl rfl (by omega)) ?_
 refine .fa fl106_3 ?_
 refine AOps.storeC si3 rfl rfl rfl rfl rfl rfl (Nat.le_of_ble_eq_true rfl) rfl ?_
 refine .fa fl106_4 ?_
 refine AOps.storeC si3 rfl rfl rfl rfl rfl rfl (Nat.le_of_ble_eq_true rfl) rfl ?_
 refine .fa fl106_5 ?_
 refine AOps.storeC si3 rfl rfl rfl rfl rfl rfl (Nat.le_of_ble_eq_true rfl) rfl (AOps.nil (AWp.sr ?_))
 refine .vl (Y.loadA sh106 rfl rfl (Nat.le_of_ble_eq_true rfl) rfl rfl) (AOps.storeC si106 rfl rfl rfl rfl rfl rfl (Nat.le_of_ble_eq_true rfl) rfl ?_)
 refine .an ?_
 refine AOps.nil (AWp.ret ?_)
 first | (exfalso; omega) | exact ⟨_, _, rfl, rfl, (8 * x) * x, by rw [show uDelay op x.toNat = 0 by (try rw [hle]); unfold uDelay; (repeat' split) <;> omega]; rfl, rfl⟩
 refine AWp.region (.vl (Y.eql rfl rfl) ?_)
 refine .an ?_
 refine AOps.nil ?_
 refine AWp.condKD rfl (fun c159 => ?_) (fun c159 => ?_)
 refine AWp.sr ?_
 refine .mv ?_
 refine .vl (Y.addI rfl rfl (by omega)) ?_
 refine .vl (Y.subI rfl rfl (by first | omega | simp [-List.getD_eq_getElem?_getD] <;> omega)) ?_
 refine .fa fl106_0 ?_
 refine AOps.storeC si3 rfl rfl rfl rfl rfl rfl (Nat.le_of_ble_eq_true rfl) rfl (AOps.nil (AWp.region ?_))
 refine .mv ?_
 refine .vl (Y.addI rfl rfl (by omega)) ?_
 refine .vl (Y.quoI rfl rfl (by omega)) ?_
 refine .vl (Y.addI rfl rfl (by omega)) ?_
 refine .mv ?_
 refine .vl (Y.addI rfl rfl (by omega)) ?_
 refine .vl (Y.quoI rfl rfl (by omega)) ?_
 refine .vl (Y.addI rfl rfl (by omega)) ?_
 refine .mv ?_
 refine .vl (Y.mulI rfl rfl (by omega)) ?_
 refine .mv ?_
 refine .vl (Y.mulI rfl rfl (by omega)) ?_
 refine .fa fl106_3 ?_
 refine AOps.storeC si3 rfl rfl rfl rfl rfl rfl (Nat.le_of_ble_eq_true rfl) rfl ?_
 refine .fa fl106_4 ?_
 refine AOps.storeC si3 rfl rfl rfl rfl rfl rfl (Nat.le_of_ble_eq_true rfl) rfl ?_
 refine .fa fl106_5 ?_
 refine AOps.storeC si3 rfl rfl rfl rfl rfl rfl (Nat.le_of_ble_eq_true rfl) rfl (AOps.nil (AWp.sr ?_))
 refine .vl (Y.loadA sh106 rfl rfl (Nat.le_of_ble_eq_true rfl) rfl rfl) (AOps.storeC si106 rfl rfl rfl rfl rfl rfl (Nat.le_of_ble_eq_true rfl) rfl ?_)
 refine .an ?_
 refine AOps.nil (AWp.ret ?_)
 first | (exfalso; omega) | exact ⟨_, _, rfl, rfl, (8 * x) * x, by rw [show uDelay op x.toNat = 0 by (try rw [hle]); unfold uDelay; (repeat' split) <;> omega]; rfl, rfl⟩
 refine AWp.skip (AWp.sr (.vl (Y.loadA sh106 rfl rfl (Nat.le_of_ble_eq_true rfl) rfl rfl) ?_))
 refine AOps.storeC si106 rfl rfl rfl rfl rfl rfl (Nat.le_of_ble_eq_true rfl) rfl ?_
 refine .an ?_
 refine AOps.nil (AWp.ret ?_)
 first | (exfalso; omega) | exact ⟨_, _, rfl, rfl, 0, by rw [show uDelay op x.toNat = 0 by (try rw [hle]); unfold uDelay; (repeat' split) <;> omega]; rfl, rfl⟩

end Go.Proofs.Ytligpghohcfpnaa
/- The walk of Cell. -/
namespace Go.Proofs.Ytligpghohcfpnaa
open Go Go.AW Go.Proofs



set_option maxRecDepth 4000 in
set_option maxHeartbeats 1000000 in
theorem tcell_spec {n : Netlist} {c : Cell} (hw : ∀ w ∈ n.widths, Wide w) (hok : CellOK n c) (ha : c.args.length ≤ 200) (hwl : n.widths.length ≤ 1000) : ACalls Try.prog 41 [.agg (Netlist.row n), .agg (Cell.row c)] [] [] (fun r o => r = .v (.int .i64 (dly n c)) ∧ o = []) := by
 refine ACalls.of Try.func41 rfl rfl rfl (n := 49) (by decide) (Nat.le_of_ble_eq_true rfl) (AWp.sr (AOps.box 102 rfl rfl rfl rfl rfl (by decide) ?_))
 refine AOps.box 103 rfl rfl rfl rfl rfl (by decide) ?_
 refine .an ?_
 refine AOps.nil (AWp.seq (AWp.seq ?_))
 refine AWp.sh (Sh.freezeO 102 rfl rfl) (AWp.sh (Sh.freezeO 103 rfl rfl) (AWp.region ?_))
 refine .fa fl39_0 ?_
 refine .ld sh3 ?_
 refine AOps.nil (AWp.block (AWp.sr ?_))
 refine .vl (Y.eql rfl rfl) ?_
 refine .an ?_
 refine AOps.nil ?_
 refine AWp.condD rfl (fun c10 => ?_) (fun c10 => ?_)
 refine AWp.sr ?_
 refine .an ?_
 refine AOps.nil (AWp.ret ?_)
 exact .ri rfl (by unfold dly; rw [if_pos (by assumption)])
 refine AWp.sr (.vl (Y.eql rfl rfl) ?_)
 refine .an ?_
 refine AOps.nil ?_
 refine AWp.condD rfl (fun c12 => ?_) (fun c12 => ?_)
 refine AWp.seq ?_
 have h5 := op_len hok (by assumption); have h5i := h5.1; unfold In at h5i; have h5w := wd_rng hw h5.1; have h5a := hok.1 (c.args.getD 0 0) (getD_mem (by omega)); have h5v := wd_rng hw h5a; have h5j := h5a; unfold In at h5j
 refine AWp.region ?_
 refine .fa fl27_1 ?_
 refine .ld sh22 ?_
 refine .fa fl39_2 ?_
 refine .ld sh3 ?_
 refine .vl (Y.indexF (m := (c.out).toNat) sl22 rfl rfl (by omega) (row_getD (d := 0) (by omega))) ?_
 refine .ld sh3 ?_
 refine .an ?_
 refine AOps.nil ?_
 refine AWp.join1 (fun (w5_j8 : Int) => ⟨[(3, .fp (Cell.row c) 0), (5, .v (.int .i64 w5_j8))], []⟩) (fun (w5_j8 : Int) => w5_j8 = (if Cmp c.op then n.av c 0 else n.wd c.out)) ?_ (fun w5_j8 hJ8 => ?_)
 refine AWp.sr ?_
 refine .fa fl39_1 ?_
 refine .ld sh3 ?_
 refine AOps.callP ok74 (isCompare_spec (w := c.op)) rfl (.keep rfl rfl .nil) (by decide) rfl (AOps.nil ?_)
 refine AWp.condD rfl (fun c22 => ?_) (fun c22 => ?_)
 refine AWp.regionS rfl (by kernel_rfl) (AHead.val (Y.fieldAddr fl27_1 rfl rfl) (by decide) (AHead.val (Y.load sh22 rfl rfl rfl rfl) (by decide) ?_))
 refine AHead.val (Y.fieldAddr fl39_3 rfl rfl) (by decide) (AHead.val (Y.load sh22 rfl rfl rfl rfl) (by decide) ?_)
 refine AHead.val (Y.indexF (m := 0) sl22 rfl rfl (by first | rfl | omega) (row_getD (d := 0) (by omega))) (by decide) ?_
 refine AHead.val (Y.load sh3 rfl rfl rfl rfl) (by decide) ?_
 refine AHead.val (Y.indexF (m := (c.args.getD 0 0).toNat) sl22 rfl rfl (by omega) (row_getD (d := 0) (by omega))) (by decide) ?_
 refine AHead.val (Y.load sh3 rfl rfl rfl rfl) (by decide) (AHead.val (Y.assign rfl rfl) (by decide) (AHead.nil ?_))
 exact ⟨n.widths.getD ((c.args.getD 0 0).toNat) 0, by rw [if_pos (by assumption)]; rfl, Le.mk (.c (.cons (look_int rfl (by first | rfl | omega)) (.nil))) (.nil)⟩
 refine AWp.skip ?_
 exact ⟨n.widths.getD ((c.out).toNat) 0, by rw [if_neg (by assumption)]; rfl, Le.mk (.c (.cons (look_int rfl (by first | rfl | omega)) (.nil))) (.nil)⟩
 have h8 : 1 ≤ w5_j8 ∧ w5_j8 ≤ 64 := by (rw [hJ8]; split <;> assumption)
 refine AWp.sr ?_
 refine .fa fl39_1 ?_
 refine .ld sh3 ?_
 refine .mv ?_
 refine AOps.callV ok75 (of_spec (op := c.op) (x := w5_j8) h5.2.1 h8.1 h8.2) rfl (.keep rfl rfl (.keep rfl rfl .nil)) (by decide) ?_
 rintro _ ⟨ar35, rfl, _⟩
 refine ⟨rfl, ?_⟩
 refine .mv ?_
 refine .vl (Y.extract rfl rfl rfl) (.vl (Y.extract rfl rfl rfl) (AOps.alloc 106 ze106 rfl rfl (by decide) ?_))
 refine AOps.storeC si106 rfl rfl rfl rfl rfl rfl (Nat.le_of_ble_eq_true rfl) rfl ?_
 refine .an ?_
 refine AOps.nil (AWp.sr ?_)
 refine .fa fl106_2 ?_
 refine .ld sh3 ?_
 refine .an ?_
 refine AOps.nil (AWp.ret ?_)
 exact .ri rfl (by unfold dly; rw [if_neg (by omega), if_pos (by assumption), hJ8])
 refine AWp.sr (.vl (Y.eql rfl rfl) ?_)
 refine .an ?_
 refine AOps.nil ?_
 refine AWp.condD rfl (fun c40 => ?_) (fun c40 => ?_)
 refine AWp.seq ?_
 have h11 := lev_lt (n := (((c.args.length : Nat) : Int) / 2).toNat) (by omega)
 refine AWp.region ?_
 refine .fa fl39_3 ?_
 refine .ld sh22 ?_
 refine .vl (Y.len (n := c.args.length) sl22 rfl (congrArg some (List.length_map ..))) ?_
 refine .vl (Y.quoI rfl rfl (by omega)) ?_
 refine AOps.callP ok76 (levels_spec (x := (((c.args.length : Nat) : Int) / 2)) ((by omega)) ((by omega))) rfl (.keep rfl rfl .nil) (by decide) rfl ?_
 refine .vl (Y.mulI rfl rfl (by omega)) ?_
 refine .vl (Y.addI rfl rfl (by omega)) ?_
 refine .an ?_
 refine AOps.nil (AWp.ret ?_)
 exact .ri rfl (by unfold dly; rw [if_neg (by omega), if_neg (by omega), if_pos (by assumption), show (((c.args.length : Nat) : Int) / 2).toNat = c.args.length / 2 by omega])
 refine AWp.skip (AWp.sr ?_)
 refine .an ?_
 refine AOps.nil (AWp.ret ?_)
 exact .ri rfl (by unfold dly; rw [if_neg (by omega), if_neg (by omega), if_neg (by omega)])

end Go.Proofs.Ytligpghohcfpnaa
/- Walk through shaped. -/
namespace Go.Proofs.Ytligpghohcfpnaa
open Go Go.AW Go.Proofs
theorem shaped_spec {n : Netlist} {c : Cell} (hs : n.Small) (hc : c.args.length ≤ 17592186043904) : ACalls Try.prog 98 [.agg (Netlist.row n), .agg (Cell.row c)] [] [] (fun r o => r = .v (.bool (decide (Shaped n c))) ∧ o = []) := by
 refine ACalls.of Try.func98 rfl rfl rfl (n := 132) (by decide) (nbE rfl) ?_
 have hs4 := hs.ins; have hs5 := hs.mems; have hs6 := hs.streams
 refine .sr (.box 102 rfl rfl rfl rfl rfl (by decide) (.box 103 rfl rfl rfl rfl rfl (by decide) ?_))
 refine .an ?_
 refine .nil (.sr ?_)
 refine .an ?_
 refine .an ?_
 refine .an ?_
 refine .an ?_
 refine .nil (.seq (.sr ?_))
 refine .fa fl39_0 ?_
 refine .ld sh3 ?_
 refine .nil (.block (.sr ?_))
 refine .vl (Y.eql rfl rfl) ?_
 refine .an ?_
 refine .nil ?_
 refine .condD rfl (fun c11 => ?_) (fun c11 => ?_)
 refine .region ?_
 refine .an ?_
 refine .nil ?_
 refine .join0 (⟨[(2, .ptr 102 0 0 0), (3, .ptr 103 0 0 0), (8, vi (-1))], [(102, .cells (Netlist.row n)), (103, .cells (Cell.row c))]⟩) (((¬ (((c.args.length : Nat) : Int) ≠ 0)) ∧ (¬ (c.op ≠ 0)) ∧ (((c.num : Nat) : Int) ≠ 0)) ∨ ((¬ (((c.args.length : Nat) : Int) ≠ 0)) ∧ (¬ (c.op ≠ 0)) ∧ (¬ (((c.num : Nat) : Int) ≠ 0)))) ?_ (fun hJ33 => ?_)
 refine .sr ?_
 refine .fa fl39_3 ?_
 refine .ld sh22 ?_
 refine .vl (Y.len (n := c.args.length) sl22 rfl (congrArg some (List.length_map ..))) ?_
 refine .mv ?_
 refine .vl (Y.neq rfl rfl) ?_
 refine .mv ?_
 refine .splitD (d := 88) rfl (fun c88 => ?_) (fun c88 => ?_)
 refine .gz 88 (.gz 88 (.gz 88 ?_))
 refine .gz 88 ?_
 refine .pk ?_
 refine .mv ?_
 refine .gz 94 (.gz 94 (.gz 94 ?_))
 refine .gz 94 (.gz 98 (.gz 98 ?_))
 refine .gz 94 ?_
 refine .pk ?_
 refine .nil (.condT rfl (.sr ?_))
 refine .an ?_
 refine .nil (.ret ?_)
 exact .rb rfl (df (by (simp only [Shaped, c11, Int.reduceEq, Bool.not_eq_true, false_and, true_and, and_true, and_false, or_false, false_or, ne_eq]) <;> (first | omega | grind)))
 refine .gw 88 (Y.fieldAddr fl39_1 rfl rfl) (.gw 88 (Y.load sh3 rfl rfl rfl rfl) (.gw 88 (Y.move rfl rfl) ?_))
 refine .gw 88 (Y.neq rfl rfl) ?_
 refine .pk ?_
 refine .mv ?_
 refine .splitD (d := 94) rfl (fun c94 => ?_) (fun c94 => ?_)
 refine .gz 94 (.gz 94 (.gz 94 ?_))
 refine .gz 94 (.gz 98 (.gz 98 ?_))
 refine .gz 94 ?_
 refine .pk ?_
 refine .nil (.condT rfl (.sr ?_))
 refine .an ?_
 refine .nil (.ret ?_)
 exact .rb rfl (df (by (simp only [Shaped, c11, Int.reduceEq, Bool.not_eq_true, false_and, true_and, and_true, and_false, or_false, false_or, ne_eq]) <;> (first | omega | grind)))
 refine .gw 94 (Y.fieldAddr fl39_4 rfl rfl) (.gw 94 (Y.load sh37 rfl rfl rfl rfl) (.gw 94 (Y.neq rfl rfl) ?_))
 refine .gw 94 (Y.move rfl rfl) ?_
 refine .splitD (d := 98) rfl (fun c98 => ?_) (fun c98 => ?_)
 refine .gw 98 (Y.move rfl rfl) (.gw 98 (Y.not rfl) (.gw 94 (Y.pick rfl rfl rfl) ?_))
 refine .pk ?_
 refine .nil (.condF rfl (.skip ?_))
 exact ⟨.inl ⟨c88, c94, c98⟩, Le.mk (.c (.c (.c (.nil)))) (.c (.c (.nil)))⟩
 refine .gz 98 (.gz 98 (.gw 94 (Y.pick rfl rfl rfl) ?_))
 refine .pk ?_
 refine .nil (.condF rfl (.skip ?_))
 exact ⟨.inr (⟨c88, c94, c98⟩), Le.mk (.c (.c (.c (.nil)))) (.c (.c (.nil)))⟩
 refine .seq (.sr ?_)
 refine .mv ?_
 refine .vl (Y.lss rfl rfl) (.nil (.condT rfl ?_))
 refine .sr ?_
 refine .fa fl39_5 ?_
 refine .ld sh3 ?_
 refine .vl (Y.eql rfl rfl) ?_
 refine .an ?_
 refine .nil (.ret ?_)
 exact .rb rfl (dd (by (simp only [Shaped, c11, Int.reduceEq, Bool.not_eq_true, false_and, true_and, and_true, and_false, or_false, false_or, ne_eq]) <;> (first | omega | grind)))
 refine .sr (.vl (Y.eql rfl rfl) ?_)
 refine .an ?_
 refine .nil ?_
 refine .condD rfl (fun c13 => ?_) (fun c13 => ?_)
 refine .seq (.regionAny rfl (.blind 0 rfl (by kernel_rfl) (Blind.fieldAddr fl39_1 rfl rfl) (by decide) ?_))
 refine .blind 3 rfl (by kernel_rfl) (Blind.fieldAddr fl39_1 rfl rfl) (by decide) ?_
 refine .two 1 4 rfl rfl (by kernel_rfl) ?_ ?_
 refine .ld sh3 ?_
 refine .nil ⟨rfl, ?_⟩
 refine .two 2 4 rfl rfl (by kernel_rfl) ?_ ?_
 refine .callP ok124 (operands_spec (op := c.op)) rfl (.keep rfl rfl .nil) (by decide) rfl ?_
 refine .nil ⟨rfl, ?_⟩
 refine .quietN (n := 0) [4, 5, 6] [] 0 rfl (by kernel_rfl) (.cn 4 rfl (Y.load sh3 rfl rfl rfl rfl) (.cn 5 rfl (Y.assign rfl rfl) ?_))
 refine .cn 6 rfl (Y.assign rfl rfl) (.nil (.done (by kernel_rfl) ?_))
 refine .sr ?_
 refine .mv ?_
 refine .vl (Y.eql rfl rfl) (.nil ?_)
 refine .condD rfl (fun c21 => ?_) (fun c21 => ?_)
 refine .sr ?_
 refine .an ?_
 refine .nil (.ret ?_)
 exact .rb rfl (df (by (simp only [Shaped, c13, Int.reduceEq, Bool.not_eq_true, false_and, true_and, and_true, and_false, or_false, false_or, ne_eq]) <;> (first | omega | grind)))
 refine .skip (.seq (.sr ?_))
 refine .fa fl39_3 ?_
 refine .ld sh22 ?_
 refine .vl (Y.len (n := c.args.length) sl22 rfl (congrArg some (List.length_map ..))) ?_
 refine .mv ?_
 refine .vl (Y.neq rfl rfl) ?_
 refine .mv ?_
 refine .splitD (d := 88) rfl (fun c88 => ?_) (fun c88 => ?_)
 refine .gz 88 (.gz 88 (.gz 88 ?_))
 refine .gz 88 ?_
 refine .pk ?_
 refine .mv ?_
 refine .gz 94 (.gz 94 (.gz 94 ?_))
 refine .gz 94 (.gz 98 (.gz 98 ?_))
 refine .gz 94 ?_
 refine .pk ?_
 refine .nil (.condT rfl (.sr ?_))
 refine .an ?_
 refine .nil (.ret ?_)
 exact .rb rfl (df (by (simp only [Shaped, c13, Int.reduceEq, Bool.not_eq_true, false_and, true_and, and_true, and_false, or_false, false_or, ne_eq]) <;> (first | omega | grind)))
 refine .gw 88 (Y.fieldAddr fl39_1 rfl rfl) (.gw 88 (Y.load sh3 rfl rfl rfl rfl) (.gw 88 (Y.move rfl rfl) ?_))
 refine .gw 88 (Y.neq rfl rfl) ?_
 refine .pk ?_
 refine .mv ?_
 refine .splitD (d := 94) rfl (fun c94 => ?_) (fun c94 => ?_)
 refine .gz 94 (.gz 94 (.gz 94 ?_))
 refine .gz 94 (.gz 98 (.gz 98 ?_))
 refine .gz 94 ?_
 refine .pk ?_
 refine .nil (.condT rfl (.sr ?_))
 refine .an ?_
 refine .nil (.ret ?_)
 exact .rb rfl (df (by (simp only [Shaped, c13, Int.reduceEq, Bool.not_eq_true, false_and, true_and, and_true, and_false, or_false, false_or, ne_eq]) <;> (first | omega | grind)))
 refine .gw 94 (Y.fieldAddr fl39_4 rfl rfl) (.gw 94 (Y.load sh37 rfl rfl rfl rfl) (.gw 94 (Y.neq rfl rfl) ?_))
 refine .gw 94 (Y.move rfl rfl) ?_
 refine .splitD (d := 98) rfl (fun c98 => ?_) (fun c98 => ?_)
 refine .gw 98 (Y.move rfl rfl) (.gw 98 (Y.not rfl) (.gw 94 (Y.pick rfl rfl rfl) ?_))
 refine .pk ?_
 refine .nil (.condT rfl (.sr ?_))
 refine .an ?_
 refine .nil (.ret ?_)
 exact .rb rfl (df (by (simp only [Shaped, c13, Int.reduceEq, Bool.not_eq_true, false_and, true_and, and_true, and_false, or_false, false_or, ne_eq]) <;> (first | omega | grind)))
 refine .gz 98 (.gz 98 (.gw 94 (Y.pick rfl rfl rfl) ?_))
 refine .pk ?_
 refine .nil (.condF rfl (.skip ?_))
 refine .seq (.sr ?_)
 refine .mv ?_
 refine .vl (Y.lss rfl rfl) (.nil (.condT rfl ?_))
 refine .sr ?_
 refine .fa fl39_5 ?_
 refine .ld sh3 ?_
 refine .vl (Y.eql rfl rfl) ?_
 refine .an ?_
 refine .nil (.ret ?_)
 exact .rb rfl (dd (by (simp only [Shaped, c13, Int.reduceEq, Bool.not_eq_true, false_and, true_and, and_true, and_false, or_false, false_or, ne_eq]) <;> (first | omega | grind)))
 refine .ld sh3 ?_
 refine .nil ⟨rfl, ?_⟩
 refine .one 2 rfl (by kernel_rfl) (.callP ok124 (operands_spec (op := c.op)) rfl (.keep rfl rfl .nil) (by decide) rfl ?_)
 refine .nil ⟨rfl, ?_⟩
 refine .quietN (n := 0) [5, 6] [] 0 rfl (by kernel_rfl) (.cn 5 rfl (Y.assign rfl rfl) (.cn 6 rfl (Y.assign rfl rfl) ?_))
 refine .nil (.done (by kernel_rfl) (.sr ?_))
 refine .mv ?_
 refine .vl (Y.eql rfl rfl) (.nil ?_)
 refine .condD rfl (fun c21 => ?_) (fun c21 => ?_)
 refine .sr ?_
 refine .an ?_
 refine .nil (.ret ?_)
 exact .rb rfl (df (by (simp only [Shaped, c13, Int.reduceEq, Bool.not_eq_true, false_and, true_and, and_true, and_false, or_false, false_or, ne_eq]) <;> (first | omega | grind)))
 refine .skip (.seq (.sr ?_))
 refine .fa fl39_3 ?_
 refine .ld sh22 ?_
 refine .vl (Y.len (n := c.args.length) sl22 rfl (congrArg some (List.length_map ..))) ?_
 refine .mv ?_
 refine .vl (Y.neq rfl rfl) ?_
 refine .mv ?_
 refine .splitD (d := 88) rfl (fun c88 => ?_) (fun c88 => ?_)
 refine .gz 88 (.gz 88 (.gz 88 ?_))
 refine .gz 88 ?_
 refine .pk ?_
 refine .mv ?_
 refine .gz 94 (.gz 94 (.gz 94 ?_))
 refine .gz 94 (.gz 98 (.gz 98 ?_))
 refine .gz 94 ?_
 refine .pk ?_
 refine .nil (.condT rfl (.sr ?_))
 refine .an ?_
 refine .nil (.ret ?_)
 exact .rb rfl (df (by (simp only [Shaped, c13, Int.reduceEq, Bool.not_eq_true, false_and, true_and, and_true, and_false, or_false, false_or, ne_eq]) <;> (first | omega | grind)))
 refine .gw 88 (Y.fieldAddr fl39_1 rfl rfl) (.gw 88 (Y.load sh3 rfl rfl rfl rfl) (.gw 88 (Y.move rfl rfl) ?_))
 refine .gw 88 (Y.neq rfl rfl) ?_
 refine .pk ?_
 refine .mv ?_
 refine .splitD (d := 94) rfl (fun c94 => ?_) (fun c94 => ?_)
 refine .gz 94 (.gz 94 (.gz 94 ?_))
 refine .gz 94 (.gz 98 (.gz 98 ?_))
 refine .gz 94 ?_
 refine .pk ?_
 refine .nil (.condT rfl (.sr ?_))
 refine .an ?_
 refine .nil (.ret ?_)
 exact .rb rfl (df (by (simp only [Shaped, c13, Int.reduceEq, Bool.not_eq_true, false_and, true_and, and_true, and_false, or_false, false_or, ne_eq]) <;> (first | omega | grind)))
 refine .gw 94 (Y.fieldAddr fl39_4 rfl rfl) (.gw 94 (Y.load sh37 rfl rfl rfl rfl) (.gw 94 (Y.neq rfl rfl) ?_))
 refine .gw 94 (Y.move rfl rfl) ?_
 refine .splitD (d := 98) rfl (fun c98 => ?_) (fun c98 => ?_)
 refine .gw 98 (Y.move rfl rfl) (.gw 98 (Y.not rfl) (.gw 94 (Y.pick rfl rfl rfl) ?_))
 refine .pk ?_
 refine .nil (.condT rfl (.sr ?_))
 refine .an ?_
 refine .nil (.ret ?_)
 exact .rb rfl (df (by (simp only [Shaped, c13, Int.reduceEq, Bool.not_eq_true, false_and, true_and, and_true, and_false, or_false, false_or, ne_eq]) <;> (first | omega | grind)))
 refine .gz 98 (.gz 98 (.gw 94 (Y.pick rfl rfl rfl) ?_))
 refine .pk ?_
 refine .nil (.condF rfl (.skip ?_))
 refine .seq (.sr ?_)
 refine .mv ?_
 refine .vl (Y.lss rfl rfl) (.nil (.condT rfl ?_))
 refine .sr ?_
 refine .fa fl39_5 ?_
 refine .ld sh3 ?_
 refine .vl (Y.eql rfl rfl) ?_
 refine .an ?_
 refine .nil (.ret ?_)
 exact .rb rfl (dd (by (simp only [Shaped, c13, Int.reduceEq, Bool.not_eq_true, false_and, true_and, and_true, and_false, or_false, false_or, ne_eq]) <;> (first | omega | grind)))
 refine .ld sh3 ?_
 refine .nil ⟨rfl, ?_⟩
 refine .quietN (n := 3) [1] [2, 5, 6] 2 rfl (by kernel_rfl) (.cn 1 rfl (Y.load sh3 rfl rfl rfl rfl) (.nil ?_))
 refine .one 2 rfl (by kernel_rfl) (.callP ok124 (operands_spec (op := c.op)) rfl (.keep rfl rfl .nil) (by decide) rfl ?_)
 refine .nil ⟨rfl, ?_⟩
 refine .quietN (n := 0) [5, 6] [] 0 rfl (by kernel_rfl) (.cn 5 rfl (Y.assign rfl rfl) (.cn 6 rfl (Y.assign rfl rfl) ?_))
 refine .nil (.done (by kernel_rfl) (.sr ?_))
 refine .mv ?_
 refine .vl (Y.eql rfl rfl) (.nil ?_)
 refine .condD rfl (fun c21 => ?_) (fun c21 => ?_)
 refine .sr ?_
 refine .an ?_
 refine .nil (.ret ?_)
 exact .rb rfl (df (by (simp only [Shaped, c13, Int.reduceEq, Bool.not_eq_true, false_and, true_and, and_true, and_false, or_false, false_or, ne_eq]) <;> (first | omega | grind)))
 refine .skip (.seq (.sr ?_))
 refine .fa fl39_3 ?_
 refine .ld sh22 ?_
 refine .vl (Y.len (n := c.args.length) sl22 rfl (congrArg some (List.length_map ..))) ?_
 refine .mv ?_
 refine .vl (Y.neq rfl rfl) ?_
 refine .mv ?_
 refine .splitD (d := 88) rfl (fun c88 => ?_) (fun c88 => ?_)
 refine .gz 88 (.gz 88 (.gz 88 ?_))
 refine .gz 88 ?_
 refine .pk ?_
 refine .mv ?_
 refine .gz 94 (.gz 94 (.gz 94 ?_))
 refine .gz 94 (.gz 98 (.gz 98 ?_))
 refine .gz 94 ?_
 refine .pk ?_
 refine .nil (.condT rfl (.sr ?_))
 refine .an ?_
 refine .nil (.ret ?_)
 exact .rb rfl (df (by (simp only [Shaped, c13, Int.reduceEq, Bool.not_eq_true, false_and, true_and, and_true, and_false, or_false, false_or, ne_eq]) <;> (first | omega | grind)))
 refine .gw 88 (Y.fieldAddr fl39_1 rfl rfl) (.gw 88 (Y.load sh3 rfl rfl rfl rfl) (.gw 88 (Y.move rfl rfl) ?_))
 refine .gw 88 (Y.neq rfl rfl) ?_
 refine .pk ?_
 refine .mv ?_
 refine .splitD (d := 94) rfl (fun c94 => ?_) (fun c94 => ?_)
 refine .gz 94 (.gz 94 (.gz 94 ?_))
 refine .gz 94 (.gz 98 (.gz 98 ?_))
 refine .gz 94 ?_
 refine .pk ?_
 refine .nil (.condT rfl (.sr ?_))
 refine .an ?_
 refine .nil (.ret ?_)
 exact .rb rfl (df (by (simp only [Shaped, c13, Int.reduceEq, Bool.not_eq_true, false_and, true_and, and_true, and_false, or_false, false_or, ne_eq]) <;> (first | omega | grind)))
 refine .gw 94 (Y.fieldAddr fl39_4 rfl rfl) (.gw 94 (Y.load sh37 rfl rfl rfl rfl) (.gw 94 (Y.neq rfl rfl) ?_))
 refine .gw 94 (Y.move rfl rfl) ?_
 refine .splitD (d := 98) rfl (fun c98 => ?_) (fun c98 => ?_)
 refine .gw 98 (Y.move rfl rfl) (.gw 98 (Y.not rfl) (.gw 94 (Y.pick rfl rfl rfl) ?_))
 refine .pk ?_
 refine .nil (.condT rfl (.sr ?_))
 refine .an ?_
 refine .nil (.ret ?_)
 exact .rb rfl (df (by (simp only [Shaped, c13, Int.reduceEq, Bool.not_eq_true, false_and, true_and, and_true, and_false, or_false, false_or, ne_eq]) <;> (first | omega | grind)))
 refine .gz 98 (.gz 98 (.gw 94 (Y.pick rfl rfl rfl) ?_))
 refine .pk ?_
 refine .nil (.condF rfl (.skip ?_))
 refine .seq (.sr ?_)
 refine .mv ?_
 refine .vl (Y.lss rfl rfl) (.nil (.condT rfl ?_))
 refine .sr ?_
 refine .fa fl39_5 ?_
 refine .ld sh3 ?_
 refine .vl (Y.eql rfl rfl) ?_
 refine .an ?_
 refine .nil (.ret ?_)
 exact .rb rfl (dd (by (simp only [Shaped, c13, Int.reduceEq, Bool.not_eq_true, false_and, true_and, and_true, and_false, or_false, false_or, ne_eq]) <;> (first | omega | grind)))
 refine .sr (.vl (Y.eql rfl rfl) ?_)
 refine .an ?_
 refine .nil ?_
 refine .condD rfl (fun c22 => ?_) (fun c22 => ?_)
 refine .sr ?_
 refine .fa fl39_3 ?_
 refine .ld sh22 ?_
 refine .vl (Y.len (n := c.args.length) sl22 rfl (congrArg some (List.length_map ..))) ?_
 refine .an ?_
 refine .nil (.sr ?_)
 refine .mv ?_
 refine .vl (Y.lss rfl rfl) ?_
 refine .mv ?_
 refine .splitD (d := 29) rfl (fun c29 => ?_) (fun c29 => ?_)
 refine .gz 29 (.gz 29 (.gz 29 ?_))
 refine .pk ?_
 refine .nil (.condT rfl (.sr ?_))
 refine .an ?_
 refine .nil (.ret ?_)
 exact .rb rfl (df (by (simp only [Shaped, c22, Int.reduceEq, Bool.not_eq_true, false_and, true_and, and_true, and_false, or_false, false_or, ne_eq]) <;> (first | omega | grind)))
 refine .gw 29 (Y.move rfl rfl) ?_
 refine .gw 29 (Y.remI rfl rfl (by omega)) ?_
 refine .gw 29 (Y.eql rfl rfl) ?_
 refine .pk ?_
 refine .nil ?_
 refine .condD rfl (fun c33 => ?_) (fun c33 => ?_)
 refine .sr ?_
 refine .an ?_
 refine .nil (.ret ?_)
 exact .rb rfl (df (by (simp only [Shaped, c22, Int.reduceEq, Bool.not_eq_true, false_and, true_and, and_true, and_false, or_false, false_or, ne_eq]) <;> (first | omega | grind)))
 refine .skip (.seq (.sr ?_))
 refine .fa fl39_3 ?_
 refine .ld sh22 ?_
 refine .vl (Y.len (n := c.args.length) sl22 rfl (congrArg some (List.length_map ..))) ?_
 refine .mv ?_
 refine .vl (Y.neq rfl rfl) ?_
 refine .mv ?_
 refine .splitD (d := 88) rfl (fun c88 => ?_) (fun c88 => ?_)
 refine .gz 88 (.gz 88 (.gz 88 ?_))
 refine .gz 88 ?_
 refine .pk ?_
 refine .mv ?_
 refine .gz 94 (.gz 94 (.gz 94 ?_))
 refine .gz 94 (.gz 98 (.gz 98 ?_))
 refine .gz 94 ?_
 refine .pk ?_
 refine .nil (.condT rfl (.sr ?_))
 refine .an ?_
 refine .nil (.ret ?_)
 exact .rb rfl (df (by (simp only [Shaped, c22, Int.reduceEq, Bool.not_eq_true, false_and, true_and, and_true, and_false, or_false, false_or, ne_eq]) <;> (first | omega | grind)))
 refine .gw 88 (Y.fieldAddr fl39_1 rfl rfl) (.gw 88 (Y.load sh3 rfl rfl rfl rfl) (.gw 88 (Y.move rfl rfl) ?_))
 refine .gw 88 (Y.neq rfl rfl) ?_
 refine .pk ?_
 refine .mv ?_
 refine .splitD (d := 94) rfl (fun c94 => ?_) (fun c94 => ?_)
 refine .gz 94 (.gz 94 (.gz 94 ?_))
 refine .gz 94 (.gz 98 (.gz 98 ?_))
 refine .gz 94 ?_
 refine .pk ?_
 refine .nil (.condT rfl (.sr ?_))
 refine .an ?_
 refine .nil (.ret ?_)
 exact .rb rfl (df (by (simp only [Shaped, c22, Int.reduceEq, Bool.not_eq_true, false_and, true_and, and_true, and_false, or_false, false_or, ne_eq]) <;> (first | omega | grind)))
 refine .gw 94 (Y.fieldAddr fl39_4 rfl rfl) (.gw 94 (Y.load sh37 rfl rfl rfl rfl) (.gw 94 (Y.neq rfl rfl) ?_))
 refine .gw 94 (Y.move rfl rfl) ?_
 refine .splitD (d := 98) rfl (fun c98 => ?_) (fun c98 => ?_)
 refine .gw 98 (Y.move rfl rfl) (.gw 98 (Y.not rfl) (.gw 94 (Y.pick rfl rfl rfl) ?_))
 refine .pk ?_
 refine .nil (.condT rfl (.sr ?_))
 refine .an ?_
 refine .nil (.ret ?_)
 exact .rb rfl (df (by (simp only [Shaped, c22, Int.reduceEq, Bool.not_eq_true, false_and, true_and, and_true, and_false, or_false, false_or, ne_eq]) <;> (first | omega | grind)))
 refine .gz 98 (.gz 98 (.gw 94 (Y.pick rfl rfl rfl) ?_))
 refine .pk ?_
 refine .nil (.condF rfl (.skip ?_))
 refine .seq (.sr ?_)
 refine .mv ?_
 refine .vl (Y.lss rfl rfl) (.nil (.condT rfl ?_))
 refine .sr ?_
 refine .fa fl39_5 ?_
 refine .ld sh3 ?_
 refine .vl (Y.eql rfl rfl) ?_
 refine .an ?_
 refine .nil (.ret ?_)
 exact .rb rfl (dd (by (simp only [Shaped, c22, Int.reduceEq, Bool.not_eq_true, false_and, true_and, and_true, and_false, or_false, false_or, ne_eq]) <;> (first | omega | grind)))
 refine .sr (.vl (Y.eql rfl rfl) ?_)
 refine .an ?_
 refine .nil ?_
 refine .condD rfl (fun c34 => ?_) (fun c34 => ?_)
 refine .region ?_
 refine .an ?_
 refine .an ?_
 refine .nil ?_
 refine .join0 (⟨[(2, .ptr 102 0 0 0), (3, .ptr 103 0 0 0), (8, vi (-1))], [(102, .cells (Netlist.row n)), (103, .cells (Cell.row c))]⟩) (((¬ (((c.args.length : Nat) : Int) ≠ 2)) ∧ (¬ (c.op ≠ 0)) ∧ (((c.num : Nat) : Int) ≠ 0)) ∨ ((¬ (((c.args.length : Nat) : Int) ≠ 2)) ∧ (¬ (c.op ≠ 0)) ∧ (¬ (((c.num : Nat) : Int) ≠ 0)))) ?_ (fun hJ33 => ?_)
 refine .sr ?_
 refine .fa fl39_3 ?_
 refine .ld sh22 ?_
 refine .vl (Y.len (n := c.args.length) sl22 rfl (congrArg some (List.length_map ..))) ?_
 refine .mv ?_
 refine .vl (Y.neq rfl rfl) ?_
 refine .mv ?_
 refine .splitD (d := 88) rfl (fun c88 => ?_) (fun c88 => ?_)
 refine .gz 88 (.gz 88 (.gz 88 ?_))
 refine .gz 88 ?_
 refine .pk ?_
 refine .mv ?_
 refine .gz 94 (.gz 94 (.gz 94 ?_))
 refine .gz 94 (.gz 98 (.gz 98 ?_))
 refine .gz 94 ?_
 refine .pk ?_
 refine .nil (.condT rfl (.sr ?_))
 refine .an ?_
 refine .nil (.ret ?_)
 exact .rb rfl (df (by (simp only [Shaped, c34, Int.reduceEq, Bool.not_eq_true, false_and, true_and, and_true, and_false, or_false, false_or, ne_eq]) <;> (first | omega | grind)))
 refine .gw 88 (Y.fieldAddr fl39_1 rfl rfl) (.gw 88 (Y.load sh3 rfl rfl rfl rfl) (.gw 88 (Y.move rfl rfl) ?_))
 refine .gw 88 (Y.neq rfl rfl) ?_
 refine .pk ?_
 refine .mv ?_
 refine .splitD (d := 94) rfl (fun c94 => ?_) (fun c94 => ?_)
 refine .gz 94 (.gz 94 (.gz 94 ?_))
 refine .gz 94 (.gz 98 (.gz 98 ?_))
 refine .gz 94 ?_
 refine .pk ?_
 refine .nil (.condT rfl (.sr ?_))
 refine .an ?_
 refine .nil (.ret ?_)
 exact .rb rfl (df (by (simp only [Shaped, c34, Int.reduceEq, Bool.not_eq_true, false_and, true_and, and_true, and_false, or_false, false_or, ne_eq]) <;> (first | omega | grind)))
 refine .gw 94 (Y.fieldAddr fl39_4 rfl rfl) (.gw 94 (Y.load sh37 rfl rfl rfl rfl) (.gw 94 (Y.neq rfl rfl) ?_))
 refine .gw 94 (Y.move rfl rfl) ?_
 refine .splitD (d := 98) rfl (fun c98 => ?_) (fun c98 => ?_)
 refine .gw 98 (Y.move rfl rfl) (.gw 98 (Y.not rfl) (.gw 94 (Y.pick rfl rfl rfl) ?_))
 refine .pk ?_
 refine .nil (.condF rfl (.skip ?_))
 exact ⟨.inl ⟨c88, c94, c98⟩, Le.mk (.c (.c (.c (.nil)))) (.c (.c (.nil)))⟩
 refine .gz 98 (.gz 98 (.gw 94 (Y.pick rfl rfl rfl) ?_))
 refine .pk ?_
 refine .nil (.condF rfl (.skip ?_))
 exact ⟨.inr (⟨c88, c94, c98⟩), Le.mk (.c (.c (.c (.nil)))) (.c (.c (.nil)))⟩
 refine .seq (.sr ?_)
 refine .mv ?_
 refine .vl (Y.lss rfl rfl) (.nil (.condT rfl ?_))
 refine .sr ?_
 refine .fa fl39_5 ?_
 refine .ld sh3 ?_
 refine .vl (Y.eql rfl rfl) ?_
 refine .an ?_
 refine .nil (.ret ?_)
 exact .rb rfl (dd (by (simp only [Shaped, c34, Int.reduceEq, Bool.not_eq_true, false_and, true_and, and_true, and_false, or_false, false_or, ne_eq]) <;> (first | omega | grind)))
 refine .sr (.vl (Y.eql rfl rfl) ?_)
 refine .an ?_
 refine .nil ?_
 refine .condD rfl (fun c36 => ?_) (fun c36 => ?_)
 refine .seq (.regionS rfl (by kernel_rfl) (.val (Y.fieldAddr fl39_1 rfl rfl) (by decide) ?_))
 refine .val (Y.load sh3 rfl rfl rfl rfl) (by decide) (.val (Y.assign rfl rfl) (by decide) (.val (Y.assign rfl rfl) (by decide) ?_))
 refine .val (Y.assign rfl rfl) (by decide) (.nil (.sr ?_))
 refine .fa fl39_1 ?_
 refine .ld sh3 ?_
 refine .vl (Y.lss rfl rfl) ?_
 refine .mv ?_
 refine .splitD (d := 43) rfl (fun c43 => ?_) (fun c43 => ?_)
 refine .gz 43 (.gz 43 (.gz 43 ?_))
 refine .pk ?_
 refine .mv ?_
 refine .gz 48 (.gz 48 (.gz 48 ?_))
 refine .pk ?_
 refine .mv ?_
 refine .gz 53 (.gz 53 (.gz 53 ?_))
 refine .pk ?_
 refine .nil (.condT rfl (.sr ?_))
 refine .an ?_
 refine .nil (.ret ?_)
 exact .rb rfl (df (by (simp only [Shaped, c36, Int.reduceEq, Bool.not_eq_true, false_and, true_and, and_true, and_false, or_false, false_or, ne_eq]) <;> (first | omega | grind)))
 refine .gw 43 (Y.fieldAddr fl39_1 rfl rfl) (.gw 43 (Y.load sh3 rfl rfl rfl rfl) (.gw 43 (Y.gtr rfl rfl) ?_))
 refine .pk ?_
 refine .mv ?_
 refine .splitD (d := 48) rfl (fun c48 => ?_) (fun c48 => ?_)
 refine .gz 48 (.gz 48 (.gz 48 ?_))
 refine .pk ?_
 refine .mv ?_
 refine .gz 53 (.gz 53 (.gz 53 ?_))
 refine .pk ?_
 refine .nil (.condT rfl (.sr ?_))
 refine .an ?_
 refine .nil (.ret ?_)
 exact .rb rfl (df (by (simp only [Shaped, c36, Int.reduceEq, Bool.not_eq_true, false_and, true_and, and_true, and_false, or_false, false_or, ne_eq]) <;> (first | omega | grind)))
 refine .gw 48 (Y.fieldAddr fl39_4 rfl rfl) (.gw 48 (Y.load sh37 rfl rfl rfl rfl) (.gw 48 (Y.lss rfl rfl) ?_))
 refine .pk ?_
 refine .mv ?_
 refine .splitD (d := 53) rfl (fun c53 => ?_) (fun c53 => ?_)
 refine .gz 53 (.gz 53 (.gz 53 ?_))
 refine .pk ?_
 refine .nil (.condT rfl (.sr ?_))
 refine .an ?_
 refine .nil (.ret ?_)
 exact .rb rfl (df (by (simp only [Shaped, c36, Int.reduceEq, Bool.not_eq_true, false_and, true_and, and_true, and_false, or_false, false_or, ne_eq]) <;> (first | omega | grind)))
 refine .gw 53 (Y.fieldAddr fl39_4 rfl rfl) (.gw 53 (Y.load sh37 rfl rfl rfl rfl) (.gw 53 (Y.gtr rfl rfl) ?_))
 refine .pk ?_
 refine .nil ?_
 refine .condD rfl (fun c57 => ?_) (fun c57 => ?_)
 refine .sr ?_
 refine .an ?_
 refine .nil (.ret ?_)
 exact .rb rfl (df (by (simp only [Shaped, c36, Int.reduceEq, Bool.not_eq_true, false_and, true_and, and_true, and_false, or_false, false_or, ne_eq]) <;> (first | omega | grind)))
 refine .skip ?_
 refine .join0 (⟨[(2, .ptr 102 0 0 0), (3, .ptr 103 0 0 0), (8, vi (-1))], [(102, .cells (Netlist.row n)), (103, .cells (Cell.row c))]⟩) (((¬ (((c.args.length : Nat) : Int) ≠ 2)) ∧ (¬ (c.op ≠ c.op)) ∧ (((c.num : Nat) : Int) ≠ 0)) ∨ ((¬ (((c.args.length : Nat) : Int) ≠ 2)) ∧ (¬ (c.op ≠ c.op)) ∧ (¬ (((c.num : Nat) : Int) ≠ 0)))) ?_ (fun hJ33 => ?_)
 refine .sr ?_
 refine .fa fl39_3 ?_
 refine .ld sh22 ?_
 refine .vl (Y.len (n := c.args.length) sl22 rfl (congrArg some (List.length_map ..))) ?_
 refine .mv ?_
 refine .vl (Y.neq rfl rfl) ?_
 refine .mv ?_
 refine .splitD (d := 88) rfl (fun c88 => ?_) (fun c88 => ?_)
 refine .gz 88 (.gz 88 (.gz 88 ?_))
 refine .gz 88 ?_
 refine .pk ?_
 refine .mv ?_
 refine .gz 94 (.gz 94 (.gz 94 ?_))
 refine .gz 94 (.gz 98 (.gz 98 ?_))
 refine .gz 94 ?_
 refine .pk ?_
 refine .nil (.condT rfl (.sr ?_))
 refine .an ?_
 refine .nil (.ret ?_)
 exact .rb rfl (df (by (simp only [Shaped, c36, Int.reduceEq, Bool.not_eq_true, false_and, true_and, and_true, and_false, or_false, false_or, ne_eq]) <;> (first | omega | grind)))
 refine .gw 88 (Y.fieldAddr fl39_1 rfl rfl) (.gw 88 (Y.load sh3 rfl rfl rfl rfl) (.gw 88 (Y.move rfl rfl) ?_))
 refine .gw 88 (Y.neq rfl rfl) ?_
 refine .pk ?_
 refine .mv ?_
 refine .splitD (d := 94) rfl (fun c94 => ?_) (fun c94 => ?_)
 refine .gz 94 (.gz 94 (.gz 94 ?_))
 refine .gz 94 (.gz 98 (.gz 98 ?_))
 refine .gz 94 ?_
 refine .pk ?_
 refine .nil (.condT rfl (.sr ?_))
 refine .an ?_
 refine .nil (.ret ?_)
 exact .rb rfl (df (by (simp only [Shaped, c36, Int.reduceEq, Bool.not_eq_true, false_and, true_and, and_true, and_false, or_false, false_or, ne_eq]) <;> (first | omega | grind)))
 refine .gw 94 (Y.fieldAddr fl39_4 rfl rfl) (.gw 94 (Y.load sh37 rfl rfl rfl rfl) (.gw 94 (Y.neq rfl rfl) ?_))
 refine .gw 94 (Y.move rfl rfl) ?_
 refine .splitD (d := 98) rfl (fun c98 => ?_) (fun c98 => ?_)
 refine .gw 98 (Y.move rfl rfl) (.gw 98 (Y.not rfl) (.gw 94 (Y.pick rfl rfl rfl) ?_))
 refine .pk ?_
 refine .nil (.condF rfl (.skip ?_))
 exact ⟨.inl ⟨c88, c94, c98⟩, Le.mk (.c (.c (.c (.nil)))) (.c (.c (.nil)))⟩
 refine .gz 98 (.gz 98 (.gw 94 (Y.pick rfl rfl rfl) ?_))
 refine .pk ?_
 refine .nil (.condF rfl (.skip ?_))
 exact ⟨.inr (⟨c88, c94, c98⟩), Le.mk (.c (.c (.c (.nil)))) (.c (.c (.nil)))⟩
 refine .seq (.sr ?_)
 refine .mv ?_
 refine .vl (Y.lss rfl rfl) (.nil (.condT rfl ?_))
 refine .sr ?_
 refine .fa fl39_5 ?_
 refine .ld sh3 ?_
 refine .vl (Y.eql rfl rfl) ?_
 refine .an ?_
 refine .nil (.ret ?_)
 exact .rb rfl (dd (by (simp only [Shaped, c36, Int.reduceEq, Bool.not_eq_true, false_and, true_and, and_true, and_false, or_false, false_or, ne_eq]) <;> (first | omega | grind)))
 refine .sr (.vl (Y.eql rfl rfl) ?_)
 refine .an ?_
 refine .nil ?_
 refine .condD rfl (fun c58 => ?_) (fun c58 => ?_)
 refine .regionS rfl (by kernel_rfl) (.val (Y.fieldAddr fl27_4 rfl rfl) (by decide) (.val (Y.load sh24 rfl rfl rfl rfl) (by decide) ?_))
 refine .val (Y.len (n := n.mems.length) sl24 rfl (congrArg some (List.length_map ..))) (by decide) (.val (Y.assign rfl rfl) (by decide) (.val (Y.assign rfl rfl) (by decide) ?_))
 refine .nil (.seq (.sr ?_))
 refine .fa fl39_3 ?_
 refine .ld sh22 ?_
 refine .vl (Y.len (n := c.args.length) sl22 rfl (congrArg some (List.length_map ..))) ?_
 refine .mv ?_
 refine .vl (Y.neq rfl rfl) ?_
 refine .mv ?_
 refine .splitD (d := 88) rfl (fun c88 => ?_) (fun c88 => ?_)
 refine .gz 88 (.gz 88 (.gz 88 ?_))
 refine .gz 88 ?_
 refine .pk ?_
 refine .mv ?_
 refine .gz 94 (.gz 94 (.gz 94 ?_))
 refine .gz 94 (.gz 98 (.gz 98 ?_))
 refine .gz 94 ?_
 refine .pk ?_
 refine .nil (.condT rfl (.sr ?_))
 refine .an ?_
 refine .nil (.ret ?_)
 exact .rb rfl (df (by (simp only [Shaped, c58, Int.reduceEq, Bool.not_eq_true, false_and, true_and, and_true, and_false, or_false, false_or, ne_eq]) <;> (first | omega | grind)))
 refine .gw 88 (Y.fieldAddr fl39_1 rfl rfl) (.gw 88 (Y.load sh3 rfl rfl rfl rfl) (.gw 88 (Y.move rfl rfl) ?_))
 refine .gw 88 (Y.neq rfl rfl) ?_
 refine .pk ?_
 refine .mv ?_
 refine .splitD (d := 94) rfl (fun c94 => ?_) (fun c94 => ?_)
 refine .gz 94 (.gz 94 (.gz 94 ?_))
 refine .gz 94 (.gz 98 (.gz 98 ?_))
 refine .gz 94 ?_
 refine .pk ?_
 refine .nil (.condT rfl (.sr ?_))
 refine .an ?_
 refine .nil (.ret ?_)
 exact .rb rfl (df (by (simp only [Shaped, c58, Int.reduceEq, Bool.not_eq_true, false_and, true_and, and_true, and_false, or_false, false_or, ne_eq]) <;> (first | omega | grind)))
 refine .gw 94 (Y.fieldAddr fl39_4 rfl rfl) (.gw 94 (Y.load sh37 rfl rfl rfl rfl) (.gw 94 (Y.neq rfl rfl) ?_))
 refine .gw 94 (Y.move rfl rfl) ?_
 refine .splitD (d := 98) rfl (fun c98 => ?_) (fun c98 => ?_)
 refine .gw 98 (Y.move rfl rfl) (.gw 98 (Y.not rfl) (.gw 94 (Y.pick rfl rfl rfl) ?_))
 refine .pk ?_
 refine .nil (.condT rfl (.sr ?_))
 refine .an ?_
 refine .nil (.ret ?_)
 exact .rb rfl (df (by (simp only [Shaped, c58, Int.reduceEq, Bool.not_eq_true, false_and, true_and, and_true, and_false, or_false, false_or, ne_eq]) <;> (first | omega | grind)))
 refine .gz 98 (.gz 98 (.gw 94 (Y.pick rfl rfl rfl) ?_))
 refine .pk ?_
 refine .nil (.condF rfl (.skip ?_))
 refine .seq (.sr ?_)
 refine .mv ?_
 refine .vl (Y.lss rfl rfl) (.nil ?_)
 refine .condD rfl (fun c104 => ?_) (fun c104 => ?_)
 refine .sr ?_
 refine .fa fl39_5 ?_
 refine .ld sh3 ?_
 refine .vl (Y.eql rfl rfl) ?_
 refine .an ?_
 refine .nil (.ret ?_)
 exact .rb rfl (dd (by (simp only [Shaped, c58, Int.reduceEq, Bool.not_eq_true, false_and, true_and, and_true, and_false, or_false, false_or, ne_eq]) <;> (first | omega | grind)))
 refine .skip (.sr ?_)
 refine .fa fl39_5 ?_
 refine .ld sh3 ?_
 refine .vl (Y.geq rfl rfl) ?_
 refine .mv ?_
 refine .splitD (d := 111) rfl (fun c111 => ?_) (fun c111 => ?_)
 refine .gw 111 (Y.fieldAddr fl39_5 rfl rfl) (.gw 111 (Y.load sh3 rfl rfl rfl rfl) (.gw 111 (Y.move rfl rfl) ?_))
 refine .gw 111 (Y.lss rfl rfl) ?_
 refine .pk ?_
 refine .mv ?_
 refine .splitD (d := 117) rfl (fun c117 => ?_) (fun c117 => ?_)
 refine .gw 117 (Y.fieldAddr fl39_0 rfl rfl) (.gw 117 (Y.load sh3 rfl rfl rfl rfl) (.gw 117 (Y.neq rfl rfl) ?_))
 refine .gw 117 (Y.move rfl rfl) ?_
 refine .splitD (d := 121) rfl (fun c121 => ?_) (fun c121 => ?_)
 refine .gz 121 (.gz 121 (.gz 121 ?_))
 refine .gz 121 (.gz 121 (.gz 121 ?_))
 refine .gz 121 (.gz 121 (.gw 117 (Y.pick rfl rfl rfl) ?_))
 refine .pk ?_
 refine .an ?_
 refine .nil (.ret ?_)
 exact .rb rfl (dt (by (simp only [Shaped, c58, Int.reduceEq, Bool.not_eq_true, false_and, true_and, and_true, and_false, or_false, false_or, ne_eq]) <;> (first | omega | grind)))
 refine .gw 121 (Y.fieldAddr fl27_5 rfl rfl) (.gw 121 (Y.load sh25 rfl rfl rfl rfl) (.gw 121 (Y.fieldAddr fl39_5 rfl rfl) ?_))
 refine .gw 121 (Y.load sh3 rfl rfl rfl rfl) ?_
 refine .gw 121 (Y.indexF (m := (c.mem).toNat) sl25 rfl rfl (by omega) (row_getD (d := default) (by omega))) ?_
 refine .gw 121 (Y.fieldAddr fl83_2 rfl rfl) (.gw 121 (Y.load sh4 rfl rfl rfl rfl) (.gw 121 (Y.not rfl) ?_))
 refine .gw 117 (Y.pick rfl rfl rfl) ?_
 refine .pk ?_
 refine .an ?_
 refine .nil (.ret ?_)
 exact .rb rfl (db (by (simp only [Shaped, c58, Int.reduceEq, Bool.not_eq_true, false_and, true_and, and_true, and_false, or_false, false_or, ne_eq]) <;> (first | omega | grind)))
 refine .gz 117 (.gz 117 (.gz 117 ?_))
 refine .gz 117 (.gz 121 (.gz 121 ?_))
 refine .gz 121 (.gz 121 (.gz 121 ?_))
 refine .gz 121 (.gz 121 (.gz 121 ?_))
 refine .gz 117 ?_
 refine .pk ?_
 refine .an ?_
 refine .nil (.ret ?_)
 exact .rb rfl (df (by (simp only [Shaped, c58, Int.reduceEq, Bool.not_eq_true, false_and, true_and, and_true, and_false, or_false, false_or, ne_eq]) <;> (first | omega | grind)))
 refine .gz 111 (.gz 111 (.gz 111 ?_))
 refine .gz 111 ?_
 refine .pk ?_
 refine .mv ?_
 refine .gz 117 (.gz 117 (.gz 117 ?_))
 refine .gz 117 (.gz 121 (.gz 121 ?_))
 refine .gz 121 (.gz 121 (.gz 121 ?_))
 refine .gz 121 (.gz 121 (.gz 121 ?_))
 refine .gz 117 ?_
 refine .pk ?_
 refine .an ?_
 refine .nil (.ret ?_)
 exact .rb rfl (df (by (simp only [Shaped, c58, Int.reduceEq, Bool.not_eq_true, false_and, true_and, and_true, and_false, or_false, false_or, ne_eq]) <;> (first | omega | grind)))
 refine .sr (.vl (Y.eql rfl rfl) ?_)
 refine .an ?_
 refine .nil ?_
 refine .condD rfl (fun c63 => ?_) (fun c63 => ?_)
 refine .regionS rfl (by kernel_rfl) (.val (Y.fieldAddr fl27_4 rfl rfl) (by decide) (.val (Y.load sh24 rfl rfl rfl rfl) (by decide) ?_))
 refine .val (Y.len (n := n.mems.length) sl24 rfl (congrArg some (List.length_map ..))) (by decide) (.val (Y.assign rfl rfl) (by decide) (.val (Y.assign rfl rfl) (by decide) ?_))
 refine .nil (.seq (.sr ?_))
 refine .fa fl39_3 ?_
 refine .ld sh22 ?_
 refine .vl (Y.len (n := c.args.length) sl22 rfl (congrArg some (List.length_map ..))) ?_
 refine .mv ?_
 refine .vl (Y.neq rfl rfl) ?_
 refine .mv ?_
 refine .splitD (d := 88) rfl (fun c88 => ?_) (fun c88 => ?_)
 refine .gz 88 (.gz 88 (.gz 88 ?_))
 refine .gz 88 ?_
 refine .pk ?_
 refine .mv ?_
 refine .gz 94 (.gz 94 (.gz 94 ?_))
 refine .gz 94 (.gz 98 (.gz 98 ?_))
 refine .gz 94 ?_
 refine .pk ?_
 refine .nil (.condT rfl (.sr ?_))
 refine .an ?_
 refine .nil (.ret ?_)
 exact .rb rfl (df (by (simp only [Shaped, c63, Int.reduceEq, Bool.not_eq_true, false_and, true_and, and_true, and_false, or_false, false_or, ne_eq]) <;> (first | omega | grind)))
 refine .gw 88 (Y.fieldAddr fl39_1 rfl rfl) (.gw 88 (Y.load sh3 rfl rfl rfl rfl) (.gw 88 (Y.move rfl rfl) ?_))
 refine .gw 88 (Y.neq rfl rfl) ?_
 refine .pk ?_
 refine .mv ?_
 refine .splitD (d := 94) rfl (fun c94 => ?_) (fun c94 => ?_)
 refine .gz 94 (.gz 94 (.gz 94 ?_))
 refine .gz 94 (.gz 98 (.gz 98 ?_))
 refine .gz 94 ?_
 refine .pk ?_
 refine .nil (.condT rfl (.sr ?_))
 refine .an ?_
 refine .nil (.ret ?_)
 exact .rb rfl (df (by (simp only [Shaped, c63, Int.reduceEq, Bool.not_eq_true, false_and, true_and, and_true, and_false, or_false, false_or, ne_eq]) <;> (first | omega | grind)))
 refine .gw 94 (Y.fieldAddr fl39_4 rfl rfl) (.gw 94 (Y.load sh37 rfl rfl rfl rfl) (.gw 94 (Y.neq rfl rfl) ?_))
 refine .gw 94 (Y.move rfl rfl) ?_
 refine .splitD (d := 98) rfl (fun c98 => ?_) (fun c98 => ?_)
 refine .gw 98 (Y.move rfl rfl) (.gw 98 (Y.not rfl) (.gw 94 (Y.pick rfl rfl rfl) ?_))
 refine .pk ?_
 refine .nil (.condT rfl (.sr ?_))
 refine .an ?_
 refine .nil (.ret ?_)
 exact .rb rfl (df (by (simp only [Shaped, c63, Int.reduceEq, Bool.not_eq_true, false_and, true_and, and_true, and_false, or_false, false_or, ne_eq]) <;> (first | omega | grind)))
 refine .gz 98 (.gz 98 (.gw 94 (Y.pick rfl rfl rfl) ?_))
 refine .pk ?_
 refine .nil (.condF rfl (.skip ?_))
 refine .seq (.sr ?_)
 refine .mv ?_
 refine .vl (Y.lss rfl rfl) (.nil ?_)
 refine .condD rfl (fun c104 => ?_) (fun c104 => ?_)
 refine .sr ?_
 refine .fa fl39_5 ?_
 refine .ld sh3 ?_
 refine .vl (Y.eql rfl rfl) ?_
 refine .an ?_
 refine .nil (.ret ?_)
 exact .rb rfl (dd (by (simp only [Shaped, c63, Int.reduceEq, Bool.not_eq_true, false_and, true_and, and_true, and_false, or_false, false_or, ne_eq]) <;> (first | omega | grind)))
 refine .skip (.sr ?_)
 refine .fa fl39_5 ?_
 refine .ld sh3 ?_
 refine .vl (Y.geq rfl rfl) ?_
 refine .mv ?_
 refine .splitD (d := 111) rfl (fun c111 => ?_) (fun c111 => ?_)
 refine .gw 111 (Y.fieldAddr fl39_5 rfl rfl) (.gw 111 (Y.load sh3 rfl rfl rfl rfl) (.gw 111 (Y.move rfl rfl) ?_))
 refine .gw 111 (Y.lss rfl rfl) ?_
 refine .pk ?_
 refine .mv ?_
 refine .splitD (d := 117) rfl (fun c117 => ?_) (fun c117 => ?_)
 refine .gw 117 (Y.fieldAddr fl39_0 rfl rfl) (.gw 117 (Y.load sh3 rfl rfl rfl rfl) (.gw 117 (Y.neq rfl rfl) ?_))
 refine .gw 117 (Y.move rfl rfl) ?_
 refine .splitD (d := 121) rfl (fun c121 => ?_) (fun c121 => ?_)
 refine .gz 121 (.gz 121 (.gz 121 ?_))
 refine .gz 121 (.gz 121 (.gz 121 ?_))
 refine .gz 121 (.gz 121 (.gw 117 (Y.pick rfl rfl rfl) ?_))
 refine .pk ?_
 refine .an ?_
 refine .nil (.ret ?_)
 exact .rb rfl (dt (by (simp only [Shaped, c63, Int.reduceEq, Bool.not_eq_true, false_and, true_and, and_true, and_false, or_false, false_or, ne_eq]) <;> (first | omega | grind)))
 refine .gw 121 (Y.fieldAddr fl27_5 rfl rfl) (.gw 121 (Y.load sh25 rfl rfl rfl rfl) (.gw 121 (Y.fieldAddr fl39_5 rfl rfl) ?_))
 refine .gw 121 (Y.load sh3 rfl rfl rfl rfl) ?_
 refine .gw 121 (Y.indexF (m := (c.mem).toNat) sl25 rfl rfl (by omega) (row_getD (d := default) (by omega))) ?_
 refine .gw 121 (Y.fieldAddr fl83_2 rfl rfl) (.gw 121 (Y.load sh4 rfl rfl rfl rfl) (.gw 121 (Y.not rfl) ?_))
 refine .gw 117 (Y.pick rfl rfl rfl) ?_
 refine .pk ?_
 refine .an ?_
 refine .nil (.ret ?_)
 exact .rb rfl (db (by (simp only [Shaped, c63, Int.reduceEq, Bool.not_eq_true, false_and, true_and, and_true, and_false, or_false, false_or, ne_eq]) <;> (first | omega | grind)))
 refine .gz 117 (.gz 117 (.gz 117 ?_))
 refine .gz 117 (.gz 121 (.gz 121 ?_))
 refine .gz 121 (.gz 121 (.gz 121 ?_))
 refine .gz 121 (.gz 121 (.gz 121 ?_))
 refine .gz 117 ?_
 refine .pk ?_
 refine .an ?_
 refine .nil (.ret ?_)
 exact .rb rfl (df (by (simp only [Shaped, c63, Int.reduceEq, Bool.not_eq_true, false_and, true_and, and_true, and_false, or_false, false_or, ne_eq]) <;> (first | omega | grind)))
 refine .gz 111 (.gz 111 (.gz 111 ?_))
 refine .gz 111 ?_
 refine .pk ?_
 refine .mv ?_
 refine .gz 117 (.gz 117 (.gz 117 ?_))
 refine .gz 117 (.gz 121 (.gz 121 ?_))
 refine .gz 121 (.gz 121 (.gz 121 ?_))
 refine .gz 121 (.gz 121 (.gz 121 ?_))
 refine .gz 117 ?_
 refine .pk ?_
 refine .an ?_
 refine .nil (.ret ?_)
 exact .rb rfl (df (by (simp only [Shaped, c63, Int.reduceEq, Bool.not_eq_true, false_and, true_and, and_true, and_false, or_false, false_or, ne_eq]) <;> (first | omega | grind)))
 refine .sr (.vl (Y.eql rfl rfl) ?_)
 refine .an ?_
 refine .nil ?_
 refine .condD rfl (fun c68 => ?_) (fun c68 => ?_)
 refine .sr ?_
 refine .an ?_
 refine .nil (.sr ?_)
 refine .fa fl39_4 ?_
 refine .ld sh37 ?_
 refine .fa fl27_3 ?_
 refine .ld sh22 ?_
 refine .vl (Y.len (n := n.ins.length) sl22 rfl (congrArg some (List.length_map ..))) ?_
 refine .vl (Y.convK ii3 ii37 rfl (by first | rfl | exact IntWalk.u64_in _ (by omega))) ?_
 refine .vl (Y.geq rfl rfl) (.nil ?_)
 refine .condD rfl (fun c76 => ?_) (fun c76 => ?_)
 refine .sr ?_
 refine .an ?_
 refine .nil (.ret ?_)
 exact .rb rfl (df (by (simp only [Shaped, c68, Int.reduceEq, Bool.not_eq_true, false_and, true_and, and_true, and_false, or_false, false_or, ne_eq]) <;> (first | omega | grind)))
 refine .skip ?_
 refine .join0 (⟨[(2, .ptr 102 0 0 0), (3, .ptr 103 0 0 0), (8, vi (-1))], [(102, .cells (Netlist.row n)), (103, .cells (Cell.row c))]⟩) (((¬ (((c.args.length : Nat) : Int) ≠ 0)) ∧ (¬ (c.op ≠ 0)) ∧ (((c.num : Nat) : Int) ≠ 0)) ∨ ((¬ (((c.args.length : Nat) : Int) ≠ 0)) ∧ (¬ (c.op ≠ 0)) ∧ (¬ (((c.num : Nat) : Int) ≠ 0)))) ?_ (fun hJ33 => ?_)
 refine .sr ?_
 refine .fa fl39_3 ?_
 refine .ld sh22 ?_
 refine .vl (Y.len (n := c.args.length) sl22 rfl (congrArg some (List.length_map ..))) ?_
 refine .mv ?_
 refine .vl (Y.neq rfl rfl) ?_
 refine .mv ?_
 refine .splitD (d := 88) rfl (fun c88 => ?_) (fun c88 => ?_)
 refine .gz 88 (.gz 88 (.gz 88 ?_))
 refine .gz 88 ?_
 refine .pk ?_
 refine .mv ?_
 refine .gz 94 (.gz 94 (.gz 94 ?_))
 refine .gz 94 (.gz 98 (.gz 98 ?_))
 refine .gz 94 ?_
 refine .pk ?_
 refine .nil (.condT rfl (.sr ?_))
 refine .an ?_
 refine .nil (.ret ?_)
 exact .rb rfl (df (by (simp only [Shaped, c68, Int.reduceEq, Bool.not_eq_true, false_and, true_and, and_true, and_false, or_false, false_or, ne_eq]) <;> (first | omega | grind)))
 refine .gw 88 (Y.fieldAddr fl39_1 rfl rfl) (.gw 88 (Y.load sh3 rfl rfl rfl rfl) (.gw 88 (Y.move rfl rfl) ?_))
 refine .gw 88 (Y.neq rfl rfl) ?_
 refine .pk ?_
 refine .mv ?_
 refine .splitD (d := 94) rfl (fun c94 => ?_) (fun c94 => ?_)
 refine .gz 94 (.gz 94 (.gz 94 ?_))
 refine .gz 94 (.gz 98 (.gz 98 ?_))
 refine .gz 94 ?_
 refine .pk ?_
 refine .nil (.condT rfl (.sr ?_))
 refine .an ?_
 refine .nil (.ret ?_)
 exact .rb rfl (df (by (simp only [Shaped, c68, Int.reduceEq, Bool.not_eq_true, false_and, true_and, and_true, and_false, or_false, false_or, ne_eq]) <;> (first | omega | grind)))
 refine .gw 94 (Y.fieldAddr fl39_4 rfl rfl) (.gw 94 (Y.load sh37 rfl rfl rfl rfl) (.gw 94 (Y.neq rfl rfl) ?_))
 refine .gw 94 (Y.move rfl rfl) ?_
 refine .splitD (d := 98) rfl (fun c98 => ?_) (fun c98 => ?_)
 refine .gw 98 (Y.move rfl rfl) (.gw 98 (Y.not rfl) (.gw 94 (Y.pick rfl rfl rfl) ?_))
 refine .pk ?_
 refine .nil (.condF rfl (.skip ?_))
 exact ⟨.inl ⟨c88, c94, c98⟩, Le.mk (.c (.c (.c (.nil)))) (.c (.c (.nil)))⟩
 refine .gz 98 (.gz 98 (.gw 94 (Y.pick rfl rfl rfl) ?_))
 refine .pk ?_
 refine .nil (.condF rfl (.skip ?_))
 exact ⟨.inr (⟨c88, c94, c98⟩), Le.mk (.c (.c (.c (.nil)))) (.c (.c (.nil)))⟩
 refine .seq (.sr ?_)
 refine .mv ?_
 refine .vl (Y.lss rfl rfl) (.nil (.condT rfl ?_))
 refine .sr ?_
 refine .fa fl39_5 ?_
 refine .ld sh3 ?_
 refine .vl (Y.eql rfl rfl) ?_
 refine .an ?_
 refine .nil (.ret ?_)
 exact .rb rfl (dd (by (simp only [Shaped, c68, Int.reduceEq, Bool.not_eq_true, false_and, true_and, and_true, and_false, or_false, false_or, ne_eq]) <;> (first | omega | grind)))
 refine .seq (.sr (.vl (Y.eql rfl rfl) ?_))
 refine .an ?_
 refine .nil ?_
 refine .condKD rfl (fun c77 => ?_) (fun c77 => ?_)
 refine .skip (.condT rfl (.region ?_))
 refine .fa fl27_5 ?_
 refine .ld sh25 ?_
 refine .vl (Y.len (n := n.streams.length) sl25 rfl (congrArg some (List.length_map ..))) ?_
 refine .an ?_
 refine .nil (.seq (.sr ?_))
 refine .fa fl39_3 ?_
 refine .ld sh22 ?_
 refine .vl (Y.len (n := c.args.length) sl22 rfl (congrArg some (List.length_map ..))) ?_
 refine .mv ?_
 refine .vl (Y.neq rfl rfl) ?_
 refine .mv ?_
 refine .splitD (d := 88) rfl (fun c88 => ?_) (fun c88 => ?_)
 refine .gz 88 (.gz 88 (.gz 88 ?_))
 refine .gz 88 ?_
 refine .pk ?_
 refine .mv ?_
 refine .gz 94 (.gz 94 (.gz 94 ?_))
 refine .gz 94 (.gz 98 (.gz 98 ?_))
 refine .gz 94 ?_
 refine .pk ?_
 refine .nil (.condT rfl (.sr ?_))
 refine .an ?_
 refine .nil (.ret ?_)
 exact .rb rfl (df (by (simp only [Shaped, c77, Int.reduceEq, Bool.not_eq_true, false_and, true_and, and_true, and_false, or_false, false_or, ne_eq]) <;> (first | omega | grind)))
 refine .gw 88 (Y.fieldAddr fl39_1 rfl rfl) (.gw 88 (Y.load sh3 rfl rfl rfl rfl) (.gw 88 (Y.move rfl rfl) ?_))
 refine .gw 88 (Y.neq rfl rfl) ?_
 refine .pk ?_
 refine .mv ?_
 refine .splitD (d := 94) rfl (fun c94 => ?_) (fun c94 => ?_)
 refine .gz 94 (.gz 94 (.gz 94 ?_))
 refine .gz 94 (.gz 98 (.gz 98 ?_))
 refine .gz 94 ?_
 refine .pk ?_
 refine .nil (.condT rfl (.sr ?_))
 refine .an ?_
 refine .nil (.ret ?_)
 exact .rb rfl (df (by (simp only [Shaped, c77, Int.reduceEq, Bool.not_eq_true, false_and, true_and, and_true, and_false, or_false, false_or, ne_eq]) <;> (first | omega | grind)))
 refine .gw 94 (Y.fieldAddr fl39_4 rfl rfl) (.gw 94 (Y.load sh37 rfl rfl rfl rfl) (.gw 94 (Y.neq rfl rfl) ?_))
 refine .gw 94 (Y.move rfl rfl) ?_
 refine .splitD (d := 98) rfl (fun c98 => ?_) (fun c98 => ?_)
 refine .gw 98 (Y.move rfl rfl) (.gw 98 (Y.not rfl) (.gw 94 (Y.pick rfl rfl rfl) ?_))
 refine .pk ?_
 refine .nil (.condT rfl (.sr ?_))
 refine .an ?_
 refine .nil (.ret ?_)
 exact .rb rfl (df (by (simp only [Shaped, c77, Int.reduceEq, Bool.not_eq_true, false_and, true_and, and_true, and_false, or_false, false_or, ne_eq]) <;> (first | omega | grind)))
 refine .gz 98 (.gz 98 (.gw 94 (Y.pick rfl rfl rfl) ?_))
 refine .pk ?_
 refine .nil (.condF rfl (.skip ?_))
 refine .seq (.sr ?_)
 refine .mv ?_
 refine .vl (Y.lss rfl rfl) (.nil ?_)
 refine .condD rfl (fun c104 => ?_) (fun c104 => ?_)
 refine .sr ?_
 refine .fa fl39_5 ?_
 refine .ld sh3 ?_
 refine .vl (Y.eql rfl rfl) ?_
 refine .an ?_
 refine .nil (.ret ?_)
 exact .rb rfl (dd (by (simp only [Shaped, c77, Int.reduceEq, Bool.not_eq_true, false_and, true_and, and_true, and_false, or_false, false_or, ne_eq]) <;> (first | omega | grind)))
 refine .skip (.sr ?_)
 refine .fa fl39_5 ?_
 refine .ld sh3 ?_
 refine .vl (Y.geq rfl rfl) ?_
 refine .mv ?_
 refine .splitD (d := 111) rfl (fun c111 => ?_) (fun c111 => ?_)
 refine .gw 111 (Y.fieldAddr fl39_5 rfl rfl) (.gw 111 (Y.load sh3 rfl rfl rfl rfl) (.gw 111 (Y.move rfl rfl) ?_))
 refine .gw 111 (Y.lss rfl rfl) ?_
 refine .pk ?_
 refine .mv ?_
 refine .splitD (d := 117) rfl (fun c117 => ?_) (fun c117 => ?_)
 refine .gw 117 (Y.fieldAddr fl39_0 rfl rfl) (.gw 117 (Y.load sh3 rfl rfl rfl rfl) (.gw 117 (Y.neq rfl rfl) ?_))
 refine .gw 117 (Y.move rfl rfl) ?_
 refine .splitD (d := 121) rfl (fun c121 => ?_) (fun c121 => ?_)
 refine .gz 121 (.gz 121 (.gz 121 ?_))
 refine .gz 121 (.gz 121 (.gz 121 ?_))
 refine .gz 121 (.gz 121 (.gw 117 (Y.pick rfl rfl rfl) ?_))
 refine .pk ?_
 refine .an ?_
 refine .nil (.ret ?_)
 exact .rb rfl (dt (by (simp only [Shaped, c77, Int.reduceEq, Bool.not_eq_true, false_and, true_and, and_true, and_false, or_false, false_or, ne_eq]) <;> (first | omega | grind)))
 refine .gw 121 (Y.fieldAddr fl27_5 rfl rfl) (.gw 121 (Y.load sh25 rfl rfl rfl rfl) (.gw 121 (Y.fieldAddr fl39_5 rfl rfl) ?_))
 refine .gw 121 (Y.load sh3 rfl rfl rfl rfl) ?_
 refine .gw 121 (Y.indexF (m := (c.mem).toNat) sl25 rfl rfl (by omega) (row_getD (d := default) (by omega))) ?_
 refine .gw 121 (Y.fieldAddr fl83_2 rfl rfl) (.gw 121 (Y.load sh4 rfl rfl rfl rfl) (.gw 121 (Y.not rfl) ?_))
 refine .gw 117 (Y.pick rfl rfl rfl) ?_
 refine .pk ?_
 refine .an ?_
 refine .nil (.ret ?_)
 exact .rb rfl (db (by (simp only [Shaped, c77, Int.reduceEq, Bool.not_eq_true, false_and, true_and, and_true, and_false, or_false, false_or, ne_eq]) <;> (first | omega | grind)))
 refine .gz 117 (.gz 117 (.gz 117 ?_))
 refine .gz 117 (.gz 121 (.gz 121 ?_))
 refine .gz 121 (.gz 121 (.gz 121 ?_))
 refine .gz 121 (.gz 121 (.gz 121 ?_))
 refine .gz 117 ?_
 refine .pk ?_
 refine .an ?_
 refine .nil (.ret ?_)
 exact .rb rfl (df (by (simp only [Shaped, c77, Int.reduceEq, Bool.not_eq_true, false_and, true_and, and_true, and_false, or_false, false_or, ne_eq]) <;> (first | omega | grind)))
 refine .gz 111 (.gz 111 (.gz 111 ?_))
 refine .gz 111 ?_
 refine .pk ?_
 refine .mv ?_
 refine .gz 117 (.gz 117 (.gz 117 ?_))
 refine .gz 117 (.gz 121 (.gz 121 ?_))
 refine .gz 121 (.gz 121 (.gz 121 ?_))
 refine .gz 121 (.gz 121 (.gz 121 ?_))
 refine .gz 117 ?_
 refine .pk ?_
 refine .an ?_
 refine .nil (.ret ?_)
 exact .rb rfl (df (by (simp only [Shaped, c77, Int.reduceEq, Bool.not_eq_true, false_and, true_and, and_true, and_false, or_false, false_or, ne_eq]) <;> (first | omega | grind)))
 refine .region (.vl (Y.eql rfl rfl) ?_)
 refine .an ?_
 refine .nil ?_
 refine .condKD rfl (fun c77 => ?_) (fun c77 => ?_)
 refine .region ?_
 refine .fa fl27_5 ?_
 refine .ld sh25 ?_
 refine .vl (Y.len (n := n.streams.length) sl25 rfl (congrArg some (List.length_map ..))) ?_
 refine .an ?_
 refine .nil (.seq (.sr ?_))
 refine .fa fl39_3 ?_
 refine .ld sh22 ?_
 refine .vl (Y.len (n := c.args.length) sl22 rfl (congrArg some (List.length_map ..))) ?_
 refine .mv ?_
 refine .vl (Y.neq rfl rfl) ?_
 refine .mv ?_
 refine .splitD (d := 88) rfl (fun c88 => ?_) (fun c88 => ?_)
 refine .gz 88 (.gz 88 (.gz 88 ?_))
 refine .gz 88 ?_
 refine .pk ?_
 refine .mv ?_
 refine .gz 94 (.gz 94 (.gz 94 ?_))
 refine .gz 94 (.gz 98 (.gz 98 ?_))
 refine .gz 94 ?_
 refine .pk ?_
 refine .nil (.condT rfl (.sr ?_))
 refine .an ?_
 refine .nil (.ret ?_)
 exact .rb rfl (df (by (simp only [Shaped, c77, Int.reduceEq, Bool.not_eq_true, false_and, true_and, and_true, and_false, or_false, false_or, ne_eq]) <;> (first | omega | grind)))
 refine .gw 88 (Y.fieldAddr fl39_1 rfl rfl) (.gw 88 (Y.load sh3 rfl rfl rfl rfl) (.gw 88 (Y.move rfl rfl) ?_))
 refine .gw 88 (Y.neq rfl rfl) ?_
 refine .pk ?_
 refine .mv ?_
 refine .splitD (d := 94) rfl (fun c94 => ?_) (fun c94 => ?_)
 refine .gz 94 (.gz 94 (.gz 94 ?_))
 refine .gz 94 (.gz 98 (.gz 98 ?_))
 refine .gz 94 ?_
 refine .pk ?_
 refine .nil (.condT rfl (.sr ?_))
 refine .an ?_
 refine .nil (.ret ?_)
 exact .rb rfl (df (by (simp only [Shaped, c77, Int.reduceEq, Bool.not_eq_true, false_and, true_and, and_true, and_false, or_false, false_or, ne_eq]) <;> (first | omega | grind)))
 refine .gw 94 (Y.fieldAddr fl39_4 rfl rfl) (.gw 94 (Y.load sh37 rfl rfl rfl rfl) (.gw 94 (Y.neq rfl rfl) ?_))
 refine .gw 94 (Y.move rfl rfl) ?_
 refine .splitD (d := 98) rfl (fun c98 => ?_) (fun c98 => ?_)
 refine .gw 98 (Y.move rfl rfl) (.gw 98 (Y.not rfl) (.gw 94 (Y.pick rfl rfl rfl) ?_))
 refine .pk ?_
 refine .nil (.condT rfl (.sr ?_))
 refine .an ?_
 refine .nil (.ret ?_)
 exact .rb rfl (df (by (simp only [Shaped, c77, Int.reduceEq, Bool.not_eq_true, false_and, true_and, and_true, and_false, or_false, false_or, ne_eq]) <;> (first | omega | grind)))
 refine .gz 98 (.gz 98 (.gw 94 (Y.pick rfl rfl rfl) ?_))
 refine .pk ?_
 refine .nil (.condF rfl (.skip ?_))
 refine .seq (.sr ?_)
 refine .mv ?_
 refine .vl (Y.lss rfl rfl) (.nil ?_)
 refine .condD rfl (fun c104 => ?_) (fun c104 => ?_)
 refine .sr ?_
 refine .fa fl39_5 ?_
 refine .ld sh3 ?_
 refine .vl (Y.eql rfl rfl) ?_
 refine .an ?_
 refine .nil (.ret ?_)
 exact .rb rfl (dd (by (simp only [Shaped, c77, Int.reduceEq, Bool.not_eq_true, false_and, true_and, and_true, and_false, or_false, false_or, ne_eq]) <;> (first | omega | grind)))
 refine .skip (.sr ?_)
 refine .fa fl39_5 ?_
 refine .ld sh3 ?_
 refine .vl (Y.geq rfl rfl) ?_
 refine .mv ?_
 refine .splitD (d := 111) rfl (fun c111 => ?_) (fun c111 => ?_)
 refine .gw 111 (Y.fieldAddr fl39_5 rfl rfl) (.gw 111 (Y.load sh3 rfl rfl rfl rfl) (.gw 111 (Y.move rfl rfl) ?_))
 refine .gw 111 (Y.lss rfl rfl) ?_
 refine .pk ?_
 refine .mv ?_
 refine .splitD (d := 117) rfl (fun c117 => ?_) (fun c117 => ?_)
 refine .gw 117 (Y.fieldAddr fl39_0 rfl rfl) (.gw 117 (Y.load sh3 rfl rfl rfl rfl) (.gw 117 (Y.neq rfl rfl) ?_))
 refine .gw 117 (Y.move rfl rfl) ?_
 refine .splitD (d := 121) rfl (fun c121 => ?_) (fun c121 => ?_)
 refine .gz 121 (.gz 121 (.gz 121 ?_))
 refine .gz 121 (.gz 121 (.gz 121 ?_))
 refine .gz 121 (.gz 121 (.gw 117 (Y.pick rfl rfl rfl) ?_))
 refine .pk ?_
 refine .an ?_
 refine .nil (.ret ?_)
 exact .rb rfl (dt (by (simp only [Shaped, c77, Int.reduceEq, Bool.not_eq_true, false_and, true_and, and_true, and_false, or_false, false_or, ne_eq]) <;> (first | omega | grind)))
 refine .gw 121 (Y.fieldAddr fl27_5 rfl rfl) (.gw 121 (Y.load sh25 rfl rfl rfl rfl) (.gw 121 (Y.fieldAddr fl39_5 rfl rfl) ?_))
 refine .gw 121 (Y.load sh3 rfl rfl rfl rfl) ?_
 refine .gw 121 (Y.indexF (m := (c.mem).toNat) sl25 rfl rfl (by omega) (row_getD (d := default) (by omega))) ?_
 refine .gw 121 (Y.fieldAddr fl83_2 rfl rfl) (.gw 121 (Y.load sh4 rfl rfl rfl rfl) (.gw 121 (Y.not rfl) ?_))
 refine .gw 117 (Y.pick rfl rfl rfl) ?_
 refine .pk ?_
 refine .an ?_
 refine .nil (.ret ?_)
 exact .rb rfl (db (by (simp only [Shaped, c77, Int.reduceEq, Bool.not_eq_true, false_and, true_and, and_true, and_false, or_false, false_or, ne_eq]) <;> (first | omega | grind)))
 refine .gz 117 (.gz 117 (.gz 117 ?_))
 refine .gz 117 (.gz 121 (.gz 121 ?_))
 refine .gz 121 (.gz 121 (.gz 121 ?_))
 refine .gz 121 (.gz 121 (.gz 121 ?_))
 refine .gz 117 ?_
 refine .pk ?_
 refine .an ?_
 refine .nil (.ret ?_)
 exact .rb rfl (df (by (simp only [Shaped, c77, Int.reduceEq, Bool.not_eq_true, false_and, true_and, and_true, and_false, or_false, false_or, ne_eq]) <;> (first | omega | grind)))
 refine .gz 111 (.gz 111 (.gz 111 ?_))
 refine .gz 111 ?_
 refine .pk ?_
 refine .mv ?_
 refine .gz 117 (.gz 117 (.gz 117 ?_))
 refine .gz 117 (.gz 121 (.gz 121 ?_))
 refine .gz 121 (.gz 121 (.gz 121 ?_))
 refine .gz 121 (.gz 121 (.gz 121 ?_))
 refine .gz 117 ?_
 refine .pk ?_
 refine .an ?_
 refine .nil (.ret ?_)
 exact .rb rfl (df (by (simp only [Shaped, c77, Int.reduceEq, Bool.not_eq_true, false_and, true_and, and_true, and_false, or_false, false_or, ne_eq]) <;> (first | omega | grind)))
 refine .sr ?_
 refine .an ?_
 refine .nil (.ret ?_)
 exact .rb rfl (df (by (simp only [Shaped, c11, c13, c22, c34, c36, c58, c63, c68, c77, c77, Int.reduceEq, Bool.not_eq_true, false_and, true_and, and_true, and_false, or_false, false_or, ne_eq]) <;> (first | omega | grind)))
end Go.Proofs.Ytligpghohcfpnaa
/- Walks through the searches of slices. -/
namespace Go.Proofs.Ytligpghohcfpnaa
open Go Go.AW Go.Proofs
theorem indexFuncInt_spec {l : List Int} {p : Int → Bool} {g : Nat} {row : List X} (hl : l.length ≤ 17592186043904) (hok : callOK Try.prog g = true) (hg : ∀ z ∈ l, ACalls Try.prog g [vi z, .fp row 0] [] [] (fun r o => r = .v (.bool (p z)) ∧ o = [])) : ACalls Try.prog 123 [.fz 1 (l.map irow), .clo (.func g) [] [.fp row 0]] [] [] (fun r o => r = (vi (idxF p l)) ∧ o = []) := by
 refine ACalls.of Try.func123 rfl rfl rfl (n := 19) (by decide) (nbE rfl) (.sr ?_)
 refine .an ?_
 refine .nil (.seq (.sr ?_))
 refine .mv ?_
 refine .vl (Y.len (n := l.length) sl22 rfl (congrArg some (List.length_map ..))) ?_
 refine .mv ?_
 refine .nil (.block ?_)
 refine .loop1 (fun (n8_2 : Nat) => ⟨[(0, .fz 1 (l.map irow)), (1, .clo (.func g) [] [.fp row 0]), (7, vi ((l.length : Nat) : Int)), (8, vi (n8_2 : Int))], []⟩) (fun (n8_2 : Nat) => ((n8_2 : Int) ≤ ((l.length : Nat) : Int)) ∧ (∀ j, j < n8_2 → p (l.getD j 0) = false)) (fun (n8_2 : Nat) => (((l.length : Nat) : Int) - (n8_2 : Int)).toNat) 0 (⟨by omega, fun j hj => by omega⟩) (Le.mk (.c (.c (.c (.cons (look_int rfl (by first | rfl | omega)) (.nil))))) (.nil)) (fun n8_2 hI2 => ?_)
 obtain ⟨hb2, h0⟩ := hI2
 refine .sr (.vl (Y.lss rfl rfl) (.nil ?_))
 refine .seq ?_
 refine .condD rfl (fun c9 => ?_) (fun c9 => ?_)
 refine .skip (.seq (.block ?_))
 refine .sr ?_
 refine .mv ?_
 refine .an ?_
 refine .nil (.sr ?_)
 refine .mv ?_
 refine .mv ?_
 refine .mv ?_
 refine .vl (Y.indexF (m := n8_2) sl22 rfl rfl (by first | rfl | omega) (row_getD (d := 0) (by omega))) ?_
 refine .ld sh3 ?_
 refine .callCP rfl hok (hg _ (getD_mem' (by omega))) rfl (.keep rfl rfl (.keep rfl rfl .nil)) (by decide) rfl (.nil ?_)
 refine .cond rfl (fun c16 => ?_) (fun c16 => ?_)
 refine .sr ?_
 refine .mv ?_
 refine .an ?_
 refine .nil (.ret ?_)
 exact .ri rfl (idxF_found h0 (by omega) c16)
 refine .skip (.region ?_)
 refine .vl (Y.addI rfl rfl (by omega)) ?_
 refine .mv ?_
 refine .nil ?_
 exact ⟨n8_2 + 1, ⟨by omega, below_false h0 c16⟩, by omega, Le.mk (.c (.c (.c (.cons (look_int rfl (by first | rfl | omega)) (.nil))))) (.nil)⟩
 refine .exit (.sr ?_)
 refine .an ?_
 refine .nil (.ret ?_)
 exact .ri rfl (idxF_none (fun j hj => h0 j (by omega)))
theorem containsFuncInt_spec {l : List Int} {p : Int → Bool} {g : Nat} {row : List X} (hl : l.length ≤ 17592186043904) (hok : callOK Try.prog g = true) (hg : ∀ z ∈ l, ACalls Try.prog g [vi z, .fp row 0] [] [] (fun r o => r = .v (.bool (p z)) ∧ o = [])) : ACalls Try.prog 95 [.fz 1 (l.map irow), .clo (.func g) [] [.fp row 0]] [] [] (fun r o => r = .v (.bool (l.any p)) ∧ o = []) := by
 refine ACalls.of Try.func95 rfl rfl rfl (n := 9) (by decide) (nbE rfl) (.sr ?_)
 refine .an ?_
 refine .nil (.sr ?_)
 refine .mv ?_
 refine .mv ?_
 refine .callP ok123 (indexFuncInt_spec (l := l) hl hok hg) rfl (.keep rfl rfl (.keep rfl rfl .nil)) (by decide) rfl (.vl (Y.geq rfl rfl) ?_)
 refine .an ?_
 refine .nil (.ret ?_)
 exact .rb rfl (idxF_any)
theorem indexFuncCell_spec {l : List Cell} {p : Cell → Bool} {g : Nat} {row : List X} (hl : l.length ≤ 17592186043904) (hok : callOK Try.prog g = true) (hg : ∀ z ∈ l, ACalls Try.prog g [.agg (Cell.row z), .fp row 0] [] [] (fun r o => r = .v (.bool (p z)) ∧ o = [])) : ACalls Try.prog 126 [.fz 6 (l.map Cell.row), .clo (.func g) [] [.fp row 0]] [] [] (fun r o => r = (vi (idxF p l)) ∧ o = []) := by
 refine ACalls.of Try.func126 rfl rfl rfl (n := 19) (by decide) (nbE rfl) (.sr ?_)
 refine .an ?_
 refine .nil (.seq (.sr ?_))
 refine .mv ?_
 refine .vl (Y.len (n := l.length) sl23 rfl (congrArg some (List.length_map ..))) ?_
 refine .mv ?_
 refine .nil (.block ?_)
 refine .loop1 (fun (n8_2 : Nat) => ⟨[(0, .fz 6 (l.map Cell.row)), (1, .clo (.func g) [] [.fp row 0]), (7, vi ((l.length : Nat) : Int)), (8, vi (n8_2 : Int))], []⟩) (fun (n8_2 : Nat) => ((n8_2 : Int) ≤ ((l.length : Nat) : Int)) ∧ (∀ j, j < n8_2 → p (l.getD j default) = false)) (fun (n8_2 : Nat) => (((l.length : Nat) : Int) - (n8_2 : Int)).toNat) 0 (⟨by omega, fun j hj => by omega⟩) (Le.mk (.c (.c (.c (.cons (look_int rfl (by first | rfl | omega)) (.nil))))) (.nil)) (fun n8_2 hI2 => ?_)
 obtain ⟨hb2, h0⟩ := hI2
 refine .sr (.vl (Y.lss rfl rfl) (.nil ?_))
 refine .seq ?_
 refine .condD rfl (fun c9 => ?_) (fun c9 => ?_)
 refine .skip (.seq (.block ?_))
 refine .sr ?_
 refine .mv ?_
 refine .an ?_
 refine .nil (.sr ?_)
 refine .mv ?_
 refine .mv ?_
 refine .mv ?_
 refine .vl (Y.indexF (m := n8_2) sl23 rfl rfl (by first | rfl | omega) (row_getD (d := default) (by omega))) ?_
 refine .vl (Y.loadA sh39 rfl rfl (nbE rfl) rfl rfl) (.callCP rfl hok (hg _ (getD_mem' (by omega))) rfl (.keep rfl rfl (.keep rfl rfl .nil)) (by decide) rfl (.nil ?_))
 refine .cond rfl (fun c16 => ?_) (fun c16 => ?_)
 refine .sr ?_
 refine .mv ?_
 refine .an ?_
 refine .nil (.ret ?_)
 exact .ri rfl (idxF_found h0 (by omega) c16)
 refine .skip (.region ?_)
 refine .vl (Y.addI rfl rfl (by omega)) ?_
 refine .mv ?_
 refine .nil ?_
 exact ⟨n8_2 + 1, ⟨by omega, below_false h0 c16⟩, by omega, Le.mk (.c (.c (.c (.cons (look_int rfl (by first | rfl | omega)) (.nil))))) (.nil)⟩
 refine .exit (.sr ?_)
 refine .an ?_
 refine .nil (.ret ?_)
 exact .ri rfl (idxF_none (fun j hj => h0 j (by omega)))
theorem containsFuncCell_spec {l : List Cell} {p : Cell → Bool} {g : Nat} {row : List X} (hl : l.length ≤ 17592186043904) (hok : callOK Try.prog g = true) (hg : ∀ z ∈ l, ACalls Try.prog g [.agg (Cell.row z), .fp row 0] [] [] (fun r o => r = .v (.bool (p z)) ∧ o = [])) : ACalls Try.prog 100 [.fz 6 (l.map Cell.row), .clo (.func g) [] [.fp row 0]] [] [] (fun r o => r = .v (.bool (l.any p)) ∧ o = []) := by
 refine ACalls.of Try.func100 rfl rfl rfl (n := 9) (by decide) (nbE rfl) (.sr ?_)
 refine .an ?_
 refine .nil (.sr ?_)
 refine .mv ?_
 refine .mv ?_
 refine .callP ok126 (indexFuncCell_spec (l := l) hl hok hg) rfl (.keep rfl rfl (.keep rfl rfl .nil)) (by decide) rfl (.vl (Y.geq rfl rfl) ?_)
 refine .an ?_
 refine .nil (.ret ?_)
 exact .rb rfl (idxF_any)
theorem indexBool_spec {l : List Bool} {b : Bool} (hl : l.length ≤ 140737488351232) : ACalls Try.prog 125 [.fz 1 (l.map brow), .v (.bool b)] [] [] (fun r o => r = (vi (idxF (fun x => b == x) l)) ∧ o = []) := by
 refine ACalls.of Try.func125 rfl rfl rfl (n := 19) (by decide) (nbE rfl) (.sr ?_)
 refine .an ?_
 refine .nil (.seq (.sr ?_))
 refine .mv ?_
 refine .vl (Y.len (n := l.length) sl63 rfl (congrArg some (List.length_map ..))) ?_
 refine .mv ?_
 refine .nil (.block ?_)
 refine .loop1 (fun (n8_2 : Nat) => ⟨[(0, .fz 1 (l.map brow)), (1, .v (.bool b)), (7, vi ((l.length : Nat) : Int)), (8, vi (n8_2 : Int))], []⟩) (fun (n8_2 : Nat) => ((n8_2 : Int) ≤ ((l.length : Nat) : Int)) ∧ (∀ j, j < n8_2 → (fun x => b == x) (l.getD j false) = false)) (fun (n8_2 : Nat) => (((l.length : Nat) : Int) - (n8_2 : Int)).toNat) 0 (⟨by omega, fun j hj => by omega⟩) (Le.mk (.c (.c (.c (.cons (look_int rfl (by first | rfl | omega)) (.nil))))) (.nil)) (fun n8_2 hI2 => ?_)
 obtain ⟨hb2, h0⟩ := hI2
 refine .sr (.vl (Y.lss rfl rfl) (.nil ?_))
 refine .seq ?_
 refine .condD rfl (fun c9 => ?_) (fun c9 => ?_)
 refine .skip (.seq (.block ?_))
 refine .sr ?_
 refine .mv ?_
 refine .an ?_
 refine .nil (.sr ?_)
 refine .mv ?_
 refine .mv ?_
 refine .mv ?_
 refine .vl (Y.indexF (m := n8_2) sl63 rfl rfl (by first | rfl | omega) (row_getD (d := false) (by omega))) ?_
 refine .ld sh4 ?_
 refine .vl (Y.eqlB un4 rfl rfl) (.nil ?_)
 refine .cond rfl (fun c16 => ?_) (fun c16 => ?_)
 refine .sr ?_
 refine .mv ?_
 refine .an ?_
 refine .nil (.ret ?_)
 exact .ri rfl (idxF_found (d := false) h0 (by omega) c16)
 refine .skip (.region ?_)
 refine .vl (Y.addI rfl rfl (by omega)) ?_
 refine .mv ?_
 refine .nil ?_
 exact ⟨n8_2 + 1, ⟨by omega, below_false h0 c16⟩, by omega, Le.mk (.c (.c (.c (.cons (look_int rfl (by first | rfl | omega)) (.nil))))) (.nil)⟩
 refine .exit (.sr ?_)
 refine .an ?_
 refine .nil (.ret ?_)
 exact .ri rfl (idxF_none (d := false) (fun j hj => h0 j (by omega)))
theorem containsBool_spec {l : List Bool} {b : Bool} (hl : l.length ≤ 140737488351232) : ACalls Try.prog 99 [.fz 1 (l.map brow), .v (.bool b)] [] [] (fun r o => r = .v (.bool (l.any (fun x => b == x))) ∧ o = []) := by
 refine ACalls.of Try.func99 rfl rfl rfl (n := 9) (by decide) (nbE rfl) (.sr ?_)
 refine .an ?_
 refine .nil (.sr ?_)
 refine .mv ?_
 refine .mv ?_
 refine .callP ok125 (indexBool_spec (l := l) (b := b) ((by omega))) rfl (.keep rfl rfl (.keep rfl rfl .nil)) (by decide) rfl ?_
 refine .vl (Y.geq rfl rfl) ?_
 refine .an ?_
 refine .nil (.ret ?_)
 exact .rb rfl (idxF_any)
end Go.Proofs.Ytligpghohcfpnaa
