/- The longest path, step by step, in plain Lean. -/
import Derived.Test.YtligpghohcfpnaaNetx0
import Derived.Test.YtligpghohcfpnaaAWx2
set_option linter.unusedSimpArgs false
set_option linter.unusedVariables false
set_option linter.unusedSectionVars false
set_option maxRecDepth 4000
set_option maxHeartbeats 8000000
namespace Go.Proofs.Ytligpghohcfpnaa
open Go Go.AW Go.Proofs

def IE (n : ab) (at_ : List Int) (y x : Int) : Prop := ∃ i, bA n i y ∧ b7 (n.cell i).kind ∧ x ∈ (n.cell i).args ∧ at_.getD y.toNat 0 = at_.getD x.toNat 0 + e6 n (n.cell i)
def LS (n : ab) (at_ : List Int) (y : Int) : Prop := ∃ i, bA n i y ∧ at_.getD y.toNat 0 = e6 n (n.cell i) ∧ (¬ b7 (n.cell i).kind ∨ (n.cell i).kind = 1)
structure PP (n : ab) (l at_ : List Int) (w0 : Int) (st : List Int) (last : Int) : Prop where
 rk : 0 ≤ last → ∀ i, bA n i last → st.length + l.idxOf i + 1 ≤ n.cells.length
 len : st.length ≤ n.cells.length
 zT : 0 ≤ last → In last n.aa.length
 vR : ∀ j, j < st.length → In (st.getD j 0) n.aa.length
 link : ∀ j, j + 1 < st.length → IE n at_ (st.getD j 0) (st.getD (j + 1) 0)
 LU : 0 ≤ last → 0 < st.length → IE n at_ (st.getD (st.length - 1) 0) last
 end_ : last < 0 → 0 < st.length ∧ LS n at_ (st.getD (st.length - 1) 0)
 fst : (0 < st.length → st.getD 0 0 = w0) ∧ (st.length = 0 → last = w0)
def oO (at_ l : List Int) (last : Int) : Prop := (l = [] ∧ last = -1) ∨ (last ∈ l ∧ ∀ x ∈ l, at_.getD x.toNat 0 ≤ at_.getD last.toNat 0)
theorem oO.nil {at_ l : List Int} : oO at_ (l.take 0) (-1) := .inl ⟨by simp, rfl⟩
theorem oO.step {at_ l : List Int} {k : Nat} {last : Int} (h : oO at_ (l.take k) last) (hk : k < l.length) (h0 : ∀ x ∈ l, 0 ≤ x) (hc : last < 0 ∨ at_.getD (l.getD k 0).toNat 0 > at_.getD last.toNat 0) : oO at_ (l.take (k + 1)) (l.getD k 0) := by
 rw [take_one (d := (0 : Int)) hk]
 refine .inr ⟨by simp, fun x hx => ?_⟩
 rcases List.mem_append.1 hx with hx | hx
 ·rcases h with ⟨h1, _⟩ | ⟨h1, h2⟩
  ·rw [h1] at hx; cases hx
  ·have := h2 x hx
   rcases hc with hc | hc
   ·have := h0 last (List.mem_of_mem_take h1); omega
   ·omega
 ·rw [List.mem_singleton.1 hx]; exact Int.le_refl _
theorem oO.ai {at_ l : List Int} {k : Nat} {last : Int} (h : oO at_ (l.take k) last) (hk : k < l.length) (hc : ¬ (last < 0 ∨ at_.getD (l.getD k 0).toNat 0 > at_.getD last.toNat 0)) : oO at_ (l.take (k + 1)) last := by
 rw [take_one (d := (0 : Int)) hk]
 rcases h with ⟨h1, h2⟩ | ⟨h1, h2⟩
 ·omega
 ·refine .inr ⟨List.mem_append.2 (.inl h1), fun x hx => ?_⟩
  rcases List.mem_append.1 hx with hx | hx
  ·exact h2 x hx
  ·rw [List.mem_singleton.1 hx]; omega
theorem oO.zT {at_ l : List Int} {k : Nat} {last : Int} (h : oO at_ (l.take k) last) (h0 : 0 ≤ last) : last ∈ l := by
 rcases h with ⟨_, h2⟩ | ⟨h1, _⟩
 ·omega
 ·exact List.mem_of_mem_take h1
theorem lf {st : List Int} {x : Int} {j : Nat} (h : j < st.length) : (st ++ [x]).getD j 0 = st.getD j 0 := by
 rw [List.getD_eq_getElem?_getD, List.getElem?_append_left h, List.getD_eq_getElem?_getD]
theorem p7 {st : List Int} {x : Int} : (st ++ [x]).getD st.length 0 = x := by
 rw [List.getD_eq_getElem?_getD, List.getElem?_append_right (Nat.le_refl _), Nat.sub_self]; rfl
section
variable {n : ab} {l at_ st : List Int} {w0 last : Int}
theorem PP.init (hf : aW n) (ho : Ord n l) (hw : In w0 n.aa.length) : PP n l at_ w0 [] w0 where
 rk := fun _ i hd => by
  have h1 := List.idxOf_lt_length_of_mem (ho.mem hd.1)
  have h2 := ho.len
  simp only [List.length_nil]; omega
 len := by simp
 zT := fun _ => hw
 vR := fun j h => by simp at h
 link := fun j h => by simp at h
 LU := fun _ h => by simp at h
 end_ := fun h => by unfold In at hw; omega
 fst := ⟨fun h => by simp at h, fun _ => rfl⟩
theorem PP.more (h : PP n l at_ w0 st last) (h0 : 0 ≤ last) : (∀ j, j < (st ++ [last]).length → In ((st ++ [last]).getD j 0) n.aa.length) ∧ (∀ j, j + 1 < (st ++ [last]).length → IE n at_ ((st ++ [last]).getD j 0) ((st ++ [last]).getD (j + 1) 0)) ∧
  (st ++ [last]).getD ((st ++ [last]).length - 1) 0 = last ∧ (st ++ [last]).getD 0 0 = w0 := by
 have hl : (st ++ [last]).length = st.length + 1 := by simp
 refine ⟨fun j hj => ?_, fun j hj => ?_, ?_, ?_⟩
 ·rcases Nat.lt_or_ge j st.length with h1 | h1
  ·rw [lf h1]; exact h.vR j h1
  ·obtain rfl : j = st.length := by omega
   rw [p7]; exact h.zT h0
 ·rcases Nat.lt_or_ge (j + 1) st.length with h1 | h1
  ·rw [lf h1, lf om]; exact h.link j h1
  ·have e : j + 1 = st.length := by omega
   rw [e, p7, lf om, show j = st.length - 1 by omega]
   exact h.LU h0 om
 ·rw [hl, Nat.add_sub_cancel, p7]
 ·rcases Nat.eq_zero_or_pos st.length with h1 | h1
  ·have : st = [] := List.eq_nil_of_length_eq_zero h1
   subst this
   exact h.fst.2 rfl
  ·rw [lf h1]; exact h.fst.1 h1
theorem PP.lt (hf : aW n) (h : PP n l at_ w0 st last) (h0 : 0 ≤ last) : st.length + 1 ≤ n.cells.length := by
 obtain ⟨i, hi⟩ := hf.g9 (h.zT h0)
 have := h.rk h0 i hi
 omega
structure PD (n : ab) (at_ : List Int) (w0 : Int) (st : List Int) : Prop where
 pos : 0 < st.length
 len : st.length ≤ n.cells.length
 vR : ∀ j, j < st.length → In (st.getD j 0) n.aa.length
 link : ∀ j, j + 1 < st.length → IE n at_ (st.getD j 0) (st.getD (j + 1) 0)
 root : LS n at_ (st.getD (st.length - 1) 0)
 fst : st.getD 0 0 = w0
theorem PP.stop (hf : aW n) (ha : tI n at_) {cs : List Cell} (hc : xV n cs) (h : PP n l at_ w0 st last) (h0 : 0 ≤ last) (hk : ¬ b7 (cs.getD last.toNat default).kind) : PD n at_ w0 (st ++ [last]) := by
 obtain ⟨h1, h2, h3, h4⟩ := h.more h0
 obtain ⟨i, hi⟩ := hf.g9 (h.zT h0)
 rw [hc.at_ i last hi] at hk
 refine ⟨by simp, by simp; have := h.lt hf h0; omega, h1, h2, ?_, h4⟩
 rw [h3]
 refine ⟨i, hi, ?_, .inl hk⟩
 rw [ha.eq i last hi]
 unfold jU
 rw [if_neg hk]; omega
theorem PP.done (h : PP n l at_ w0 st last) (h0 : last < 0) : PD n at_ w0 st :=
 ⟨(h.end_ h0).1, h.len, h.vR, h.link, (h.end_ h0).2, h.fst.1 (h.end_ h0).1⟩
theorem PP.go (hf : aW n) (ho : Ord n l) (ha : tI n at_) (PL : ∀ w, In w n.aa.length → 0 ≤ at_.getD w.toNat 0) {cs : List Cell} (hc : xV n cs) (h : PP n l at_ w0 st last) (h0 : 0 ≤ last) (hk : b7 (cs.getD last.toNat default).kind) {k : Nat} {nl : Int} (Bu : k = (cs.getD last.toNat default).args.length)
  (hb : oO at_ ((cs.getD last.toNat default).args.take k) nl) : PP n l at_ w0 (st ++ [last]) nl := by
 obtain ⟨h1, h2, h3, h4⟩ := h.more h0
 obtain ⟨i, hi⟩ := hf.g9 (h.zT h0)
 rw [hc.at_ i last hi] at hk Bu hb
 rw [Bu, List.take_length] at hb
 have iv := h.rk h0 i hi
 have hl : (st ++ [last]).length = st.length + 1 := by simp
 have ox : at_.getD last.toNat 0 = gr at_ (n.cell i).args + e6 n (n.cell i) := by
  rw [ha.eq i last hi]; unfold jU; rw [if_pos hk]
 have qg : 0 ≤ nl → nl ∈ (n.cell i).args := fun h5 => by
  rcases hb with ⟨_, h6⟩ | ⟨h6, _⟩
  ·omega
  ·exact h6
 exact {
  rk := fun h5 j hj => by
   obtain ⟨j', o6, PM⟩ := ho.lt hi.1 hk (qg h5)
   rw [hf.unique hj o6, hl]; omega
  len := by rw [hl]; omega
  zT := fun h5 => hf.gY hi.1 (qg h5)
  vR := h1
  link := h2
  LU := fun h5 _ => by
   rw [h3]
   refine ⟨i, hi, hk, qg h5, ?_⟩
   rw [ox]
   rcases hb with ⟨_, h6⟩ | ⟨h6, h7⟩
   ·omega
   ·have h8 := Ck (at_ := at_) h6
    have h9 := (jz (at_ := at_) (l := (n.cell i).args) (B := at_.getD nl.toNat 0) (PL nl (hf.gY hi.1 h6)) h7).2
    omega
  end_ := fun h5 => by
   refine ⟨by rw [hl]; omega, ?_⟩
   rw [h3]
   rcases hb with ⟨h6, _⟩ | ⟨h6, _⟩
   ·refine ⟨i, hi, ?_, .inr ?_⟩
    ·rw [ox, h6]; simp [gr]
    ·have jf := (hf.cellAt hi.1).2.1
     have hlen : (n.cell i).args.length = 0 := by rw [h6]; rfl
     unfold Shaped at jf
     unfold b7 at hk
     rcases jf with hx | ⟨hx, hy, hz, _⟩ | hx | hx | hx | hx | hx | hx | hx | hx
     ·exact hx.1
     ·rw [hlen] at hz; exact absurd hz.symm hy
     all_goals omega
   ·have := (hf.gY hi.1 h6).1; omega
  fst := ⟨fun _ => h4, fun h5 => by rw [hl] at h5; omega⟩ }
end
end Go.Proofs.Ytligpghohcfpnaa
/- The longest path, forwards, in plain Lean. -/
namespace Go.Proofs.Ytligpghohcfpnaa
open Go Go.AW Go.Proofs

structure sx (n : ab) (at_ st : List Int) (d : Int) : Prop where
 pos : 0 < st.length
 len : st.length ≤ n.cells.length
 vR : ∀ j, j < st.length → In (st.getD j 0) n.aa.length
 link : ∀ j, j + 1 < st.length → IE n at_ (st.getD (j + 1) 0) (st.getD j 0)
 root : LS n at_ (st.getD 0 0)
 end_ : ∃ a, (st.getD (st.length - 1) 0, a) ∈ fq n ∧ d = at_.getD (st.getD (st.length - 1) 0).toNat 0 + a
 max : ∀ e ∈ fq n, at_.getD e.1.toNat 0 + e.2 ≤ d
theorem lg {l : List Int} {j : Nat} (h : j < l.length) : l.reverse.getD j 0 = l.getD (l.length - 1 - j) 0 := by
 rw [List.getD_eq_getElem?_getD, List.getElem?_eq_getElem (by simpa using h), List.getD_eq_getElem?_getD, List.getElem?_eq_getElem om]
 simp
section
variable {n : ab} {l at_ st : List Int} {w0 last d a : Int} {cs : List Cell}
theorem PD.rev (h : PD n at_ w0 st) (he : (w0, a) ∈ fq n) (hd : d = at_.getD w0.toNat 0 + a) (hm : ∀ e ∈ fq n, at_.getD e.1.toNat 0 + e.2 ≤ d) : sx n at_ st.reverse d := by
 have hp := h.pos
 have hl : st.reverse.length = st.length := by simp
 refine ⟨om, by rw [hl]; exact h.len, fun j hj => ?_, fun j hj => ?_, ?_, ⟨a, ?_, ?_⟩, hm⟩
 ·rw [lg om]; exact h.vR _ om
 ·rw [lg om, lg om]
  have := h.link (st.length - 1 - (j + 1)) om
  rw [show st.length - 1 - (j + 1) + 1 = st.length - 1 - j by omega] at this
  exact this
 ·rw [lg om, Nat.sub_zero]; exact h.root
 ·rw [hl, lg om, show st.length - 1 - (st.length - 1) = 0 by omega, h.fst]; exact he
 ·rw [hl, lg om, show st.length - 1 - (st.length - 1) = 0 by omega, h.fst]; exact hd
theorem PP.args (hf : aW n) (hc : xV n cs) (h : PP n l at_ w0 st last) (h0 : 0 ≤ last) : ∀ x ∈ (cs.getD last.toNat default).args, In x n.aa.length := by
 obtain ⟨i, hi⟩ := hf.g9 (h.zT h0)
 rw [hc.at_ i last hi]
 exact fun x hx => hf.gY hi.1 hx
theorem PP.LV (hM : VT n) (hc : xV n cs) (h : PP n l at_ w0 st last) (h0 : 0 ≤ last) : (cs.getD last.toNat default).args.length ≤ 200 := by
 obtain ⟨i, hi⟩ := hM.formed.g9 (h.zT h0)
 have h1 := hi.1
 rw [hc.at_ i last hi]
 exact hM.ir _ (getD_in om)
end
end Go.Proofs.Ytligpghohcfpnaa
/- Powers of two, counted; the example of the statements on timing. -/
namespace Go.Proofs.Ytligpghohcfpnaa
open Go Go.AW Go.Proofs

structure rm (x : Int) (k p : Nat) : Prop where
 p : p = 2 ^ k
 lt : k = 0 ∨ 2 ^ (k - 1) < x.toNat
theorem rm.init {x : Int} : rm x 0 1 := ⟨rfl, .inl rfl⟩
theorem rm.step {x : Int} {k p : Nat} (h : rm x k p) (hx : (p : Int) < x) : rm x (k + 1) (2 * p) := by
 have h1 := h.p
 refine ⟨by rw [Nat.pow_succ, h1]; omega, .inr ?_⟩
 rw [Nat.add_sub_cancel]; omega
theorem rm.le {x : Int} {k p : Nat} (h : rm x k p) (hx : x ≤ 256) : k ≤ 8 ∧ 1 ≤ p ∧ p ≤ 256 := by
 have hk : k ≤ 8 := by
  rcases h.lt with h1 | h1
  ·omega
  ·rcases Nat.lt_or_ge k 9 with h2 | h2
   ·omega
   ·have : 2 ^ 8 ≤ 2 ^ (k - 1) := Nat.pow_le_pow_right om om
    omega
 have h1 : 2 ^ k ≤ 2 ^ 8 := Nat.pow_le_pow_right om hk
 have h2 : 1 ≤ 2 ^ k := Nat.one_le_two_pow
 have h3 := h.p
 refine ⟨hk, om, om⟩
theorem rm.done {x : Int} {k p : Nat} (h : rm x k p) (h0 : 0 ≤ x) (hx : ¬ (p : Int) < x) : k = eR x.toNat := by
 have h1 := h.p
 refine (ED om ?_).symm
 exact h.lt

def nA : ab := ⟨ByteArray.empty, [1, 1], [⟨4, 0, 0, [1, 0], 0, 0⟩, ⟨1, 0, 1, [], 0, 0⟩], [], [], [], [], [], 1, 0, []⟩
theorem sy : aW nA where
 name := ⟨fun i h => by have h : i < 0 := h; omega, ae⟩
 cK := by decide
 cv := by decide
 iq := by decide
 bO := by decide
 cP := rfl
 eY := rfl
 wide := fun j hj => by
  have hj : j < 2 := hj
  rcases j with _ | _ | j
  ·decide
  ·decide
  ·omega
 aw := fun j hj => by cases hj
 strs := fun j hj => by cases hj
 freeze := by decide
 done := by decide
 bI := fun r hr => by cases hr
 cells := fun j hj => by
  have hj : j < 2 := hj
  rcases j with _ | _ | j
  ·refine ⟨fun x hx => ?_, ?_, fun h => ?_, fun _ => ?_⟩
   ·have hx : x ∈ ([1, 0] : List Int) := hx
    simp at hx
    rcases hx with rfl | rfl <;> decide
   ·exact .inr (.inr (.inr (.inl ⟨rfl, rfl, rfl, rfl⟩)))
   ·exact absurd h ae
   ·show In 0 2; decide
  ·refine ⟨fun x hx => ?_, ?_, fun h => ?_, fun _ => ?_⟩
   ·cases hx
   ·exact .inl ⟨rfl, rfl, rfl, rfl⟩
   ·exact absurd h ae
   ·show In 1 2; decide
  ·omega
 iB := fun w hw => by
  have hw : w < 2 := hw
  rcases w with _ | _ | w
  ·decide
  ·decide
  ·omega
theorem EF : Fit nA where
 freeze := rfl
 done := rfl
 strs := fun j hj => by cases hj
 cells := fun j hj => by
  have hj : j < 2 := hj
  rcases j with _ | _ | j
  ·exact .inr (.inr (.inr (.inl ⟨rfl, rfl, rfl, rfl⟩)))
  ·exact .inl ⟨rfl, rfl⟩
  ·omega
theorem vS : Acyclic nA := ⟨fun _ => 0, fun i j hi _ h => by
 exfalso
 obtain ⟨⟨h1, h2⟩, h3⟩ := hi
 have h2 : i < 2 := h2
 have : i = 0 ∨ i = 1 := by omega
 rcases this with rfl | rfl
 ·exact absurd h3 ae
 ·cases h⟩
theorem IF : VT nA where
 formed := sy
 fit := EF
 acyclic := vS
 small := {
  name := by decide
  aa := by decide
  cells := by decide
  args := fun c hc => by
   have hc : c ∈ ([⟨4, 0, 0, [1, 0], 0, 0⟩, ⟨1, 0, 1, [], 0, 0⟩] : List Cell) := hc
   simp at hc
   rcases hc with rfl | rfl <;> simp
  zy := by decide
  zz := fun c hc => by
   have hc : c ∈ ([⟨4, 0, 0, [1, 0], 0, 0⟩, ⟨1, 0, 1, [], 0, 0⟩] : List Cell) := hc
   simp at hc
   rcases hc with rfl | rfl <;> simp
  mS := fun m hm => by cases hm
  mT := fun m hm => by cases hm
  ins := by decide
  aw := by decide
  streams := by decide
  aX := by decide
  data := by decide
  bI := by decide }
 cK := by decide
 cv := by decide
 ir := fun c hc => by
  have hc : c ∈ ([⟨4, 0, 0, [1, 0], 0, 0⟩, ⟨1, 0, 1, [], 0, 0⟩] : List Cell) := hc
  simp at hc
  rcases hc with rfl | rfl <;> simp
 iW := by decide
 bO := by decide
 sS := by decide
theorem zU : fq nA = [(1, 100), (0, 60), (1, 100), (0, 0)] := by decide
theorem Cr {at_ st : List Int} {d : Int} (ha : tI nA at_) (h : sx nA at_ st d) : d = 100 ∧ st.length = 1 := by
 have d0 : bA nA 0 0 := ⟨⟨ae, ae⟩, ae, rfl⟩
 have d1 : bA nA 1 1 := ⟨⟨ae, ae⟩, ae, rfl⟩
 have a0 : at_.getD 0 0 = 30 := (ha.eq 0 0 d0).trans (by
  have : jU nA at_ (nA.cell 0) = 0 + 30 := rfl
  rw [this]; rfl)
 have a1 : at_.getD 1 0 = 0 := (ha.eq 1 1 d1).trans (by
  have : jU nA at_ (nA.cell 1) = gr at_ [] + 0 := rfl
  rw [this]; rfl)
 have hm := h.max (1, 100) (by rw [zU]; simp)
 obtain ⟨a, he, hd⟩ := h.end_
 rw [zU] at he
 have hm : at_.getD 1 0 + 100 ≤ d := hm
 simp only [List.mem_cons, List.not_mem_nil, or_false, Prod.mk.injEq] at he
 have key : st.getD (st.length - 1) 0 = 1 ∧ d = 100 := by
  rcases he with ⟨h1, h2⟩ | ⟨h1, h2⟩ | ⟨h1, h2⟩ | ⟨h1, h2⟩ <;> rw [h1] at hd
  ·have hd : d = at_.getD 1 0 + a := hd
   exact ⟨h1, om⟩
  ·have hd : d = at_.getD 0 0 + a := hd
   omega
  ·have hd : d = at_.getD 1 0 + a := hd
   exact ⟨h1, om⟩
  ·have hd : d = at_.getD 0 0 + a := hd
   omega
 refine ⟨key.2, Classical.byContradiction fun e7 => ?_⟩
 have hp := h.pos
 obtain ⟨i, hi, _, hx, _⟩ := h.link (st.length - 2) om
 rw [show st.length - 2 + 1 = st.length - 1 by omega, key.1] at hi
 rw [sy.unique hi d1] at hx
 cases hx
end Go.Proofs.Ytligpghohcfpnaa
/- A valid netlist with one more cell behind the others, in plain Lean. -/
namespace Go.Proofs.Ytligpghohcfpnaa
open Go Go.AW Go.Proofs

section
variable {n : ab} {x : Int}
end
end Go.Proofs.Ytligpghohcfpnaa
/- Arrivals by repetition, in plain Lean. -/
namespace Go.Proofs.Ytligpghohcfpnaa
open Go Go.AW Go.Proofs

def kn (known : List Bool) (w : Int) : Bool := known.getD w.toNat false
structure RA (n : ab) (out : List Int) (known : List Bool) : Prop where
 ol : out.length = n.aa.length
 kl : known.length = n.aa.length
 fin : ∀ i w, bA n i w → kn known w = true → out.getD w.toNat 0 = jU n out (n.cell i) ∧ (b7 (n.cell i).kind → ∀ x ∈ (n.cell i).args, kn known x = true)
structure RS (n : ab) (k : Nat) (out : List Int) (known : List Bool) : Prop where
 ra : RA n out known
 iff : ∀ i w, bA n i w → (kn known w = true ↔ i < k ∧ ¬ b7 (n.cell i).kind)
section
variable {n : ab} {out : List Int} {known : List Bool} {k : Nat}
theorem zV {b : Bool} {o w : Int} (ho : 0 ≤ o) (hw : 0 ≤ w) (hl : o.toNat < known.length) : kn (known.set o.toNat b) w = if o = w then b else kn known w := by
 unfold kn
 rw [bo]
 by_cases e : o = w
 ·rw [if_pos e, if_pos ⟨om, hl⟩]
 ·rw [if_neg e, if_neg om]
theorem tk {v o w : Int} (ho : 0 ≤ o) (hw : 0 ≤ w) (hl : o.toNat < out.length) : (out.set o.toNat v).getD w.toNat 0 = if o = w then v else out.getD w.toNat 0 := by
 rw [bo]
 by_cases e : o = w
 ·rw [if_pos e, if_pos ⟨om, hl⟩]
 ·rw [if_neg e, if_neg om]
theorem RS.init : RS n 0 (List.replicate n.aa.length 0) (List.replicate n.aa.length false) where
 ra := ⟨by simp, by simp, fun i w _ h => by unfold kn at h; rw [kW] at h; cases h⟩
 iff := fun i w hd => by
  unfold kn
  rw [kW]
  have := hd.1
  constructor
  ·intro h; cases h
  ·intro h; omega
theorem RS.set (hf : aW n) (h : RS n k out known) (hk : k < n.cells.length) (h0 : (n.cells.getD k default).out ≥ 0) (hc : ¬ b7 (n.cells.getD k default).kind) :
  RS n (k + 1) (out.set (n.cells.getD k default).out.toNat (e6 n (n.cells.getD k default))) (known.set (n.cells.getD k default).out.toNat true) := by
 have h7 : (n.cells.getD k default).kind ≠ 7 := fun e => by have := (hf.cells k hk).2.2.1 e; omega
 have tc : bA n (k : Int) (n.cells.getD k default).out := ⟨⟨om, om⟩, h7, rfl⟩
 have xb := hf.eG tc
 unfold In at xb
 have h1 := h.ra.ol; have h2 := h.ra.kl
 have EG : ∀ i w, bA n i w → (kn (known.set (n.cells.getD k default).out.toNat true) w = true ↔ i < (k + 1 : Nat) ∧ ¬ b7 (n.cell i).kind) := fun i w hd => by
  have hw := hf.eG hd
  unfold In at hw
  rw [zV xb.1 hw.1 om]
  by_cases e : (n.cells.getD k default).out = w
  ·rw [if_pos e]
   rw [e] at tc
   have := hf.unique hd tc
   subst this
   exact ⟨fun _ => ⟨om, hc⟩, fun _ => rfl⟩
  ·rw [if_neg e, h.iff i w hd]
   have e7 : i ≠ k := fun e2 => by subst e2; exact e hd.2.2
   constructor
   ·exact fun h => ⟨om, h.2⟩
   ·exact fun h => ⟨om, h.2⟩
 refine ⟨⟨by rw [List.length_set]; exact h1, by rw [List.length_set]; exact h2, fun i w hd Gm => ?_⟩, EG⟩
 have xW := ((EG i w hd).1 Gm).2
 refine ⟨?_, fun hc => absurd hc xW⟩
 have hw := hf.eG hd
 unfold In at hw
 have ox : ∀ o : List Int, jU n o (n.cell i) = 0 + e6 n (n.cell i) := fun o => by unfold jU; rw [if_neg xW]
 rw [tk xb.1 hw.1 om, ox]
 by_cases e : (n.cells.getD k default).out = w
 ·rw [if_pos e]
  rw [e] at tc
  have := hf.unique hd tc
  subst this
  show e6 n (n.cell k) = _
  omega
 ·rw [if_neg e]
  have e7 : i ≠ k := fun e2 => by subst e2; exact e hd.2.2
  have h3 := (h.ra.fin i w hd ((h.iff i w hd).2 ⟨by have := ((EG i w hd).1 Gm).1; omega, xW⟩)).1
  rw [h3, ox]
theorem RS.skip (hf : aW n) (h : RS n k out known) (hk : k < n.cells.length) (hc : ¬ ((n.cells.getD k default).out ≥ 0 ∧ ¬ b7 (n.cells.getD k default).kind)) : RS n (k + 1) out known := by
 refine ⟨h.ra, fun i w hd => ?_⟩
 rw [h.iff i w hd]
 have hw := hf.eG hd
 unfold In at hw
 constructor
 ·exact fun h => ⟨om, h.2⟩
 ·rintro ⟨h1, h2⟩
  refine ⟨?_, h2⟩
  rcases Int.lt_or_eq_of_le (show i ≤ k by omega) with h3 | h3
  ·exact h3
  ·subst h3
   refine absurd ⟨?_, h2⟩ hc
   have : (n.cells.getD k default).out = w := hd.2.2
   omega
structure RR (n : ab) (oc : List Bool) (i : Nat) (more : Bool) (out : List Int) (known : List Bool) : Prop where
 ra : RA n out known
 src : ∀ i w, bA n i w → ¬ b7 (n.cell i).kind → kn known w = true
 pr : more = false → ∀ j w, bA n j w → j < i → b7 (n.cell j).kind → kn known w = false → ∃ x ∈ (n.cell j).args, kn known x = false
 AZ : fL known + (if more then 1 else 0) ≤ fL oc
theorem RR.init (ha : RA n out known) (hs : ∀ i w, bA n i w → ¬ b7 (n.cell i).kind → kn known w = true) : RR n known 0 false out known :=
 ⟨ha, hs, fun _ j w hd h => by have := hd.1; omega, by simp⟩
variable {oc : List Bool} {more : Bool}
theorem RR.pass (hf : aW n) (h : RR n oc k more out known) (hk : k < n.cells.length) (hc : ¬ b7 (n.cells.getD k default).kind ∨ kn known (n.cells.getD k default).out = true ∨ ∃ x ∈ (n.cells.getD k default).args, kn known x = false) : RR n oc (k + 1) more out known := by
 refine ⟨h.ra, h.src, fun hm j w hd hj fT hu => ?_, h.AZ⟩
 rcases Int.lt_or_eq_of_le (show j ≤ k by omega) with h3 | h3
 ·exact h.pr hm j w hd h3 fT hu
 ·subst h3
  rcases hc with h4 | h4 | h4
  ·exact absurd fT h4
  ·have : (n.cells.getD k default).out = w := hd.2.2
   rw [this, hu] at h4; cases h4
  ·exact h4
theorem RR.mark (hf : aW n) (h : RR n oc k more out known) (hk : k < n.cells.length) (hc : b7 (n.cells.getD k default).kind) (hu : kn known (n.cells.getD k default).out = false) (ha : ∀ x ∈ (n.cells.getD k default).args, kn known x = true) {t : Int} (ht : t = gr out (n.cells.getD k default).args) :
  RR n oc (k + 1) true (out.set (n.cells.getD k default).out.toNat (t + e6 n (n.cells.getD k default))) (known.set (n.cells.getD k default).out.toNat true) := by
 have h7 : (n.cells.getD k default).kind ≠ 7 := fun e => by rw [e] at hc; revert hc; unfold b7; omega
 have tc : bA n (k : Int) (n.cells.getD k default).out := ⟨⟨om, om⟩, h7, rfl⟩
 have xb := hf.eG tc
 unfold In at xb
 have h1 := h.ra.ol; have h2 := h.ra.kl
 have IG : ∀ w : Int, 0 ≤ w → kn (known.set (n.cells.getD k default).out.toNat true) w = if (n.cells.getD k default).out = w then true else kn known w := fun w hw => zV xb.1 hw om
 have ai : ∀ w : Int, 0 ≤ w → kn known w = true → kn (known.set (n.cells.getD k default).out.toNat true) w = true := fun w hw LW => by
  rw [IG w hw]; split <;> simp_all
 have oset : ∀ w : Int, 0 ≤ w → kn known w = true → (out.set (n.cells.getD k default).out.toNat (t + e6 n (n.cells.getD k default))).getD w.toNat 0 = out.getD w.toNat 0 := fun w hw LW => by
  rw [tk xb.1 hw om, if_neg]
  intro e; rw [← e, hu] at LW; cases LW
 have arr : ∀ j w, bA n j w → (b7 (n.cell j).kind → ∀ x ∈ (n.cell j).args, kn known x = true) → jU n (out.set (n.cells.getD k default).out.toNat (t + e6 n (n.cells.getD k default))) (n.cell j) = jU n out (n.cell j) := fun j w hd dM => by
  unfold jU
  by_cases fT : b7 (n.cell j).kind
  ·rw [if_pos fT, if_pos fT, lK (fun x hx => oset x (hf.gY hd.1 hx).1 (dM fT x hx))]
  ·rw [if_neg fT, if_neg fT]
 refine ⟨⟨by rw [List.length_set]; exact h1, by rw [List.length_set]; exact h2, fun j w hd Gm => ?_⟩, fun j w hd fT => ai w (hf.eG hd).1 (h.src j w hd fT), (fun hm => by cases hm), ?_⟩
 ·have hw := hf.eG hd
  unfold In at hw
  by_cases e : (n.cells.getD k default).out = w
  ·rw [e] at tc
   have := hf.unique hd tc
   subst this
   refine ⟨?_, fun _ x hx => ai x (hf.gY hd.1 hx).1 (ha x hx)⟩
   rw [arr _ _ hd (fun _ => ha), tk xb.1 hw.1 om, if_pos e]
   unfold jU
   have e3 : n.cell (k : Int) = n.cells.getD k default := rfl
   rw [e3, if_pos hc, ht]
  ·rw [IG w hw.1, if_neg e] at Gm
   obtain ⟨h3, h4⟩ := h.ra.fin j w hd Gm
   exact ⟨by rw [oset w hw.1 Gm, h3, arr j w hd h4], fun fT x hx => ai x (hf.gY hd.1 hx).1 (h4 fT x hx)⟩
 ·have h5 := jT (l := known) (i := (n.cells.getD k default).out.toNat) om hu
  have h6 := h.AZ
  simp only [if_true]
  split at h6 <;> omega
theorem RR.done (hf : aW n) (Bh : Acyclic n) (h : RR n oc k false out known) (hk : k = n.cells.length) : tI n out := by
 obtain ⟨r, hr⟩ := Bh
 have all : ∀ m : Nat, ∀ j w, bA n j w → r j ≤ m → kn known w = true := by
  intro m
  induction m with
  | zero =>
   intro j w hd hm
   refine Classical.byContradiction fun hn => ?_
   have hn : kn known w = false := by simpa using hn
   by_cases fT : b7 (n.cell j).kind
   ·obtain ⟨x, hx, EH⟩ := h.pr rfl j w hd (by rw [hk]; exact hd.1.2) fT hn
    obtain ⟨j', o6⟩ := hf.g9 (hf.gY hd.1 hx)
    by_cases zW : b7 (n.cell j').kind
    ·have := hr j j' ⟨hd.1, fT⟩ ⟨o6.1, zW⟩ (by rw [o6.2.2]; exact hx)
     omega
    ·rw [h.src j' x o6 zW] at EH; cases EH
   ·rw [h.src j w hd fT] at hn; cases hn
  | succ m ih =>
   intro j w hd hm
   refine Classical.byContradiction fun hn => ?_
   have hn : kn known w = false := by simpa using hn
   by_cases fT : b7 (n.cell j).kind
   ·obtain ⟨x, hx, EH⟩ := h.pr rfl j w hd (by rw [hk]; exact hd.1.2) fT hn
    obtain ⟨j', o6⟩ := hf.g9 (hf.gY hd.1 hx)
    by_cases zW : b7 (n.cell j').kind
    ·have := hr j j' ⟨hd.1, fT⟩ ⟨o6.1, zW⟩ (by rw [o6.2.2]; exact hx)
     rw [ih j' x o6 om] at EH; cases EH
    ·rw [h.src j' x o6 zW] at EH; cases EH
   ·rw [h.src j w hd fT] at hn; cases hn
 exact ⟨h.ra.ol, fun i w hd => (h.ra.fin i w hd (all _ i w hd (Nat.le_refl _))).1⟩
def Dj (known : List Bool) (l : List Int) : Bool := l.all (fun x => kn known x)
theorem zX {l : List Int} {m : Nat} (hm : m < l.length) : Dj known (l.take (m + 1)) = (Dj known (l.take m) && kn known (l.getD m 0)) := by
 unfold Dj; rw [take_one (d := (0 : Int)) hm, List.all_append]; simp
theorem Cs {l : List Int} (h : Dj known l = true) : ∀ x ∈ l, kn known x = true := fun x hx => List.all_eq_true.1 h x hx
theorem EJ {l : List Int} (h : Dj known l = false) : ∃ x ∈ l, kn known x = false := by
 unfold Dj at h
 obtain ⟨x, hx, h2⟩ := List.all_eq_false.1 h
 exact ⟨x, hx, by simpa using h2⟩
end
end Go.Proofs.Ytligpghohcfpnaa
/- Bounds of arrivals by repetition, ends by the specification, paths, in plain Lean. -/
namespace Go.Proofs.Ytligpghohcfpnaa
open Go Go.AW Go.Proofs

structure RB (n : ab) (out : List Int) (known : List Bool) : Prop where
 bd : ∀ j, 0 ≤ out.getD j 0 ∧ out.getD j 0 + 400 * (fL known : Int) ≤ 400 * (n.aa.length : Int)
section
variable {n : ab} {out : List Int} {known : List Bool}
theorem RB.init : RB n (List.replicate n.aa.length 0) (List.replicate n.aa.length false) := ⟨fun j => by
 have := n5 (List.replicate n.aa.length false)
 simp only [List.length_replicate] at this
 have h0 : (List.replicate n.aa.length (0 : Int)).getD j 0 = 0 := by
  rw [List.getD_eq_getElem?_getD, List.getElem?_replicate]; split <;> rfl
 rw [h0]; omega⟩
theorem RB.set {i : Nat} {v : Int} (h : RB n out known) (hi : i < known.length) (hu : known.getD i false = false) (hv : 0 ≤ v) (JN : v + 400 * (fL known : Int) ≤ 400 * (n.aa.length : Int) + 400) : RB n (out.set i v) (known.set i true) := ⟨fun j => by
 have h1 := jT hi hu
 have h2 := h.bd j
 rw [bo]
 split <;> omega⟩
theorem RB.gr (h : RB n out known) (hk : known.length = n.aa.length) (l : List Int) : 0 ≤ gr out l ∧ gr out l + 400 * (fL known : Int) ≤ 400 * (n.aa.length : Int) := by
 have h1 := n5 known
 have := jz (at_ := out) (l := l) (B := 400 * (n.aa.length : Int) - 400 * (fL known : Int)) om (fun w _ => by have := h.bd w.toNat; omega)
 omega
theorem RB.src {k : Nat} (hM : VT n) (hB : RB n out known) (h : RS n k out known) (hk : k < n.cells.length) (h0 : (n.cells.getD k default).out ≥ 0) :
  RB n (out.set (n.cells.getD k default).out.toNat (e6 n (n.cells.getD k default))) (known.set (n.cells.getD k default).out.toNat true) := by
 have h7 : (n.cells.getD k default).kind ≠ 7 := fun e => by have := (hM.formed.cells k hk).2.2.1 e; omega
 have tc : bA n (k : Int) (n.cells.getD k default).out := ⟨⟨om, om⟩, h7, rfl⟩
 have xb := hM.formed.eG tc
 unfold In at xb
 have h1 := h.ra.kl
 have h2 := hM.e6 hk
 have h3 := n5 known
 refine hB.set om ?_ h2.1 om
 refine Classical.byContradiction fun hn => ?_
 have hn : kn known (n.cells.getD k default).out = true := by simpa [kn] using hn
 have := ((h.iff _ _ tc).1 hn).1
 omega
end

def ks (out : List Int) (w a : Int) : List Int := if w ≥ 0 then out.set w.toNat (max (out.getD w.toNat 0) a) else out
theorem fu {out : List Int} {w a : Int} : (ks out w a).length = out.length := by unfold ks; split <;> simp
theorem tJ {p : Prop} (h : p := by first | omega | (simp only [fu]; omega)) : p := h
theorem l5 {p : Prop} (h : p := by first | omega | (simp [-List.getD_eq_getElem?_getD, fu]; done) | (simp [-List.getD_eq_getElem?_getD, fu]; omega)) : p := h
structure EK (n : ab) (L : List (Int × Int)) (out : List Int) : Prop where
 len : out.length = n.aa.length
 snd : ∀ w, In w n.aa.length → out.getD w.toNat 0 = -1 ∨ (w, out.getD w.toNat 0) ∈ L
 cmp : ∀ e ∈ L, 0 ≤ e.1 → e.2 ≤ out.getD e.1.toNat 0
 lo : ∀ w, In w n.aa.length → -1 ≤ out.getD w.toNat 0 ∧ out.getD w.toNat 0 ≤ 100
structure EI (n : ab) (k : Nat) (out : List Int) : Prop where
 len : out.length = n.aa.length
 at_ : ∀ j, j < k → out.getD j 0 = -1
theorem EI.init {n : ab} : EI n 0 (List.replicate n.aa.length 0) := ⟨by simp, fun j h => by omega⟩
theorem EI.step {n : ab} {k : Nat} {out : List Int} (h : EI n k out) (hk : k < n.aa.length) : EI n (k + 1) (out.set k (-1)) := by
 have := h.len
 refine ⟨by simp [this], fun j hj => ?_⟩
 rw [bo]
 by_cases e : k = j
 ·rw [if_pos ⟨e, om⟩]
 ·rw [if_neg om]; exact h.at_ j om
theorem EI.done {n : ab} {k : Nat} {out : List Int} (h : EI n k out) (hk : k = n.aa.length) : EK n [] out :=
 have h1 : ∀ w, In w n.aa.length → out.getD w.toNat 0 = -1 := fun w hw => by unfold In at hw; exact h.at_ _ om
 ⟨h.len, fun w hw => .inl (h1 w hw), (fun e he => by cases he), fun w hw => by rw [h1 w hw]; omega⟩
theorem EK.step {n : ab} {L : List (Int × Int)} {out : List Int} {w a : Int} (h : EK n L out) (hw : w < 0 ∨ In w n.aa.length) (ha : 0 ≤ a ∧ a ≤ 100) : EK n (L ++ [(w, a)]) (ks out w a) := by
 unfold ks
 by_cases h0 : w ≥ 0
 ·have hw : In w n.aa.length := by rcases hw with h | h; exact absurd h0 om; exact h
  have y9 := h.lo w hw
  rw [if_pos h0]
  unfold In at hw
  have hl := h.len
  have key : ∀ j, (out.set w.toNat (max (out.getD w.toNat 0) a)).getD j 0 = if w.toNat = j then max (out.getD w.toNat 0) a else out.getD j 0 := fun j => by
   rw [bo]
   by_cases e : w.toNat = j
   ·rw [if_pos ⟨e, om⟩, if_pos e]
   ·rw [if_neg om, if_neg e]
  refine ⟨by rw [List.length_set]; exact hl, fun v hv => ?_, fun e he h1 => ?_, fun v hv => ?_⟩
  ·have Hd := hv
   unfold In at Hd
   rw [key]
   split
   ·obtain rfl : w = v := by omega
    refine .inr (List.mem_append.2 ?_)
    rcases Int.le_total (out.getD w.toNat 0) a with h2 | h2
    ·rw [Int.max_eq_right h2]; exact .inr (List.mem_singleton.2 rfl)
    ·rw [Int.max_eq_left h2]
     rcases h.snd w hv with h3 | h3
     ·omega
     ·exact .inl h3
   ·rcases h.snd v hv with h3 | h3
    ·exact .inl h3
    ·exact .inr (List.mem_append.2 (.inl h3))
  ·rw [key]
   rcases List.mem_append.1 he with h2 | h2
   ·have := h.cmp e h2 h1
    split
    ·rename_i h3; rw [← h3] at this; omega
    ·exact this
   ·rw [List.mem_singleton.1 h2]
    rw [if_pos rfl]
    exact Int.le_max_right ..
  ·rw [key]
   have := h.lo v hv
   split <;> omega
 ·rw [if_neg h0]
  refine ⟨h.len, fun v hv => (h.snd v hv).imp id (fun h => List.mem_append.2 (.inl h)), fun e he h1 => ?_, h.lo⟩
  rcases List.mem_append.1 he with h2 | h2
  ·exact h.cmp e h2 h1
  ·rw [List.mem_singleton.1 h2] at h1; exact absurd h1 h0
theorem EK.cast {n : ab} {L M : List (Int × Int)} {out : List Int} (h : EK n L out) (e : L = M) : EK n M out := e ▸ h
def mZ (n : ab) (c : Cell) : List (Int × Int) := if c.kind = 4 then [(c.args.getD 0 0, 100), (c.args.getD 1 0, 60), (n.freeze, 100)] else if Port c.kind then c.args.map (fun w => (w, 20)) ++ [(n.freeze, 20)] else []
def tl (n : ab) (k : Nat) : List (Int × Int) := [(n.done, 0)] ++ (n.bI.take k).map (fun w => (w, 0))
def tm (n : ab) (k : Nat) : List (Int × Int) := tl n n.bI.length ++ (List.range k).flatMap (fun i => [(n.aX.getD i 0, 0), (n.data.getD i 0, 0)])
def lL (n : ab) (k : Nat) : List (Int × Int) := tm n n.aX.length ++ (n.cells.take k).flatMap (mZ n)
section
variable {n : ab} {k : Nat}
theorem xX (hk : k < n.bI.length) : tl n (k + 1) = tl n k ++ [(n.bI.getD k 0, 0)] := by
 unfold tl; rw [take_one (d := (0 : Int)) hk]; simp
theorem xY : tl n 0 = [] ++ [(n.done, 0)] := by simp [tl]
theorem xZ : tm n (k + 1) = (tm n k ++ [(n.aX.getD k 0, 0)]) ++ [(n.data.getD k 0, 0)] := by
 unfold tm; rw [List.range_succ, List.flatMap_append]; simp
theorem ya (hk : k = n.bI.length) : tl n k = tm n 0 := by subst hk; simp [tm]
theorem p8 (hk : k < n.cells.length) : lL n (k + 1) = lL n k ++ mZ n (n.cells.getD k default) := by
 unfold lL; rw [take_one (d := (default : Cell)) hk, List.flatMap_append]; simp
theorem yb (hk : k = n.aX.length) : tm n k = lL n 0 := by subst hk; simp [lL]
theorem xh {e : Int × Int} : e ∈ lL n n.cells.length ↔ (e = (n.done, 0) ∨ (∃ w ∈ n.bI, (w, 0) = e)) ∨ (∃ i, i < n.aX.length ∧ (e = (n.aX.getD i 0, 0) ∨ e = (n.data.getD i 0, 0))) ∨ ∃ c ∈ n.cells, e ∈ mZ n c := by
 unfold lL tm tl
 simp only [List.take_length, List.mem_append, List.mem_map, List.mem_flatMap, List.mem_range, List.mem_cons, List.not_mem_nil, or_false]
 constructor
 ·rintro ((h | h) | h)
  ·exact .inl h
  ·exact .inr (.inl h)
  ·exact .inr (.inr h)
 ·rintro (h | h | h)
  ·exact .inl (.inl h)
  ·exact .inl (.inr h)
  ·exact .inr h
theorem xi {e : Int × Int} : e ∈ fq n ↔ ((∃ c ∈ n.cells, e ∈ qY c) ∨ (e = (n.freeze, 100) ∧ ∃ c ∈ n.cells, c.kind = 4)) ∨ ((∃ c ∈ n.cells, e ∈ nJ c) ∨ (e = (n.freeze, 20) ∧ ∃ c ∈ n.cells, Port c.kind)) ∨ (e.2 = 0 ∧ 0 ≤ e.1 ∧ e.1 ∈ rest n) := by
 have qo : ∀ (b : Bool) (v : Int), e ∈ la n b v ↔ e = (n.freeze, v) ∧ b = true := fun b v => by unfold la; cases b <;> simp
 unfold fq qZ
 simp only [List.mem_append, qo]
 unfold p4 ju jm fA rP
 simp only [List.take_length, List.mem_flatMap, List.any_eq_true, decide_eq_true_eq, List.mem_map, List.mem_filter]
 constructor
 ·rintro (h | (h | h) | ⟨w, h, rfl⟩)
  ·exact .inl h
  ·exact .inr (.inl (.inl h))
  ·exact .inr (.inl (.inr h))
  ·exact .inr (.inr ⟨rfl, h.2, h.1⟩)
 ·rintro (h | (h | h) | ⟨h1, h2, h3⟩)
  ·exact .inl h
  ·exact .inr (.inl (.inl h))
  ·exact .inr (.inl (.inr h))
  ·exact .inr (.inr ⟨e.1, ⟨h3, h2⟩, by rw [← h1]⟩)
theorem Ct (hl : n.aX.length = n.data.length) {e : Int × Int} (h : e ∈ lL n n.cells.length) (h0 : 0 ≤ e.1) : e ∈ fq n := by
 rw [xi]
 rcases xh.1 h with (rfl | ⟨w, hw, rfl⟩) | ⟨i, hi, rfl | rfl⟩ | ⟨c, hc, he⟩
 ·exact .inr (.inr ⟨rfl, h0, jV.2 (.inl rfl)⟩)
 ·exact .inr (.inr ⟨rfl, h0, jV.2 (.inr (.inl hw))⟩)
 ·exact .inr (.inr ⟨rfl, h0, jV.2 (.inr (.inr (.inl (bm hi))))⟩)
 ·exact .inr (.inr ⟨rfl, h0, jV.2 (.inr (.inr (.inr (bm om))))⟩)
 ·unfold mZ at he
  split at he
  ·rename_i h4
   simp only [List.mem_cons, List.not_mem_nil, or_false] at he
   rcases he with he | he | he
   ·exact .inl (.inl ⟨c, hc, by unfold qY; rw [if_pos h4, he]; simp⟩)
   ·exact .inl (.inl ⟨c, hc, by unfold qY; rw [if_pos h4, he]; simp⟩)
   ·exact .inl (.inr ⟨he, c, hc, h4⟩)
  ·split at he
   ·rename_i hp
    rcases List.mem_append.1 he with he | he
    ·exact .inr (.inl (.inl ⟨c, hc, by unfold nJ; rw [if_pos hp]; exact he⟩))
    ·exact .inr (.inl (.inr ⟨List.mem_singleton.1 he, c, hc, hp⟩))
   ·cases he
theorem Cu (hl : n.aX.length = n.data.length) {e : Int × Int} (h : e ∈ fq n) : e ∈ lL n n.cells.length := by
 rw [xh]
 have Dk : ∀ k : Int, Port k → k ≠ 4 := fun k h => by unfold Port at h; omega
 rcases xi.1 h with (⟨c, hc, he⟩ | ⟨he, c, hc, h4⟩) | (⟨c, hc, he⟩ | ⟨he, c, hc, hp⟩) | ⟨h1, h2, h3⟩
 ·refine .inr (.inr ⟨c, hc, ?_⟩)
  unfold qY at he
  split at he
  ·rename_i h4
   unfold mZ; rw [if_pos h4]
   simp only [List.mem_cons, List.not_mem_nil, or_false] at he
   rcases he with rfl | rfl <;> simp
  ·cases he
 ·refine .inr (.inr ⟨c, hc, ?_⟩)
  unfold mZ; rw [if_pos h4, he]; simp
 ·refine .inr (.inr ⟨c, hc, ?_⟩)
  unfold nJ at he
  split at he
  ·rename_i hp
   unfold mZ; rw [if_neg (Dk _ hp), if_pos hp]
   exact List.mem_append.2 (.inl he)
  ·cases he
 ·refine .inr (.inr ⟨c, hc, ?_⟩)
  unfold mZ; rw [if_neg (Dk _ hp), if_pos hp, he]
  exact List.mem_append.2 (.inr (List.mem_singleton.2 rfl))
 ·obtain ⟨w, a⟩ := e
  simp only at h1 h2 h3
  subst h1
  rcases jV.1 h3 with rfl | h | h | h
  ·exact .inl (.inl rfl)
  ·exact .inl (.inr ⟨w, h, rfl⟩)
  ·obtain ⟨i, hi, rfl⟩ := List.mem_iff_getElem.1 h
   exact .inr (.inl ⟨i, hi, .inl (by rw [List.getD_eq_getElem?_getD, List.getElem?_eq_getElem hi]; rfl)⟩)
  ·obtain ⟨i, hi, rfl⟩ := List.mem_iff_getElem.1 h
   exact .inr (.inl ⟨i, om, .inr (by rw [List.getD_eq_getElem?_getD, List.getElem?_eq_getElem hi]; rfl)⟩)
structure EN (n : ab) (out : List Int) : Prop where
 len : out.length = n.aa.length
 snd : ∀ w, In w n.aa.length → out.getD w.toNat 0 = -1 ∨ (w, out.getD w.toNat 0) ∈ fq n
 cmp : ∀ e ∈ fq n, e.2 ≤ out.getD e.1.toNat 0
 lo : ∀ w, In w n.aa.length → -1 ≤ out.getD w.toNat 0 ∧ out.getD w.toNat 0 ≤ 100
theorem EK.en (hf : aW n) (hl : n.aX.length = n.data.length) {out : List Int} (h : EK n (lL n n.cells.length) out) : EN n out where
 len := h.len
 snd := fun w hw => (h.snd w hw).imp id (fun h1 => Ct hl h1 hw.1)
 cmp := fun e he => h.cmp e (Cu hl he) (hX hf he).1.1
 lo := h.lo
structure LK (at_ en : List Int) (k : Nat) (d : Int) : Prop where
 lo : 0 ≤ d
 up : ∀ j, j < k → 0 ≤ en.getD j 0 → at_.getD j 0 + en.getD j 0 ≤ d
 of : d = 0 ∨ ∃ j, j < k ∧ 0 ≤ en.getD j 0 ∧ d = at_.getD j 0 + en.getD j 0
theorem LK.init {at_ en : List Int} : LK at_ en 0 0 := ⟨Int.le_refl _, fun j h => by omega, .inl rfl⟩
theorem LK.skip {at_ en : List Int} {d : Int} (h : LK at_ en k d) (h0 : ¬ en.getD k 0 ≥ 0) : LK at_ en (k + 1) d := by
 refine ⟨h.lo, fun j hj h1 => ?_, ?_⟩
 ·rcases Nat.lt_or_ge j k with h2 | h2
  ·exact h.up j h2 h1
  ·obtain rfl : j = k := by omega
   exact absurd h1 h0
 ·rcases h.of with h | ⟨j, h1, h2⟩
  ·exact .inl h
  ·exact .inr ⟨j, om, h2⟩
theorem LK.step {at_ en : List Int} {d : Int} (h : LK at_ en k d) (h0 : en.getD k 0 ≥ 0) : LK at_ en (k + 1) (if at_.getD k 0 + en.getD k 0 > d then at_.getD k 0 + en.getD k 0 else d) := by
 have y9 := h.lo
 refine ⟨by split <;> omega, fun j hj h1 => ?_, ?_⟩
 ·rcases Nat.lt_or_ge j k with h2 | h2
  ·have := h.up j h2 h1
   split <;> omega
  ·obtain rfl : j = k := by omega
   split <;> omega
 ·split
  ·exact .inr ⟨k, om, h0, rfl⟩
  ·rcases h.of with h | ⟨j, h1, h2⟩
   ·exact .inl h
   ·exact .inr ⟨j, om, h2⟩
theorem LK.eq {l at_ en st : List Int} {d D : Int} (hM : VT n) (ho : Ord n l) (ha : tI n at_) (he : EN n en) (h : LK at_ en k D) (hk : k = n.aa.length) (hp : sx n at_ st d) : d = D := by
 refine Int.le_antisymm ?_ ?_
 ·obtain ⟨a, h1, h2⟩ := hp.end_
  have h3 := hX hM.formed h1
  have h4 := he.cmp _ h1
  have h5 := h3.1
  unfold In at h5
  simp only at h4 h5 h3
  have := h.up (st.getD (st.length - 1) 0).toNat om om
  omega
 ·rcases h.of with h1 | ⟨j, h1, h2, h3⟩
  ·have h4 := hp.max _ (uv hM.formed)
   have := (ha.nz hM ho hM.formed.done).1
   simp only at h4
   omega
  ·have hj : In (j : Int) n.aa.length := by unfold In; omega
   rcases he.snd _ hj with h4 | h4
   ·rw [Int.toNat_natCast] at h4; omega
   ·have := hp.max _ h4
    rw [Int.toNat_natCast] at this
    omega
theorem sx.sum {at_ st : List Int} {d : Int} (hp : sx n at_ st d) (hf : aW n) {j : Nat} (hj : j < st.length) {i : Int} (hd : bA n i (st.getD j 0)) :
  (j = 0 → e6 n (n.cell i) = at_.getD (st.getD 0 0).toNat 0 ∧ ¬ (b7 (n.cell i).kind ∧ (n.cell i).kind ≠ 1)) ∧
  (0 < j → at_.getD (st.getD (j - 1) 0).toNat 0 + e6 n (n.cell i) = at_.getD (st.getD j 0).toNat 0 ∧ b7 (n.cell i).kind ∧ st.getD (j - 1) 0 ∈ (n.cell i).args) := by
 constructor
 ·intro h0
  subst h0
  obtain ⟨i', h1, h2, h3⟩ := hp.root
  have := hf.unique hd h1
  subst this
  exact ⟨h2.symm, by rintro ⟨h4, h5⟩; rcases h3 with h3 | h3; exact h3 h4; exact h5 h3⟩
 ·intro h0
  obtain ⟨i', h1, h2, h3, h4⟩ := hp.link (j - 1) om
  rw [show j - 1 + 1 = j by omega] at h1 h4
  have := hf.unique hd h1
  subst this
  exact ⟨h4.symm, h2, h3⟩
end
section
variable {n : ab} {k : Nat}
theorem rp (hk : k < n.cells.length) (h : (n.cells.getD k default).kind = 4) : ((lL n k ++ [((n.cells.getD k default).args.getD 0 0, 100)]) ++ [((n.cells.getD k default).args.getD 1 0, 60)]) ++ [(n.freeze, 100)] = lL n (k + 1) := by
 rw [p8 hk]; unfold mZ; rw [if_pos h]; simp
theorem p9 (hk : k < n.cells.length) (h : Port (n.cells.getD k default).kind) {m : Nat} (hm : m = (n.cells.getD k default).args.length) : (lL n k ++ ((n.cells.getD k default).args.take m).map (fun w => (w, (20 : Int)))) ++ [(n.freeze, 20)] = lL n (k + 1) := by
 rw [p8 hk]; unfold mZ
 rw [if_neg (by unfold Port at h; omega), if_pos h, hm, List.take_length]; simp
theorem tp (hk : k < n.cells.length) (h : (n.cells.getD k default).kind ≠ 4) (h2 : ¬ Port (n.cells.getD k default).kind) : lL n k = lL n (k + 1) := by
 rw [p8 hk]; unfold mZ
 rw [if_neg h, if_neg h2]; simp
theorem zY {L : List (Int × Int)} {l : List Int} {m : Nat} (hm : m < l.length) : (L ++ (l.take m).map (fun w => (w, (20 : Int)))) ++ [(l.getD m 0, 20)] = L ++ (l.take (m + 1)).map (fun w => (w, (20 : Int))) := by
 rw [take_one (d := (0 : Int)) hm]; simp
theorem EL (hf : aW n) (hk : k < n.aX.length) : In (n.aX.getD k 0) n.aa.length := vO.nz hf ⟨.inl (bm hk)⟩
theorem EM (hf : aW n) (hk : k < n.data.length) : n.data.getD k 0 < 0 ∨ In (n.data.getD k 0) n.aa.length := by
 rcases Int.lt_or_le (n.data.getD k 0) 0 with h | h
 ·exact .inl h
 ·exact .inr (xc hf (bm hk) h)
end
end Go.Proofs.Ytligpghohcfpnaa
/- What comes behind each wire, in plain Lean. -/
namespace Go.Proofs.Ytligpghohcfpnaa
open Go Go.AW Go.Proofs

theorem oP {α : Type} {p : List α → Prop} (nil : p []) (snoc : ∀ l a, p l → p (l ++ [a])) (l : List α) : p l := by
 have : ∀ m : List α, p m.reverse := by
  intro m
  induction m with
  | nil => exact nil
  | cons x r ih => rw [List.reverse_cons]; exact snoc _ _ ih
 have := this l.reverse
 rwa [List.reverse_reverse] at this
structure Cl (n : ab) (T : List Int) : Prop where
 len : T.length = n.aa.length
 ends : ∀ e ∈ fq n, e.2 ≤ T.getD e.1.toNat 0
 lo : ∀ w, In w n.aa.length → -1 ≤ T.getD w.toNat 0
 step : ∀ i o, bA n i o → b7 (n.cell i).kind → 0 ≤ T.getD o.toNat 0 → ∀ x ∈ (n.cell i).args, T.getD o.toNat 0 + e6 n (n.cell i) ≤ T.getD x.toNat 0
def LX (n : ab) (T : List Int) (m : Nat) (l : List Int) (w : Int) : Prop :=
 T.getD w.toNat 0 = -1 ∨ (w, T.getD w.toNat 0) ∈ fq n ∨ ∃ i o, bA n i o ∧ m ≤ l.idxOf i ∧ b7 (n.cell i).kind ∧ w ∈ (n.cell i).args ∧ 0 ≤ T.getD o.toNat 0 ∧ T.getD w.toNat 0 = T.getD o.toNat 0 + e6 n (n.cell i)
structure Tl (n : ab) (T : List Int) : Prop where
 cl : Cl n T
 sup : ∀ w, In w n.aa.length → ∃ l, LX n T 0 l w
section
variable {n : ab} {l T T' : List Int}
theorem Tl.Dl (hf : aW n) (ho : Ord n l) (h : Tl n T) (h' : Cl n T') : ∀ w, In w n.aa.length → T.getD w.toNat 0 ≤ T'.getD w.toNat 0 := by
 have key : ∀ m j w, bA n j w → l.length - l.idxOf j ≤ m → T.getD w.toNat 0 ≤ T'.getD w.toNat 0 := by
  intro m
  induction m with
  | zero =>
   intro j w hd hm
   have := List.idxOf_lt_length_of_mem (ho.mem hd.1)
   omega
  | succ m ih =>
   intro j w hd hm
   have hw := hf.eG hd
   have y9 := h'.lo w hw
   obtain ⟨_, h1 | h1 | ⟨i, o, h1, _, h2, h3, h4, h5⟩⟩ := h.sup w hw
   ·omega
   ·exact h'.ends _ h1
   ·obtain ⟨j', h6, h7⟩ := ho.lt h1.1 h2 h3
    have := hf.unique h6 hd
    subst this
    have h8 := List.idxOf_lt_length_of_mem (ho.mem h1.1)
    have h9 := ih i o h1 om
    have LY := h'.step i o h1 h2 om w h3
    omega
 intro w hw
 obtain ⟨j, hj⟩ := hf.g9 hw
 exact key _ j w hj (Nat.le_refl _)
theorem Tl.le (hM : VT n) (ho : Ord n l) (h : Tl n T) {w : Int} (hw : In w n.aa.length) : T.getD w.toNat 0 ≤ 400100 := by
 have hf := hM.formed
 have key : ∀ m j w, bA n j w → l.length - l.idxOf j ≤ m → T.getD w.toNat 0 ≤ 100 + 400 * (m : Int) := by
  intro m
  induction m with
  | zero =>
   intro j w hd hm
   have := List.idxOf_lt_length_of_mem (ho.mem hd.1)
   omega
  | succ m ih =>
   intro j w hd hm
   obtain ⟨_, h1 | h1 | ⟨i, o, h1, _, h2, h3, h4, h5⟩⟩ := h.sup w (hf.eG hd)
   ·omega
   ·have := (hX hf h1).2.2
    simp only at this
    omega
   ·obtain ⟨j', h6, h7⟩ := ho.lt h1.1 h2 h3
    have := hf.unique h6 hd
    subst this
    have h8 := List.idxOf_lt_length_of_mem (ho.mem h1.1)
    have h9 := ih i o h1 om
    have O4 := h1.1
    have LY : e6 n (n.cell i) ≤ 400 := (hM.e6 (i := i.toNat) om).2
    omega
 obtain ⟨j, hj⟩ := hf.g9 hw
 have h1 := key _ j w hj (Nat.le_refl _)
 have h2 := ho.len
 have h3 := hM.cK
 omega
theorem zZ {n : ab} {T T' : List Int} (h : T.length = n.aa.length) (h' : T'.length = n.aa.length) (he : ∀ w, In w n.aa.length → T.getD w.toNat 0 = T'.getD w.toNat 0) : T = T' := by
 refine List.ext_getElem om fun k h1 h2 => ?_
 have := he (k : Int) (by unfold In; omega)
 rw [Int.toNat_natCast, List.getD_eq_getElem?_getD, List.getD_eq_getElem?_getD, List.getElem?_eq_getElem h1, List.getElem?_eq_getElem h2] at this
 exact this
theorem Tl.Dm (hf : aW n) (ho : Ord n l) (h : Tl n T) (h' : Cl n T') (hle : ∀ w, In w n.aa.length → T'.getD w.toNat 0 ≤ T.getD w.toNat 0) : T' = T :=
 zZ h'.len h.cl.len fun w hw => by have := h.Dl hf ho h' w hw; have := hle w hw; omega
theorem Tl.uniq (hf : aW n) (ho : Ord n l) (h : Tl n T) (h' : Tl n T') : T' = T := h.Dm hf ho h'.cl (h'.Dl hf ho h.cl)

def pA (n : ab) (c : Cell) (T : List Int) (a : Int) : List Int := T.set a.toNat (if T.getD c.out.toNat 0 + e6 n c > T.getD a.toNat 0 then T.getD c.out.toNat 0 + e6 n c else T.getD a.toNat 0)
def iX (n : ab) (c : Cell) (T : List Int) (l : List Int) : List Int := l.foldl (pA n c) T
def jW (n : ab) (T : List Int) (c : Cell) : List Int := if b7 c.kind ∧ ¬ T.getD c.out.toNat 0 < 0 then iX n c T c.args else T
def mi (n : ab) (T : List Int) (i : List (Int × Int)) : List Int := i.foldl (fun T e => jW n T (n.cells.getD e.2.toNat default)) T
def yd (T : List Int) (e : Int × Int) : List Int := T.set e.1.toNat (if e.2 > T.getD e.1.toNat 0 then e.2 else T.getD e.1.toNat 0)
def iY (T : List Int) (i : List (Int × Int)) : List Int := i.foldl yd T
def Aa (n : ab) : List Int := iY (List.replicate n.aa.length (-1)) (fq n)
def pZ (l : List Int) : List (Int × Int) := (List.range l.length).reverse.map (fun k : Nat => ((k : Int), l.getD k 0))
def jX (n : ab) (l : List Int) : List Int := mi n (Aa n) (pZ l)
theorem uy {c : Cell} {a : Int} : (pA n c T a).length = T.length := by simp [pA]
theorem uz {c : Cell} {m : List Int} : (iX n c T m).length = T.length := by
 unfold iX
 induction m generalizing T with
 | nil => rfl
 | cons x r ih => simp only [List.foldl_cons]; rw [ih, uy]
theorem jY {i : List (Int × Int)} {e : Int × Int} : mi n T (i ++ [e]) = jW n (mi n T i) (n.cells.getD e.2.toNat default) := by simp [mi]
theorem rq {i : List (Int × Int)} {e : Int × Int} : iY T (i ++ [e]) = yd (iY T i) e := by simp [iY]
theorem ye {i : List (Int × Int)} : (iY T i).length = T.length := by
 unfold iY
 induction i generalizing T with
 | nil => rfl
 | cons x r ih => simp only [List.foldl_cons]; rw [ih]; simp [yd]
theorem yf {c : Cell} {m : List Int} {k : Nat} (hk : k < m.length) : iX n c T (m.take (k + 1)) = pA n c (iX n c T (m.take k)) (m.getD k 0) := by
 unfold iX; rw [take_one (d := (0 : Int)) hk]; simp
structure E0 (n : ab) (i : List (Int × Int)) (T : List Int) : Prop where
 len : T.length = n.aa.length
 snd : ∀ w, In w n.aa.length → T.getD w.toNat 0 = -1 ∨ (w, T.getD w.toNat 0) ∈ i
 cmp : ∀ e ∈ i, e.2 ≤ T.getD e.1.toNat 0
 lo : ∀ w, In w n.aa.length → -1 ≤ T.getD w.toNat 0
theorem u0 (hf : aW n) : ∀ i : List (Int × Int), (∀ e ∈ i, e ∈ fq n) → E0 n i (iY (List.replicate n.aa.length (-1)) i) := by
 have rep : ∀ w, In w n.aa.length → (List.replicate n.aa.length (-1 : Int)).getD w.toNat 0 = -1 := fun w hw => by
  unfold In at hw
  rw [List.getD_eq_getElem?_getD, List.getElem?_replicate, if_pos om]; rfl
 intro i
 induction i using oP with
 | nil => exact fun _ => ⟨by simp [iY], fun w hw => .inl (rep w hw), (fun e h => by cases h), fun w hw => by show -1 ≤ (List.replicate _ _).getD _ _; rw [rep w hw]; omega⟩
 | snoc i e ih =>
  intro h
  have hi := ih (fun e he => h e (List.mem_append.2 (.inl he)))
  obtain ⟨h1, h2, h3⟩ := hX hf (h e (List.mem_append.2 (.inr (List.mem_singleton.2 rfl))))
  rw [rq]
  have hl := hi.len
  unfold In at h1
  have key : ∀ w, In w n.aa.length → (yd (iY (List.replicate n.aa.length (-1)) i) e).getD w.toNat 0 = if e.1 = w then max ((iY (List.replicate n.aa.length (-1)) i).getD w.toNat 0) e.2 else (iY (List.replicate n.aa.length (-1)) i).getD w.toNat 0 := fun w hw => by
   unfold In at hw
   unfold yd
   rw [bo]
   by_cases ee : e.1 = w
   ·rw [if_pos ⟨om, om⟩, if_pos ee, ee]; split <;> omega
   ·rw [if_neg om, if_neg ee]
  refine ⟨by unfold yd; rw [List.length_set]; exact hl, fun w hw => ?_, fun e' O5 => ?_, fun w hw => ?_⟩
  ·rw [key w hw]
   split
   ·rename_i ee
    rcases Int.le_total ((iY (List.replicate n.aa.length (-1)) i).getD w.toNat 0) e.2 with h4 | h4
    ·rw [Int.max_eq_right h4]; exact .inr (List.mem_append.2 (.inr (List.mem_singleton.2 (by rw [← ee]))))
    ·rw [Int.max_eq_left h4]
     exact (hi.snd w hw).imp id (fun h => List.mem_append.2 (.inl h))
   ·exact (hi.snd w hw).imp id (fun h => List.mem_append.2 (.inl h))
  ·have pQ := (hX hf (h e' O5)).1
   rw [key _ pQ]
   rcases List.mem_append.1 O5 with h4 | h4
   ·have := hi.cmp e' h4
    split <;> omega
   ·rw [List.mem_singleton.1 h4, if_pos rfl]; omega
  ·rw [key w hw]
   have := hi.lo w hw
   split <;> omega
theorem yg {l : List Int} {e : Int × Int} (h : e ∈ pZ l) : e.2 ∈ l := by
 unfold pZ at h
 obtain ⟨k, hk, rfl⟩ := List.mem_map.1 h
 exact bm (by simpa using hk)
theorem Ab {c : Cell} (h0 : 0 ≤ c.out) (hl : T.length = n.aa.length) : ∀ m : List Int, (∀ a ∈ m, In a n.aa.length ∧ a ≠ c.out) → ∀ w, In w n.aa.length →
  (iX n c T m).getD w.toNat 0 = if w ∈ m then max (T.getD w.toNat 0) (T.getD c.out.toNat 0 + e6 n c) else T.getD w.toNat 0 := by
 intro m
 induction m using oP with
 | nil => intro _ w _; simp [iX]
 | snoc m a ih =>
  intro hm w hw
  have ih := ih (fun x hx => hm x (List.mem_append.2 (.inl hx)))
  obtain ⟨ha, e7⟩ := hm a (List.mem_append.2 (.inr (List.mem_singleton.2 rfl)))
  have e1 : iX n c T (m ++ [a]) = pA n c (iX n c T m) a := by simp [iX]
  have CK : (iX n c T m).length = n.aa.length := by rw [uz]; exact hl
  rw [e1]
  unfold pA
  rw [bo]
  have mu : (iX n c T m).getD c.out.toNat 0 = T.getD c.out.toNat 0 := by
   rcases Nat.lt_or_ge c.out.toNat n.aa.length with h1 | h1
   ·rw [ih c.out (by unfold In; omega), if_neg (fun h => (hm _ (List.mem_append.2 (.inl h))).2 rfl)]
   ·rw [List.getD_eq_getElem?_getD, List.getElem?_eq_none om, List.getD_eq_getElem?_getD, List.getElem?_eq_none om]
  rw [mu, ih w hw, ih a ha]
  unfold In at ha hw
  by_cases e : a = w
  ·subst e
   rw [if_pos ⟨rfl, om⟩, if_pos (List.mem_append.2 (.inr (List.mem_singleton.2 rfl)))]
   split <;> split <;> omega
  ·rw [if_neg om]
   have : (w ∈ m ++ [a]) ↔ w ∈ m := by simp [Ne.symm e]
   simp only [this]
structure TP (n : ab) (l : List Int) (m : Nat) (T : List Int) : Prop where
 len : T.length = n.aa.length
 ends : ∀ e ∈ fq n, e.2 ≤ T.getD e.1.toNat 0
 lo : ∀ w, In w n.aa.length → -1 ≤ T.getD w.toNat 0
 step : ∀ i o, bA n i o → b7 (n.cell i).kind → m ≤ l.idxOf i → 0 ≤ T.getD o.toNat 0 → ∀ x ∈ (n.cell i).args, T.getD o.toNat 0 + e6 n (n.cell i) ≤ T.getD x.toNat 0
 sup : ∀ w, In w n.aa.length → LX n T m l w
theorem TP.next (hM : VT n) (ho : Ord n l) {m : Nat} (hm : m < l.length) (h : TP n l (m + 1) T) : TP n l m (jW n T (n.cell (l.getD m 0))) := by
 have hf := hM.formed
 have hr := ho.nz (l.getD m 0) (bm hm)
 have LQ : l.idxOf (l.getD m 0) = m := vQ ho.nd hm
 have DV : ∀ i, i ∈ l → m ≤ l.idxOf i → i ≠ l.getD m 0 → m + 1 ≤ l.idxOf i := fun i hi h1 h2 => by
  rcases Nat.lt_or_eq_of_le h1 with h3 | h3
  ·exact h3
  ·refine absurd ?_ h2
   have := List.getD_eq_getElem?_getD (l := l) (i := l.idxOf i) (a := (0 : Int))
   rw [h3, this, List.getElem?_eq_getElem (List.idxOf_lt_length_of_mem hi)]
   simp
 by_cases hc : b7 (n.cell (l.getD m 0)).kind ∧ ¬ T.getD (n.cell (l.getD m 0)).out.toNat 0 < 0
 ·have h7 : (n.cell (l.getD m 0)).kind ≠ 7 := fun e => by have := hc.1; rw [e] at this; revert this; unfold b7; omega
  have IH : bA n (l.getD m 0) (n.cell (l.getD m 0)).out := ⟨hr, h7, rfl⟩
  have PN := hf.eG IH
  have dM : ∀ a ∈ (n.cell (l.getD m 0)).args, In a n.aa.length ∧ (∃ j, bA n j a ∧ l.idxOf j < m) := fun a ha => by
   obtain ⟨j, h1, h2⟩ := ho.lt hr hc.1 ha
   exact ⟨hf.gY hr ha, j, h1, om⟩
  have Dn : ∀ i o, bA n i o → m ≤ l.idxOf i → o ∉ (n.cell (l.getD m 0)).args := fun i o hd hi ha => by
   obtain ⟨_, j, h1, h2⟩ := dM o ha
   have := hf.unique h1 hd
   subst this; omega
  have e7 : ∀ a ∈ (n.cell (l.getD m 0)).args, In a n.aa.length ∧ a ≠ (n.cell (l.getD m 0)).out := fun a ha => ⟨(dM a ha).1, fun e => Dn _ _ IH om (e ▸ ha)⟩
  have key := Ab (n := n) (T := T) (c := n.cell (l.getD m 0)) PN.1 h.len _ e7
  unfold jW
  rw [if_pos hc]
  have same : ∀ i o, bA n i o → m ≤ l.idxOf i → (iX n (n.cell (l.getD m 0)) T (n.cell (l.getD m 0)).args).getD o.toNat 0 = T.getD o.toNat 0 := fun i o hd hi => by
   rw [key o (hf.eG hd), if_neg (Dn i o hd hi)]
  have grow : ∀ w, In w n.aa.length → T.getD w.toNat 0 ≤ (iX n (n.cell (l.getD m 0)) T (n.cell (l.getD m 0)).args).getD w.toNat 0 := fun w hw => by
   rw [key w hw]; split <;> omega
  refine ⟨by rw [uz]; exact h.len, fun e he => by have h1 := h.ends e he; have := grow _ (hX hf he).1; omega, fun w hw => by have h1 := h.lo w hw; have := grow w hw; omega, fun i o hd fT hi h0 x hx => ?_, fun w hw => ?_⟩
  ·rw [same i o hd hi] at h0 ⊢
   have Bg := hf.gY hd.1 hx
   by_cases e : i = l.getD m 0
   ·have eo : o = (n.cell (l.getD m 0)).out := by have := hd.2.2; rw [e] at this; exact this.symm
    rw [key x Bg, if_pos (by rw [← e]; exact hx), e, eo]
    omega
   ·have := h.step i o hd fT (DV i (ho.mem hd.1) hi e) h0 x hx
    have := grow x Bg
    omega
  ·by_cases II : w ∈ (n.cell (l.getD m 0)).args ∧ T.getD w.toNat 0 < T.getD (n.cell (l.getD m 0)).out.toNat 0 + e6 n (n.cell (l.getD m 0))
   ·refine .inr (.inr ⟨l.getD m 0, _, IH, om, hc.1, II.1, ?_, ?_⟩)
    ·rw [same _ _ IH om]; have := hc.2; omega
    ·rw [same _ _ IH om, key w hw, if_pos II.1]; have := II.2; omega
   ·have PO : (iX n (n.cell (l.getD m 0)) T (n.cell (l.getD m 0)).args).getD w.toNat 0 = T.getD w.toNat 0 := by
     rw [key w hw]
     split
     ·rename_i h1
      have : ¬ T.getD w.toNat 0 < T.getD (n.cell (l.getD m 0)).out.toNat 0 + e6 n (n.cell (l.getD m 0)) := fun h2 => II ⟨h1, h2⟩
      omega
     ·rfl
    unfold LX
    rw [PO]
    rcases h.sup w hw with h1 | h1 | ⟨i, o, h1, h2, h3, h4, h5, h6⟩
    ·exact .inl h1
    ·exact .inr (.inl h1)
    ·exact .inr (.inr ⟨i, o, h1, om, h3, h4, by rw [same i o h1 om]; exact h5, by rw [same i o h1 om]; exact h6⟩)
 ·unfold jW
  rw [if_neg hc]
  refine ⟨h.len, h.ends, h.lo, fun i o hd fT hi h0 x hx => ?_, fun w hw => ?_⟩
  ·by_cases e : i = l.getD m 0
   ·have eo : o = (n.cell (l.getD m 0)).out := by have := hd.2.2; rw [e] at this; exact this.symm
    rw [e] at fT
    rw [eo] at h0
    exact absurd ⟨fT, om⟩ hc
   ·exact h.step i o hd fT (DV i (ho.mem hd.1) hi e) h0 x hx
  ·rcases h.sup w hw with h1 | h1 | ⟨i, o, h1, h2, h3⟩
   ·exact .inl h1
   ·exact .inr (.inl h1)
   ·exact .inr (.inr ⟨i, o, h1, om, h3⟩)
theorem Ac (hM : VT n) (ho : Ord n l) : ∀ k, k ≤ l.length → TP n l (l.length - k) (mi n (Aa n) (((List.range l.length).reverse.take k).map (fun j : Nat => ((j : Int), l.getD j 0)))) := by
 intro k
 induction k with
 | zero =>
  intro _
  have h := u0 hM.formed (fq n) (fun e he => he)
  simp only [List.take_zero, List.map_nil, Nat.sub_zero]
  refine ⟨h.len, h.cmp, h.lo, fun i o hd _ hi => ?_, fun w hw => (h.snd w hw).imp id .inl⟩
  have := List.idxOf_lt_length_of_mem (ho.mem hd.1)
  omega
 | succ k ih =>
  intro hk
  have h := ih om
  have e1 : ((List.range l.length).reverse.take (k + 1)).map (fun j : Nat => ((j : Int), l.getD j 0)) = ((List.range l.length).reverse.take k).map (fun j : Nat => ((j : Int), l.getD j 0)) ++ [(((l.length - (k + 1) : Nat) : Int), l.getD (l.length - (k + 1)) 0)] := by
   rw [take_one (d := (0 : Nat)) (by simp; omega), List.map_append]
   congr 1
   have : (List.range l.length).reverse.getD k 0 = l.length - (k + 1) := by
    rw [List.getD_eq_getElem?_getD, List.getElem?_eq_getElem (by simp; omega)]
    simp; omega
   rw [this]; rfl
  rw [e1, jY]
  rw [show l.length - k = (l.length - (k + 1)) + 1 by omega] at h
  exact h.next hM ho om
theorem oQ (hM : VT n) (ho : Ord n l) : Tl n (jX n l) := by
 have h := Ac hM ho l.length (Nat.le_refl _)
 rw [List.take_of_length_le (by simp), Nat.sub_self] at h
 change TP n l 0 (jX n l) at h
 exact ⟨⟨h.len, h.ends, h.lo, fun i o hd hc h0 x hx => h.step i o hd hc (Nat.zero_le _) h0 x hx⟩, fun w hw => ⟨l, h.sup w hw⟩⟩
end
end Go.Proofs.Ytligpghohcfpnaa
/- Tails by repetition, slacks, in plain Lean. -/
namespace Go.Proofs.Ytligpghohcfpnaa
open Go Go.AW Go.Proofs

def Dp : List Int → List Int → Nat
 | x :: xs, y :: ys => (x - y).toNat + Dp xs ys
 | _, _ => 0
theorem xj : ∀ {a b : List Int} {i : Nat} {v : Int}, i < a.length → i < b.length → b.getD i 0 < v → v ≤ a.getD i 0 → Dp a (b.set i v) + 1 ≤ Dp a b
 | [], _, _, _, h, _, _, _ => by simp at h
 | _ :: _, [], _, _, _, h, _, _ => by simp at h
 | x :: xs, y :: ys, 0, v, _, _, h1, h2 => by
  simp only [List.getD_cons_zero] at h1 h2
  simp only [List.set_cons_zero, Dp]; omega
 | x :: xs, y :: ys, i + 1, v, ha, hb, h1, h2 => by
  simp only [List.getD_cons_succ] at h1 h2
  simp only [List.set_cons_succ, Dp]
  have := xj (a := xs) (b := ys) (i := i) (v := v) (by simpa using ha) (by simpa using hb) h1 h2
  omega
structure EO (n : ab) (Ts T : List Int) : Prop where
 len : T.length = n.aa.length
 lo : ∀ w, In w n.aa.length → -1 ≤ T.getD w.toNat 0 ∧ T.getD w.toNat 0 ≤ Ts.getD w.toNat 0
 ends : ∀ e ∈ fq n, e.2 ≤ T.getD e.1.toNat 0
section
variable {n : ab} {l Ts T T0 : List Int}
theorem EN.tK (h : EN n T) (hT : Tl n Ts) : EO n Ts T := ⟨h.len, fun w hw => ⟨(h.lo w hw).1, by
 rcases h.snd w hw with h1 | h1
 ·have := hT.cl.lo w hw; omega
 ·exact hT.cl.ends _ h1⟩, h.cmp⟩
theorem EO.set (h : EO n Ts T) (hf : aW n) {x v : Int} (hx : In x n.aa.length) (h1 : T.getD x.toNat 0 ≤ v) (h2 : v ≤ Ts.getD x.toNat 0) : EO n Ts (T.set x.toNat v) := by
 have hl := h.len
 have Bg := hx
 unfold In at Bg
 have key : ∀ w, In w n.aa.length → (T.set x.toNat v).getD w.toNat 0 = if x = w then v else T.getD w.toNat 0 := fun w hw => by
  unfold In at hw
  rw [bo]
  by_cases e : x = w
  ·rw [if_pos ⟨om, om⟩, if_pos e]
  ·rw [if_neg om, if_neg e]
 have h0 := h.lo x hx
 refine ⟨by rw [List.length_set]; exact hl, fun w hw => ?_, fun e he => ?_⟩
 ·rw [key w hw]
  have := h.lo w hw
  split
  ·rename_i e; subst e; omega
  ·exact this
 ·have pQ := (hX hf he).1
  rw [key _ pQ]
  have := h.ends e he
  split
  ·rename_i e2; rw [← e2] at this; omega
  ·exact this
structure TR (n : ab) (Ts T0 : List Int) (i : Nat) (more : Bool) (T : List Int) : Prop where
 tK : EO n Ts T
 pr : more = false → ∀ j o, bA n j o → j < i → b7 (n.cell j).kind → 0 ≤ T.getD o.toNat 0 → ∀ x ∈ (n.cell j).args, T.getD o.toNat 0 + e6 n (n.cell j) ≤ T.getD x.toNat 0
 AZ : Dp Ts T + (if more then 1 else 0) ≤ Dp Ts T0
theorem TR.init (h : EO n Ts T) : TR n Ts T 0 false T := ⟨h, fun _ j o hd hj => by have := hd.1.1; omega, by simp⟩
variable {i k : Nat} {more : Bool}
theorem TR.pass (h : TR n Ts T0 i more T) (hc : ¬ b7 (n.cells.getD i default).kind ∨ T.getD (n.cells.getD i default).out.toNat 0 < 0) : TR n Ts T0 (i + 1) more T := by
 refine ⟨h.tK, fun hm j o hd hj fT h0 x hx => ?_, h.AZ⟩
 rcases Int.lt_or_eq_of_le (show j ≤ i by omega) with h3 | h3
 ·exact h.pr hm j o hd h3 fT h0 x hx
 ·subst h3
  have eo : (n.cells.getD i default).out = o := hd.2.2
  rcases hc with h4 | h4
  ·exact absurd fT h4
  ·rw [eo] at h4; omega
structure TI (n : ab) (Ts T0 : List Int) (i k : Nat) (more : Bool) (T : List Int) : Prop where
 tr : TR n Ts T0 i more T
 o0 : 0 ≤ T.getD (n.cells.getD i default).out.toNat 0
 O6 : more = false → ∀ x ∈ (n.cells.getD i default).args.take k, T.getD (n.cells.getD i default).out.toNat 0 + e6 n (n.cells.getD i default) ≤ T.getD x.toNat 0
theorem TI.init (h : TR n Ts T0 i more T) (h0 : ¬ T.getD (n.cells.getD i default).out.toNat 0 < 0) : TI n Ts T0 i 0 more T := ⟨h, om, fun _ x hx => by simp at hx⟩
theorem TI.ai (h : TI n Ts T0 i k more T) (hk : k < (n.cells.getD i default).args.length) (hc : ¬ T.getD (n.cells.getD i default).out.toNat 0 + e6 n (n.cells.getD i default) > T.getD ((n.cells.getD i default).args.getD k 0).toNat 0) : TI n Ts T0 i (k + 1) more T := by
 refine ⟨h.tr, h.o0, fun hm x hx => ?_⟩
 rw [take_one (d := (0 : Int)) hk] at hx
 rcases List.mem_append.1 hx with hx | hx
 ·exact h.O6 hm x hx
 ·rw [List.mem_singleton.1 hx]; omega
theorem TI.set (hM : VT n) (hT : Tl n Ts) (h : TI n Ts T0 i k more T) (hi : i < n.cells.length) (fT : b7 (n.cells.getD i default).kind) (hk : k < (n.cells.getD i default).args.length) (hc : T.getD (n.cells.getD i default).out.toNat 0 + e6 n (n.cells.getD i default) > T.getD ((n.cells.getD i default).args.getD k 0).toNat 0) :
  TI n Ts T0 i (k + 1) true (T.set ((n.cells.getD i default).args.getD k 0).toNat (T.getD (n.cells.getD i default).out.toNat 0 + e6 n (n.cells.getD i default))) := by
 have hf := hM.formed
 have h7 : (n.cells.getD i default).kind ≠ 7 := fun e => by rw [e] at fT; revert fT; unfold b7; omega
 have hd : bA n (i : Int) (n.cells.getD i default).out := ⟨⟨om, om⟩, h7, rfl⟩
 have hx := (hf.cells i hi).1 _ (bm hk)
 have Bg := hx
 unfold In at Bg
 have ho := h.tr.tK.lo _ (hf.eG hd)
 have h0 := h.o0
 have PQ : Ts.getD (n.cells.getD i default).out.toNat 0 + e6 n (n.cells.getD i default) ≤ Ts.getD ((n.cells.getD i default).args.getD k 0).toNat 0 := hT.cl.step _ _ hd fT om _ (bm hk)
 have O7 := h.tr.tK.lo _ hx
 have hl := h.tr.tK.len
 have uY := hM.e6 hi
 refine ⟨⟨h.tr.tK.set hf hx om om, (fun hm => by cases hm), ?_⟩, ?_, fun hm => by cases hm⟩
 ·have h5 := xj (a := Ts) (b := T) (i := ((n.cells.getD i default).args.getD k 0).toNat) (v := T.getD (n.cells.getD i default).out.toNat 0 + e6 n (n.cells.getD i default)) (by rw [hT.cl.len]; omega) om hc om
  have h6 := h.tr.AZ
  simp only [if_true]
  split at h6 <;> omega
 ·rw [bo]; split <;> omega
theorem TI.done (h : TI n Ts T0 i k more T) (hk : k = (n.cells.getD i default).args.length) : TR n Ts T0 (i + 1) more T := by
 refine ⟨h.tr.tK, fun hm j o hd hj fT h0 x hx => ?_, h.tr.AZ⟩
 rcases Int.lt_or_eq_of_le (show j ≤ i by omega) with h3 | h3
 ·exact h.tr.pr hm j o hd h3 fT h0 x hx
 ·subst h3
  have eo : (n.cells.getD i default).out = o := hd.2.2
  have := h.O6 hm x (by rw [hk, List.take_length]; exact hx)
  rw [eo] at this
  exact this
theorem TR.eq (hf : aW n) (ho : Ord n l) (hT : Tl n Ts) (h : TR n Ts T0 i false T) (hi : i = n.cells.length) : T = Ts :=
 hT.Dm hf ho ⟨h.tK.len, h.tK.ends, fun w hw => (h.tK.lo w hw).1, fun j o hd fT h0 x hx => h.pr rfl j o hd (by rw [hi]; exact hd.1.2) fT h0 x hx⟩ (fun w hw => (h.tK.lo w hw).2)
structure pB (n : ab) (Ts T : List Int) : Prop where
 len : T.length = n.aa.length
 lo : ∀ w, In w n.aa.length → -1 ≤ T.getD w.toNat 0 ∧ T.getD w.toNat 0 ≤ Ts.getD w.toNat 0
theorem pB.init (hf : aW n) (hT : Tl n Ts) : pB n Ts (Aa n) := by
 have h := u0 hf (fq n) (fun e he => he)
 refine ⟨h.len, fun w hw => ⟨h.lo w hw, ?_⟩⟩
 rcases h.snd w hw with h1 | h1
 ·have := hT.cl.lo w hw; unfold Aa; omega
 ·exact hT.cl.ends _ h1
theorem pB.pA (hM : VT n) (hT : Tl n Ts) (h : pB n Ts T) {i : Nat} (hi : i < n.cells.length) (fT : b7 (n.cells.getD i default).kind) (h0 : 0 ≤ T.getD (n.cells.getD i default).out.toNat 0) {a : Int} (ha : a ∈ (n.cells.getD i default).args) : pB n Ts (pA n (n.cells.getD i default) T a) ∧ 0 ≤ (pA n (n.cells.getD i default) T a).getD (n.cells.getD i default).out.toNat 0 := by
 have hf := hM.formed
 have h7 : (n.cells.getD i default).kind ≠ 7 := fun e => by rw [e] at fT; revert fT; unfold b7; omega
 have hd : bA n (i : Int) (n.cells.getD i default).out := ⟨⟨om, om⟩, h7, rfl⟩
 have hx := (hf.cells i hi).1 a ha
 have Bg := hx
 unfold In at Bg
 have ho := h.lo _ (hf.eG hd)
 have PQ : Ts.getD (n.cells.getD i default).out.toNat 0 + e6 n (n.cells.getD i default) ≤ Ts.getD a.toNat 0 := hT.cl.step _ _ hd fT om _ ha
 have hl := h.len
 have uY := hM.e6 hi
 have O7 := h.lo a hx
 have key : ∀ w, 0 ≤ w → (Proofs.Ytligpghohcfpnaa.pA n (n.cells.getD i default) T a).getD w.toNat 0 = if a = w then (if T.getD (n.cells.getD i default).out.toNat 0 + e6 n (n.cells.getD i default) > T.getD a.toNat 0 then T.getD (n.cells.getD i default).out.toNat 0 + e6 n (n.cells.getD i default) else T.getD a.toNat 0) else T.getD w.toNat 0 := fun w hw => by
  unfold Proofs.Ytligpghohcfpnaa.pA
  rw [bo]
  by_cases e : a = w
  ·rw [if_pos ⟨om, om⟩, if_pos e]
  ·rw [if_neg om, if_neg e]
 refine ⟨⟨by rw [uy]; exact hl, fun w hw => ?_⟩, ?_⟩
 ·rw [key w hw.1]
  have := h.lo w hw
  split
  ·rename_i e; subst e; split <;> omega
  ·exact this
 ·rw [key _ (hf.eG hd).1]
  split
  ·split <;> omega
  ·exact h0
theorem pB.iX (hM : VT n) (hT : Tl n Ts) (h : pB n Ts T) {i : Nat} (hi : i < n.cells.length) (fT : b7 (n.cells.getD i default).kind) (h0 : 0 ≤ T.getD (n.cells.getD i default).out.toNat 0) : ∀ m : List Int, (∀ a ∈ m, a ∈ (n.cells.getD i default).args) →
  pB n Ts (iX n (n.cells.getD i default) T m) ∧ 0 ≤ (iX n (n.cells.getD i default) T m).getD (n.cells.getD i default).out.toNat 0 := by
 intro m
 induction m using oP with
 | nil => intro _; exact ⟨h, h0⟩
 | snoc m a ih =>
  intro hm
  obtain ⟨h1, h2⟩ := ih (fun x hx => hm x (List.mem_append.2 (.inl hx)))
  have e1 : Proofs.Ytligpghohcfpnaa.iX n (n.cells.getD i default) T (m ++ [a]) = Proofs.Ytligpghohcfpnaa.pA n (n.cells.getD i default) (Proofs.Ytligpghohcfpnaa.iX n (n.cells.getD i default) T m) a := by simp [Proofs.Ytligpghohcfpnaa.iX]
  rw [e1]
  exact h1.pA hM hT hi fT h2 (hm a (List.mem_append.2 (.inr (List.mem_singleton.2 rfl))))
theorem pB.jW (hM : VT n) (hT : Tl n Ts) (h : pB n Ts T) {i : Nat} (hi : i < n.cells.length) : pB n Ts (jW n T (n.cells.getD i default)) := by
 unfold Proofs.Ytligpghohcfpnaa.jW
 split
 ·rename_i hc; exact (h.iX hM hT hi hc.1 (by have := hc.2; omega) _ (fun _ h => h)).1
 ·exact h
theorem yh (hM : VT n) (hT : Tl n Ts) : ∀ i : List (Int × Int), (∀ e ∈ i, 0 ≤ e.2 ∧ e.2 < n.cells.length) → pB n Ts (mi n (Aa n) i) := by
 intro i
 induction i using oP with
 | nil => exact fun _ => pB.init hM.formed hT
 | snoc i e ih =>
  intro h
  rw [jY]
  have := h e (List.mem_append.2 (.inr (List.mem_singleton.2 rfl)))
  exact (ih (fun e he => h e (List.mem_append.2 (.inl he)))).jW hM hT om
structure SL (n : ab) (p : Int) (at_ T : List Int) (k : Nat) (s : List Int) : Prop where
 len : s.length = n.aa.length
 at_ : ∀ j, j < k → s.getD j 0 = if T.getD j 0 ≥ 0 then p - at_.getD j 0 - T.getD j 0 else p
variable {p : Int} {at_ s : List Int}
theorem SL.init : SL n p at_ T 0 (List.replicate n.aa.length 0) := ⟨by simp, fun j h => by omega⟩
theorem SL.step (h : SL n p at_ T k s) (hk : k < n.aa.length) {v w : Int} (hv : w = if T.getD k 0 ≥ 0 then p - at_.getD k 0 - T.getD k 0 else p) : SL n p at_ T (k + 1) ((s.set k v).set k w) := by
 have := h.len
 refine ⟨by simp [this], fun j hj => ?_⟩
 rw [bo, bo]
 simp only [List.length_set]
 by_cases e : k = j
 ·rw [if_pos ⟨e, om⟩, hv, e]
 ·rw [if_neg om, if_neg om]; exact h.at_ j om
theorem SL.IJ (h : SL n p at_ T k s) (hk : k < n.aa.length) (hv : ¬ T.getD k 0 ≥ 0) : SL n p at_ T (k + 1) (s.set k p) := by
 have := h.len
 refine ⟨by simp [this], fun j hj => ?_⟩
 rw [bo]
 by_cases e : k = j
 ·rw [if_pos ⟨e, om⟩, ← e, if_neg hv]
 ·rw [if_neg om]; exact h.at_ j om
def rr (l : List Int) (k : Nat) : List (Int × Int) := ((List.range l.length).reverse.take k).map (fun j : Nat => ((j : Int), l.getD j 0))
theorem vT {t : Int} (h0 : 0 ≤ t) (h1 : t < l.length) : rr l ((l.length : Int) - 1 - (t - 1)).toNat = rr l ((l.length : Int) - 1 - t).toNat ++ [(t, l.getD t.toNat 0)] := by
 unfold rr
 rw [show ((l.length : Int) - 1 - (t - 1)).toNat = ((l.length : Int) - 1 - t).toNat + 1 by omega, take_one (d := (0 : Nat)) (by simp; omega), List.map_append]
 congr 1
 have : (List.range l.length).reverse.getD ((l.length : Int) - 1 - t).toNat 0 = t.toNat := by
  rw [List.getD_eq_getElem?_getD, List.getElem?_eq_getElem (by simp; omega)]
  simp; omega
 rw [this]
 simp [Int.toNat_of_nonneg h0]
theorem yi {t : Int} (h : t = -1) : rr l ((l.length : Int) - 1 - t).toNat = pZ l := by
 subst h
 unfold rr pZ
 rw [List.take_of_length_le (by simp)]
theorem Cv {t : Int} (h0 : 0 ≤ t) (h1 : t < l.length) : (t, l.getD t.toNat 0) ∈ pZ l := by
 unfold pZ
 refine List.mem_map.2 ⟨t.toNat, by simp; omega, ?_⟩
 simp [Int.toNat_of_nonneg h0]
theorem EI.rep {k : Nat} {out : List Int} (h : EI n k out) (hk : k = n.aa.length) : out = List.replicate n.aa.length (-1) := by
 refine List.ext_getElem (by rw [h.len]; simp) fun j h1 h2 => ?_
 have := h.at_ j (by rw [hk, ← h.len]; exact h1)
 rw [List.getD_eq_getElem?_getD, List.getElem?_eq_getElem h1] at this
 simp only [List.getElem_replicate]; exact this
theorem pC {c : Cell} (h : ¬ b7 c.kind) : jW n T c = T := by unfold jW; rw [if_neg (fun h2 => h h2.1)]
theorem pD {c : Cell} (h : T.getD c.out.toNat 0 < 0) : jW n T c = T := by unfold jW; rw [if_neg (fun h2 => h2.2 h)]
theorem pE {c : Cell} (hc : b7 c.kind) (h : ¬ T.getD c.out.toNat 0 < 0) {k : Nat} (hk : k = c.args.length) : jW n T c = iX n c T (c.args.take k) := by unfold jW; rw [if_pos ⟨hc, h⟩, hk, List.take_length]
end
end Go.Proofs.Ytligpghohcfpnaa
/- The walks through small functions. -/
namespace Go.Proofs.Ytligpghohcfpnaa
open Go Go.AW Go.Proofs
theorem pF {w : Int} : az Try.prog 93 [vi w] [] [] (fun r o => r = .v (.bool (decide (fj w))) ∧ o = []) := by
 refine az.of Try.func93 rfl rfl rfl (n := 9) ae (aH rfl) (.sr ?_)
 refine .an ?_
 refine .nil (.sr ?_)
 refine .mv ?_
 refine .vl (Y.geq rfl rfl) ?_
 refine .mv ?_
 refine .aE (d := 5) rfl (fun c5 => ?_) (fun c5 => ?_)
 refine .gw 5 (Y.move rfl rfl) (.gw 5 (Y.leq rfl rfl) ?_)
 refine .pk ?_
 refine .an ?_
 refine .nil (.ret ?_)
 exact .rb rfl (dd (by (simp only [fj]) <;> (first | omega | grind)))
 refine .gz 5 (.gz 5 ?_)
 refine .pk ?_
 refine .an ?_
 refine .nil (.ret ?_)
 exact .rb rfl (df (by (simp only [fj]) <;> (first | omega | grind)))
theorem od {s : ByteArray} (hs : s.size ≤ 140737488351232) : az Try.prog 92 [.v (.string s)] [] [] (fun r o => r = .v (.bool (decide (jr s))) ∧ o = []) := by
 refine az.of Try.func92 rfl rfl rfl (n := 44) ae (aH rfl) (.sr ?_)
 refine .an ?_
 refine .nil (.seq (.sr ?_))
 refine .mv ?_
 refine .vl (Y.GP JU rfl) ?_
 refine .mv ?_
 refine .nil (.block ?_)
 refine .lZ (fun (bK : Nat) => ⟨[(0, .v (.string s)), (6, vi s.size), (7, vi bK)], []⟩) (fun bK => ((bK : Int) ≤ (s.size : Int)) ∧ (∀ j, j < bK → g8 (bj s j))) (fun bK => ((s.size : Int) - (bK : Int)).toNat) 0 (⟨om, by intro j h; omega⟩) (Le.mk (.c2 (.cons (ak rfl b5) (.nil))) (.nil)) (fun bK x6 => ?_)
 obtain ⟨rL, hb⟩ := x6
 refine .sr (.vl (Y.lss rfl rfl) (.nil ?_))
 refine .seq ?_
 refine .aB rfl (fun c8 => ?_) (fun c8 => ?_)
 refine .skip ?_
 refine .qC (⟨[(0, .v (.string s)), (6, vi s.size), (7, vi bK)], []⟩) (((97 ≤ ((bj s bK : Nat) : Int)) ∧ (((bj s bK : Nat) : Int) ≤ 122)) ∨ ((97 ≤ ((bj s bK : Nat) : Int)) ∧ (¬ (((bj s bK : Nat) : Int) ≤ 122)) ∧ (65 ≤ ((bj s bK : Nat) : Int)) ∧ (((bj s bK : Nat) : Int) ≤ 90)) ∨ ((97 ≤ ((bj s bK : Nat) : Int)) ∧ (¬ (((bj s bK : Nat) : Int) ≤ 122)) ∧ (65 ≤ ((bj s bK : Nat) : Int)) ∧ (¬ (((bj s bK : Nat) : Int) ≤ 90)) ∧ (48 ≤ ((bj s bK : Nat) : Int)) ∧ (((bj s bK : Nat) : Int) ≤ 57)) ∨ ((97 ≤ ((bj s bK : Nat) : Int)) ∧ (¬ (((bj s bK : Nat) : Int) ≤ 122)) ∧ (65 ≤ ((bj s bK : Nat) : Int)) ∧ (¬ (((bj s bK : Nat) : Int) ≤ 90)) ∧ (48 ≤ ((bj s bK : Nat) : Int)) ∧ (¬ (((bj s bK : Nat) : Int) ≤ 57)) ∧ (((bj s bK : Nat) : Int) = 95)) ∨ ((97 ≤ ((bj s bK : Nat) : Int)) ∧ (¬ (((bj s bK : Nat) : Int) ≤ 122)) ∧ (65 ≤ ((bj s bK : Nat) : Int)) ∧ (¬ (((bj s bK : Nat) : Int) ≤ 90)) ∧ (¬ (48 ≤ ((bj s bK : Nat) : Int))) ∧ (((bj s bK : Nat) : Int) = 95)) ∨ ((97 ≤ ((bj s bK : Nat) : Int)) ∧ (¬ (((bj s bK : Nat) : Int) ≤ 122)) ∧ (¬ (65 ≤ ((bj s bK : Nat) : Int))) ∧ (48 ≤ ((bj s bK : Nat) : Int)) ∧ (((bj s bK : Nat) : Int) ≤ 57)) ∨ ((97 ≤ ((bj s bK : Nat) : Int)) ∧ (¬ (((bj s bK : Nat) : Int) ≤ 122)) ∧ (¬ (65 ≤ ((bj s bK : Nat) : Int))) ∧ (48 ≤ ((bj s bK : Nat) : Int)) ∧ (¬ (((bj s bK : Nat) : Int) ≤ 57)) ∧ (((bj s bK : Nat) : Int) = 95)) ∨ ((97 ≤ ((bj s bK : Nat) : Int)) ∧ (¬ (((bj s bK : Nat) : Int) ≤ 122)) ∧ (¬ (65 ≤ ((bj s bK : Nat) : Int))) ∧ (¬ (48 ≤ ((bj s bK : Nat) : Int))) ∧ (((bj s bK : Nat) : Int) = 95)) ∨ ((¬ (97 ≤ ((bj s bK : Nat) : Int))) ∧ (65 ≤ ((bj s bK : Nat) : Int)) ∧ (((bj s bK : Nat) : Int) ≤ 90)) ∨ ((¬ (97 ≤ ((bj s bK : Nat) : Int))) ∧ (65 ≤ ((bj s bK : Nat) : Int)) ∧ (¬ (((bj s bK : Nat) : Int) ≤ 90)) ∧ (48 ≤ ((bj s bK : Nat) : Int)) ∧ (((bj s bK : Nat) : Int) ≤ 57)) ∨ ((¬ (97 ≤ ((bj s bK : Nat) : Int))) ∧ (65 ≤ ((bj s bK : Nat) : Int)) ∧ (¬ (((bj s bK : Nat) : Int) ≤ 90)) ∧ (48 ≤ ((bj s bK : Nat) : Int)) ∧ (¬ (((bj s bK : Nat) : Int) ≤ 57)) ∧ (((bj s bK : Nat) : Int) = 95)) ∨ ((¬ (97 ≤ ((bj s bK : Nat) : Int))) ∧ (65 ≤ ((bj s bK : Nat) : Int)) ∧ (¬ (((bj s bK : Nat) : Int) ≤ 90)) ∧ (¬ (48 ≤ ((bj s bK : Nat) : Int))) ∧ (((bj s bK : Nat) : Int) = 95)) ∨ ((¬ (97 ≤ ((bj s bK : Nat) : Int))) ∧ (¬ (65 ≤ ((bj s bK : Nat) : Int))) ∧ (48 ≤ ((bj s bK : Nat) : Int)) ∧ (((bj s bK : Nat) : Int) ≤ 57)) ∨ ((¬ (97 ≤ ((bj s bK : Nat) : Int))) ∧ (¬ (65 ≤ ((bj s bK : Nat) : Int))) ∧ (48 ≤ ((bj s bK : Nat) : Int)) ∧ (¬ (((bj s bK : Nat) : Int) ≤ 57)) ∧ (((bj s bK : Nat) : Int) = 95)) ∨ ((¬ (97 ≤ ((bj s bK : Nat) : Int))) ∧ (¬ (65 ≤ ((bj s bK : Nat) : Int))) ∧ (¬ (48 ≤ ((bj s bK : Nat) : Int))) ∧ (((bj s bK : Nat) : Int) = 95))) ?_ (fun EP => ?_)
 refine .block (.sr ?_)
 refine .mv ?_
 refine .an ?_
 refine .nil (.sr ?_)
 refine .mv ?_
 refine .mv ?_
 refine .vl (Y.wQ (m := bK) JU rfl rfl b5 om) ?_
 refine .an ?_
 refine .nil (.sr ?_)
 refine .mv ?_
 refine .vl (Y.geq rfl rfl) ?_
 refine .mv ?_
 refine .aE (d := 15) rfl (fun rG => ?_) (fun rG => ?_)
 refine .gw 15 (Y.move rfl rfl) (.gw 15 (Y.leq rfl rfl) ?_)
 refine .pk ?_
 refine .mv ?_
 refine .aE (d := 19) rfl (fun s0 => ?_) (fun s0 => ?_)
 refine .gz 19 (.gz 19 (.gz 19 ?_))
 refine .gz 22 (.gz 22 (.gz 19 ?_))
 refine .pk ?_
 refine .mv ?_
 refine .gz 27 (.gz 27 (.gz 27 ?_))
 refine .gz 30 (.gz 30 (.gz 27 ?_))
 refine .pk ?_
 refine .mv ?_
 refine .gz 35 (.gz 35 ?_)
 refine .pk ?_
 refine .vl (Y.not rfl) (.nil (.cX rfl ?_))
 refine .skip ?_
 exact ⟨.inl ⟨rG, s0⟩, Le.mk (.c2 (.c (.nil))) (.nil)⟩
 refine .gw 19 (Y.move rfl rfl) (.gw 19 (Y.geq rfl rfl) (.gw 19 (Y.move rfl rfl) ?_))
 refine .aE (d := 22) rfl (fun my => ?_) (fun my => ?_)
 refine .gw 22 (Y.move rfl rfl) (.gw 22 (Y.leq rfl rfl) (.gw 19 (Y.pick rfl rfl rfl) ?_))
 refine .pk ?_
 refine .mv ?_
 refine .aE (d := 27) rfl (fun yj => ?_) (fun yj => ?_)
 refine .gz 27 (.gz 27 (.gz 27 ?_))
 refine .gz 30 (.gz 30 (.gz 27 ?_))
 refine .pk ?_
 refine .mv ?_
 refine .gz 35 (.gz 35 ?_)
 refine .pk ?_
 refine .vl (Y.not rfl) (.nil (.cX rfl ?_))
 refine .skip ?_
 exact ⟨.inr (.inl ⟨rG, s0, my, yj⟩), Le.mk (.c2 (.c (.nil))) (.nil)⟩
 refine .gw 27 (Y.move rfl rfl) (.gw 27 (Y.geq rfl rfl) (.gw 27 (Y.move rfl rfl) ?_))
 refine .aE (d := 30) rfl (fun rQ => ?_) (fun rQ => ?_)
 refine .gw 30 (Y.move rfl rfl) (.gw 30 (Y.leq rfl rfl) (.gw 27 (Y.pick rfl rfl rfl) ?_))
 refine .pk ?_
 refine .mv ?_
 refine .aE (d := 35) rfl (fun ru => ?_) (fun ru => ?_)
 refine .gz 35 (.gz 35 ?_)
 refine .pk ?_
 refine .vl (Y.not rfl) (.nil (.cX rfl ?_))
 refine .skip ?_
 exact ⟨.inr (.inr (.inl ⟨rG, s0, my, yj, rQ, ru⟩)), Le.mk (.c2 (.c (.nil))) (.nil)⟩
 refine .gw 35 (Y.move rfl rfl) (.gw 35 (Y.eql rfl rfl) ?_)
 refine .pk ?_
 refine .vl (Y.not rfl) (.nil ?_)
 refine .cond rfl (fun il => ?_) (fun il => ?_)
 replace il : ¬ (((bj s bK : Nat) : Int) = 95) := by simpa using il
 refine .sr ?_
 refine .an ?_
 refine .nil (.ret ?_)
 exact .rb rfl (df (fun h => by have h1 := h.1 bK om; unfold g8 at h1; omega))
 replace il : ((bj s bK : Nat) : Int) = 95 := by simpa using il
 refine .skip ?_
 exact ⟨.inr (.inr (.inr (.inl ⟨rG, s0, my, yj, rQ, ru, il⟩))), Le.mk (.c2 (.c (.nil))) (.nil)⟩
 refine .gz 30 (.gz 30 (.gw 27 (Y.pick rfl rfl rfl) ?_))
 refine .pk ?_
 refine .mv ?_
 refine .gw 35 (Y.move rfl rfl) (.gw 35 (Y.eql rfl rfl) ?_)
 refine .pk ?_
 refine .vl (Y.not rfl) (.nil ?_)
 refine .cond rfl (fun il => ?_) (fun il => ?_)
 replace il : ¬ (((bj s bK : Nat) : Int) = 95) := by simpa using il
 refine .sr ?_
 refine .an ?_
 refine .nil (.ret ?_)
 exact .rb rfl (df (fun h => by have h1 := h.1 bK om; unfold g8 at h1; omega))
 replace il : ((bj s bK : Nat) : Int) = 95 := by simpa using il
 refine .skip ?_
 exact ⟨.inr (.inr (.inr (.inr (.inl ⟨rG, s0, my, yj, rQ, il⟩)))), Le.mk (.c2 (.c (.nil))) (.nil)⟩
 refine .gz 22 (.gz 22 (.gw 19 (Y.pick rfl rfl rfl) ?_))
 refine .pk ?_
 refine .mv ?_
 refine .gw 27 (Y.move rfl rfl) (.gw 27 (Y.geq rfl rfl) (.gw 27 (Y.move rfl rfl) ?_))
 refine .aE (d := 30) rfl (fun rQ => ?_) (fun rQ => ?_)
 refine .gw 30 (Y.move rfl rfl) (.gw 30 (Y.leq rfl rfl) (.gw 27 (Y.pick rfl rfl rfl) ?_))
 refine .pk ?_
 refine .mv ?_
 refine .aE (d := 35) rfl (fun ru => ?_) (fun ru => ?_)
 refine .gz 35 (.gz 35 ?_)
 refine .pk ?_
 refine .vl (Y.not rfl) (.nil (.cX rfl ?_))
 refine .skip ?_
 exact ⟨.inr (.inr (.inr (.inr (.inr (.inl ⟨rG, s0, my, rQ, ru⟩))))), Le.mk (.c2 (.c (.nil))) (.nil)⟩
 refine .gw 35 (Y.move rfl rfl) (.gw 35 (Y.eql rfl rfl) ?_)
 refine .pk ?_
 refine .vl (Y.not rfl) (.nil ?_)
 refine .cond rfl (fun il => ?_) (fun il => ?_)
 replace il : ¬ (((bj s bK : Nat) : Int) = 95) := by simpa using il
 refine .sr ?_
 refine .an ?_
 refine .nil (.ret ?_)
 exact .rb rfl (df (fun h => by have h1 := h.1 bK om; unfold g8 at h1; omega))
 replace il : ((bj s bK : Nat) : Int) = 95 := by simpa using il
 refine .skip ?_
 exact ⟨.inr (.inr (.inr (.inr (.inr (.inr (.inl ⟨rG, s0, my, rQ, ru, il⟩)))))), Le.mk (.c2 (.c (.nil))) (.nil)⟩
 refine .gz 30 (.gz 30 (.gw 27 (Y.pick rfl rfl rfl) ?_))
 refine .pk ?_
 refine .mv ?_
 refine .gw 35 (Y.move rfl rfl) (.gw 35 (Y.eql rfl rfl) ?_)
 refine .pk ?_
 refine .vl (Y.not rfl) (.nil ?_)
 refine .cond rfl (fun il => ?_) (fun il => ?_)
 replace il : ¬ (((bj s bK : Nat) : Int) = 95) := by simpa using il
 refine .sr ?_
 refine .an ?_
 refine .nil (.ret ?_)
 exact .rb rfl (df (fun h => by have h1 := h.1 bK om; unfold g8 at h1; omega))
 replace il : ((bj s bK : Nat) : Int) = 95 := by simpa using il
 refine .skip ?_
 exact ⟨.inr (.inr (.inr (.inr (.inr (.inr (.inr (.inl ⟨rG, s0, my, rQ, il⟩))))))), Le.mk (.c2 (.c (.nil))) (.nil)⟩
 refine .gz 15 (.gz 15 ?_)
 refine .pk ?_
 refine .mv ?_
 refine .gw 19 (Y.move rfl rfl) (.gw 19 (Y.geq rfl rfl) (.gw 19 (Y.move rfl rfl) ?_))
 refine .aE (d := 22) rfl (fun my => ?_) (fun my => ?_)
 refine .gw 22 (Y.move rfl rfl) (.gw 22 (Y.leq rfl rfl) (.gw 19 (Y.pick rfl rfl rfl) ?_))
 refine .pk ?_
 refine .mv ?_
 refine .aE (d := 27) rfl (fun yj => ?_) (fun yj => ?_)
 refine .gz 27 (.gz 27 (.gz 27 ?_))
 refine .gz 30 (.gz 30 (.gz 27 ?_))
 refine .pk ?_
 refine .mv ?_
 refine .gz 35 (.gz 35 ?_)
 refine .pk ?_
 refine .vl (Y.not rfl) (.nil (.cX rfl ?_))
 refine .skip ?_
 exact ⟨.inr (.inr (.inr (.inr (.inr (.inr (.inr (.inr (.inl ⟨rG, my, yj⟩)))))))), Le.mk (.c2 (.c (.nil))) (.nil)⟩
 refine .gw 27 (Y.move rfl rfl) (.gw 27 (Y.geq rfl rfl) (.gw 27 (Y.move rfl rfl) ?_))
 refine .aE (d := 30) rfl (fun rQ => ?_) (fun rQ => ?_)
 refine .gw 30 (Y.move rfl rfl) (.gw 30 (Y.leq rfl rfl) (.gw 27 (Y.pick rfl rfl rfl) ?_))
 refine .pk ?_
 refine .mv ?_
 refine .aE (d := 35) rfl (fun ru => ?_) (fun ru => ?_)
 refine .gz 35 (.gz 35 ?_)
 refine .pk ?_
 refine .vl (Y.not rfl) (.nil (.cX rfl ?_))
 refine .skip ?_
 exact ⟨.inr (.inr (.inr (.inr (.inr (.inr (.inr (.inr (.inr (.inl ⟨rG, my, yj, rQ, ru⟩))))))))), Le.mk (.c2 (.c (.nil))) (.nil)⟩
 refine .gw 35 (Y.move rfl rfl) (.gw 35 (Y.eql rfl rfl) ?_)
 refine .pk ?_
 refine .vl (Y.not rfl) (.nil ?_)
 refine .cond rfl (fun il => ?_) (fun il => ?_)
 replace il : ¬ (((bj s bK : Nat) : Int) = 95) := by simpa using il
 refine .sr ?_
 refine .an ?_
 refine .nil (.ret ?_)
 exact .rb rfl (df (fun h => by have h1 := h.1 bK om; unfold g8 at h1; omega))
 replace il : ((bj s bK : Nat) : Int) = 95 := by simpa using il
 refine .skip ?_
 exact ⟨.inr (.inr (.inr (.inr (.inr (.inr (.inr (.inr (.inr (.inr (.inl ⟨rG, my, yj, rQ, ru, il⟩)))))))))), Le.mk (.c2 (.c (.nil))) (.nil)⟩
 refine .gz 30 (.gz 30 (.gw 27 (Y.pick rfl rfl rfl) ?_))
 refine .pk ?_
 refine .mv ?_
 refine .gw 35 (Y.move rfl rfl) (.gw 35 (Y.eql rfl rfl) ?_)
 refine .pk ?_
 refine .vl (Y.not rfl) (.nil ?_)
 refine .cond rfl (fun il => ?_) (fun il => ?_)
 replace il : ¬ (((bj s bK : Nat) : Int) = 95) := by simpa using il
 refine .sr ?_
 refine .an ?_
 refine .nil (.ret ?_)
 exact .rb rfl (df (fun h => by have h1 := h.1 bK om; unfold g8 at h1; omega))
 replace il : ((bj s bK : Nat) : Int) = 95 := by simpa using il
 refine .skip ?_
 exact ⟨.inr (.inr (.inr (.inr (.inr (.inr (.inr (.inr (.inr (.inr (.inr (.inl ⟨rG, my, yj, rQ, il⟩))))))))))), Le.mk (.c2 (.c (.nil))) (.nil)⟩
 refine .gz 22 (.gz 22 (.gw 19 (Y.pick rfl rfl rfl) ?_))
 refine .pk ?_
 refine .mv ?_
 refine .gw 27 (Y.move rfl rfl) (.gw 27 (Y.geq rfl rfl) (.gw 27 (Y.move rfl rfl) ?_))
 refine .aE (d := 30) rfl (fun rQ => ?_) (fun rQ => ?_)
 refine .gw 30 (Y.move rfl rfl) (.gw 30 (Y.leq rfl rfl) (.gw 27 (Y.pick rfl rfl rfl) ?_))
 refine .pk ?_
 refine .mv ?_
 refine .aE (d := 35) rfl (fun ru => ?_) (fun ru => ?_)
 refine .gz 35 (.gz 35 ?_)
 refine .pk ?_
 refine .vl (Y.not rfl) (.nil (.cX rfl ?_))
 refine .skip ?_
 exact ⟨.inr (.inr (.inr (.inr (.inr (.inr (.inr (.inr (.inr (.inr (.inr (.inr (.inl ⟨rG, my, rQ, ru⟩)))))))))))), Le.mk (.c2 (.c (.nil))) (.nil)⟩
 refine .gw 35 (Y.move rfl rfl) (.gw 35 (Y.eql rfl rfl) ?_)
 refine .pk ?_
 refine .vl (Y.not rfl) (.nil ?_)
 refine .cond rfl (fun il => ?_) (fun il => ?_)
 replace il : ¬ (((bj s bK : Nat) : Int) = 95) := by simpa using il
 refine .sr ?_
 refine .an ?_
 refine .nil (.ret ?_)
 exact .rb rfl (df (fun h => by have h1 := h.1 bK om; unfold g8 at h1; omega))
 replace il : ((bj s bK : Nat) : Int) = 95 := by simpa using il
 refine .skip ?_
 exact ⟨.inr (.inr (.inr (.inr (.inr (.inr (.inr (.inr (.inr (.inr (.inr (.inr (.inr (.inl ⟨rG, my, rQ, ru, il⟩))))))))))))), Le.mk (.c2 (.c (.nil))) (.nil)⟩
 refine .gz 30 (.gz 30 (.gw 27 (Y.pick rfl rfl rfl) ?_))
 refine .pk ?_
 refine .mv ?_
 refine .gw 35 (Y.move rfl rfl) (.gw 35 (Y.eql rfl rfl) ?_)
 refine .pk ?_
 refine .vl (Y.not rfl) (.nil ?_)
 refine .cond rfl (fun il => ?_) (fun il => ?_)
 replace il : ¬ (((bj s bK : Nat) : Int) = 95) := by simpa using il
 refine .sr ?_
 refine .an ?_
 refine .nil (.ret ?_)
 exact .rb rfl (df (fun h => by have h1 := h.1 bK om; unfold g8 at h1; omega))
 replace il : ((bj s bK : Nat) : Int) = 95 := by simpa using il
 refine .skip ?_
 exact ⟨.inr (.inr (.inr (.inr (.inr (.inr (.inr (.inr (.inr (.inr (.inr (.inr (.inr (.inr (⟨rG, my, rQ, il⟩)))))))))))))), Le.mk (.c2 (.c (.nil))) (.nil)⟩
 refine .region (.vl (Y.aT rfl rfl bw) ?_)
 refine .mv ?_
 refine .nil ?_
 exact ⟨bK + 1, ⟨om, vw hb (by unfold g8; omega)⟩, om, Le.mk (.c2 (.cons (ak rfl b5) (.nil))) (.nil)⟩
 refine .exit (.sr ?_)
 refine .mv ?_
 refine .vl (Y.GP JU rfl) (.vl (Y.leq rfl rfl) ?_)
 refine .an ?_
 refine .nil (.ret ?_)
 exact .rb rfl (dd ⟨fun h => ⟨fun j hj => hb j om, om⟩, fun h => by have := h.2; omega⟩)
theorem kK {op : Int} : az Try.prog 124 [vi op] [] [] (fun r o => r = (vi (dq op)) ∧ o = []) := by
 refine az.of Try.func124 rfl rfl rfl (n := 25) ae (aH rfl) (.sr ?_)
 refine .an ?_
 refine .nil (.seq (.sr ?_))
 refine .mv ?_
 refine .nil (.block (.seq ?_))
 refine .sr (.vl (Y.eql rfl rfl) ?_)
 refine .an ?_
 refine .nil ?_
 refine .bD rfl (fun c4 => ?_) (fun c4 => ?_)
 refine .skip (.aV rfl (.sr ?_))
 refine .an ?_
 refine .nil (.ret ?_)
 exact .ri rfl (by simp only [dq]; omega)
 refine .sr (.vl (Y.eql rfl rfl) ?_)
 refine .an ?_
 refine .nil ?_
 refine .bD rfl (fun c4 => ?_) (fun c4 => ?_)
 refine .skip (.aV rfl (.sr ?_))
 refine .an ?_
 refine .nil (.ret ?_)
 exact .ri rfl (by simp only [dq]; omega)
 refine .sr (.vl (Y.eql rfl rfl) ?_)
 refine .an ?_
 refine .nil ?_
 refine .bD rfl (fun c4 => ?_) (fun c4 => ?_)
 refine .skip (.aV rfl (.sr ?_))
 refine .an ?_
 refine .nil (.ret ?_)
 exact .ri rfl (by simp only [dq]; omega)
 refine .sr (.vl (Y.eql rfl rfl) ?_)
 refine .an ?_
 refine .nil ?_
 refine .bD rfl (fun c4 => ?_) (fun c4 => ?_)
 refine .skip (.aV rfl (.sr ?_))
 refine .an ?_
 refine .nil (.ret ?_)
 exact .ri rfl (by simp only [dq]; omega)
 refine .sr (.vl (Y.eql rfl rfl) ?_)
 refine .an ?_
 refine .nil ?_
 refine .bD rfl (fun c4 => ?_) (fun c4 => ?_)
 refine .skip (.aV rfl (.sr ?_))
 refine .an ?_
 refine .nil (.ret ?_)
 exact .ri rfl (by simp only [dq]; omega)
 refine .sr (.vl (Y.eql rfl rfl) ?_)
 refine .an ?_
 refine .nil ?_
 refine .bD rfl (fun c4 => ?_) (fun c4 => ?_)
 refine .skip (.aV rfl (.sr ?_))
 refine .an ?_
 refine .nil (.ret ?_)
 exact .ri rfl (by simp only [dq]; omega)
 refine .sr (.vl (Y.eql rfl rfl) ?_)
 refine .an ?_
 refine .nil ?_
 refine .bD rfl (fun c4 => ?_) (fun c4 => ?_)
 refine .skip (.aV rfl (.sr ?_))
 refine .an ?_
 refine .nil (.ret ?_)
 exact .ri rfl (by simp only [dq]; omega)
 refine .sr (.vl (Y.eql rfl rfl) ?_)
 refine .an ?_
 refine .nil ?_
 refine .bD rfl (fun c4 => ?_) (fun c4 => ?_)
 refine .skip (.aV rfl (.sr ?_))
 refine .an ?_
 refine .nil (.ret ?_)
 exact .ri rfl (by simp only [dq]; omega)
 refine .sr (.vl (Y.eql rfl rfl) ?_)
 refine .an ?_
 refine .nil ?_
 refine .bD rfl (fun c4 => ?_) (fun c4 => ?_)
 refine .skip (.aV rfl (.sr ?_))
 refine .an ?_
 refine .nil (.ret ?_)
 exact .ri rfl (by simp only [dq]; omega)
 refine .sr (.vl (Y.eql rfl rfl) ?_)
 refine .an ?_
 refine .nil ?_
 refine .bD rfl (fun c4 => ?_) (fun c4 => ?_)
 refine .skip (.aV rfl (.sr ?_))
 refine .an ?_
 refine .nil (.ret ?_)
 exact .ri rfl (by simp only [dq]; omega)
 refine .sr (.vl (Y.eql rfl rfl) ?_)
 refine .an ?_
 refine .nil ?_
 refine .bD rfl (fun c4 => ?_) (fun c4 => ?_)
 refine .skip (.aV rfl (.sr ?_))
 refine .an ?_
 refine .nil (.ret ?_)
 exact .ri rfl (by simp only [dq]; omega)
 refine .sr (.vl (Y.eql rfl rfl) ?_)
 refine .an ?_
 refine .nil ?_
 refine .bD rfl (fun c4 => ?_) (fun c4 => ?_)
 refine .skip (.aV rfl (.sr ?_))
 refine .an ?_
 refine .nil (.ret ?_)
 exact .ri rfl (by simp only [dq]; omega)
 refine .sr (.vl (Y.eql rfl rfl) ?_)
 refine .an ?_
 refine .nil ?_
 refine .bD rfl (fun c4 => ?_) (fun c4 => ?_)
 refine .skip (.aV rfl (.sr ?_))
 refine .an ?_
 refine .nil (.ret ?_)
 exact .ri rfl (by simp only [dq]; omega)
 refine .region (.vl (Y.eql rfl rfl) ?_)
 refine .an ?_
 refine .nil ?_
 refine .bD rfl (fun c4 => ?_) (fun c4 => ?_)
 refine .sr ?_
 refine .an ?_
 refine .nil (.ret ?_)
 exact .ri rfl (by simp only [dq]; omega)
 refine .sr (.vl (Y.eql rfl rfl) ?_)
 refine .an ?_
 refine .nil ?_
 refine .aB rfl (fun s0 => ?_) (fun s0 => ?_)
 refine .sr ?_
 refine .an ?_
 refine .nil (.ret ?_)
 exact .ri rfl (by simp only [dq]; omega)
 refine .seq (.sr (.vl (Y.eql rfl rfl) ?_))
 refine .an ?_
 refine .nil ?_
 refine .bD rfl (fun Ad => ?_) (fun Ad => ?_)
 refine .skip (.aV rfl (.sr ?_))
 refine .an ?_
 refine .nil (.ret ?_)
 exact .ri rfl (by simp only [dq]; omega)
 refine .sr (.vl (Y.eql rfl rfl) ?_)
 refine .an ?_
 refine .nil ?_
 refine .bD rfl (fun Ad => ?_) (fun Ad => ?_)
 refine .skip (.aV rfl (.sr ?_))
 refine .an ?_
 refine .nil (.ret ?_)
 exact .ri rfl (by simp only [dq]; omega)
 refine .region (.vl (Y.eql rfl rfl) ?_)
 refine .an ?_
 refine .nil ?_
 refine .bD rfl (fun Ad => ?_) (fun Ad => ?_)
 refine .sr ?_
 refine .an ?_
 refine .nil (.ret ?_)
 exact .ri rfl (by simp only [dq]; omega)
 refine .skip (.sr ?_)
 refine .an ?_
 refine .nil (.ret ?_)
 exact .ri rfl (by simp only [dq]; omega)
end Go.Proofs.Ytligpghohcfpnaa
/- Walks through small functions of words. -/
namespace Go.Proofs.Ytligpghohcfpnaa
open Go Go.AW Go.Proofs
theorem u3 {w : Int} : az Try.prog 127 [vi w] [] [] (fun r o => r = (vi ((gO w : Nat) : Int)) ∧ o = []) := by
 refine az.of Try.func127 rfl rfl rfl (n := 6) ae (aH rfl) (.sr ?_)
 refine .an ?_
 refine .nil (.sr ?_)
 refine .mv ?_
 refine .vl (Y.max rfl rfl rfl) (.vl (Y.min rfl rfl rfl) ?_)
 refine .an ?_
 refine .nil (.ret ?_)
 exact .ri rfl (by unfold gO; (repeat' split) <;> omega)
theorem u4 {w : Int} : az Try.prog 104 [vi w] [] [] (fun r o => r = (vi ((gO w : Nat) : Int)) ∧ o = []) := by
 refine az.of Try.func104 rfl rfl rfl (n := 6) ae (aH rfl) (.sr ?_)
 refine .an ?_
 refine .nil (.sr ?_)
 refine .mv ?_
 refine .vl (Y.max rfl rfl rfl) (.vl (Y.min rfl rfl rfl) ?_)
 refine .an ?_
 refine .nil (.ret ?_)
 exact .ri rfl (by unfold gO; (repeat' split) <;> omega)
theorem yk {w : Int} : az Try.prog 103 [vi w] [] [] (fun r o => r = .v (.int .u64 ((2 ^ gO w - 1 : Nat) : Int)) ∧ o = []) := by
 refine az.of Try.func103 rfl rfl rfl (n := 10) ae (aH rfl) ?_
 have hl := lH w
 refine .sr ?_
 refine .an ?_
 refine .nil (.seq (.sr ?_))
 refine .mv ?_
 refine .aP Im (u3 (w := w)) rfl (.ai rfl rfl .nil) ae rfl ?_
 refine .an ?_
 refine .nil (.sr ?_)
 refine .mv ?_
 refine .vl (Y.eql rfl rfl) (.nil ?_)
 refine .aB rfl (fun c6 => ?_) (fun c6 => ?_)
 refine .sr ?_
 refine .an ?_
 refine .nil (.ret ?_)
 exact .ri rfl (by rw [show gO w = 0 by omega]; rfl)
 refine .skip (.sr ?_)
 refine .mv ?_
 refine .vl (Y.iy rfl rfl bw) (.vl (Y.Lh (a := 18446744073709551615) ((64 - ((gO w : Nat) : Int)).toNat) rfl rfl om om) ?_)
 refine .an ?_
 refine .nil (.ret ?_)
 exact .ri rfl (by rw [show ((64 : Int) - ((gO w : Nat) : Int)).toNat = 64 - gO w by omega, BS])
theorem j9 {w : Int} {x : Nat} (hx : x < 18446744073709551616) : az Try.prog 65 [vi w, .v (.int .u64 (x : Int))] [] [] (fun r o => r = .v (.int .u64 ((kE w x : Nat) : Int)) ∧ o = []) := by
 refine az.of Try.func65 rfl rfl rfl (n := 9) ae (aH rfl) ?_
 have hm := BT w
 refine .sr ?_
 refine .an ?_
 refine .nil (.sr ?_)
 refine .mv ?_
 refine .mv ?_
 refine .aP Ib (yk (w := w)) rfl (.ai rfl rfl .nil) ae rfl (.vl (Y.Lg (a := x) (b := (2 ^ gO w - 1)) rfl rfl om) ?_)
 refine .an ?_
 refine .nil (.ret ?_)
 exact .ri rfl (by rw [z2])
theorem na {w : Int} : az Try.prog 74 [vi w] [] [] (fun r o => r = .v (.bool (decide (oB w))) ∧ o = []) := by
 refine az.of Try.func74 rfl rfl rfl (n := 9) ae (aH rfl) (.sr ?_)
 refine .an ?_
 refine .nil (.sr ?_)
 refine .mv ?_
 refine .vl (Y.geq rfl rfl) ?_
 refine .mv ?_
 refine .aE (d := 5) rfl (fun c5 => ?_) (fun c5 => ?_)
 refine .gw 5 (Y.move rfl rfl) (.gw 5 (Y.leq rfl rfl) ?_)
 refine .pk ?_
 refine .an ?_
 refine .nil (.ret ?_)
 exact .rb rfl (dd (by (simp only [oB]) <;> (first | omega | grind)))
 refine .gz 5 (.gz 5 ?_)
 refine .pk ?_
 refine .an ?_
 refine .nil (.ret ?_)
 exact .rb rfl (df (by (simp only [oB]) <;> (first | omega | grind)))
theorem kA {w : Int} : az Try.prog 77 [vi w] [] [] (fun r o => r = .v (.bool (decide (oB w))) ∧ o = []) := by
 refine az.of Try.func77 rfl rfl rfl (n := 9) ae (aH rfl) (.sr ?_)
 refine .an ?_
 refine .nil (.sr ?_)
 refine .mv ?_
 refine .vl (Y.geq rfl rfl) ?_
 refine .mv ?_
 refine .aE (d := 5) rfl (fun c5 => ?_) (fun c5 => ?_)
 refine .gw 5 (Y.move rfl rfl) (.gw 5 (Y.leq rfl rfl) ?_)
 refine .pk ?_
 refine .an ?_
 refine .nil (.ret ?_)
 exact .rb rfl (dd (by (simp only [oB]) <;> (first | omega | grind)))
 refine .gz 5 (.gz 5 ?_)
 refine .pk ?_
 refine .an ?_
 refine .nil (.ret ?_)
 exact .rb rfl (df (by (simp only [oB]) <;> (first | omega | grind)))
theorem vU {w : Int} : az Try.prog 118 [vi w] [] [] (fun r o => r = .v (.bool (decide (Unary w))) ∧ o = []) := by
 refine az.of Try.func118 rfl rfl rfl (n := 13) ae (aH rfl) (.sr ?_)
 refine .an ?_
 refine .nil (.sr ?_)
 refine .mv ?_
 refine .vl (Y.eql rfl rfl) ?_
 refine .mv ?_
 refine .aE (d := 5) rfl (fun c5 => ?_) (fun c5 => ?_)
 refine .gz 5 (.gz 5 ?_)
 refine .pk ?_
 refine .mv ?_
 refine .gz 9 (.gz 9 ?_)
 refine .pk ?_
 refine .an ?_
 refine .nil (.ret ?_)
 exact .rb rfl (dt (by (simp only [Unary]) <;> (first | omega | grind)))
 refine .gw 5 (Y.move rfl rfl) (.gw 5 (Y.eql rfl rfl) ?_)
 refine .pk ?_
 refine .mv ?_
 refine .aE (d := 9) rfl (fun c9 => ?_) (fun c9 => ?_)
 refine .gz 9 (.gz 9 ?_)
 refine .pk ?_
 refine .an ?_
 refine .nil (.ret ?_)
 exact .rb rfl (dt (by (simp only [Unary]) <;> (first | omega | grind)))
 refine .gw 9 (Y.move rfl rfl) (.gw 9 (Y.eql rfl rfl) ?_)
 refine .pk ?_
 refine .an ?_
 refine .nil (.ret ?_)
 exact .rb rfl (dd (by (simp only [Unary]) <;> (first | omega | grind)))
theorem jA {w : Int} : az Try.prog 21 [vi w] [] [] (fun r o => r = .v (.bool (decide (b7 w))) ∧ o = []) := by
 refine az.of Try.func21 rfl rfl rfl (n := 13) ae (aH rfl) (.sr ?_)
 refine .an ?_
 refine .nil (.sr ?_)
 refine .mv ?_
 refine .vl (Y.eql rfl rfl) ?_
 refine .mv ?_
 refine .aE (d := 5) rfl (fun c5 => ?_) (fun c5 => ?_)
 refine .gz 5 (.gz 5 ?_)
 refine .pk ?_
 refine .mv ?_
 refine .gz 9 (.gz 9 ?_)
 refine .pk ?_
 refine .an ?_
 refine .nil (.ret ?_)
 exact .rb rfl (dt (by (simp only [b7]) <;> (first | omega | grind)))
 refine .gw 5 (Y.move rfl rfl) (.gw 5 (Y.eql rfl rfl) ?_)
 refine .pk ?_
 refine .mv ?_
 refine .aE (d := 9) rfl (fun c9 => ?_) (fun c9 => ?_)
 refine .gz 9 (.gz 9 ?_)
 refine .pk ?_
 refine .an ?_
 refine .nil (.ret ?_)
 exact .rb rfl (dt (by (simp only [b7]) <;> (first | omega | grind)))
 refine .gw 9 (Y.move rfl rfl) (.gw 9 (Y.eql rfl rfl) ?_)
 refine .pk ?_
 refine .an ?_
 refine .nil (.ret ?_)
 exact .rb rfl (dd (by (simp only [b7]) <;> (first | omega | grind)))
theorem lM {w : Int} : az Try.prog 22 [vi w] [] [] (fun r o => r = .v (.bool (decide (b7 w))) ∧ o = []) := by
 refine az.of Try.func22 rfl rfl rfl (n := 13) ae (aH rfl) (.sr ?_)
 refine .an ?_
 refine .nil (.sr ?_)
 refine .mv ?_
 refine .vl (Y.eql rfl rfl) ?_
 refine .mv ?_
 refine .aE (d := 5) rfl (fun c5 => ?_) (fun c5 => ?_)
 refine .gz 5 (.gz 5 ?_)
 refine .pk ?_
 refine .mv ?_
 refine .gz 9 (.gz 9 ?_)
 refine .pk ?_
 refine .an ?_
 refine .nil (.ret ?_)
 exact .rb rfl (dt (by (simp only [b7]) <;> (first | omega | grind)))
 refine .gw 5 (Y.move rfl rfl) (.gw 5 (Y.eql rfl rfl) ?_)
 refine .pk ?_
 refine .mv ?_
 refine .aE (d := 9) rfl (fun c9 => ?_) (fun c9 => ?_)
 refine .gz 9 (.gz 9 ?_)
 refine .pk ?_
 refine .an ?_
 refine .nil (.ret ?_)
 exact .rb rfl (dt (by (simp only [b7]) <;> (first | omega | grind)))
 refine .gw 9 (Y.move rfl rfl) (.gw 9 (Y.eql rfl rfl) ?_)
 refine .pk ?_
 refine .an ?_
 refine .nil (.ret ?_)
 exact .rb rfl (dd (by (simp only [b7]) <;> (first | omega | grind)))
end Go.Proofs.Ytligpghohcfpnaa
/- Walks through the specification of delays. -/
namespace Go.Proofs.Ytligpghohcfpnaa
open Go Go.AW Go.Proofs
theorem jZ {x : Int} (h0 : 0 ≤ x) (h1 : x ≤ 256) : az Try.prog 79 [vi x] [] [] (fun r o => r = (vi ((eR x.toNat : Nat) : Int)) ∧ o = []) := by
 refine az.of Try.func79 rfl rfl rfl (n := 17) ae (aH rfl) (.sr ?_)
 refine .an ?_
 refine .nil (.sr ?_)
 refine .an ?_
 refine .nil (.seq (.sr ?_))
 refine .an ?_
 refine .nil (.block ?_)
 refine .dT (fun (vV : Nat) (yl : Nat) => ⟨[(0, vi x), (3, vi vV), (4, vi yl)], []⟩) (fun vV yl => (rm x vV yl)) (fun vV yl => 9 - vV) 0 1 (rm.init) (Le.mk (.c (.cons (ak rfl b5) (.cons (ak rfl b5) (.nil)))) (.nil)) (fun vV yl tq => ?_)
 have hL := tq
 refine .seq (.sr ?_)
 refine .mv ?_
 refine .mv ?_
 refine .vl (Y.lss rfl rfl) ?_
 refine .mv ?_
 refine .aE (d := 8) rfl (fun c8 => ?_) (fun c8 => ?_)
 refine .gw 8 (Y.move rfl rfl) (.gw 8 (Y.lss rfl rfl) ?_)
 refine .pk ?_
 refine .nil ?_
 refine .aB rfl (fun Dq => ?_) (fun Dq => ?_)
 refine .skip (.seq (.block ?_))
 have h5 := hL.le h1
 refine .region ?_
 refine .mv ?_
 refine .vl (Y.aT rfl rfl bw) ?_
 refine .an ?_
 refine .nil (.region ?_)
 refine .mv ?_
 refine .vl (Y.bJ rfl rfl om) ?_
 refine .an ?_
 refine .nil ?_
 exact ⟨vV + 1, 2 * yl, hL.step cj, om, Le.mk (.c (.cons (ak rfl b5) (.cons (ak rfl b5) (.nil)))) (.nil)⟩
 refine .exit (.sr ?_)
 refine .mv ?_
 refine .an ?_
 refine .nil (.ret ?_)
 exact .ri rfl (congrArg Nat.cast (hL.done h0 (by have h9 := hL.le h1; omega)))
 refine .gz 8 (.gz 8 ?_)
 refine .pk ?_
 refine .nil (.cX rfl (.exit ?_))
 refine .sr ?_
 refine .mv ?_
 refine .an ?_
 refine .nil (.ret ?_)
 exact .ri rfl (congrArg Nat.cast (hL.done h0 (by have h9 := hL.le h1; omega)))
theorem dz {a b c : Int} : az Try.prog 110 [vi a, vi b, vi c] [] [] (fun r o => r = .agg [vi 0, vi a, vi b, vi 0, vi 0, vi c] ∧ o = []) := by
 refine az.of Try.func110 rfl rfl rfl (n := 11) ae (aH rfl) (.sr (.alloc 106 jt rfl rfl ae ?_))
 refine .nil (.sr ?_)
 refine .mv ?_
 refine .mv ?_
 refine .mv ?_
 refine .vl (Y.build mX jt rfl rfl rfl) (.aj cJ rfl rfl rfl rfl rfl rfl (aH rfl) rfl (.nil ?_))
 refine .ret ?_
 exact ⟨_, _, rfl, rfl, rfl, rfl⟩
theorem vW {op x : Int} (hp : Plain op) (h0 : 1 ≤ x) (h1 : x ≤ 64) : az Try.prog 78 [vi op, vi x] [] [] (fun r o => ∃ c : Int, r = .agg [vi 0, vi x, vi (aN op x.toNat), vi 0, vi 0, vi c] ∧ o = []) := by
 refine az.of Try.func78 rfl rfl rfl (n := 161) ae (aH rfl) ?_
 have ER := hp; unfold Plain Gg Seq Unary at ER; have yD := p6 (n := x.toNat) om; have ES := p6 (n := (x + 1).toNat) om; have hle : (x + 1).toNat = x.toNat + 1 := om; have LZ := qx h0 h1 yD; have Ma := qx h0 h1 ES
 refine .sr (.alloc 104 jt rfl rfl ae (.nil ?_))
 refine .sr ?_
 refine .mv ?_
 refine .aP E6 (jZ (x := x) (om) (om)) rfl (.ai rfl rfl .nil) ae rfl ?_
 refine .mv ?_
 refine .vl (Y.aT rfl rfl bw) (.aP E6 (jZ (x := (x + 1)) (om) (om)) rfl (.ai rfl rfl .nil) ae rfl ?_)
 refine .an ?_
 refine .an ?_
 refine .nil (.seq (.sr ?_))
 refine .mv ?_
 refine .nil (.block (.sr ?_))
 refine .vl (Y.eql rfl rfl) ?_
 refine .an ?_
 refine .nil ?_
 refine .aB rfl (fun xk => ?_) (fun xk => ?_)
 refine .sr ?_
 refine .mv ?_
 refine .mv ?_
 refine .vl (Y.bJ rfl rfl om) (.vl (Y.aT rfl rfl bw) ?_)
 refine .mv ?_
 refine .vl (Y.bJ rfl rfl om) ?_
 refine .mv ?_
 refine .vl (Y.bJ rfl rfl om) ?_
 refine .mv ?_
 refine .vl (Y.bJ rfl rfl om) (.vl (Y.aT rfl rfl bw) ?_)
 refine .aP js (dz (a := x) (b := (40 + (40 * ((eR x.toNat : Nat) : Int)))) (c := ((3 * x) + ((3 * x) * ((eR x.toNat : Nat) : Int))))) rfl (.ai rfl rfl (.ai rfl rfl (.ai rfl rfl .nil))) ae rfl (.aj cJ rfl rfl rfl rfl rfl rfl (aH rfl) rfl (.nil ?_))
 refine .ret ?_
 first | (exfalso; omega) | exact ⟨_, _, rfl, rfl, (3 * x) + ((3 * x) * ((eR x.toNat : Nat) : Int)), by rw [show aN op x.toNat = 40 + (40 * ((eR x.toNat : Nat) : Int)) by (try rw [hle]); unfold aN; (repeat' split) <;> omega]; rfl, rfl⟩
 refine .sr (.vl (Y.eql rfl rfl) ?_)
 refine .an ?_
 refine .nil ?_
 refine .aB rfl (fun yj => ?_) (fun yj => ?_)
 refine .sr ?_
 refine .mv ?_
 refine .mv ?_
 refine .vl (Y.bJ rfl rfl om) (.vl (Y.aT rfl rfl bw) ?_)
 refine .mv ?_
 refine .vl (Y.bJ rfl rfl om) ?_
 refine .mv ?_
 refine .vl (Y.bJ rfl rfl om) ?_
 refine .mv ?_
 refine .vl (Y.bJ rfl rfl om) (.vl (Y.aT rfl rfl bw) ?_)
 refine .aP js (dz (a := x) (b := (50 + (40 * ((eR x.toNat : Nat) : Int)))) (c := ((4 * x) + ((3 * x) * ((eR x.toNat : Nat) : Int))))) rfl (.ai rfl rfl (.ai rfl rfl (.ai rfl rfl .nil))) ae rfl (.aj cJ rfl rfl rfl rfl rfl rfl (aH rfl) rfl (.nil ?_))
 refine .ret ?_
 first | (exfalso; omega) | exact ⟨_, _, rfl, rfl, (4 * x) + ((3 * x) * ((eR x.toNat : Nat) : Int)), by rw [show aN op x.toNat = 50 + (40 * ((eR x.toNat : Nat) : Int)) by (try rw [hle]); unfold aN; (repeat' split) <;> omega]; rfl, rfl⟩
 refine .seq (.sr (.vl (Y.eql rfl rfl) ?_))
 refine .an ?_
 refine .nil ?_
 refine .bD rfl (fun vX => ?_) (fun vX => ?_)
 refine .skip (.aV rfl (.sr ?_))
 refine .mv ?_
 refine .mv ?_
 refine .aP js (dz (a := x) (b := 20) (c := x)) rfl (.ai rfl rfl (.ai rfl rfl (.ai rfl rfl .nil))) ae rfl (.aj cJ rfl rfl rfl rfl rfl rfl (aH rfl) rfl (.nil ?_))
 refine .ret ?_
 first | (exfalso; omega) | exact ⟨_, _, rfl, rfl, x, by rw [show aN op x.toNat = 20 by (try rw [hle]); unfold aN; (repeat' split) <;> omega]; rfl, rfl⟩
 refine .sr (.vl (Y.eql rfl rfl) ?_)
 refine .an ?_
 refine .nil ?_
 refine .bD rfl (fun vX => ?_) (fun vX => ?_)
 refine .skip (.aV rfl (.sr ?_))
 refine .mv ?_
 refine .mv ?_
 refine .aP js (dz (a := x) (b := 20) (c := x)) rfl (.ai rfl rfl (.ai rfl rfl (.ai rfl rfl .nil))) ae rfl (.aj cJ rfl rfl rfl rfl rfl rfl (aH rfl) rfl (.nil ?_))
 refine .ret ?_
 first | (exfalso; omega) | exact ⟨_, _, rfl, rfl, x, by rw [show aN op x.toNat = 20 by (try rw [hle]); unfold aN; (repeat' split) <;> omega]; rfl, rfl⟩
 refine .region (.vl (Y.eql rfl rfl) ?_)
 refine .an ?_
 refine .nil ?_
 refine .bD rfl (fun vX => ?_) (fun vX => ?_)
 refine .sr ?_
 refine .mv ?_
 refine .mv ?_
 refine .aP js (dz (a := x) (b := 20) (c := x)) rfl (.ai rfl rfl (.ai rfl rfl (.ai rfl rfl .nil))) ae rfl (.aj cJ rfl rfl rfl rfl rfl rfl (aH rfl) rfl (.nil ?_))
 refine .ret ?_
 first | (exfalso; omega) | exact ⟨_, _, rfl, rfl, x, by rw [show aN op x.toNat = 20 by (try rw [hle]); unfold aN; (repeat' split) <;> omega]; rfl, rfl⟩
 refine .seq (.sr (.vl (Y.eql rfl rfl) ?_))
 refine .an ?_
 refine .nil ?_
 refine .bD rfl (fun IK => ?_) (fun IK => ?_)
 refine .skip (.aV rfl (.sr ?_))
 refine .mv ?_
 refine .mv ?_
 refine .vl (Y.bJ rfl rfl om) (.vl (Y.aT rfl rfl bw) ?_)
 refine .mv ?_
 refine .vl (Y.bJ rfl rfl om) ?_
 refine .mv ?_
 refine .vl (Y.bJ rfl rfl om) ?_
 refine .mv ?_
 refine .vl (Y.bJ rfl rfl om) (.vl (Y.aT rfl rfl bw) ?_)
 refine .aP js (dz (a := x) (b := (30 + (40 * ((eR x.toNat : Nat) : Int)))) (c := ((2 * x) + ((3 * x) * ((eR x.toNat : Nat) : Int))))) rfl (.ai rfl rfl (.ai rfl rfl (.ai rfl rfl .nil))) ae rfl (.aj cJ rfl rfl rfl rfl rfl rfl (aH rfl) rfl (.nil ?_))
 refine .ret ?_
 first | (exfalso; omega) | exact ⟨_, _, rfl, rfl, (2 * x) + ((3 * x) * ((eR x.toNat : Nat) : Int)), by rw [show aN op x.toNat = 30 + (40 * ((eR x.toNat : Nat) : Int)) by (try rw [hle]); unfold aN; (repeat' split) <;> omega]; rfl, rfl⟩
 refine .region (.vl (Y.eql rfl rfl) ?_)
 refine .an ?_
 refine .nil ?_
 refine .bD rfl (fun IK => ?_) (fun IK => ?_)
 refine .sr ?_
 refine .mv ?_
 refine .mv ?_
 refine .vl (Y.bJ rfl rfl om) (.vl (Y.aT rfl rfl bw) ?_)
 refine .mv ?_
 refine .vl (Y.bJ rfl rfl om) ?_
 refine .mv ?_
 refine .vl (Y.bJ rfl rfl om) ?_
 refine .mv ?_
 refine .vl (Y.bJ rfl rfl om) (.vl (Y.aT rfl rfl bw) ?_)
 refine .aP js (dz (a := x) (b := (30 + (40 * ((eR x.toNat : Nat) : Int)))) (c := ((2 * x) + ((3 * x) * ((eR x.toNat : Nat) : Int))))) rfl (.ai rfl rfl (.ai rfl rfl (.ai rfl rfl .nil))) ae rfl (.aj cJ rfl rfl rfl rfl rfl rfl (aH rfl) rfl (.nil ?_))
 refine .ret ?_
 first | (exfalso; omega) | exact ⟨_, _, rfl, rfl, (2 * x) + ((3 * x) * ((eR x.toNat : Nat) : Int)), by rw [show aN op x.toNat = 30 + (40 * ((eR x.toNat : Nat) : Int)) by (try rw [hle]); unfold aN; (repeat' split) <;> omega]; rfl, rfl⟩
 refine .sr (.vl (Y.eql rfl rfl) ?_)
 refine .an ?_
 refine .nil ?_
 refine .aB rfl (fun xl => ?_) (fun xl => ?_)
 refine .sr ?_
 refine .mv ?_
 refine .mv ?_
 refine .vl (Y.bJ rfl rfl om) (.vl (Y.aT rfl rfl bw) ?_)
 refine .mv ?_
 refine .vl (Y.bJ rfl rfl om) ?_
 refine .mv ?_
 refine .vl (Y.bJ rfl rfl om) ?_
 refine .mv ?_
 refine .vl (Y.bJ rfl rfl om) (.vl (Y.aT rfl rfl bw) ?_)
 refine .aP js (dz (a := x) (b := (50 + (40 * ((eR x.toNat : Nat) : Int)))) (c := ((4 * x) + ((3 * x) * ((eR x.toNat : Nat) : Int))))) rfl (.ai rfl rfl (.ai rfl rfl (.ai rfl rfl .nil))) ae rfl (.aj cJ rfl rfl rfl rfl rfl rfl (aH rfl) rfl (.nil ?_))
 refine .ret ?_
 first | (exfalso; omega) | exact ⟨_, _, rfl, rfl, (4 * x) + ((3 * x) * ((eR x.toNat : Nat) : Int)), by rw [show aN op x.toNat = 50 + (40 * ((eR x.toNat : Nat) : Int)) by (try rw [hle]); unfold aN; (repeat' split) <;> omega]; rfl, rfl⟩
 refine .seq (.sr (.vl (Y.eql rfl rfl) ?_))
 refine .an ?_
 refine .nil ?_
 refine .bD rfl (fun Cw => ?_) (fun Cw => ?_)
 refine .skip (.aV rfl (.sr ?_))
 refine .mv ?_
 refine .mv ?_
 refine .vl (Y.bJ rfl rfl om) (.vl (Y.aT rfl rfl bw) ?_)
 refine .mv ?_
 refine .vl (Y.bJ rfl rfl om) ?_
 refine .aP js (dz (a := x) (b := (30 + (20 * ((eR x.toNat : Nat) : Int)))) (c := (2 * x))) rfl (.ai rfl rfl (.ai rfl rfl (.ai rfl rfl .nil))) ae rfl (.aj cJ rfl rfl rfl rfl rfl rfl (aH rfl) rfl (.nil ?_))
 refine .ret ?_
 first | (exfalso; omega) | exact ⟨_, _, rfl, rfl, 2 * x, by rw [show aN op x.toNat = 30 + (20 * ((eR x.toNat : Nat) : Int)) by (try rw [hle]); unfold aN; (repeat' split) <;> omega]; rfl, rfl⟩
 refine .region (.vl (Y.eql rfl rfl) ?_)
 refine .an ?_
 refine .nil ?_
 refine .bD rfl (fun Cw => ?_) (fun Cw => ?_)
 refine .sr ?_
 refine .mv ?_
 refine .mv ?_
 refine .vl (Y.bJ rfl rfl om) (.vl (Y.aT rfl rfl bw) ?_)
 refine .mv ?_
 refine .vl (Y.bJ rfl rfl om) ?_
 refine .aP js (dz (a := x) (b := (30 + (20 * ((eR x.toNat : Nat) : Int)))) (c := (2 * x))) rfl (.ai rfl rfl (.ai rfl rfl (.ai rfl rfl .nil))) ae rfl (.aj cJ rfl rfl rfl rfl rfl rfl (aH rfl) rfl (.nil ?_))
 refine .ret ?_
 first | (exfalso; omega) | exact ⟨_, _, rfl, rfl, 2 * x, by rw [show aN op x.toNat = 30 + (20 * ((eR x.toNat : Nat) : Int)) by (try rw [hle]); unfold aN; (repeat' split) <;> omega]; rfl, rfl⟩
 refine .seq (.sr (.vl (Y.eql rfl rfl) ?_))
 refine .an ?_
 refine .nil ?_
 refine .bD rfl (fun Mb => ?_) (fun Mb => ?_)
 refine .skip (.aV rfl (.sr ?_))
 refine .mv ?_
 refine .mv ?_
 refine .vl (Y.bJ rfl rfl om) (.vl (Y.aT rfl rfl bw) ?_)
 refine .mv ?_
 refine .vl (Y.bJ rfl rfl om) ?_
 refine .mv ?_
 refine .vl (Y.bJ rfl rfl om) ?_
 refine .mv ?_
 refine .vl (Y.bJ rfl rfl om) (.vl (Y.aT rfl rfl bw) ?_)
 refine .aP js (dz (a := x) (b := (40 + (40 * ((eR (x + 1).toNat : Nat) : Int)))) (c := ((4 * x) + ((3 * x) * ((eR (x + 1).toNat : Nat) : Int))))) rfl (.ai rfl rfl (.ai rfl rfl (.ai rfl rfl .nil))) ae rfl (.aj cJ rfl rfl rfl rfl rfl rfl (aH rfl) rfl (.nil ?_))
 refine .ret ?_
 first | (exfalso; omega) | exact ⟨_, _, rfl, rfl, (4 * x) + ((3 * x) * ((eR (x + 1).toNat : Nat) : Int)), by rw [show aN op x.toNat = 40 + (40 * ((eR (x + 1).toNat : Nat) : Int)) by (try rw [hle]); unfold aN; (repeat' split) <;> omega]; rfl, rfl⟩
 refine .region (.vl (Y.eql rfl rfl) ?_)
 refine .an ?_
 refine .nil ?_
 refine .bD rfl (fun Mb => ?_) (fun Mb => ?_)
 refine .sr ?_
 refine .mv ?_
 refine .mv ?_
 refine .vl (Y.bJ rfl rfl om) (.vl (Y.aT rfl rfl bw) ?_)
 refine .mv ?_
 refine .vl (Y.bJ rfl rfl om) ?_
 refine .mv ?_
 refine .vl (Y.bJ rfl rfl om) ?_
 refine .mv ?_
 refine .vl (Y.bJ rfl rfl om) (.vl (Y.aT rfl rfl bw) ?_)
 refine .aP js (dz (a := x) (b := (40 + (40 * ((eR (x + 1).toNat : Nat) : Int)))) (c := ((4 * x) + ((3 * x) * ((eR (x + 1).toNat : Nat) : Int))))) rfl (.ai rfl rfl (.ai rfl rfl (.ai rfl rfl .nil))) ae rfl (.aj cJ rfl rfl rfl rfl rfl rfl (aH rfl) rfl (.nil ?_))
 refine .ret ?_
 first | (exfalso; omega) | exact ⟨_, _, rfl, rfl, (4 * x) + ((3 * x) * ((eR (x + 1).toNat : Nat) : Int)), by rw [show aN op x.toNat = 40 + (40 * ((eR (x + 1).toNat : Nat) : Int)) by (try rw [hle]); unfold aN; (repeat' split) <;> omega]; rfl, rfl⟩
 refine .seq (.sr (.vl (Y.eql rfl rfl) ?_))
 refine .an ?_
 refine .nil ?_
 refine .bD rfl (fun Ae => ?_) (fun Ae => ?_)
 refine .skip (.aV rfl (.sr ?_))
 refine .mv ?_
 refine .mv ?_
 refine .vl (Y.bJ rfl rfl om) (.vl (Y.aT rfl rfl bw) ?_)
 refine .mv ?_
 refine .vl (Y.bJ rfl rfl om) ?_
 refine .mv ?_
 refine .vl (Y.bJ rfl rfl om) ?_
 refine .mv ?_
 refine .vl (Y.bJ rfl rfl om) (.vl (Y.aT rfl rfl bw) (.vl (Y.aT rfl rfl bw) ?_))
 refine .aP js (dz (a := x) (b := (50 + (40 * ((eR (x + 1).toNat : Nat) : Int)))) (c := (((4 * x) + ((3 * x) * ((eR (x + 1).toNat : Nat) : Int))) + 2))) rfl (.ai rfl rfl (.ai rfl rfl (.ai rfl rfl .nil))) ae rfl (.aj cJ rfl rfl rfl rfl rfl rfl (aH rfl) rfl (.nil ?_))
 refine .ret ?_
 first | (exfalso; omega) | exact ⟨_, _, rfl, rfl, ((4 * x) + ((3 * x) * ((eR (x + 1).toNat : Nat) : Int))) + 2, by rw [show aN op x.toNat = 50 + (40 * ((eR (x + 1).toNat : Nat) : Int)) by (try rw [hle]); unfold aN; (repeat' split) <;> omega]; rfl, rfl⟩
 refine .region (.vl (Y.eql rfl rfl) ?_)
 refine .an ?_
 refine .nil ?_
 refine .bD rfl (fun Ae => ?_) (fun Ae => ?_)
 refine .sr ?_
 refine .mv ?_
 refine .mv ?_
 refine .vl (Y.bJ rfl rfl om) (.vl (Y.aT rfl rfl bw) ?_)
 refine .mv ?_
 refine .vl (Y.bJ rfl rfl om) ?_
 refine .mv ?_
 refine .vl (Y.bJ rfl rfl om) ?_
 refine .mv ?_
 refine .vl (Y.bJ rfl rfl om) (.vl (Y.aT rfl rfl bw) (.vl (Y.aT rfl rfl bw) ?_))
 refine .aP js (dz (a := x) (b := (50 + (40 * ((eR (x + 1).toNat : Nat) : Int)))) (c := (((4 * x) + ((3 * x) * ((eR (x + 1).toNat : Nat) : Int))) + 2))) rfl (.ai rfl rfl (.ai rfl rfl (.ai rfl rfl .nil))) ae rfl (.aj cJ rfl rfl rfl rfl rfl rfl (aH rfl) rfl (.nil ?_))
 refine .ret ?_
 first | (exfalso; omega) | exact ⟨_, _, rfl, rfl, ((4 * x) + ((3 * x) * ((eR (x + 1).toNat : Nat) : Int))) + 2, by rw [show aN op x.toNat = 50 + (40 * ((eR (x + 1).toNat : Nat) : Int)) by (try rw [hle]); unfold aN; (repeat' split) <;> omega]; rfl, rfl⟩
 refine .sr (.vl (Y.eql rfl rfl) ?_)
 refine .an ?_
 refine .nil ?_
 refine .aB rfl (fun Mc => ?_) (fun Mc => ?_)
 refine .sr ?_
 refine .mv ?_
 refine .mv ?_
 refine .vl (Y.bJ rfl rfl om) (.vl (Y.aT rfl rfl bw) ?_)
 refine .aP js (dz (a := x) (b := 50) (c := ((3 * x) + 1))) rfl (.ai rfl rfl (.ai rfl rfl (.ai rfl rfl .nil))) ae rfl (.aj cJ rfl rfl rfl rfl rfl rfl (aH rfl) rfl (.nil ?_))
 refine .ret ?_
 first | (exfalso; omega) | exact ⟨_, _, rfl, rfl, (3 * x) + 1, by rw [show aN op x.toNat = 50 by (try rw [hle]); unfold aN; (repeat' split) <;> omega]; rfl, rfl⟩
 refine .sr (.vl (Y.eql rfl rfl) ?_)
 refine .an ?_
 refine .nil ?_
 refine .aB rfl (fun vY => ?_) (fun vY => ?_)
 refine .sr ?_
 refine .mv ?_
 refine .mv ?_
 refine .vl (Y.aT rfl rfl bw) (.vl (Y.kU rfl rfl om) (.vl (Y.aT rfl rfl bw) ?_))
 refine .mv ?_
 refine .vl (Y.bJ rfl rfl om) ?_
 refine .mv ?_
 refine .vl (Y.bJ rfl rfl om) ?_
 refine .vl (Y.build mX jt rfl rfl rfl) (.aj cJ rfl rfl rfl rfl rfl rfl (aH rfl) rfl (.nil ?_))
 refine .ret ?_
 first | (exfalso; omega) | exact ⟨_, _, rfl, rfl, (6 * x) * x, by rw [show aN op x.toNat = 0 by (try rw [hle]); unfold aN; (repeat' split) <;> omega]; rfl, rfl⟩
 refine .seq (.sr (.vl (Y.eql rfl rfl) ?_))
 refine .an ?_
 refine .nil ?_
 refine .bD rfl (fun oe => ?_) (fun oe => ?_)
 refine .skip (.aV rfl (.sr ?_))
 refine .mv ?_
 refine .vl (Y.aT rfl rfl bw) (.vl (Y.iy rfl rfl bw) ?_)
 refine .mv ?_
 refine .mv ?_
 refine .vl (Y.aT rfl rfl bw) (.vl (Y.kU rfl rfl om) (.vl (Y.aT rfl rfl bw) ?_))
 refine .mv ?_
 refine .vl (Y.aT rfl rfl bw) (.vl (Y.kU rfl rfl om) (.vl (Y.aT rfl rfl bw) ?_))
 refine .mv ?_
 refine .vl (Y.bJ rfl rfl om) ?_
 refine .mv ?_
 refine .vl (Y.bJ rfl rfl om) ?_
 refine .vl (Y.build mX jt rfl rfl rfl) (.aj cJ rfl rfl rfl rfl rfl rfl (aH rfl) rfl (.nil ?_))
 refine .ret ?_
 first | (exfalso; omega) | exact ⟨_, _, rfl, rfl, (8 * x) * x, by rw [show aN op x.toNat = 0 by (try rw [hle]); unfold aN; (repeat' split) <;> omega]; rfl, rfl⟩
 refine .sr (.vl (Y.eql rfl rfl) ?_)
 refine .an ?_
 refine .nil ?_
 refine .bD rfl (fun oe => ?_) (fun oe => ?_)
 refine .skip (.aV rfl (.sr ?_))
 refine .mv ?_
 refine .vl (Y.aT rfl rfl bw) (.vl (Y.iy rfl rfl bw) ?_)
 refine .mv ?_
 refine .mv ?_
 refine .vl (Y.aT rfl rfl bw) (.vl (Y.kU rfl rfl om) (.vl (Y.aT rfl rfl bw) ?_))
 refine .mv ?_
 refine .vl (Y.aT rfl rfl bw) (.vl (Y.kU rfl rfl om) (.vl (Y.aT rfl rfl bw) ?_))
 refine .mv ?_
 refine .vl (Y.bJ rfl rfl om) ?_
 refine .mv ?_
 refine .vl (Y.bJ rfl rfl om) ?_
 refine .vl (Y.build mX jt rfl rfl rfl) (.aj cJ rfl rfl rfl rfl rfl rfl (aH rfl) rfl (.nil ?_))
 refine .ret ?_
 first | (exfalso; omega) | exact ⟨_, _, rfl, rfl, (8 * x) * x, by rw [show aN op x.toNat = 0 by (try rw [hle]); unfold aN; (repeat' split) <;> omega]; rfl, rfl⟩
 refine .sr (.vl (Y.eql rfl rfl) ?_)
 refine .an ?_
 refine .nil ?_
 refine .bD rfl (fun oe => ?_) (fun oe => ?_)
 refine .skip (.aV rfl (.sr ?_))
 refine .mv ?_
 refine .vl (Y.aT rfl rfl bw) (.vl (Y.iy rfl rfl bw) ?_)
 refine .mv ?_
 refine .mv ?_
 refine .vl (Y.aT rfl rfl bw) (.vl (Y.kU rfl rfl om) (.vl (Y.aT rfl rfl bw) ?_))
 refine .mv ?_
 refine .vl (Y.aT rfl rfl bw) (.vl (Y.kU rfl rfl om) (.vl (Y.aT rfl rfl bw) ?_))
 refine .mv ?_
 refine .vl (Y.bJ rfl rfl om) ?_
 refine .mv ?_
 refine .vl (Y.bJ rfl rfl om) ?_
 refine .vl (Y.build mX jt rfl rfl rfl) (.aj cJ rfl rfl rfl rfl rfl rfl (aH rfl) rfl (.nil ?_))
 refine .ret ?_
 first | (exfalso; omega) | exact ⟨_, _, rfl, rfl, (8 * x) * x, by rw [show aN op x.toNat = 0 by (try rw [hle]); unfold aN; (repeat' split) <;> omega]; rfl, rfl⟩
 refine .region (.vl (Y.eql rfl rfl) ?_)
 refine .an ?_
 refine .nil ?_
 refine .bD rfl (fun oe => ?_) (fun oe => ?_)
 refine .sr ?_
 refine .mv ?_
 refine .vl (Y.aT rfl rfl bw) (.vl (Y.iy rfl rfl bw) ?_)
 refine .mv ?_
 refine .mv ?_
 refine .vl (Y.aT rfl rfl bw) (.vl (Y.kU rfl rfl om) (.vl (Y.aT rfl rfl bw) ?_))
 refine .mv ?_
 refine .vl (Y.aT rfl rfl bw) (.vl (Y.kU rfl rfl om) (.vl (Y.aT rfl rfl bw) ?_))
 refine .mv ?_
 refine .vl (Y.bJ rfl rfl om) ?_
 refine .mv ?_
 refine .vl (Y.bJ rfl rfl om) ?_
 refine .vl (Y.build mX jt rfl rfl rfl) (.aj cJ rfl rfl rfl rfl rfl rfl (aH rfl) rfl (.nil ?_))
 refine .ret ?_
 first | (exfalso; omega) | exact ⟨_, _, rfl, rfl, (8 * x) * x, by rw [show aN op x.toNat = 0 by (try rw [hle]); unfold aN; (repeat' split) <;> omega]; rfl, rfl⟩
 refine .skip (.sr ?_)
 refine .mv ?_
 refine .aP js (dz (a := x) (b := 0) (c := 0)) rfl (.ai rfl rfl (.ai rfl rfl (.ai rfl rfl .nil))) ae rfl (.aj cJ rfl rfl rfl rfl rfl rfl (aH rfl) rfl (.nil ?_))
 refine .ret ?_
 first | (exfalso; omega) | exact ⟨_, _, rfl, rfl, 0, by rw [show aN op x.toNat = 0 by (try rw [hle]); unfold aN; (repeat' split) <;> omega]; rfl, rfl⟩
theorem iL {n : ab} {c : Cell} (hw : ∀ w ∈ n.aa, fj w) (jf : iA n c) (ha : c.args.length ≤ 200) : az Try.prog 42 [.agg (ab.row n), .agg (Cell.row c)] [] [] (fun r o => r = (vi (e6 n c)) ∧ o = []) := by
 refine az.of Try.func42 rfl rfl rfl (n := 43) ae (aH rfl) (.sr (.box 102 rfl rfl rfl rfl rfl ae ?_))
 refine .box 103 rfl rfl rfl rfl rfl ae ?_
 refine .an ?_
 refine .nil (.seq (.seq ?_))
 refine .sh (Sh.dc 102 rfl rfl) (.sh (Sh.dc 103 rfl rfl) (.region ?_))
 refine .fa cL ?_
 refine .ld br ?_
 refine .nil (.block (.sr ?_))
 refine .vl (Y.eql rfl rfl) ?_
 refine .an ?_
 refine .nil ?_
 refine .aB rfl (fun c8 => ?_) (fun c8 => ?_)
 refine .sr ?_
 refine .an ?_
 refine .nil (.ret ?_)
 exact .ri rfl (by unfold e6; rw [if_pos cj])
 refine .sr (.vl (Y.eql rfl rfl) ?_)
 refine .an ?_
 refine .nil ?_
 refine .aB rfl (fun ET => ?_) (fun ET => ?_)
 refine .seq ?_
 have h5 := zS jf cj; have Md := h5.1; unfold In at Md; have PR := tj hw h5.1; have IL := jf.1 (c.args.getD 0 0) (bm om); have PS := tj hw IL; have Me := IL; unfold In at Me
 refine .region ?_
 refine .fa bN ?_
 refine .ld bh ?_
 refine .fa dx ?_
 refine .ld br ?_
 refine .vl (Y.aK (m := (c.out).toNat) a7 rfl rfl om (ax (d := 0) om)) ?_
 refine .ld br ?_
 refine .an ?_
 refine .nil ?_
 refine .eP (fun (ka : Int) => ⟨[(3, .fp (Cell.row c) 0), (5, vi ka)], []⟩) (fun ka => ka = (if oB c.op then n.av c 0 else n.wd c.out)) ?_ (fun ka EU => ?_)
 refine .sr ?_
 refine .fa eg ?_
 refine .ld br ?_
 refine .aP Iy (kA (w := c.op)) rfl (.ai rfl rfl .nil) ae rfl (.nil ?_)
 refine .aB rfl (fun Af => ?_) (fun Af => ?_)
 refine .gX rfl aq (.val (Y.fieldAddr bN rfl rfl) ae (.val (Y.load bh rfl rfl rfl rfl) ae ?_))
 refine .val (Y.fieldAddr bF rfl rfl) ae (.val (Y.load bh rfl rfl rfl rfl) ae ?_)
 refine .val (Y.aK (m := 0) a7 rfl rfl b5 (ax (d := 0) om)) ae (.val (Y.load br rfl rfl rfl rfl) ae (.val (Y.aK (m := (c.args.getD 0 0).toNat) a7 rfl rfl om (ax (d := 0) om)) ae ?_))
 refine .val (Y.load br rfl rfl rfl rfl) ae (.val (Y.assign rfl rfl) ae (.nil ?_))
 exact ⟨n.aa.getD ((c.args.getD 0 0).toNat) 0, by rw [if_pos cj]; rfl, Le.mk (.c (.cons (ak rfl b5) (.nil))) (.nil)⟩
 refine .skip ?_
 exact ⟨n.aa.getD ((c.out).toNat) 0, by rw [if_neg cj]; rfl, Le.mk (.c (.cons (ak rfl b5) (.nil))) (.nil)⟩
 have h8 : 1 ≤ ka ∧ ka ≤ 64 := by (rw [EU]; split <;> assumption)
 refine .sr ?_
 refine .fa eg ?_
 refine .ld br ?_
 refine .mv ?_
 refine .kz Lx (vW (op := c.op) (x := ka) h5.2.1 h8.1 h8.2) rfl (.ai rfl rfl (.ai rfl rfl .nil)) ae ?_
 rintro _ ⟨PT, rfl, _⟩
 refine ⟨rfl, ?_⟩
 refine .vl (Y.field eH br rfl rfl rfl) ?_
 refine .an ?_
 refine .nil (.ret ?_)
 exact .ri rfl (by unfold e6; rw [if_neg om, if_pos cj, EU])
 refine .sr (.vl (Y.eql rfl rfl) ?_)
 refine .an ?_
 refine .nil ?_
 refine .aB rfl (fun ym => ?_) (fun ym => ?_)
 refine .seq ?_
 have O4 := p6 (n := ((c.args.length : Int) / 2).toNat) om
 refine .region ?_
 refine .fa bF ?_
 refine .ld bh ?_
 refine .vl (Y.len (n := c.args.length) a7 rfl dG) (.vl (Y.kU rfl rfl om) (.aP E6 (jZ (x := ((c.args.length : Int) / 2)) (om) (om)) rfl (.ai rfl rfl .nil) ae rfl (.vl (Y.bJ rfl rfl om) (.vl (Y.aT rfl rfl bw) ?_))))
 refine .an ?_
 refine .nil (.ret ?_)
 exact .ri rfl (by unfold e6; rw [if_neg om, if_neg om, if_pos cj, show ((c.args.length : Int) / 2).toNat = c.args.length / 2 by omega])
 refine .skip (.sr ?_)
 refine .an ?_
 refine .nil (.ret ?_)
 exact .ri rfl (by unfold e6; rw [if_neg om, if_neg om, if_neg om])
end Go.Proofs.Ytligpghohcfpnaa
/- Walks through the specification of arrivals. -/
namespace Go.Proofs.Ytligpghohcfpnaa
open Go Go.AW Go.Proofs
theorem u9 {c : Cell} : az Try.prog 85 [.agg (Cell.row c)] [] [] (fun r o => r = .v (.bool (decide (c.out ≥ 0 ∧ ¬ b7 c.kind))) ∧ o = []) := by
 refine az.of Try.func85 rfl rfl rfl (n := 12) ae (aH rfl) (.sr (.box 101 rfl rfl rfl rfl rfl ae ?_))
 refine .an ?_
 refine .nil (.seq (.sh (Sh.dc 101 rfl rfl) ?_))
 refine .region ?_
 refine .fa dx ?_
 refine .ld br ?_
 refine .vl (Y.geq rfl rfl) ?_
 refine .mv ?_
 refine .aE (d := 6) rfl (fun c6 => ?_) (fun c6 => ?_)
 refine .gw 6 (Y.fieldAddr cL rfl rfl) (.gw 6 (Y.load br rfl rfl rfl rfl) (.aO (d := 6) rfl ae rfl ?_))
 refine .aP Ez (lM (w := c.kind)) rfl (.ai rfl rfl .nil) ae rfl (.gw 6 (Y.not rfl) ?_)
 refine .pk ?_
 refine .an ?_
 refine .nil (.ret ?_)
 exact .rb rfl (db (by (first | omega | grind)))
 refine .gz 6 (.gz 6 (.gz 6 ?_))
 refine .gz 6 ?_
 refine .pk ?_
 refine .an ?_
 refine .nil (.ret ?_)
 exact .rb rfl (df (by (first | omega | grind)))
theorem uA {n : ab} (hM : VT n) : az Try.prog 47 [.agg (ab.row n)] [] [] (fun r o => ∃ at_ : List Int, tI n at_ ∧ r = .ep 1 (at_.map ah) ∧ o = []) := by
 refine az.of Try.func47 rfl rfl rfl (n := 113) ae (aH rfl) ?_
 have hs := hM.small; have hf := hM.formed; have xW := hM.cK; have Cz := hM.cv; have o9 := hM.ir; have rE := hM.iW; have C5 := hM.bO; have Bh := hf.cP; have Du := hf.eY; have Mi := hM.acyclic
 refine .sr (.box 101 rfl rfl rfl rfl rfl ae ?_)
 refine .an ?_
 refine .nil (.seq (.sh (Sh.dc 101 rfl rfl) ?_))
 refine .region ?_
 refine .fa bN ?_
 refine .ld bh ?_
 refine .vl (Y.len (n := n.aa.length) a7 rfl dG) (.makeSlice (n := n.aa.length) a7 e0 rfl rfl rfl rfl om om ae ?_)
 refine .dU rfl ae (.sh (Sh.ed (d := 3) (n := n.aa.length) 103 ((List.replicate n.aa.length 0).map ah) rfl kq (bu (by simp)) ae) (.nil ?_))
 refine .sr ?_
 refine .fa bN ?_
 refine .ld bh ?_
 refine .vl (Y.len (n := n.aa.length) a7 rfl dG) (.makeSlice (n := n.aa.length) pz LF rfl rfl rfl rfl om om ae ?_)
 refine .dU rfl ae (.sh (Sh.ed (d := 4) (n := n.aa.length) 104 ((List.replicate n.aa.length false).map ik) rfl kq (bu (by simp)) ae) (.nil ?_))
 refine .seq (.sr ?_)
 refine .an ?_
 refine .nil (.block ?_)
 refine .iT (fun (kt : Nat) (kb : List Int) (fP : List Bool) => ⟨[(1, .fp (ab.row n) 0), (3, .aY 103 1 0 n.aa.length), (4, .aY 104 1 0 n.aa.length), (5, vi kt)], [(103, .rows 1 (kb.map ah)), (104, .rows 1 (fP.map ik))]⟩) (fun kt kb fP => (kb.length = n.aa.length) ∧ (fP.length = n.aa.length) ∧ ((kt : Int) ≤ (n.cells.length : Int)) ∧ (RS n kt kb fP) ∧ (RB n kb fP)) (fun kt kb fP => ((n.cells.length : Int) - (kt : Int)).toNat) 0 (List.replicate n.aa.length 0) (List.replicate n.aa.length false) (⟨ou, ou, ou, RS.init, RB.init⟩) (Le.mk (.c2 (.c (.cons (ak rfl b5) (.nil)))) (.c2 (.nil))) (fun kt kb fP IY => ?_)
 obtain ⟨nc, Aj, OA, hS, hB⟩ := IY
 refine .seq (.sr ?_)
 refine .mv ?_
 refine .fa cb ?_
 refine .ld fD ?_
 refine .vl (Y.len (n := n.cells.length) dD rfl dG) (.vl (Y.lss rfl rfl) (.nil ?_))
 refine .aB rfl (fun yo => ?_) (fun yo => ?_)
 refine .skip ?_
 refine .mQ (fun (lN : List Int) (iE : List Bool) => ⟨[(1, .fp (ab.row n) 0), (3, .aY 103 1 0 n.aa.length), (4, .aY 104 1 0 n.aa.length), (5, vi kt)], [(103, .rows 1 (lN.map ah)), (104, .rows 1 (iE.map ik))]⟩) (fun lN iE => (lN.length = n.aa.length) ∧ ((iE.length = n.aa.length) ∧ (RS n (kt + 1) lN iE ∧ RB n lN iE))) ?_ (fun lN iE Mj => ?_)
 refine .block (.seq ?_)
 have h6 := vP hf (j := kt) om
 refine .region ?_
 refine .fa cb ?_
 refine .ld fD ?_
 refine .mv ?_
 refine .vl (Y.aK (m := kt) dD rfl rfl b5 (ax (d := default) om)) ?_
 refine .vl (Y.aM eb rfl rfl (aH rfl) rfl rfl) (.alloc 106 dN rfl rfl ae (.aj eI rfl rfl rfl rfl rfl rfl (aH rfl) rfl ?_))
 refine .nil (.sr (.vl (Y.aM eb rfl rfl (aH rfl) rfl rfl) ?_))
 refine .aP L0 (u9 (c := (n.cells.getD kt default))) rfl (.ai rfl rfl .nil) ae rfl (.nil ?_)
 refine .aB rfl (fun ym => ?_) (fun ym => ?_)
 refine .seq (.eK [106] [103, 104, 106] rfl (.blind 0 rfl aq (ao.move rfl rfl) ae ?_))
 refine .blind 1 rfl aq (ao.fieldAddr dx rfl rfl) ae (.load 2 rfl aq br rfl rfl rfl rfl rfl ae (.aM 3 rfl aq eh rfl rfl rfl (aH rfl) rfl rfl ae ?_))
 refine .aM 4 rfl aq eb rfl rfl rfl (aH rfl) rfl rfl ae (.yn rfl rfl (bV.cells rfl rfl rfl bV.nil) (.one 5 rfl aq ?_))
 refine .aP Ca (iL (n := n) (c := (n.cells.getD kt default)) hf.mY (hf.cells _ om) (o9 _ (getD_in om))) rfl (.ai rfl rfl (.ai rfl rfl .nil)) ae rfl ?_
 refine .nil ⟨rfl, ?_⟩
 refine .one 6 rfl aq (.vl (Y.bc (m := ((n.cells.getD kt default).out).toNat) a7 rfl rfl om om) ?_)
 refine .nil ⟨rfl, ?_⟩
 refine .one 7 rfl aq (.dB ((kb.set (((n.cells.getD kt default).out).toNat) (e6 n (n.cells.getD kt default))).map ah) e8 rfl rfl rfl rfl rfl rfl rfl (a8 (d := 0) om) (aH rfl) (cp rfl) ?_)
 refine .nil ⟨rfl, ?_⟩
 refine .done aq (.region ?_)
 refine .mv ?_
 refine .fa dx ?_
 refine .ld br ?_
 refine .vl (Y.bc (m := ((n.cells.getD kt default).out).toNat) pz rfl rfl om om) (.dB ((fP.set (((n.cells.getD kt default).out).toNat) true).map ik) JT rfl rfl rfl rfl rfl rfl rfl (a8 (d := false) om) (aH rfl) (cp rfl) (.nil ?_))
 exact ⟨kb.set (((n.cells.getD kt default).out).toNat) (e6 n (n.cells.getD kt default)), fP.set (((n.cells.getD kt default).out).toNat) true, ⟨ou, ⟨ou, ⟨hS.set hf om ym.1 ym.2, hB.src hM hS om ym.1⟩⟩⟩, Le.mk (.c4 (.nil)) (.c2 (.nil))⟩
 refine .skip ?_
 exact ⟨kb, fP, ⟨om, ⟨om, ⟨hS.skip hf om cj, hB⟩⟩⟩, Le.mk (.c4 (.nil)) (.c2 (.nil))⟩
 obtain ⟨IZ, Ja, OB⟩ := Mj
 refine .region ?_
 refine .mv ?_
 refine .vl (Y.aT rfl rfl bw) ?_
 refine .an ?_
 refine .nil ?_
 exact ⟨kt + 1, lN, iE, ⟨om, om, om, OB.1, OB.2⟩, om, Le.mk (.c2 (.c (.cons (ak rfl b5) (.nil)))) (.c2 (.nil))⟩
 refine .exit (.seq (.sr ?_))
 refine .an ?_
 refine .nil (.block ?_)
 refine .iT (fun (ll : Bool) (dm : List Int) (eB : List Bool) => ⟨[(1, .fp (ab.row n) 0), (3, .aY 103 1 0 n.aa.length), (4, .aY 104 1 0 n.aa.length), (7, .v (.bool ll))], [(103, .rows 1 (dm.map ah)), (104, .rows 1 (eB.map ik))]⟩) (fun ll dm eB => (dm.length = n.aa.length) ∧ (eB.length = n.aa.length) ∧ (RA n dm eB) ∧ (∀ i w, bA n i w → ¬ b7 (n.cell i).kind → kn eB w = true) ∧ (RB n dm eB) ∧ (ll = false → tI n dm)) (fun ll dm eB => fL eB + (if ll then 1 else 0)) true kb fP (⟨om, om, hS.ra, fun i w hd hc => (hS.iff i w hd).2 ⟨by have := hd.1; omega, hc⟩, hB, fun h => by cases h⟩) (Le.mk (.c2 (.c (.cons (aI rfl gF) (.nil)))) (.c2 (.nil))) (fun ll dm eB wa => ?_)
 obtain ⟨nc, Aj, hA, Mk, Ml, Mm⟩ := wa
 refine .seq (.sr ?_)
 refine .mv ?_
 refine .nil ?_
 refine .cond rfl (fun EY => ?_) (fun EY => ?_)
 refine .skip (.block (.sr ?_))
 refine .an ?_
 refine .nil (.sr ?_)
 refine .an ?_
 refine .nil (.block ?_)
 refine .wO (fun (fQ : Bool) (bS : Nat) (ej : List Int) (cH : List Bool) => ⟨[(1, .fp (ab.row n) 0), (3, .aY 103 1 0 n.aa.length), (4, .aY 104 1 0 n.aa.length), (7, .v (.bool fQ)), (8, vi bS)], [(103, .rows 1 (ej.map ah)), (104, .rows 1 (cH.map ik))]⟩) (fun fQ bS ej cH => (ej.length = n.aa.length) ∧ (cH.length = n.aa.length) ∧ ((bS : Int) ≤ (n.cells.length : Int)) ∧ (RR n eB bS fQ ej cH) ∧ (RB n ej cH)) (fun fQ bS ej cH => ((n.cells.length : Int) - (bS : Int)).toNat) false 0 dm eB (⟨om, om, om, RR.init hA Mk, Ml⟩) (Le.mk (.c2 (.c (.cons (aI rfl gF) (.cons (ak rfl b5) (.nil))))) (.c2 (.nil))) (fun fQ bS ej cH EZ => ?_)
 obtain ⟨nc, Aj, Mn, hR, yp⟩ := EZ
 refine .seq (.sr ?_)
 refine .mv ?_
 refine .fa cb ?_
 refine .ld fD ?_
 refine .vl (Y.len (n := n.cells.length) dD rfl dG) (.vl (Y.lss rfl rfl) (.nil ?_))
 refine .aB rfl (fun PV => ?_) (fun PV => ?_)
 refine .skip ?_
 refine .wN (fun (ln : Bool) (kd : List Int) (gC : List Bool) => ⟨[(1, .fp (ab.row n) 0), (3, .aY 103 1 0 n.aa.length), (4, .aY 104 1 0 n.aa.length), (7, .v (.bool ln)), (8, vi bS)], [(103, .rows 1 (kd.map ah)), (104, .rows 1 (gC.map ik))]⟩) (fun ln kd gC => (kd.length = n.aa.length) ∧ ((gC.length = n.aa.length) ∧ (RR n eB (bS + 1) ln kd gC ∧ RB n kd gC))) ?_ (fun ln kd gC Jb => ?_)
 refine .block (.sr ?_)
 refine .fa cb ?_
 refine .ld fD ?_
 refine .mv ?_
 refine .vl (Y.aK (m := bS) dD rfl rfl b5 (ax (d := default) om)) ?_
 refine .vl (Y.aM eb rfl rfl (aH rfl) rfl rfl) (.alloc 109 dN rfl rfl ae (.aj eI rfl rfl rfl rfl rfl rfl (aH rfl) rfl ?_))
 refine .nil (.seq (.seq ?_))
 have Jc := hf.cells bS om; have PW := o9 (n.cells.getD bS default) (getD_in om)
 refine .region ?_
 refine .fa cL ?_
 refine .ld br ?_
 refine .aP Ez (lM (w := ((n.cells.getD bS default).kind))) rfl (.ai rfl rfl .nil) ae rfl (.vl (Y.not rfl) ?_)
 refine .mv ?_
 refine .split (d := 63) rfl (fun xl => ?_) (fun xl => ?_)
 replace xl : ¬ (b7 ((n.cells.getD bS default).kind)) := by simpa using xl
 refine .gz 63 (.gz 63 (.gz 63 ?_))
 refine .gz 63 (.gz 63 ?_)
 refine .pk ?_
 refine .nil (.aV rfl (.exit ?_))
 exact ⟨fQ, ej, cH, ⟨om, ⟨om, ⟨hR.pass hf om (.inl xl), yp⟩⟩⟩, Le.mk (.c2 (.c (.cons (aI rfl gF) (.c (.nil))))) (.c2 (.nil))⟩
 replace xl : b7 ((n.cells.getD bS default).kind) := by simpa using xl
 have Mo := Jc.2.2.2 (fun e => by rw [e] at xl; revert xl; unfold b7; omega); unfold In at Mo
 refine .gw 63 (Y.move rfl rfl) (.gw 63 (Y.fieldAddr dx rfl rfl) (.gw 63 (Y.load br rfl rfl rfl rfl) ?_))
 refine .gw 63 (Y.bc (m := ((n.cells.getD bS default).out).toNat) pz rfl rfl om om) (.gw 63 (Y.load vL rfl (a8 (d := false) om) rfl rfl) ?_)
 refine .pk ?_
 refine .nil ?_
 refine .cond rfl (fun Gn => ?_) (fun Gn => ?_)
 refine .exit ?_
 exact ⟨fQ, ej, cH, ⟨om, ⟨om, ⟨hR.pass hf om (.inr (.inl Gn)), yp⟩⟩⟩, Le.mk (.c2 (.c (.cons (aI rfl gF) (.c (.nil))))) (.c2 (.nil))⟩
 refine .skip (.sr ?_)
 refine .an ?_
 refine .an ?_
 refine .nil (.seq (.sr ?_))
 refine .an ?_
 refine .nil (.block ?_)
 refine .iT (fun (ke : Int) (lO : Bool) (eL : Nat) => ⟨[(1, .fp (ab.row n) 0), (3, .aY 103 1 0 n.aa.length), (4, .aY 104 1 0 n.aa.length), (7, .v (.bool fQ)), (8, vi bS), (9, .ptr 109 0 0 0), (10, vi ke), (11, .v (.bool lO)), (12, vi eL), (64, .aY 104 1 0 n.aa.length), (65, .ptr 109 0 0 2), (66, vi ((n.cells.getD bS default).out)), (67, .ptr 104 1 (0 + (((n.cells.getD bS default).out).toNat)) 0), (68, .v (.bool (cH.getD (((n.cells.getD bS default).out).toNat) false)))], [(103, .rows 1 (ej.map ah)), (104, .rows 1 (cH.map ik)), (109, .cells [vi ((n.cells.getD bS default).kind), vi ((n.cells.getD bS default).op), vi ((n.cells.getD bS default).out), .fz 1 (((n.cells.getD bS default).args).map ah), .v (.int .u64 (((n.cells.getD bS default).num : Nat) : Int)), vi ((n.cells.getD bS default).mem)])]⟩) (fun ke lO eL => ((eL : Int) ≤ ((((n.cells.getD bS default).args).length : Nat) : Int)) ∧ (ke = gr ej ((n.cells.getD bS default).args.take eL)) ∧ (lO = Dj cH ((n.cells.getD bS default).args.take eL))) (fun ke lO eL => (((((n.cells.getD bS default).args).length : Nat) : Int) - (eL : Int)).toNat) 0 true 0 (⟨om, rfl, rfl⟩) (Le.mk (.c4 (.c2 (.cons (ak rfl b5) (.cons (aI rfl gF) (.cons (ak rfl b5) (.c4 (.c (.nil)))))))) (.c2 (.c (.nil)))) (fun ke lO eL Ak => ?_)
 obtain ⟨Jd, ht, OC⟩ := Ak
 refine .seq (.sr ?_)
 refine .mv ?_
 refine .fa bF ?_
 refine .ld bh ?_
 refine .vl (Y.len (n := ((n.cells.getD bS default).args).length) a7 rfl dG) (.vl (Y.lss rfl rfl) (.nil ?_))
 refine .aB rfl (fun uB => ?_) (fun uB => ?_)
 have Mp := Jc.1 ((n.cells.getD bS default).args.getD eL 0) (bm om); unfold In at Mp
 refine .skip (.seq (.block ?_))
 refine .eP (fun (nf : Bool) => ⟨[(1, .fp (ab.row n) 0), (3, .aY 103 1 0 n.aa.length), (4, .aY 104 1 0 n.aa.length), (7, .v (.bool fQ)), (8, vi bS), (9, .ptr 109 0 0 0), (10, vi ke), (11, .v (.bool nf)), (12, vi eL), (64, .aY 104 1 0 n.aa.length), (65, .ptr 109 0 0 2), (66, vi ((n.cells.getD bS default).out)), (67, .ptr 104 1 (0 + (((n.cells.getD bS default).out).toNat)) 0), (68, .v (.bool (cH.getD (((n.cells.getD bS default).out).toNat) false)))], [(103, .rows 1 (ej.map ah)), (104, .rows 1 (cH.map ik)), (109, .cells [vi ((n.cells.getD bS default).kind), vi ((n.cells.getD bS default).op), vi ((n.cells.getD bS default).out), .fz 1 (((n.cells.getD bS default).args).map ah), .v (.int .u64 (((n.cells.getD bS default).num : Nat) : Int)), vi ((n.cells.getD bS default).mem)])]⟩) (fun nf => nf = (lO && cH.getD (((n.cells.getD bS default).args).getD eL 0).toNat false)) ?_ (fun nf Mq => ?_)
 refine .region ?_
 refine .mv ?_
 refine .mv ?_
 refine .split (d := 78) rfl (fun C6 => ?_) (fun C6 => ?_)
 refine .gw 78 (Y.move rfl rfl) (.gw 78 (Y.fieldAddr bF rfl rfl) (.gw 78 (Y.load bh rfl rfl rfl rfl) ?_))
 refine .gw 78 (Y.move rfl rfl) (.gw 78 (Y.aK (m := eL) a7 rfl rfl b5 (ax (d := 0) om)) (.gw 78 (Y.load br rfl rfl rfl rfl) (.gw 78 (Y.bc (m := (((n.cells.getD bS default).args).getD eL 0).toNat) pz rfl rfl om om) (.gw 78 (Y.load vL rfl (a8 (d := false) om) rfl rfl) ?_))))
 refine .pk ?_
 refine .an ?_
 refine .nil ?_
 exact ⟨cH.getD ((((n.cells.getD bS default).args).getD eL 0).toNat) false, by rw [C6]; rfl, Le.mk (.c4 (.c2 (.c (.cons (aI rfl gF) (.c4 (.c2 (.nil))))))) (.c2 (.c (.nil)))⟩
 refine .gz 78 (.gz 78 (.gz 78 ?_))
 refine .gz 78 (.gz 78 (.gz 78 ?_))
 refine .gz 78 (.gz 78 ?_)
 refine .pk ?_
 refine .an ?_
 refine .nil ?_
 exact ⟨false, by rw [C6]; rfl, Le.mk (.c4 (.c2 (.c (.cons (aI rfl gF) (.c4 (.c2 (.nil))))))) (.c2 (.c (.nil)))⟩
 refine .region ?_
 refine .mv ?_
 refine .mv ?_
 refine .fa bF ?_
 refine .ld bh ?_
 refine .mv ?_
 refine .vl (Y.aK (m := eL) a7 rfl rfl b5 (ax (d := 0) om)) ?_
 refine .ld br ?_
 refine .vl (Y.bc (m := (((n.cells.getD bS default).args).getD eL 0).toNat) a7 rfl rfl om om) (.vl (Y.load br rfl (a8 (d := 0) om) rfl rfl) (.vl (Y.max rfl rfl rfl) ?_))
 refine .an ?_
 refine .nil (.region ?_)
 refine .mv ?_
 refine .vl (Y.aT rfl rfl bw) ?_
 refine .an ?_
 refine .nil ?_
 exact ⟨if (ej.getD ((((n.cells.getD bS default).args).getD eL 0).toNat) 0) > ke then (ej.getD ((((n.cells.getD bS default).args).getD eL 0).toNat) 0) else ke, nf, eL + 1, ⟨om, ux ht om, by rw [zX om, ← OC, Mq]; rfl⟩, om, Le.mk (.c4 (.c2 (.cons (ak rfl b5) (.cons (aI rfl gF) (.cons (ak rfl b5) (.c4 (.c (.nil)))))))) (.c2 (.c (.nil)))⟩
 refine .exit (.seq ?_)
 have Kb : ke = gr ej (n.cells.getD bS default).args := by rw [ht, show eL = (n.cells.getD bS default).args.length by omega, List.take_length]
 have jf : lO = Dj cH (n.cells.getD bS default).args := by rw [OC, show eL = (n.cells.getD bS default).args.length by omega, List.take_length]
 have RC := yp.gr Aj (n.cells.getD bS default).args; have PX := hM.e6 (i := bS) om
 refine .region ?_
 refine .mv ?_
 refine .nil ?_
 refine .cond rfl (fun mz => ?_) (fun mz => ?_)
 refine .seq (.eK [109] [103, 104, 109] rfl (.blind 0 rfl aq (ao.move rfl rfl) ae ?_))
 refine .blind 1 rfl aq (ao.fieldAddr dx rfl rfl) ae (.load 2 rfl aq br rfl rfl rfl rfl rfl ae (.blind 3 rfl aq (ao.move rfl rfl) ae ?_))
 refine .aM 4 rfl aq eh rfl rfl rfl (aH rfl) rfl rfl ae (.aM 5 rfl aq eb rfl rfl rfl (aH rfl) rfl rfl ae (.yn rfl rfl (bV.cells rfl rfl rfl bV.nil) ?_))
 refine .one 6 rfl aq (.aP Ca (iL (n := n) (c := (n.cells.getD bS default)) hf.mY (hf.cells _ om) (o9 _ (getD_in om))) rfl (.ai rfl rfl (.ai rfl rfl .nil)) ae rfl ?_)
 refine .nil ⟨rfl, ?_⟩
 refine .one 7 rfl aq (.vl (Y.aT rfl rfl bw) ?_)
 refine .nil ⟨rfl, ?_⟩
 refine .one 8 rfl aq (.vl (Y.bc (m := ((n.cells.getD bS default).out).toNat) a7 rfl rfl om om) ?_)
 refine .nil ⟨rfl, ?_⟩
 refine .one 9 rfl aq (.dB ((ej.set (((n.cells.getD bS default).out).toNat) (ke + (e6 n (n.cells.getD bS default)))).map ah) e8 rfl rfl rfl rfl rfl rfl rfl (a8 (d := 0) om) (aH rfl) (cp rfl) ?_)
 refine .nil ⟨rfl, ?_⟩
 refine .done aq (.sr ?_)
 refine .mv ?_
 refine .fa dx ?_
 refine .ld br ?_
 refine .vl (Y.bc (m := ((n.cells.getD bS default).out).toNat) pz rfl rfl om om) (.dB ((cH.set (((n.cells.getD bS default).out).toNat) true).map ik) JT rfl rfl rfl rfl rfl rfl rfl (a8 (d := false) om) (aH rfl) (cp rfl) ?_)
 refine .nil (.region ?_)
 refine .an ?_
 refine .nil ?_
 exact ⟨true, ej.set (((n.cells.getD bS default).out).toNat) (ke + (e6 n (n.cells.getD bS default))), cH.set (((n.cells.getD bS default).out).toNat) true, ⟨ou, ⟨ou, ⟨hR.mark hf om xl Gn (Cs (by rw [← jf]; exact mz)) Kb, yp.set om Gn om om⟩⟩⟩, Le.mk (.c2 (.c (.cons (aI rfl gF) (.c (.nil))))) (.c2 (.nil))⟩
 refine .skip ?_
 exact ⟨fQ, ej, cH, ⟨om, ⟨om, ⟨hR.pass hf om (.inr (.inr (EJ (by rw [← jf]; exact mz)))), yp⟩⟩⟩, Le.mk (.c2 (.c (.cons (aI rfl gF) (.c (.nil))))) (.c2 (.nil))⟩
 obtain ⟨Gp, Gq, C7⟩ := Jb
 refine .region ?_
 refine .mv ?_
 refine .vl (Y.aT rfl rfl bw) ?_
 refine .an ?_
 refine .nil ?_
 exact ⟨ln, bS + 1, kd, gC, ⟨om, om, om, C7.1, C7.2⟩, om, Le.mk (.c2 (.c (.cons (aI rfl gF) (.cons (ak rfl b5) (.nil))))) (.c2 (.nil))⟩
 refine .exit ?_
 exact ⟨fQ, ej, cH, ⟨om, om, hR.ra, hR.src, yp, fun hm => by subst hm; exact hR.done hf Mi om⟩, by have h := hR.AZ; rw [if_pos EY]; omega, Le.mk (.c2 (.c (.cons (aI rfl gF) (.nil)))) (.c2 (.nil))⟩
 refine .exit (.sr ?_)
 refine .mv ?_
 refine .an ?_
 refine .sh (Sh.ji (d := 2) (o := 103) rfl rfl (bu om) ae) ?_
 refine .nil (.ret ?_)
 exact ⟨_, _, rfl, rfl, dm, Mm (by simpa using EY), rfl, rfl⟩
end Go.Proofs.Ytligpghohcfpnaa
/- Walks through the specification of ends. -/
namespace Go.Proofs.Ytligpghohcfpnaa
open Go Go.AW Go.Proofs
theorem hZ {l : List Int} {m : Nat} {w a : Int} (hm : m = l.length) (_ : l.length ≤ 1000) (hw : w < 0 ∨ In w l.length) : az Try.prog 113 [.aY 0 1 0 m, vi w, vi a] [.rows 1 (l.map ah)] [0] (fun r o => r = .tup [] ∧ o = [.rows 1 ((ks l w a).map ah)]) := by
 refine az.of Try.func113 rfl rfl rfl (n := 17) ae (aH rfl) ?_
 unfold In at hw
 refine .sr ?_
 refine .mv ?_
 refine .vl (Y.geq rfl rfl) (.nil ?_)
 refine .aB rfl (fun c7 => ?_) (fun c7 => ?_)
 refine .region ?_
 refine .mv ?_
 refine .mv ?_
 refine .mv ?_
 refine .mv ?_
 refine .vl (Y.bc (m := (w).toNat) a7 rfl rfl om om) (.vl (Y.load br rfl (a8 (d := 0) om) rfl rfl) ?_)
 refine .mv ?_
 refine .vl (Y.max rfl rfl rfl) (.vl (Y.bc (m := (w).toNat) a7 rfl rfl om om) (.dB ((l.set ((w).toNat) (if a > (l.getD ((w).toNat) 0) then a else (l.getD ((w).toNat) 0))).map ah) e8 rfl rfl rfl rfl rfl rfl rfl (a8 (d := 0) om) (aH rfl) (cp rfl) (.nil ?_)))
 exact ⟨_, _, rfl, rfl, rfl, by rw [show ks l w a = l.set ((w).toNat) (if a > (l.getD ((w).toNat) 0) then a else (l.getD ((w).toNat) 0)) by (unfold ks; rw [if_pos cj]; congr 1; split <;> omega)]⟩
 refine .skip ?_
 exact ⟨_, _, rfl, rfl, rfl, by rw [show ks l w a = l by (unfold ks; rw [if_neg cj])]⟩
theorem tw {n : ab} (hM : VT n) : az Try.prog 84 [.agg (ab.row n)] [] [] (fun r o => ∃ en : List Int, EN n en ∧ r = .ep 1 (en.map ah) ∧ o = []) := by
 refine az.of Try.func84 rfl rfl rfl (n := 117) ae (aH rfl) ?_
 have hs := hM.small; have hf := hM.formed; have xW := hM.cK; have Cz := hM.cv; have o9 := hM.ir; have rE := hM.iW; have C5 := hM.bO; have Bh := hf.cP; have Du := hf.eY; have Al := hf.freeze; have PY := hf.done; have PZ := hf.bI
 refine .sr (.box 101 rfl rfl rfl rfl rfl ae ?_)
 refine .an ?_
 refine .nil (.seq (.sh (Sh.dc 101 rfl rfl) ?_))
 refine .region ?_
 refine .fa bN ?_
 refine .ld bh ?_
 refine .vl (Y.len (n := n.aa.length) a7 rfl dG) (.makeSlice (n := n.aa.length) a7 e0 rfl rfl rfl rfl l5 l5 ae ?_)
 refine .dU rfl ae (.sh (Sh.ed (d := 3) (n := n.aa.length) 103 ((List.replicate n.aa.length 0).map ah) rfl kq (bu (by simp)) ae) (.nil ?_))
 refine .seq (.sr ?_)
 refine .an ?_
 refine .nil (.block ?_)
 refine .dT (fun (ry : Nat) (cM : List Int) => ⟨[(1, .fp (ab.row n) 0), (3, .aY 103 1 0 n.aa.length), (4, vi ry)], [(103, .rows 1 (cM.map ah))]⟩) (fun ry cM => (cM.length = n.aa.length) ∧ ((ry : Int) ≤ (n.aa.length : Int)) ∧ (EI n ry cM)) (fun ry cM => ((n.aa.length : Int) - (ry : Int)).toNat) 0 (List.replicate n.aa.length 0) (⟨l5, l5, EI.init⟩) (Le.mk (.c2 (.cons (ak rfl b5) (.nil))) (.c (.nil))) (fun ry cM tq => ?_)
 obtain ⟨nc, Gs, hI⟩ := tq
 refine .seq (.sr ?_)
 refine .mv ?_
 refine .mv ?_
 refine .vl (Y.len (n := n.aa.length) a7 rfl rfl) (.vl (Y.lss rfl rfl) (.nil ?_))
 refine .aB rfl (fun Fa => ?_) (fun Fa => ?_)
 refine .skip (.seq (.block ?_))
 refine .region ?_
 refine .mv ?_
 refine .mv ?_
 refine .vl (Y.bc (m := ry) a7 rfl rfl b5 l5) (.dB ((cM.set ry (-1)).map ah) e8 rfl rfl rfl rfl rfl rfl rfl (a8 (d := 0) l5) (aH rfl) (cp rfl) ?_)
 refine .nil (.region ?_)
 refine .mv ?_
 refine .vl (Y.aT rfl rfl l5) ?_
 refine .an ?_
 refine .nil ?_
 exact ⟨ry + 1, cM.set ry (-1), ⟨l5, l5, hI.step om⟩, om, Le.mk (.c2 (.cons (ak rfl b5) (.nil))) (.c (.nil))⟩
 refine .exit (.seq ?_)
 have Qa := hI.done om
 refine .region ?_
 refine .mv ?_
 refine .fa qU ?_
 refine .ld br ?_
 refine .mL [103] [] oK (hZ (l := cM) (w := n.done) (a := 0) tJ tJ (by unfold In at *; first | omega | (simp only [fu]; omega))) rfl (.named rfl rfl (.ai rfl rfl (.ai rfl rfl .nil))) ⟨rfl, trivial⟩ rfl ae (fun _ h => by cases h) (fun _ h => by cases h) ae ae ?_
 rintro r bg ⟨rfl, rfl⟩ _
 refine ⟨⟨rfl, (by intro ob cA; simp only [List.mem_cons, List.not_mem_nil, or_false] at cA; rcases cA with rfl; rfl), .inl rfl⟩, ?_⟩
 refine .nil (.seq (.sr ?_))
 refine .an ?_
 refine .nil (.block ?_)
 refine .dT (fun (dE : Nat) (lP : List Int) => ⟨[(1, .fp (ab.row n) 0), (3, .aY 103 1 0 n.aa.length), (5, vi dE)], [(103, .rows 1 (lP.map ah))]⟩) (fun dE lP => (lP.length = n.aa.length) ∧ ((dE : Int) ≤ (n.bI.length : Int)) ∧ (EK n (tl n dE) lP)) (fun dE lP => ((n.bI.length : Int) - (dE : Int)).toNat) 0 (ks cM n.done 0) (⟨l5, l5, (Qa.step (.inr PY) om).cast xY.symm⟩) (Le.mk (.c2 (.cons (ak rfl b5) (.nil))) (.c (.nil))) (fun dE lP Mr => ?_)
 obtain ⟨nc, Qb, OD⟩ := Mr
 refine .seq (.sr ?_)
 refine .mv ?_
 refine .fa jy ?_
 refine .ld bh ?_
 refine .vl (Y.len (n := n.bI.length) a7 rfl dG) (.vl (Y.lss rfl rfl) (.nil ?_))
 refine .aB rfl (fun Qc => ?_) (fun Qc => ?_)
 refine .skip (.seq (.block ?_))
 have LY := PZ (n.bI.getD dE 0) (bm om)
 refine .region ?_
 refine .mv ?_
 refine .fa jy ?_
 refine .ld bh ?_
 refine .mv ?_
 refine .vl (Y.aK (m := dE) a7 rfl rfl b5 (ax (d := 0) l5)) ?_
 refine .ld br ?_
 refine .mL [103] [] oK (hZ (l := lP) (w := n.bI.getD dE 0) (a := 0) tJ tJ (by unfold In at *; first | omega | (simp only [fu]; omega))) rfl (.named rfl rfl (.ai rfl rfl (.ai rfl rfl .nil))) ⟨rfl, trivial⟩ rfl ae (fun _ h => by cases h) (fun _ h => by cases h) ae ae ?_
 rintro r bg ⟨rfl, rfl⟩ _
 refine ⟨⟨rfl, (by intro ob cA; simp only [List.mem_cons, List.not_mem_nil, or_false] at cA; rcases cA with rfl; rfl), .inl rfl⟩, ?_⟩
 refine .nil (.region ?_)
 refine .mv ?_
 refine .vl (Y.aT rfl rfl l5) ?_
 refine .an ?_
 refine .nil ?_
 exact ⟨dE + 1, ks lP (n.bI.getD dE 0) 0, ⟨l5, l5, (OD.step (.inr LY) om).cast (xX om).symm⟩, om, Le.mk (.c2 (.cons (ak rfl b5) (.nil))) (.c (.nil))⟩
 refine .exit (.seq (.sr ?_))
 refine .an ?_
 refine .nil (.block ?_)
 refine .dT (fun (bW : Nat) (iM : List Int) => ⟨[(1, .fp (ab.row n) 0), (3, .aY 103 1 0 n.aa.length), (6, vi bW)], [(103, .rows 1 (iM.map ah))]⟩) (fun bW iM => (iM.length = n.aa.length) ∧ ((bW : Int) ≤ (n.aX.length : Int)) ∧ (EK n (tm n bW) iM)) (fun bW iM => ((n.aX.length : Int) - (bW : Int)).toNat) 0 lP (⟨l5, l5, OD.cast (ya om)⟩) (Le.mk (.c2 (.cons (ak rfl b5) (.nil))) (.c (.nil))) (fun bW iM Fb => ?_)
 obtain ⟨nc, Ms, Je⟩ := Fb
 refine .seq (.sr ?_)
 refine .mv ?_
 refine .fa jQ ?_
 refine .ld bh ?_
 refine .vl (Y.len (n := n.aX.length) a7 rfl dG) (.vl (Y.lss rfl rfl) (.nil ?_))
 refine .aB rfl (fun Qd => ?_) (fun Qd => ?_)
 refine .skip (.seq (.block ?_))
 refine .seq ?_
 have Qe := EL hf (k := bW) om; have Mt := EM hf (k := bW) om
 refine .region ?_
 refine .mv ?_
 refine .fa jQ ?_
 refine .ld bh ?_
 refine .mv ?_
 refine .vl (Y.aK (m := bW) a7 rfl rfl b5 (ax (d := 0) l5)) ?_
 refine .ld br ?_
 refine .mL [103] [] oK (hZ (l := iM) (w := n.aX.getD bW 0) (a := 0) tJ tJ (by unfold In at *; first | omega | (simp only [fu]; omega))) rfl (.named rfl rfl (.ai rfl rfl (.ai rfl rfl .nil))) ⟨rfl, trivial⟩ rfl ae (fun _ h => by cases h) (fun _ h => by cases h) ae ae ?_
 rintro r bg ⟨rfl, rfl⟩ _
 refine ⟨⟨rfl, (by intro ob cA; simp only [List.mem_cons, List.not_mem_nil, or_false] at cA; rcases cA with rfl; rfl), .inl rfl⟩, ?_⟩
 refine .nil (.region ?_)
 refine .mv ?_
 refine .fa kH ?_
 refine .ld bh ?_
 refine .mv ?_
 refine .vl (Y.aK (m := bW) a7 rfl rfl b5 (ax (d := 0) l5)) ?_
 refine .ld br ?_
 refine .mL [103] [] oK (hZ (l := ks iM (n.aX.getD bW 0) 0) (w := n.data.getD bW 0) (a := 0) tJ tJ (by unfold In at *; first | omega | (simp only [fu]; omega))) rfl (.named rfl rfl (.ai rfl rfl (.ai rfl rfl .nil))) ⟨rfl, trivial⟩ rfl ae (fun _ h => by cases h) (fun _ h => by cases h) ae ae ?_
 rintro r bg ⟨rfl, rfl⟩ _
 refine ⟨⟨rfl, (by intro ob cA; simp only [List.mem_cons, List.not_mem_nil, or_false] at cA; rcases cA with rfl; rfl), .inl rfl⟩, ?_⟩
 refine .nil (.region ?_)
 refine .mv ?_
 refine .vl (Y.aT rfl rfl l5) ?_
 refine .an ?_
 refine .nil ?_
 exact ⟨bW + 1, ks (ks iM (n.aX.getD bW 0) 0) (n.data.getD bW 0) 0, ⟨l5, l5, ((Je.step (.inr Qe) om).step Mt om).cast xZ.symm⟩, om, Le.mk (.c2 (.cons (ak rfl b5) (.nil))) (.c (.nil))⟩
 refine .exit (.seq (.sr ?_))
 refine .an ?_
 refine .nil (.block ?_)
 refine .dT (fun (cO : Nat) (fB : List Int) => ⟨[(1, .fp (ab.row n) 0), (3, .aY 103 1 0 n.aa.length), (7, vi cO)], [(103, .rows 1 (fB.map ah))]⟩) (fun cO fB => (fB.length = n.aa.length) ∧ ((cO : Int) ≤ (n.cells.length : Int)) ∧ (EK n (lL n cO) fB)) (fun cO fB => ((n.cells.length : Int) - (cO : Int)).toNat) 0 iM (⟨l5, l5, Je.cast (yb om)⟩) (Le.mk (.c2 (.cons (ak rfl b5) (.nil))) (.c (.nil))) (fun cO fB Am => ?_)
 obtain ⟨nc, Jf, uC⟩ := Am
 refine .seq (.sr ?_)
 refine .mv ?_
 refine .fa cb ?_
 refine .ld fD ?_
 refine .vl (Y.len (n := n.cells.length) dD rfl dG) (.vl (Y.lss rfl rfl) (.nil ?_))
 refine .aB rfl (fun C8 => ?_) (fun C8 => ?_)
 refine .skip ?_
 refine .eP (fun (lp : List Int) => ⟨[(1, .fp (ab.row n) 0), (3, .aY 103 1 0 n.aa.length), (7, vi cO)], [(103, .rows 1 (lp.map ah))]⟩) (fun lp => (lp.length = n.aa.length) ∧ (EK n (lL n (cO + 1)) lp)) ?_ (fun lp An => ?_)
 refine .block (.sr ?_)
 refine .fa cb ?_
 refine .ld fD ?_
 refine .mv ?_
 refine .vl (Y.aK (m := cO) dD rfl rfl b5 (ax (d := default) l5)) ?_
 refine .vl (Y.aM eb rfl rfl (aH rfl) rfl rfl) (.alloc 108 dN rfl rfl ae (.aj eI rfl rfl rfl rfl rfl rfl (aH rfl) rfl ?_))
 refine .nil (.seq ?_)
 have Gt := hf.cells cO om; have Mu := o9 (n.cells.getD cO default) (getD_in om)
 refine .region ?_
 refine .fa cL ?_
 refine .ld br ?_
 refine .nil (.block (.sr ?_))
 refine .vl (Y.eql rfl rfl) ?_
 refine .an ?_
 refine .nil ?_
 refine .aB rfl (fun yq => ?_) (fun yq => ?_)
 refine .seq ?_
 have Mp := xf hf (i := cO) om cj; have Fc := Gt.1 ((n.cells.getD cO default).args.getD 0 0) (bm om); have Fe := Gt.1 ((n.cells.getD cO default).args.getD 1 0) (bm om)
 refine .region ?_
 refine .mv ?_
 refine .fa bF ?_
 refine .ld bh ?_
 refine .vl (Y.aK (m := 0) a7 rfl rfl b5 (ax (d := 0) l5)) ?_
 refine .ld br ?_
 refine .mL [103] [] oK (hZ (l := fB) (w := ((n.cells.getD cO default).args).getD 0 0) (a := 100) tJ tJ (by unfold In at *; first | omega | (simp only [fu]; omega))) rfl (.named rfl rfl (.ai rfl rfl (.ai rfl rfl .nil))) ⟨rfl, trivial⟩ rfl ae (fun _ h => by cases h) (fun _ h => by cases h) ae ae ?_
 rintro r bg ⟨rfl, rfl⟩ _
 refine ⟨⟨rfl, (by intro ob cA; simp only [List.mem_cons, List.not_mem_nil, or_false] at cA; rcases cA with rfl; rfl), .inl rfl⟩, ?_⟩
 refine .nil (.sr ?_)
 refine .mv ?_
 refine .fa bF ?_
 refine .ld bh ?_
 refine .vl (Y.aK (m := 1) a7 rfl rfl b5 (ax (d := 0) l5)) ?_
 refine .ld br ?_
 refine .mL [103] [] oK (hZ (l := ks fB (((n.cells.getD cO default).args).getD 0 0) 100) (w := ((n.cells.getD cO default).args).getD 1 0) (a := 60) tJ tJ (by unfold In at *; first | omega | (simp only [fu]; omega))) rfl (.named rfl rfl (.ai rfl rfl (.ai rfl rfl .nil))) ⟨rfl, trivial⟩ rfl ae (fun _ h => by cases h) (fun _ h => by cases h) ae ae ?_
 rintro r bg ⟨rfl, rfl⟩ _
 refine ⟨⟨rfl, (by intro ob cA; simp only [List.mem_cons, List.not_mem_nil, or_false] at cA; rcases cA with rfl; rfl), .inl rfl⟩, ?_⟩
 refine .nil (.region ?_)
 refine .mv ?_
 refine .fa nY ?_
 refine .ld br ?_
 refine .mL [103] [] oK (hZ (l := ks (ks fB (((n.cells.getD cO default).args).getD 0 0) 100) (((n.cells.getD cO default).args).getD 1 0) 60) (w := n.freeze) (a := 100) tJ tJ (by unfold In at *; first | omega | (simp only [fu]; omega))) rfl (.named rfl rfl (.ai rfl rfl (.ai rfl rfl .nil))) ⟨rfl, trivial⟩ rfl ae (fun _ h => by cases h) (fun _ h => by cases h) ae ae ?_
 rintro r bg ⟨rfl, rfl⟩ _
 refine ⟨⟨rfl, (by intro ob cA; simp only [List.mem_cons, List.not_mem_nil, or_false] at cA; rcases cA with rfl; rfl), .inl rfl⟩, ?_⟩
 refine .nil ?_
 exact ⟨ks (ks (ks fB (((n.cells.getD cO default).args).getD 0 0) 100) (((n.cells.getD cO default).args).getD 1 0) 60) n.freeze 100, ⟨l5, by first | exact (((uC.step (.inr Fc) om).step (.inr Fe) om).step (.inr Al) om).cast (rp om cj) | exact (C9.step (.inr Al) om).cast (p9 om (by simp_all) om) | exact uC.cast (tp om cj (by simp_all))⟩, Le.mk (.c2 (.c (.nil))) (.c (.nil))⟩
 refine .eP (fun (qy : Bool) => ⟨[(1, .fp (ab.row n) 0), (3, .aY 103 1 0 n.aa.length), (7, vi cO), (8, .ptr 108 0 0 0), (94, .v (.bool qy))], [(103, .rows 1 (fB.map ah)), (108, .cells [vi ((n.cells.getD cO default).kind), vi ((n.cells.getD cO default).op), vi ((n.cells.getD cO default).out), .fz 1 (((n.cells.getD cO default).args).map ah), .v (.int .u64 (((n.cells.getD cO default).num : Nat) : Int)), vi ((n.cells.getD cO default).mem)])]⟩) (fun qy => qy = decide (Port (n.cells.getD cO default).kind)) ?_ (fun qy Qf => ?_)
 refine .sr (.vl (Y.eql rfl rfl) ?_)
 refine .an ?_
 refine .nil ?_
 refine .bD rfl (fun m0 => ?_) (fun m0 => ?_)
 refine .skip ?_
 exact ⟨true, by first | (symm; rw [decide_eq_true_iff]; unfold Port; omega) | (rw [decide_eq_decide]; unfold Port; omega), Le.mk (.c4 (.cons (aI rfl gF) (.nil))) (.c2 (.nil))⟩
 refine .sr (.vl (Y.eql rfl rfl) ?_)
 refine .an ?_
 refine .nil ?_
 refine .bD rfl (fun m0 => ?_) (fun m0 => ?_)
 refine .skip ?_
 exact ⟨true, by first | (symm; rw [decide_eq_true_iff]; unfold Port; omega) | (rw [decide_eq_decide]; unfold Port; omega), Le.mk (.c4 (.cons (aI rfl gF) (.nil))) (.c2 (.nil))⟩
 refine .region (.vl (Y.eql rfl rfl) ?_)
 refine .an ?_
 refine .nil ?_
 exact ⟨decide (((n.cells.getD cO default).kind) = 7), by first | (symm; rw [decide_eq_true_iff]; unfold Port; omega) | (rw [decide_eq_decide]; unfold Port; omega), Le.mk (.c4 (.cons (aI rfl gF) (.nil))) (.c2 (.nil))⟩
 refine .wM rfl (fun m0 => ?_) (fun m0 => ?_)
 refine .seq (.sr ?_)
 refine .an ?_
 refine .nil (.block ?_)
 refine .dT (fun (mj : Nat) (iN : List Int) => ⟨[(1, .fp (ab.row n) 0), (3, .aY 103 1 0 n.aa.length), (7, vi cO), (8, .ptr 108 0 0 0), (9, vi mj)], [(103, .rows 1 (iN.map ah)), (108, .cells [vi ((n.cells.getD cO default).kind), vi ((n.cells.getD cO default).op), vi ((n.cells.getD cO default).out), .fz 1 (((n.cells.getD cO default).args).map ah), .v (.int .u64 (((n.cells.getD cO default).num : Nat) : Int)), vi ((n.cells.getD cO default).mem)])]⟩) (fun mj iN => (iN.length = n.aa.length) ∧ ((mj : Int) ≤ ((((n.cells.getD cO default).args).length : Nat) : Int)) ∧ (EK n (lL n cO ++ ((n.cells.getD cO default).args.take mj).map (fun w => (w, (20 : Int)))) iN)) (fun mj iN => (((((n.cells.getD cO default).args).length : Nat) : Int) - (mj : Int)).toNat) 0 fB (⟨l5, l5, uC.cast (by simp)⟩) (Le.mk (.c4 (.cons (ak rfl b5) (.nil))) (.c2 (.nil))) (fun mj iN Ff => ?_)
 obtain ⟨nc, Mv, C9⟩ := Ff
 refine .seq (.sr ?_)
 refine .mv ?_
 refine .fa bF ?_
 refine .ld bh ?_
 refine .vl (Y.len (n := ((n.cells.getD cO default).args).length) a7 rfl dG) (.vl (Y.lss rfl rfl) (.nil ?_))
 refine .aB rfl (fun Ae => ?_) (fun Ae => ?_)
 refine .skip (.seq (.block ?_))
 have Qg := Gt.1 ((n.cells.getD cO default).args.getD mj 0) (bm om)
 refine .region ?_
 refine .mv ?_
 refine .fa bF ?_
 refine .ld bh ?_
 refine .mv ?_
 refine .vl (Y.aK (m := mj) a7 rfl rfl b5 (ax (d := 0) l5)) ?_
 refine .ld br ?_
 refine .mL [103] [] oK (hZ (l := iN) (w := ((n.cells.getD cO default).args).getD mj 0) (a := 20) tJ tJ (by unfold In at *; first | omega | (simp only [fu]; omega))) rfl (.named rfl rfl (.ai rfl rfl (.ai rfl rfl .nil))) ⟨rfl, trivial⟩ rfl ae (fun _ h => by cases h) (fun _ h => by cases h) ae ae ?_
 rintro r bg ⟨rfl, rfl⟩ _
 refine ⟨⟨rfl, (by intro ob cA; simp only [List.mem_cons, List.not_mem_nil, or_false] at cA; rcases cA with rfl; rfl), .inl rfl⟩, ?_⟩
 refine .nil (.region ?_)
 refine .mv ?_
 refine .vl (Y.aT rfl rfl l5) ?_
 refine .an ?_
 refine .nil ?_
 exact ⟨mj + 1, ks iN (((n.cells.getD cO default).args).getD mj 0) 20, ⟨l5, l5, (C9.step (.inr Qg) om).cast (zY om)⟩, om, Le.mk (.c4 (.cons (ak rfl b5) (.nil))) (.c2 (.nil))⟩
 refine .exit (.region ?_)
 refine .mv ?_
 refine .fa nY ?_
 refine .ld br ?_
 refine .mL [103] [] oK (hZ (l := iN) (w := n.freeze) (a := 20) tJ tJ (by unfold In at *; first | omega | (simp only [fu]; omega))) rfl (.named rfl rfl (.ai rfl rfl (.ai rfl rfl .nil))) ⟨rfl, trivial⟩ rfl ae (fun _ h => by cases h) (fun _ h => by cases h) ae ae ?_
 rintro r bg ⟨rfl, rfl⟩ _
 refine ⟨⟨rfl, (by intro ob cA; simp only [List.mem_cons, List.not_mem_nil, or_false] at cA; rcases cA with rfl; rfl), .inl rfl⟩, ?_⟩
 refine .nil ?_
 exact ⟨ks iN n.freeze 20, ⟨l5, by first | exact (((uC.step (.inr Fc) om).step (.inr Fe) om).step (.inr Al) om).cast (rp om cj) | exact (C9.step (.inr Al) om).cast (p9 om (by simp_all) om) | exact uC.cast (tp om cj (by simp_all))⟩, Le.mk (.c2 (.c (.nil))) (.c (.nil))⟩
 refine .skip ?_
 exact ⟨fB, ⟨l5, by first | exact (((uC.step (.inr Fc) om).step (.inr Fe) om).step (.inr Al) om).cast (rp om cj) | exact (C9.step (.inr Al) om).cast (p9 om (by simp_all) om) | exact uC.cast (tp om cj (by simp_all))⟩, Le.mk (.c2 (.c (.nil))) (.c (.nil))⟩
 obtain ⟨Gu, Fg⟩ := An
 refine .region ?_
 refine .mv ?_
 refine .vl (Y.aT rfl rfl l5) ?_
 refine .an ?_
 refine .nil ?_
 exact ⟨cO + 1, lp, ⟨l5, l5, Fg⟩, om, Le.mk (.c2 (.cons (ak rfl b5) (.nil))) (.c (.nil))⟩
 refine .exit (.sr ?_)
 refine .mv ?_
 refine .an ?_
 refine .sh (Sh.ji (d := 2) (o := 103) rfl rfl (bu l5) ae) ?_
 refine .nil (.ret ?_)
 exact ⟨_, _, rfl, rfl, fB, (uC.cast (by rw [show cO = n.cells.length by omega])).en hf om, rfl, rfl⟩
end Go.Proofs.Ytligpghohcfpnaa
/- Walks through slices.Concat. -/
namespace Go.Proofs.Ytligpghohcfpnaa
open Go Go.AW Go.Proofs
theorem yr {n : Nat} (hn : n ≤ 35184372088832) : az Try.prog 108 [vn, vi n] [] [] (fun r o => r = .ep 1 (([] : List Int).map ah) ∧ o = []) := by
 refine az.of Try.func108 rfl rfl rfl (n := 27) ae (aH rfl) (.sr ?_)
 refine .an ?_
 refine .nil (.seq (.sr ?_))
 refine .mv ?_
 refine .vl (Y.lss rfl rfl) (.nil ?_)
 refine .aB rfl (fun c6 => ?_) (fun c6 => ?_)
 exfalso; omega
 refine .skip (.seq (.sr ?_))
 refine .mv ?_
 refine .mv ?_
 refine .vl (Y.zu a7 rfl) ?_
 refine .mv ?_
 refine .vl (Y.len (n := 0) a7 rfl rfl) (.vl (Y.iy rfl rfl bw) (.vl (Y.iy rfl rfl bw) ?_))
 refine .an ?_
 refine .nil (.sr ?_)
 refine .mv ?_
 refine .vl (Y.gtr rfl rfl) (.nil ?_)
 refine .aB rfl (fun uD => ?_) (fun uD => ?_)
 refine .region ?_
 refine .mv ?_
 refine .mv ?_
 refine .vl (Y.zu a7 rfl) (.vl (Y.zv a7 rfl (.none _) (.some rfl)) ?_)
 refine .mv ?_
 refine .vy (n := (((n : Int) - (0 - 0)).toNat)) a7 e0 rfl rfl py rfl (by first | rfl | (rw [show ((n : Int) - (0 - 0) : Int) = ((((n : Int) - (0 - 0)).toNat : Nat) : Int) by omega]; rfl)) om ae om om ae ?_
 refine .mv ?_
 refine .vl (Y.len (n := 0) a7 rfl rfl) (.sh (Sh.ed (d := 22) (n := (List.replicate (((n : Int) - (0 - 0)).toNat) 0).length) 122 ((List.replicate (((n : Int) - (0 - 0)).toNat) 0).map ah) rfl kq (bu rfl) ae) ?_)
 refine .vl (Y.yN (l := 0) (h := 0) a7 rfl (.none _) (.some rfl) om om) ?_
 refine .an ?_
 refine .nil (.sr ?_)
 refine .mv ?_
 refine .an ?_
 refine .sh (Sh.CW (d := 4) (o := 122) (([] : List Int).map ah) rfl rfl (by simp) (by simp) ae) (.sh (Sh.ji (d := 4) (o := 122) rfl rfl (bu bw) ae) ?_)
 refine .nil (.ret ?_)
 exact ⟨_, _, rfl, rfl, (JP (fun (z0 : List Int) => X.ep 1 (z0.map ah)) (rfl : ([] : List Int) = ([] : List Int)) : X.ep 1 (([] : List Int).map ah) = X.ep 1 (([] : List Int).map ah)), rfl⟩
 refine .skip (.sr ?_)
 refine .mv ?_
 refine .an ?_
 refine .nil (.sh (Sh.Br (d := 4) 1 rfl) (.ret ?_))
 exact ⟨_, _, rfl, rfl, (JP (fun (z0 : List Int) => X.ep 1 (z0.map ah)) (rfl : ([] : List Int) = ([] : List Int)) : X.ep 1 (([] : List Int).map ah) = X.ep 1 (([] : List Int).map ah)), rfl⟩
theorem qb {ls : List (List Int)} (h1 : ls.length ≤ 1000) (hn : ls.flatten.length ≤ 17592186044416) : az Try.prog 72 [.fz 1 (ls.map nC)] [] [] (fun r o => r = .ep 1 (ls.flatten.map ah) ∧ o = []) := by
 refine az.of Try.func72 rfl rfl rfl (n := 36) ae (aH rfl) (.sr ?_)
 refine .an ?_
 refine .nil (.sr ?_)
 refine .an ?_
 refine .nil (.seq (.sr ?_))
 refine .mv ?_
 refine .vl (Y.len (n := ls.length) rO rfl dG) ?_
 refine .mv ?_
 refine .nil (.block ?_)
 refine .dT (fun (lQ : Nat) (kf : Nat) => ⟨[(0, .fz 1 (ls.map nC)), (3, vi lQ), (9, .fz 1 (ls.map nC)), (10, vi ls.length), (11, vi kf)], []⟩) (fun lQ kf => ((kf : Int) ≤ (ls.length : Int)) ∧ (lQ = (ls.take kf).flatten.length)) (fun lQ kf => ((ls.length : Int) - (kf : Int)).toNat) 0 0 (⟨om, rfl⟩) (Le.mk (.c (.cons (ak rfl b5) (.c2 (.cons (ak rfl b5) (.nil))))) (.nil)) (fun lQ kf tq => ?_)
 obtain ⟨Gs, hs⟩ := tq
 refine .sr (.vl (Y.lss rfl rfl) (.nil ?_))
 refine .seq ?_
 refine .aB rfl (fun Fh => ?_) (fun Fh => ?_)
 refine .skip (.seq (.block ?_))
 refine .sr ?_
 have hf := congrArg List.length (sm (ls := ls) (i := kf) om)
 rw [List.length_append] at hf
 have OE := oC ls (kf + 1)
 have Mw := oC ls kf
 refine .vl (Y.aK (m := kf) rO rfl rfl b5 (ax (d := []) om)) ?_
 refine .ld bh ?_
 refine .an ?_
 refine .nil (.sr ?_)
 refine .mv ?_
 refine .mv ?_
 refine .vl (Y.len (n := (ls.getD kf []).length) a7 rfl dG) (.vl (Y.aT rfl rfl bw) ?_)
 refine .an ?_
 refine .nil (.sr ?_)
 refine .mv ?_
 refine .vl (Y.lss rfl rfl) (.nil ?_)
 refine .aB rfl (fun Af => ?_) (fun Af => ?_)
 exfalso; omega
 refine .skip (.region ?_)
 refine .vl (Y.aT rfl rfl bw) ?_
 refine .mv ?_
 refine .nil ?_
 exact ⟨lQ + ((ls.getD kf []).length), kf + 1, ⟨om, om⟩, om, Le.mk (.c (.cons (ak rfl b5) (.c2 (.cons (ak rfl b5) (.nil))))) (.nil)⟩
 refine .exit (.sr ?_)
 have Mw := oC ls kf
 refine .mv ?_
 refine .aP Ie (yr (n := lQ) (om)) rfl (.ai rfl rfl (.ai rfl rfl .nil)) ae rfl ?_
 refine .dU rfl ae (.sh (Sh.ed (d := 6) (n := ([] : List Int).length) 106 (([] : List Int).map ah) rfl kq (bu rfl) ae) (.nil ?_))
 refine .seq (.sr ?_)
 refine .mv ?_
 refine .vl (Y.len (n := ls.length) rO rfl dG) ?_
 refine .mv ?_
 refine .nil (.block ?_)
 refine .dT (fun (gD : Nat) (dy : List Int) => ⟨[(6, .aY 106 1 0 dy.length), (25, .fz 1 (ls.map nC)), (26, vi ls.length), (27, vi gD)], [(106, .rows 1 (dy.map ah))]⟩) (fun gD dy => ((gD : Int) ≤ (ls.length : Int)) ∧ (dy = (ls.take gD).flatten)) (fun gD dy => ((ls.length : Int) - (gD : Int)).toNat) 0 ([] : List Int) (⟨om, rfl⟩) (Le.mk (.cons (cf rfl om) (.c2 (.cons (ak rfl b5) (.nil)))) (.c (.nil))) (fun gD dy wa => ?_)
 obtain ⟨Mx, ht⟩ := wa
 refine .sr (.vl (Y.lss rfl rfl) (.nil ?_))
 refine .seq ?_
 refine .aB rfl (fun wb => ?_) (fun wb => ?_)
 refine .skip (.seq (.block ?_))
 refine .sr ?_
 have hf := sm (ls := ls) (i := gD) om
 have OF := congrArg List.length hf
 rw [List.length_append] at OF
 have OE := oC ls (gD + 1)
 have Mw := oC ls gD
 have Qh := congrArg List.length ht
 refine .vl (Y.aK (m := gD) rO rfl rfl b5 (ax (d := []) om)) ?_
 refine .ld bh ?_
 refine .an ?_
 refine .nil (.region ?_)
 refine .mv ?_
 refine .mv ?_
 refine .zj ((dy ++ (ls.getD gD [])).map ah) (dy ++ (ls.getD gD [])).length a7 e0 rfl rfl rfl rfl (bL bw) (bq bw) (cE bw) bw bw ae ae ?_
 refine .an ?_
 refine .nil (.region ?_)
 refine .vl (Y.aT rfl rfl bw) ?_
 refine .mv ?_
 refine .nil ?_
 exact ⟨gD + 1, dy ++ (ls.getD gD []), ⟨om, by rw [ht]; exact hf.symm⟩, om, Le.mk (.cons (cf rfl om) (.c2 (.cons (ak rfl b5) (.nil)))) (.c (.nil))⟩
 refine .exit (.sr ?_)
 refine .mv ?_
 refine .an ?_
 refine .sh (Sh.ji (d := 2) (o := 106) rfl rfl (bu om) ae) ?_
 refine .nil (.ret ?_)
 exact ⟨_, _, rfl, rfl, (JP (fun (z0 : List Int) => X.ep 1 (z0.map ah)) (by rw [ht, List.take_of_length_le om] : dy = ls.flatten) : X.ep 1 (dy.map ah) = X.ep 1 (ls.flatten.map ah)), rfl⟩
end Go.Proofs.Ytligpghohcfpnaa
/- Walks of iterators. -/
namespace Go.Proofs.Ytligpghohcfpnaa
open Go Go.AW Go.Proofs
theorem yx {k : Int} : az Try.prog 131 [vi k] [] [] (fun r o => r = .v (.bool (decide (Port k))) ∧ o = []) := by
 refine az.of Try.func131 rfl rfl rfl (n := 13) ae (aH rfl) (.sr ?_)
 refine .an ?_
 refine .nil (.sr ?_)
 refine .mv ?_
 refine .vl (Y.eql rfl rfl) ?_
 refine .mv ?_
 refine .aE (d := 5) rfl (fun c5 => ?_) (fun c5 => ?_)
 refine .gz 5 (.gz 5 ?_)
 refine .pk ?_
 refine .mv ?_
 refine .gz 9 (.gz 9 ?_)
 refine .pk ?_
 refine .an ?_
 refine .nil (.ret ?_)
 exact .rb rfl (dt (by (simp only [Port]) <;> (first | omega | grind)))
 refine .gw 5 (Y.move rfl rfl) (.gw 5 (Y.eql rfl rfl) ?_)
 refine .pk ?_
 refine .mv ?_
 refine .aE (d := 9) rfl (fun c9 => ?_) (fun c9 => ?_)
 refine .gz 9 (.gz 9 ?_)
 refine .pk ?_
 refine .an ?_
 refine .nil (.ret ?_)
 exact .rb rfl (dt (by (simp only [Port]) <;> (first | omega | grind)))
 refine .gw 9 (Y.move rfl rfl) (.gw 9 (Y.eql rfl rfl) ?_)
 refine .pk ?_
 refine .an ?_
 refine .nil (.ret ?_)
 exact .rb rfl (dd (by (simp only [Port]) <;> (first | omega | grind)))
theorem CF {n : ab} (hM : VT n) : iO Try.prog 130 [.fp (ab.row n) 0] (qZ n) := by
 refine iO.of Try.func130 rfl rfl (n := 67) rfl (aH rfl) (fun yc ix mn => ?_) rfl
 have hs := hM.small; have hf := hM.formed; have xW := hM.cK; have Cz := hM.cv; have o9 := hM.ir; have rE := hM.iW; have C5 := hM.bO; have Bh := hf.cP; have Du := hf.eY
 refine aF.seq (aF.region ?_)
 refine .an ?_
 refine .nil (aF.seq (aF.seq ?_))
 refine aF.region ?_
 refine .fa cb ?_
 refine .ld fD ?_
 refine .vl (Y.len (n := n.cells.length) dD rfl dG) ?_
 refine .mv ?_
 refine .nil (aF.block ?_)
 refine aF.iT (fun (gu : Bool) (ew : Nat) (lS : List (Int × Int)) => (lS, ⟨[(0, yc.v), (1, .fp (ab.row n) 0), (3, .v (.bool gu)), (11, .fz 6 (n.cells.map Cell.row)), (12, .v (.int .i64 (n.cells.length : Int))), (13, .v (.int .i64 (ew : Int)))], []⟩)) (fun gu ew lS => ((ew : Int) ≤ (n.cells.length : Int)) ∧ (lS = ix ++ ju n ew) ∧ (gu = fA n ew)) (fun gu ew lS => ((n.cells.length : Int) - (ew : Int)).toNat) false 0 ix (⟨om, by simp [ju], rfl⟩) (⟨rfl, Le.mk (.c2 (.cons (aI rfl gF) (.c2 (.cons (ak rfl b5) (.nil))))) (.nil)⟩) (fun gu ew lS x6 => ?_)
 obtain ⟨rL, hx, hp⟩ := x6
 refine aF.seq (aF.region (.vl (Y.lss rfl rfl) ?_))
 refine .nil (aF.seq ?_)
 refine aF.aB rfl (fun Jm => ?_) (fun Jm => ?_)
 refine aF.skip ?_
 refine aF.mQ (fun (kh : Bool) (r4 : List (Int × Int)) => (r4, ⟨[(0, yc.v), (1, .fp (ab.row n) 0), (3, .v (.bool kh)), (11, .fz 6 (n.cells.map Cell.row)), (12, .v (.int .i64 (n.cells.length : Int))), (13, .v (.int .i64 (ew : Int)))], []⟩)) (fun kh r4 => r4 = ix ++ ju n (ew + 1) ∧ kh = fA n (ew + 1)) ?_ (fun kh r4 Ft => ?_)
 refine aF.block (aF.seq (aF.region ?_))
 refine .vl (Y.aK (m := ew) dD rfl rfl b5 (ax (d := default) om)) ?_
 refine .vl (Y.aM eb rfl rfl (aH rfl) rfl rfl) (.alloc 105 dN rfl rfl ae (.aj eI rfl rfl rfl rfl rfl rfl (aH rfl) rfl ?_))
 refine .nil (aF.seq (aF.seq ?_))
 refine aF.region ?_
 refine .fa cL ?_
 refine .ld br ?_
 refine .aP Iq (yx (k := ((n.cells.getD ew default).kind))) rfl (.ai rfl rfl .nil) ae rfl (.vl (Y.not rfl) (.nil ?_))
 refine aF.cond rfl (fun Af => ?_) (fun Af => ?_)
 replace Af : ¬ (Port ((n.cells.getD ew default).kind)) := by simpa using Af
 refine aF.exit ?_
 exact ⟨gu, lS, by first | exact xd hx hp om cj | exact uw MD om om cj, ⟨rfl, Le.mk (.c2 (.cons (aI rfl gF) (.c2 (.c (.nil))))) (.nil)⟩⟩
 replace Af : Port ((n.cells.getD ew default).kind) := by simpa using Af
 refine aF.skip (aF.seq (aF.region ?_))
 refine .an ?_
 refine .nil (aF.seq ?_)
 have h6 := o9 (n.cells.getD ew default) (getD_in om)
 refine aF.region ?_
 refine .fa bF ?_
 refine .ld bh ?_
 refine .vl (Y.len (n := ((n.cells.getD ew default).args).length) a7 rfl dG) ?_
 refine .mv ?_
 refine .nil (aF.block ?_)
 refine aF.dT (fun (nK : Nat) (wk : List (Int × Int)) => (wk, ⟨[(0, yc.v), (1, .fp (ab.row n) 0), (3, .v (.bool true)), (11, .fz 6 (n.cells.map Cell.row)), (12, .v (.int .i64 (n.cells.length : Int))), (13, .v (.int .i64 (ew : Int))), (22, .fz 1 (((n.cells.getD ew default).args).map ah)), (23, .v (.int .i64 ((((n.cells.getD ew default).args).length : Nat) : Int))), (24, .v (.int .i64 (nK : Int)))], []⟩)) (fun nK wk => ((nK : Int) ≤ ((((n.cells.getD ew default).args).length : Nat) : Int)) ∧ (wk = (ix ++ ju n ew) ++ ((n.cells.getD ew default).args.take nK).map (fun w => (w, (20 : Int))))) (fun nK wk => (((((n.cells.getD ew default).args).length : Nat) : Int) - (nK : Int)).toNat) 0 lS (⟨om, by rw [hx]; simp⟩) (⟨rfl, Le.mk (.c8 (.cons (ak rfl b5) (.nil))) (.nil)⟩) (fun nK wk Q0 => ?_)
 obtain ⟨RE, MD⟩ := Q0
 refine aF.seq (aF.region (.vl (Y.lss rfl rfl) ?_))
 refine .nil (aF.seq ?_)
 refine aF.aB rfl (fun yo => ?_) (fun yo => ?_)
 refine aF.skip (aF.seq (aF.block ?_))
 refine aF.seq (aF.region ?_)
 refine .vl (Y.aK (m := nK) a7 rfl rfl b5 (ax (d := 0) om)) ?_
 refine .ld br ?_
 refine .an ?_
 refine .nil (aF.seq (aF.lR ?_))
 refine aQ.op ?_
 refine .mv ?_
 refine .nil (aQ.op ?_)
 refine .mv ?_
 refine .nil (aQ.yield rfl rfl (mn _ (by first | exact rf om cj om | exact tg (by rw [show n.cells.length = ew by omega]; rw [← hp]; assumption) | exact th om cj)) ae (aQ.op ?_))
 refine .vl (Y.not rfl) (.nil (aQ.nil ?_))
 refine aF.cX rfl (aF.skip (aF.region ?_))
 refine .vl (Y.aT rfl rfl bw) ?_
 refine .mv ?_
 refine .nil ?_
 exact ⟨nK + 1, wk ++ [(((n.cells.getD ew default).args).getD nK 0, 20)], ⟨om, by rw [MD, take_one (d := (0 : Int)) om, List.map_append, List.append_assoc]; rfl⟩, om, ⟨rfl, Le.mk (.c8 (.cons (ak rfl b5) (.nil))) (.nil)⟩⟩
 refine aF.exit ?_
 exact ⟨true, wk, by first | exact xd hx hp om cj | exact uw MD om om cj, ⟨rfl, Le.mk (.c2 (.cons (aI rfl gF) (.c2 (.c (.nil))))) (.nil)⟩⟩
 refine aF.region (.vl (Y.aT rfl rfl bw) ?_)
 refine .mv ?_
 refine .nil ?_
 exact ⟨kh, ew + 1, r4, ⟨om, Ft.1, Ft.2⟩, om, ⟨rfl, Le.mk (.c2 (.cons (aI rfl gF) (.c2 (.cons (ak rfl b5) (.nil))))) (.nil)⟩⟩
 refine aF.exit ?_
 refine aF.eP (fun (r5 : List (Int × Int)) => (r5, ⟨[(0, yc.v), (1, .fp (ab.row n) 0)], []⟩)) (fun r5 => r5 = ix ++ (ju n n.cells.length ++ la n (fA n n.cells.length) 20)) ?_ (fun r5 ME => ?_)
 refine aF.seq (aF.lR (aQ.op ?_))
 refine .mv ?_
 refine .nil (aQ.op ?_)
 refine .mv ?_
 refine .nil ?_
 refine aQ.split (d := 35) rfl (fun ru => ?_) (fun ru => ?_)
 refine aQ.op (.gw 35 (Y.move rfl rfl) (.nil ?_))
 refine aQ.op (.gw 35 (Y.fieldAddr nY rfl rfl) (.nil ?_))
 refine aQ.op (.gw 35 (Y.load br rfl rfl rfl rfl) (.nil ?_))
 refine aQ.aO (d := 35) rfl ae rfl (aQ.yield rfl rfl (mn _ (by first | exact rf om cj om | exact tg (by rw [show n.cells.length = ew by omega]; rw [← hp]; assumption) | exact th om cj)) ae (aQ.op ?_))
 refine .gw 35 (Y.not rfl) (.nil (aQ.op ?_))
 refine .pk ?_
 refine .nil (aQ.nil (aF.cX rfl ?_))
 refine aF.skip ?_
 exact ⟨lS ++ [(n.freeze, 20)], by rw [show n.cells.length = ew by omega, ← hp, hx]; first | (rw [show gu = true by assumption]; simp [la]) | (rw [show gu = false by assumption]; simp [la]), ⟨rfl, Le.mk (.c2 (.nil)) (.nil)⟩⟩
 refine aQ.op (.gz 35 (.nil ?_))
 refine aQ.op (.gz 35 (.nil ?_))
 refine aQ.op (.gz 35 (.nil ?_))
 refine aQ.op (.gz 35 (.nil ?_))
 refine aQ.op (.gz 35 (.nil ?_))
 refine aQ.op ?_
 refine .pk ?_
 refine .nil (aQ.nil (aF.cX rfl ?_))
 refine aF.skip ?_
 exact ⟨lS, by rw [show n.cells.length = ew by omega, ← hp, hx]; first | (rw [show gu = true by assumption]; simp [la]) | (rw [show gu = false by assumption]; simp [la]), ⟨rfl, Le.mk (.c2 (.nil)) (.nil)⟩⟩
 refine aF.seq ?_
 have CK := zO hf rE C5
 refine aF.region ?_
 refine .fa qU ?_
 refine .ld br ?_
 refine .buildSlice (([n.done] : List Int).map ah) a7 e0 rfl rfl rfl rfl rfl (ay (s := 1) (f := ah) (fun _ => rfl)) rfl rfl rfl ae ?_
 refine .fa jy ?_
 refine .ld bh ?_
 refine .fa jQ ?_
 refine .ld bh ?_
 refine .fa kH ?_
 refine .ld bh ?_
 refine .sh (Sh.dF (d := 44) (([n.done] : List Int).map ah) rfl kq (da.map aD)) ?_
 refine .buildSlice (([([n.done] : List Int), n.bI, n.aX, n.data] : List (List Int)).map nC) rO zM rfl rfl rfl rfl rfl (ay (s := 1) (f := nC) (fun _ => rfl)) rfl rfl rfl ae ?_
 refine .sh (Sh.dF (d := 51) (([([n.done] : List Int), n.bI, n.aX, n.data] : List (List Int)).map nC) rfl kq (da.map qM)) (.aP Iw (qb (ls := ([([n.done] : List Int), n.bI, n.aX, n.data] : List (List Int))) (by simp) (by simp; omega)) rfl (.ai rfl rfl .nil) ae rfl (.vl (Y.len (n := (([([n.done] : List Int), n.bI, n.aX, n.data] : List (List Int)).flatten).length) a7 rfl dG) ?_))
 refine .mv ?_
 refine .nil (aF.block (aF.sh (Sh.dF (d := 52) ((([([n.done] : List Int), n.bI, n.aX, n.data] : List (List Int)).flatten).map ah) rfl kq (da.map aD)) ?_))
 refine aF.dT (fun (iF : Nat) (qc : List (Int × Int)) => (qc, ⟨[(0, yc.v), (52, .fz 1 ((([([n.done] : List Int), n.bI, n.aX, n.data] : List (List Int)).flatten).map ah)), (53, .v (.int .i64 (((([([n.done] : List Int), n.bI, n.aX, n.data] : List (List Int)).flatten).length : Nat) : Int))), (54, .v (.int .i64 (iF : Int)))], []⟩)) (fun iF qc => ((iF : Int) ≤ (((([([n.done] : List Int), n.bI, n.aX, n.data] : List (List Int)).flatten).length : Nat) : Int)) ∧ (qc = (ix ++ (ju n n.cells.length ++ la n (fA n n.cells.length) 20)) ++ rP (([([n.done] : List Int), n.bI, n.aX, n.data] : List (List Int)).flatten) iF)) (fun iF qc => ((((([([n.done] : List Int), n.bI, n.aX, n.data] : List (List Int)).flatten).length : Nat) : Int) - (iF : Int)).toNat) 0 r5 (⟨om, by rw [ME]; simp [rP]⟩) (⟨rfl, Le.mk (.c2 (.c (.cons (ak rfl b5) (.nil)))) (.nil)⟩) (fun iF qc EZ => ?_)
 obtain ⟨Mn, As⟩ := EZ
 refine aF.seq (aF.region (.vl (Y.lss rfl rfl) ?_))
 refine .nil (aF.seq ?_)
 refine aF.aB rfl (fun Q3 => ?_) (fun Q3 => ?_)
 refine aF.skip ?_
 refine aF.eP (fun (r6 : List (Int × Int)) => (r6, ⟨[(0, yc.v), (52, .fz 1 ((([([n.done] : List Int), n.bI, n.aX, n.data] : List (List Int)).flatten).map ah)), (53, .v (.int .i64 (((([([n.done] : List Int), n.bI, n.aX, n.data] : List (List Int)).flatten).length : Nat) : Int))), (54, .v (.int .i64 (iF : Int)))], []⟩)) (fun r6 => r6 = (ix ++ (ju n n.cells.length ++ la n (fA n n.cells.length) 20)) ++ rP (([([n.done] : List Int), n.bI, n.aX, n.data] : List (List Int)).flatten) (iF + 1)) ?_ (fun r6 At => ?_)
 refine aF.block (aF.seq (aF.region ?_))
 refine .vl (Y.aK (m := iF) a7 rfl rfl b5 (ax (d := 0) om)) ?_
 refine .ld br ?_
 refine .an ?_
 refine .nil (aF.seq (aF.lR ?_))
 refine aQ.op ?_
 refine .mv ?_
 refine .nil (aQ.op (.vl (Y.geq rfl rfl) ?_))
 refine .nil (aQ.op ?_)
 refine .mv ?_
 refine .nil ?_
 refine aQ.aE (d := 60) rfl (fun Q4 => ?_) (fun Q4 => ?_)
 refine aQ.op (.gw 60 (Y.move rfl rfl) (.nil ?_))
 refine aQ.op (.gw 60 (Y.move rfl rfl) (.nil ?_))
 refine aQ.aO (d := 60) rfl ae rfl (aQ.yield rfl rfl (mn _ (by first | exact rf om cj om | exact tg (by rw [show n.cells.length = ew by omega]; rw [← hp]; assumption) | exact th om cj)) ae (aQ.op ?_))
 refine .gw 60 (Y.not rfl) (.nil (aQ.op ?_))
 refine .pk ?_
 refine .nil (aQ.nil (aF.cX rfl ?_))
 refine aF.skip ?_
 exact ⟨qc ++ [((([([n.done] : List Int), n.bI, n.aX, n.data] : List (List Int)).flatten).getD iF 0, 0)], by first | (rw [n6 om, if_pos cj, As]; simp only [List.append_assoc]) | (rw [n6 om, if_neg cj, As]; simp), ⟨rfl, Le.mk (.c4 (.nil)) (.nil)⟩⟩
 refine aQ.op (.gz 60 (.nil ?_))
 refine aQ.op (.gz 60 (.nil ?_))
 refine aQ.op (.gz 60 (.nil ?_))
 refine aQ.op (.gz 60 (.nil ?_))
 refine aQ.op ?_
 refine .pk ?_
 refine .nil (aQ.nil (aF.cX rfl ?_))
 refine aF.skip ?_
 exact ⟨qc, by first | (rw [n6 om, if_pos cj, As]; simp only [List.append_assoc]) | (rw [n6 om, if_neg cj, As]; simp), ⟨rfl, Le.mk (.c4 (.nil)) (.nil)⟩⟩
 refine aF.region (.vl (Y.aT rfl rfl bw) ?_)
 refine .mv ?_
 refine .nil ?_
 exact ⟨iF + 1, r6, ⟨om, At⟩, om, ⟨rfl, Le.mk (.c2 (.c (.cons (ak rfl b5) (.nil)))) (.nil)⟩⟩
 refine aF.exit ?_
 exact ⟨.inl rfl, by show qc = _; rw [As, show iF = (([([n.done] : List Int), n.bI, n.aX, n.data] : List (List Int)).flatten).length by omega]; simp [qZ]⟩
theorem yy {n : ab} : az Try.prog 112 [.agg (ab.row n)] [] [] (fun r o => r = .gl (.func 130) [] [.fp (ab.row n) 0] ∧ o = []) := by
 refine az.of Try.func112 rfl rfl rfl (n := 4) ae (aH rfl) (.sr (.box 101 rfl rfl rfl rfl rfl ae ?_))
 refine .an ?_
 refine .nil (.sr (.sh (Sh.dc 101 rfl rfl) ?_))
 refine .vl (Y.makeFunc rfl rfl rfl rfl) ?_
 refine .an ?_
 refine .nil (.ret ?_)
 exact ⟨_, _, rfl, rfl, rfl, rfl⟩
theorem Au {n : ab} (hM : VT n) : iO Try.prog 111 [.fp (ab.row n) 0] (fq n) := by
 refine iO.of Try.func111 rfl rfl (n := 45) rfl (aH rfl) (fun yc ix mn => ?_) rfl
 have hs := hM.small; have hf := hM.formed; have xW := hM.cK; have Cz := hM.cv; have o9 := hM.ir; have rE := hM.iW; have C5 := hM.bO; have Bh := hf.cP; have Du := hf.eY
 refine aF.seq (aF.region ?_)
 refine .an ?_
 refine .nil (aF.seq (aF.seq ?_))
 refine aF.region ?_
 refine .fa cb ?_
 refine .ld fD ?_
 refine .vl (Y.len (n := n.cells.length) dD rfl dG) ?_
 refine .mv ?_
 refine .nil (aF.block ?_)
 refine aF.iT (fun (iP : Bool) (kM : Nat) (lS : List (Int × Int)) => (lS, ⟨[(0, yc.v), (1, .fp (ab.row n) 0), (3, .v (.bool iP)), (7, .fz 6 (n.cells.map Cell.row)), (8, .v (.int .i64 (n.cells.length : Int))), (9, .v (.int .i64 (kM : Int)))], []⟩)) (fun iP kM lS => ((kM : Int) ≤ (n.cells.length : Int)) ∧ (lS = ix ++ p4 n kM) ∧ (iP = jm n kM)) (fun iP kM lS => ((n.cells.length : Int) - (kM : Int)).toNat) false 0 ix (⟨om, by simp [p4], rfl⟩) (⟨rfl, Le.mk (.c2 (.cons (aI rfl gF) (.c2 (.cons (ak rfl b5) (.nil))))) (.nil)⟩) (fun iP kM lS x6 => ?_)
 obtain ⟨rL, hx, hp⟩ := x6
 refine aF.seq (aF.region (.vl (Y.lss rfl rfl) ?_))
 refine .nil (aF.seq ?_)
 refine aF.aB rfl (fun ET => ?_) (fun ET => ?_)
 refine aF.skip ?_
 refine aF.mQ (fun (nh : Bool) (uH : List (Int × Int)) => (uH, ⟨[(0, yc.v), (1, .fp (ab.row n) 0), (3, .v (.bool nh)), (7, .fz 6 (n.cells.map Cell.row)), (8, .v (.int .i64 (n.cells.length : Int))), (9, .v (.int .i64 (kM : Int)))], []⟩)) (fun nh uH => uH = ix ++ p4 n (kM + 1) ∧ nh = jm n (kM + 1)) ?_ (fun nh uH EP => ?_)
 refine aF.block (aF.seq (aF.region ?_))
 refine .vl (Y.aK (m := kM) dD rfl rfl b5 (ax (d := default) om)) ?_
 refine .vl (Y.aM eb rfl rfl (aH rfl) rfl rfl) (.alloc 105 dN rfl rfl ae (.aj eI rfl rfl rfl rfl rfl rfl (aH rfl) rfl ?_))
 refine .nil (aF.seq (aF.seq ?_))
 refine aF.region ?_
 refine .fa cL ?_
 refine .ld br ?_
 refine .vl (Y.neq rfl rfl) (.nil ?_)
 refine aF.aB rfl (fun rG => ?_) (fun rG => ?_)
 refine aF.exit ?_
 exact ⟨iP, lS, by first | exact zP hx hp om cj | exact xe hx om cj, ⟨rfl, Le.mk (.c2 (.cons (aI rfl gF) (.c2 (.c (.nil))))) (.nil)⟩⟩
 replace rG := Classical.not_not.1 rG
 refine aF.skip (aF.seq (aF.region ?_))
 refine .an ?_
 refine .nil (aF.seq ?_)
 have h6 := xf hf (i := kM) om cj
 refine aF.lR (aQ.op ?_)
 refine .mv ?_
 refine .nil (aQ.op ?_)
 refine .fa bF ?_
 refine .nil (aQ.op ?_)
 refine .ld bh ?_
 refine .nil (aQ.op ?_)
 refine .vl (Y.aK (m := 0) a7 rfl rfl b5 (ax (d := 0) om)) ?_
 refine .nil (aQ.op ?_)
 refine .ld br ?_
 refine .nil (aQ.yield rfl rfl (mn _ (by first | exact rh om cj | exact rj om cj | exact ti (by rw [show n.cells.length = kM by omega]; rw [← hp]; assumption))) ae (aQ.op ?_))
 refine .vl (Y.not rfl) (.nil (aQ.op ?_))
 refine .mv ?_
 refine .nil (aQ.op (.gw 23 (Y.move rfl rfl) ?_))
 refine .nil (aQ.op (.gw 23 (Y.fieldAddr bF rfl rfl) ?_))
 refine .nil (aQ.op (.gw 23 (Y.load bh rfl rfl rfl rfl) ?_))
 refine .nil (aQ.op ?_)
 refine .gw 23 (Y.aK (m := 1) a7 rfl rfl b5 (ax (d := 0) om)) ?_
 refine .nil (aQ.op (.gw 23 (Y.load br rfl rfl rfl rfl) ?_))
 refine .nil (aQ.aO (d := 23) rfl ae rfl (aQ.yield rfl rfl (mn _ (by first | exact rh om cj | exact rj om cj | exact ti (by rw [show n.cells.length = kM by omega]; rw [← hp]; assumption))) ae ?_))
 refine aQ.op (.gw 23 (Y.not rfl) (.nil ?_))
 refine aQ.op ?_
 refine .pk ?_
 refine .nil (aQ.nil (aF.cX rfl ?_))
 refine aF.skip ?_
 exact ⟨true, (lS ++ [(((n.cells.getD kM default).args).getD 0 0, 100)]) ++ [(((n.cells.getD kM default).args).getD 1 0, 60)], by first | exact zP hx hp om cj | exact xe hx om cj, ⟨rfl, Le.mk (.c2 (.cons (aI rfl gF) (.c2 (.c (.nil))))) (.nil)⟩⟩
 refine aF.region (.vl (Y.aT rfl rfl bw) ?_)
 refine .mv ?_
 refine .nil ?_
 exact ⟨nh, kM + 1, uH, ⟨om, EP.1, EP.2⟩, om, ⟨rfl, Le.mk (.c2 (.cons (aI rfl gF) (.c2 (.cons (ak rfl b5) (.nil))))) (.nil)⟩⟩
 refine aF.exit ?_
 refine aF.eP (fun (uI : List (Int × Int)) => (uI, ⟨[(0, yc.v), (1, .fp (ab.row n) 0)], []⟩)) (fun uI => uI = ix ++ (p4 n n.cells.length ++ la n (jm n n.cells.length) 100)) ?_ (fun uI Q5 => ?_)
 refine aF.seq (aF.lR (aQ.op ?_))
 refine .mv ?_
 refine .nil (aQ.op ?_)
 refine .mv ?_
 refine .nil ?_
 refine aQ.split (d := 34) rfl (fun ym => ?_) (fun ym => ?_)
 refine aQ.op (.gw 34 (Y.move rfl rfl) (.nil ?_))
 refine aQ.op (.gw 34 (Y.fieldAddr nY rfl rfl) (.nil ?_))
 refine aQ.op (.gw 34 (Y.load br rfl rfl rfl rfl) (.nil ?_))
 refine aQ.aO (d := 34) rfl ae rfl (aQ.yield rfl rfl (mn _ (by first | exact rh om cj | exact rj om cj | exact ti (by rw [show n.cells.length = kM by omega]; rw [← hp]; assumption))) ae (aQ.op ?_))
 refine .gw 34 (Y.not rfl) (.nil (aQ.op ?_))
 refine .pk ?_
 refine .nil (aQ.nil (aF.cX rfl ?_))
 refine aF.skip ?_
 exact ⟨lS ++ [(n.freeze, 100)], by rw [show n.cells.length = kM by omega, ← hp, hx]; first | (rw [show iP = true by assumption]; simp [la]) | (rw [show iP = false by assumption]; simp [la]), ⟨rfl, Le.mk (.c2 (.nil)) (.nil)⟩⟩
 refine aQ.op (.gz 34 (.nil ?_))
 refine aQ.op (.gz 34 (.nil ?_))
 refine aQ.op (.gz 34 (.nil ?_))
 refine aQ.op (.gz 34 (.nil ?_))
 refine aQ.op (.gz 34 (.nil ?_))
 refine aQ.op ?_
 refine .pk ?_
 refine .nil (aQ.nil (aF.cX rfl ?_))
 refine aF.skip ?_
 exact ⟨lS, by rw [show n.cells.length = kM by omega, ← hp, hx]; first | (rw [show iP = true by assumption]; simp [la]) | (rw [show iP = false by assumption]; simp [la]), ⟨rfl, Le.mk (.c2 (.nil)) (.nil)⟩⟩
 refine aF.lR (aQ.op (.vl (Y.aM eh rfl rfl (aH rfl) rfl rfl) ?_))
 refine .nil (aQ.op (.aP Ih (yy (n := n)) rfl (.ai rfl rfl .nil) ae rfl ?_))
 refine .nil (aQ.op ?_)
 refine .mv ?_
 refine .nil ?_
 refine aQ.Fk rfl Ip (CF (n := n) hM) rfl (fun e he => mn e (Co he)) ae ?_
 refine aQ.nil ?_
 exact ⟨.inl rfl, by show uI ++ qZ n = _; rw [Q5]; simp [fq]⟩
theorem sC {n : ab} : az Try.prog 80 [.agg (ab.row n)] [] [] (fun r o => r = .gl (.func 111) [] [.fp (ab.row n) 0] ∧ o = []) := by
 refine az.of Try.func80 rfl rfl rfl (n := 4) ae (aH rfl) (.sr (.box 101 rfl rfl rfl rfl rfl ae ?_))
 refine .an ?_
 refine .nil (.sr (.sh (Sh.dc 101 rfl rfl) ?_))
 refine .vl (Y.makeFunc rfl rfl rfl rfl) ?_
 refine .an ?_
 refine .nil (.ret ?_)
 exact ⟨_, _, rfl, rfl, rfl, rfl⟩
end Go.Proofs.Ytligpghohcfpnaa
