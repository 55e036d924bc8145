/- Small things on lists for pruning. -/
import Derived.Test.YtligpghohcfpnaaNetx0
import Derived.Test.YtligpghohcfpnaaAWx2
import Derived.Test.YtligpghohcfpnaaProg
import Derived.KernelRfl
set_option linter.unusedSimpArgs false
set_option linter.unusedVariables false
set_option linter.unusedSectionVars false
set_option maxRecDepth 4000
set_option maxHeartbeats 8000000
namespace Go.Proofs.Ytligpghohcfpnaa
open Go Go.AW Go.Proofs

theorem set_getD_self {α : Type} (l : List α) (i : Nat) (d : α) : l.set i (l.getD i d) = l := by
 apply List.ext_getElem?
 intro j
 rw [List.getElem?_set]
 split
 ·subst_vars
  split
  ·rename_i h; simp [List.getD_eq_getElem?_getD, h]
  ·rename_i h; simp [List.getElem?_eq_none (Nat.le_of_not_lt h)]
 ·rfl

structure Rt (n : Netlist) (k i : Nat) (O : List Int) : Prop where
 op : ∀ w, w ∈ O ↔ (w ∈ n.active ∨ w ∈ n.rets ∨ w = n.freeze ∨ w = n.done) ∨ (∃ j, j < k ∧ 0 ≤ n.data.getD j 0 ∧ w = n.data.getD j 0) ∨ ∃ j, j < i ∧ ¬ Comb (n.cells.getD j default).kind ∧ w ∈ (n.cells.getD j default).args
 sz : O.length ≤ 9 + k + 4 * i
theorem Rt.init {n : Netlist} (hM : VP n) : Rt n 0 0 ([n.active, n.rets, [n.freeze, n.done]] : List (List Int)).flatten where
 op := fun w => by simp
 sz := by
  have h1 := hM.nrets; have h2 := hM.nstreams; have h3 := hM.formed.nactive
  simp; omega
theorem Rt.dat {n : Netlist} {k : Nat} {O : List Int} (h : Rt n k 0 O) (h0 : n.data.getD k 0 ≥ 0) : Rt n (k + 1) 0 (O ++ [n.data.getD k 0]) where
 op := fun w => by
  rw [List.mem_append, h.op w, List.mem_singleton]
  constructor
  ·rintro ((h1 | ⟨j, h1, h2, h3⟩ | ⟨j, h1, _⟩) | h1)
   ·exact .inl h1
   ·exact .inr (.inl ⟨j, by omega, h2, h3⟩)
   ·omega
   ·exact .inr (.inl ⟨k, by omega, h0, h1⟩)
  ·rintro (h1 | ⟨j, h1, h2, h3⟩ | ⟨j, h1, _⟩)
   ·exact .inl (.inl h1)
   ·rcases Nat.lt_or_ge j k with h4 | h4
    ·exact .inl (.inr (.inl ⟨j, h4, h2, h3⟩))
    ·obtain rfl : j = k := by omega
     exact .inr h3
   ·omega
 sz := by have := h.sz; simp only [List.length_append, List.length_cons, List.length_nil]; omega
theorem Rt.skp {n : Netlist} {k : Nat} {O : List Int} (h : Rt n k 0 O) (h0 : ¬ n.data.getD k 0 ≥ 0) : Rt n (k + 1) 0 O where
 op := fun w => by
  rw [h.op w]
  constructor
  ·rintro (h1 | ⟨j, h1, h2, h3⟩ | ⟨j, h1, _⟩)
   ·exact .inl h1
   ·exact .inr (.inl ⟨j, by omega, h2, h3⟩)
   ·omega
  ·rintro (h1 | ⟨j, h1, h2, h3⟩ | ⟨j, h1, _⟩)
   ·exact .inl h1
   ·rcases Nat.lt_or_ge j k with h4 | h4
    ·exact .inr (.inl ⟨j, h4, h2, h3⟩)
    ·obtain rfl : j = k := by omega
     omega
   ·omega
 sz := by have := h.sz; omega
theorem Rt.yes {n : Netlist} {d k : Nat} {O : List Int} (hM : VP n) (h : Rt n d k O) (hk : k < n.cells.length) (hc : ¬ Comb (n.cells.getD k default).kind) : Rt n d (k + 1) (O ++ (n.cells.getD k default).args) where
 op := fun w => by
  rw [List.mem_append, h.op w]
  constructor
  ·rintro ((h1 | h1 | ⟨i, h1, h2, h3⟩) | h1)
   ·exact .inl h1
   ·exact .inr (.inl h1)
   ·exact .inr (.inr ⟨i, by omega, h2, h3⟩)
   ·exact .inr (.inr ⟨k, by omega, hc, h1⟩)
  ·rintro (h1 | h1 | ⟨i, h1, h2, h3⟩)
   ·exact .inl (.inl h1)
   ·exact .inl (.inr (.inl h1))
   ·rcases Nat.lt_or_ge i k with h4 | h4
    ·exact .inl (.inr (.inr ⟨i, h4, h2, h3⟩))
    ·obtain rfl : i = k := by omega
     exact .inr h3
 sz := by
  have := hM.nargs _ (getD_in (d := (default : Cell)) hk)
  have := h.sz
  simp only [List.length_append]; omega
theorem Rt.no {n : Netlist} {d k : Nat} {O : List Int} (h : Rt n d k O) (hc : Comb (n.cells.getD k default).kind) : Rt n d (k + 1) O where
 op := fun w => by
  rw [h.op w]
  constructor
  ·rintro (h1 | h1 | ⟨i, h1, h2, h3⟩)
   ·exact .inl h1
   ·exact .inr (.inl h1)
   ·exact .inr (.inr ⟨i, by omega, h2, h3⟩)
  ·rintro (h1 | h1 | ⟨i, h1, h2, h3⟩)
   ·exact .inl h1
   ·exact .inr (.inl h1)
   ·rcases Nat.lt_or_ge i k with h4 | h4
    ·exact .inr (.inr ⟨i, h4, h2, h3⟩)
    ·obtain rfl : i = k := by omega
     exact absurd hc h2
 sz := by have := h.sz; omega
theorem Rt.at {n : Netlist} {O : List Int} {k : Nat} (e : k = n.data.length) (h : Rt n k 0 O) : Rt n n.data.length 0 O := by subst e; exact h
theorem Rt.done {n : Netlist} {O : List Int} (h : Rt n n.data.length n.cells.length O) : RootsOf n O := by
 intro w
 rw [h.op w]
 constructor
 ·rintro ((h1 | h1 | h1 | h1) | ⟨j, h1, h2, rfl⟩ | h1)
  ·exact ⟨.inl h1⟩
  ·exact ⟨.inr (.inl h1)⟩
  ·exact ⟨.inr (.inr (.inl h1))⟩
  ·exact ⟨.inr (.inr (.inr (.inl h1)))⟩
  ·exact ⟨.inr (.inr (.inr (.inr (.inl ⟨getD_mem h1, h2⟩))))⟩
  ·exact ⟨.inr (.inr (.inr (.inr (.inr h1))))⟩
 ·rintro ⟨h1 | h1 | h1 | h1 | ⟨h1, h2⟩ | h1⟩
  ·exact .inl (.inl h1)
  ·exact .inl (.inr (.inl h1))
  ·exact .inl (.inr (.inr (.inl h1)))
  ·exact .inl (.inr (.inr (.inr h1)))
  ·obtain ⟨j, hj, rfl⟩ := List.mem_iff_getElem.1 h1
   have e : n.data.getD j 0 = n.data[j] := by rw [List.getD_eq_getElem?_getD, List.getElem?_eq_getElem hj]; rfl
   exact .inr (.inl ⟨j, hj, by rw [e]; exact h2, e.symm⟩)
  ·exact .inr (.inr h1)
theorem RootsOf.at {n : Netlist} {O : List Int} {k : Nat} (e : k = n.cells.length) (h : Rt n n.data.length k O) : RootsOf n O := by subst e; exact h.done

structure Wn (p : Nat → Bool) (ws : List Int) (k : Nat) (nb wl : List Int) : Prop where
 len : nb.length = ws.length
 num : ∀ w, w < k → nb.getD w 0 = numB p w
 ws : wl = (kpt p k).map (fun i => ws.getD i 0)
theorem Wn.init {p : Nat → Bool} {ws : List Int} : Wn p ws 0 (List.replicate ws.length 0) [] := ⟨by simp, fun w h => by omega, rfl⟩
theorem Wn.yes {p : Nat → Bool} {ws nb wl : List Int} {k : Nat} (h : Wn p ws k nb wl) (hk : k < ws.length) (hp : p k = true) {x : Int} (hx : x = (wl.length : Int)) : Wn p ws (k + 1) ((nb.set k (-1)).set k x) (wl ++ [ws.getD k 0]) where
 len := by rw [List.length_set, List.length_set]; exact h.len
 num := fun w hw => by
  have := h.len
  rcases Nat.lt_or_ge w k with h1 | h1
  ·rw [getD_set, if_neg (by omega), getD_set, if_neg (by omega)]; exact h.num w h1
  ·obtain rfl : w = k := by omega
   rw [getD_set, if_pos ⟨rfl, by rw [List.length_set]; omega⟩, hx, h.ws, List.length_map]
   unfold numB; rw [if_pos hp]
 ws := by rw [kpt_yes hp, List.map_append, h.ws]; rfl
theorem Wn.no {p : Nat → Bool} {ws nb wl : List Int} {k : Nat} (h : Wn p ws k nb wl) (hk : k < ws.length) (hp : p k = false) : Wn p ws (k + 1) (nb.set k (-1)) wl where
 len := by rw [List.length_set]; exact h.len
 num := fun w hw => by
  have := h.len
  rcases Nat.lt_or_ge w k with h1 | h1
  ·rw [getD_set, if_neg (by omega)]; exact h.num w h1
  ·obtain rfl : w = k := by omega
   rw [getD_set, if_pos ⟨rfl, by omega⟩]
   unfold numB; rw [if_neg (by simp [hp])]
 ws := by rw [kpt_no hp]; exact h.ws
theorem Wn.numL {p : Nat → Bool} {ws nb wl : List Int} (h : Wn p ws ws.length nb wl) : NumL p ws.length nb := ⟨h.len, h.num⟩
theorem Wn.keep {p : Nat → Bool} {ws nb wl : List Int} (h : Wn p ws ws.length nb wl) : wl = keepL p ws 0 := h.ws
theorem kw_yes {n : Netlist} {by_ : List Int} {s : List Bool} {w : Nat} (h : s.getD (by_.getD w 0).toNat false = true ∨ ¬ Comb (n.cells.getD (by_.getD w 0).toNat default).kind) : kw n by_ s w = true := by
 unfold kw kc
 rcases h with h | h
 ·rw [h]; rfl
 ·rw [decide_eq_false h]; exact Bool.or_true _
theorem kw_no {n : Netlist} {by_ : List Int} {s : List Bool} {w : Nat} (h : s.getD (by_.getD w 0).toNat false = false) (h2 : Comb (n.cells.getD (by_.getD w 0).toNat default).kind) : kw n by_ s w = false := by
 unfold kw kc
 rw [decide_eq_true h2, h]; rfl
theorem kc_yes {n : Netlist} {s : List Bool} {i : Nat} (h : s.getD i false = false ∧ ¬ Comb (n.cells.getD i default).kind ∨ s.getD i false = true) : kc n s i = true := by
 unfold kc
 rcases h with h | h
 ·rw [decide_eq_false h.2]; exact Bool.or_true _
 ·rw [h]; rfl
theorem kc_no {n : Netlist} {s : List Bool} {i : Nat} (h : s.getD i false = false) (h2 : Comb (n.cells.getD i default).kind) : kc n s i = false := by
 unfold kc
 rw [decide_eq_true h2, h]; rfl
theorem out_or {n : Netlist} {j : Nat} (hf : Formed n) (hj : j < n.cells.length) : (n.cells.getD j default).out = -1 ∨ (0 ≤ (n.cells.getD j default).out ∧ (n.cells.getD j default).out < n.widths.length) := by
 have h := hf.cells j hj
 by_cases e : (n.cells.getD j default).kind = 7
 ·exact .inl (h.2.2.1 e)
 ·exact .inr (h.2.2.2 e)
theorem renC_mk {p : Nat → Bool} {c : Cell} {k : Nat} {nb : List Int} (hn : NumL p k nb) (hr : c.out < k) {x : Int} (h : 0 ≤ c.out ∧ x = nb.getD c.out.toNat 0 ∨ ¬ 0 ≤ c.out ∧ x = c.out) : (⟨c.kind, c.op, x, c.args.map (rnB p), c.num, c.mem⟩ : Cell) = renC p c := by
 have : x = rnB p c.out := by
  rcases h with ⟨h0, h1⟩ | ⟨h0, h1⟩
  ·rw [h1, hn.2 _ (by omega), rnB_at h0]
  ·rw [h1]; unfold rnB; rw [if_neg h0]
 subst this; rfl
theorem data_lt {n : Netlist} (hf : Formed n) : ∀ x ∈ n.data, x < (n.widths.length : Int) := fun x hx => by
 by_cases h0 : 0 ≤ x
 ·exact (Root.rng hf ⟨.inr (.inr (.inr (.inr (.inl ⟨hx, h0⟩))))⟩).2
 ·omega
theorem num_at {p : Nat → Bool} {k : Nat} {nb : List Int} (hn : NumL p k nb) {x : Int} (h : In x k) : nb.getD x.toNat 0 = rnB p x := by
 have h2 := h.1; have h3 := h.2
 rw [hn.2 _ (by omega), rnB_at h2]
theorem NumL.at {p : Nat → Bool} {ws nb wl : List Int} {k : Nat} (e : k = ws.length) (h : Wn p ws k nb wl) : NumL p ws.length nb := by subst e; exact h.numL
theorem Wn.at {p : Nat → Bool} {ws nb wl : List Int} {k : Nat} (e : k = ws.length) (h : Wn p ws k nb wl) : wl = keepL p ws 0 := by subst e; exact h.keep

def Cn (n : Netlist) (by_ : List Int) (s : List Bool) (i : Nat) : List Cell := ((kpt (kc n s) i).map (fun i => n.cells.getD i default)).map (renC (kw n by_ s))
theorem Cn.yes {n : Netlist} {by_ : List Int} {s : List Bool} {i : Nat} (h : kc n s i = true) {c : Cell} (hc : c = renC (kw n by_ s) (n.cells.getD i default)) : Cn n by_ s (i + 1) = Cn n by_ s i ++ [c] := by
 unfold Cn; rw [kpt_yes h, hc]; simp
theorem Cn_le (n : Netlist) (by_ : List Int) (s : List Bool) (i : Nat) : (Cn n by_ s i).length ≤ i := by
 unfold Cn; rw [List.length_map, List.length_map]; exact kpt_le _ _
theorem Wn.le {p : Nat → Bool} {ws nb wl : List Int} {k : Nat} (h : Wn p ws k nb wl) : wl.length ≤ k := by rw [h.ws, List.length_map]; exact kpt_le _ _
theorem Cn.no {n : Netlist} {by_ : List Int} {s : List Bool} {i : Nat} (h : kc n s i = false) : Cn n by_ s (i + 1) = Cn n by_ s i := by unfold Cn; rw [kpt_no h]
end Go.Proofs.Ytligpghohcfpnaa
/- When arrays and streams are equal. -/
namespace Go.Proofs.Ytligpghohcfpnaa
open Go Go.AW Go.Proofs
def Arr.vals (a : Arr) : List Value := [.string a.name, .int .i64 a.width, .int .i64 a.len, .int .i64 a.kind, .int .i64 a.factor]
def Strm.vals (a : Strm) : List Value := [.string a.name, .int .i64 a.width, .bool a.out]
def Arr.eqB (a b : Arr) : Bool := a.name.toList == b.name.toList && (a.width == b.width && (a.len == b.len && (a.kind == b.kind && a.factor == b.factor)))
def Strm.eqB (a b : Strm) : Bool := a.name.toList == b.name.toList && (a.width == b.width && a.out == b.out)
theorem fo48 : Try.prog.underlying 48 = some (.struct (Try.prog.fieldsOf 48)) := by kernel_rfl
theorem fo83 : Try.prog.underlying 83 = some (.struct (Try.prog.fieldsOf 83)) := by kernel_rfl
theorem eq48 (a b : Arr) (w : World) : (Op.equalIn 10000 48 (.agg a.vals.toArray) (.agg b.vals.toArray)).run Try.prog w = .ok (Arr.eqB a b) w := by
 rw [run_equalIn_struct w 9999 48 _ _ fo48 (by kernel_rfl)]
 simp only [Program.fieldsOf, Try.underlying48, List.toList_toArray]
 simp [Op.eqFields, go_sem, Arr.vals, Arr.eqB, Try.underlying3, Try.underlying9]
 (repeat' split) <;> simp_all
theorem eq83 (a b : Strm) (w : World) : (Op.equalIn 10000 83 (.agg a.vals.toArray) (.agg b.vals.toArray)).run Try.prog w = .ok (Strm.eqB a b) w := by
 rw [run_equalIn_struct w 9999 83 _ _ fo83 (by kernel_rfl)]
 simp only [Program.fieldsOf, Try.underlying83, List.toList_toArray]
 simp [Op.eqFields, go_sem, Strm.vals, Strm.eqB, Try.underlying3, Try.underlying4, Try.underlying9]
 (repeat' split) <;> simp_all
theorem Arr.eqB_self (a : Arr) : Arr.eqB a a = true := by simp [Arr.eqB]
theorem Strm.eqB_self (a : Strm) : Strm.eqB a a = true := by simp [Strm.eqB]
end Go.Proofs.Ytligpghohcfpnaa
/- When netlists are the same, in plain Lean. -/
namespace Go.Proofs.Ytligpghohcfpnaa
open Go Go.AW

def EqL {α : Type} (e : α → α → Bool) (d : α) (l m : List α) : Prop := l.length = m.length ∧ ∀ j, j < l.length → e (l.getD j d) (m.getD j d) = true
noncomputable instance {α : Type} (e : α → α → Bool) (d : α) (l m : List α) : Decidable (EqL e d l m) := Classical.propDecidable _
theorem EqL.self {α : Type} {e : α → α → Bool} {d : α} (h : ∀ a, e a a = true) (l : List α) : EqL e d l l := ⟨rfl, fun _ _ => h _⟩
def intB (a b : Int) : Bool := decide (a = b)
noncomputable def cellB (x y : Cell) : Bool := decide (x.kind = y.kind ∧ x.op = y.op ∧ x.out = y.out ∧ x.num = y.num ∧ x.mem = y.mem ∧ EqL intB 0 x.args y.args)
theorem intB_self (a : Int) : intB a a = true := by simp [intB]
theorem cellB_self (c : Cell) : cellB c c = true := decide_eq_true ⟨rfl, rfl, rfl, rfl, rfl, EqL.self intB_self _⟩
structure SameP (a b : Netlist) : Prop where
 name : a.name.toList = b.name.toList
 widths : EqL intB 0 a.widths b.widths
 ins : EqL intB 0 a.ins b.ins
 mems : EqL Arr.eqB default a.mems b.mems
 streams : EqL Strm.eqB default a.streams b.streams
 active : EqL intB 0 a.active b.active
 data : EqL intB 0 a.data b.data
 freeze : a.freeze = b.freeze
 done : a.done = b.done
 rets : EqL intB 0 a.rets b.rets
 cells : EqL cellB default a.cells b.cells
noncomputable instance (a b : Netlist) : Decidable (SameP a b) := Classical.propDecidable _
theorem SameP.self (a : Netlist) : SameP a a := ⟨rfl, EqL.self intB_self _, EqL.self intB_self _, EqL.self Arr.eqB_self _, EqL.self Strm.eqB_self _, EqL.self intB_self _, EqL.self intB_self _, rfl, rfl, EqL.self intB_self _, EqL.self cellB_self _⟩
structure Lens (n : Netlist) : Prop where
 widths : n.widths.length ≤ 35184372088832
 cells : n.cells.length ≤ 35184372088832
 args : ∀ c ∈ n.cells, c.args.length ≤ 35184372088832
 ins : n.ins.length ≤ 35184372088832
 mems : n.mems.length ≤ 35184372088832
 streams : n.streams.length ≤ 35184372088832
 active : n.active.length ≤ 35184372088832
 data : n.data.length ≤ 35184372088832
 rets : n.rets.length ≤ 35184372088832
theorem eqL_no_len {α : Type} {e : α → α → Bool} {d : α} {l m : List α} (h : l.length ≠ m.length) : ¬ EqL e d l m := fun h' => h h'.1
end Go.Proofs.Ytligpghohcfpnaa
/- The numbers of the wires that remain, counted anew, in plain Lean. -/
namespace Go.Proofs.Ytligpghohcfpnaa
open Go Go.AW Go.Proofs

theorem DrvBy.eq {n : Netlist} {a b : List Int} (hf : Formed n) (ha : DrvBy n a) (hb : DrvBy n b) : a = b := by
 refine List.ext_getElem (by rw [ha.len, hb.len]) fun i h1 h2 => ?_
 have hi : In (i : Int) n.widths.length := ⟨by omega, by have := ha.len; omega⟩
 have h := hf.unique (ha.drv _ hi) (hb.drv _ hi)
 rw [Int.toNat_natCast, List.getD_eq_getElem?_getD, List.getElem?_eq_getElem h1, List.getD_eq_getElem?_getD, List.getElem?_eq_getElem h2] at h
 exact h
theorem Netlist.Small.lens {n : Netlist} (hs : n.Small) : Lens n where
 widths := by have := hs.widths; omega
 cells := by have := hs.cells; omega
 args := fun c hc => by have := hs.args c hc; omega
 ins := by have := hs.ins; omega
 mems := by have := hs.mems; omega
 streams := by have := hs.streams; omega
 active := by have := hs.active; omega
 data := by have := hs.data; omega
 rets := by have := hs.rets; omega
structure Wg (p : Nat → Bool) (ws : List Int) (k : Nat) (nb : List Int) (v : Nat) : Prop where
 w : Wn p ws k nb ((kpt p k).map (fun i => ws.getD i 0))
 v : v = (kpt p k).length
theorem Wg.init {p : Nat → Bool} {ws : List Int} : Wg p ws 0 (List.replicate ws.length 0) 0 := ⟨Wn.init, rfl⟩
theorem Wg.yes {p : Nat → Bool} {ws nb : List Int} {k v : Nat} (h : Wg p ws k nb v) (hk : k < ws.length) (hp : p k = true) : Wg p ws (k + 1) ((nb.set k (-1)).set k (v : Int)) (v + 1) := by
 have h2 := h.w.yes hk hp (x := (v : Int)) (by rw [h.v, List.length_map])
 refine ⟨?_, by rw [kpt_yes hp, h.v]; simp⟩
 rw [kpt_yes hp, List.map_append]; exact h2
theorem Wg.no {p : Nat → Bool} {ws nb : List Int} {k v : Nat} (h : Wg p ws k nb v) (hk : k < ws.length) (hp : p k = false) : Wg p ws (k + 1) (nb.set k (-1)) v := by
 refine ⟨?_, by rw [kpt_no hp]; exact h.v⟩
 rw [kpt_no hp]; exact h.w.no hk hp
theorem Wg.le {p : Nat → Bool} {ws nb : List Int} {k v : Nat} (h : Wg p ws k nb v) : v ≤ k := by rw [h.v]; exact kpt_le _ _
theorem Wg.num {p : Nat → Bool} {ws nb : List Int} {k v : Nat} (e : k = ws.length) (h : Wg p ws k nb v) : NumL p ws.length nb := by subst e; exact h.w.numL
section
variable {n : Netlist} {by_ : List Int} {s : List Bool}
theorem prn_wlen : (prn n by_ s).widths.length = (kpt (kw n by_ s) n.widths.length).length := by
 show (keepL (kw n by_ s) n.widths 0).length = _
 rw [keepL_len]
theorem prn_rlen : (prn n by_ s).rets.length = n.rets.length := by show (n.rets.map _).length = _; simp
theorem prn_alen : (prn n by_ s).active.length = n.active.length := by show (n.active.map _).length = _; simp
theorem prn_dlen : (prn n by_ s).data.length = n.data.length := by show (n.data.map _).length = _; simp
theorem num_pos {p : Nat → Bool} {k w : Nat} {nb : List Int} (hn : NumL p k nb) (hw : w < k) (h : nb.getD w 0 ≥ 0) : p w = true ∧ nb.getD w 0 = ((kpt p w).length : Int) ∧ (kpt p w).length < (kpt p k).length := by
 rw [hn.2 w hw] at h ⊢
 unfold numB at h ⊢
 by_cases e : p w = true
 ·rw [if_pos e]
  exact ⟨e, rfl, (kpt_at hw e).1⟩
 ·rw [if_neg e] at h; omega
theorem prn_w_at {w : Nat} {nb : List Int} (hn : NumL (kw n by_ s) n.widths.length nb) (hw : w < n.widths.length) (h : nb.getD w 0 ≥ 0) : (prn n by_ s).widths.getD (nb.getD w 0).toNat 0 = n.widths.getD w 0 := by
 obtain ⟨h1, h2, _⟩ := num_pos hn hw h
 rw [h2, Int.toNat_natCast]
 exact keepL_at hw h1
theorem prn_r_at {i : Nat} {nb : List Int} (hn : NumL (kw n by_ s) n.widths.length nb) (hi : i < n.rets.length) (h : In (n.rets.getD i 0) n.widths.length) : (prn n by_ s).rets.getD i 0 = nb.getD (n.rets.getD i 0).toNat 0 := by
 show (n.rets.map _).getD i 0 = _
 rw [mapW hi, num_at hn h]
theorem prn_a_at {i : Nat} {nb : List Int} (hn : NumL (kw n by_ s) n.widths.length nb) (hi : i < n.active.length) (h : In (n.active.getD i 0) n.widths.length) : (prn n by_ s).active.getD i 0 = nb.getD (n.active.getD i 0).toNat 0 := by
 show (n.active.map _).getD i 0 = _
 rw [mapW hi, num_at hn h]
theorem prn_d_at {i : Nat} {nb : List Int} (hn : NumL (kw n by_ s) n.widths.length nb) (hi : i < n.data.length) (h : In (n.data.getD i 0) n.widths.length) : (prn n by_ s).data.getD i 0 = nb.getD (n.data.getD i 0).toNat 0 := by
 show (n.data.map _).getD i 0 = _
 rw [mapW hi, num_at hn h]
theorem prn_d_no {i : Nat} (hi : i < n.data.length) (h : n.data.getD i 0 = -1) : (prn n by_ s).data.getD i 0 = -1 := by
 show (n.data.map _).getD i 0 = _
 rw [mapW hi, h]; rfl
end
end Go.Proofs.Ytligpghohcfpnaa
/- Small facts for the widths of the specification. -/
namespace Go.Proofs.Ytligpghohcfpnaa
open Go Go.AW

end Go.Proofs.Ytligpghohcfpnaa
/- Combinational cycles, by what is known, in plain Lean. -/
namespace Go.Proofs.Ytligpghohcfpnaa
open Go Go.AW

def KN0 (n : Netlist) (k : Nat) (kn : List Bool) : Prop := ∀ w : Int, In w n.widths.length → (kn.getD w.toNat false = true ↔ ∃ j, Drives n j w ∧ j < k ∧ ¬ Comb (n.cell j).kind)
theorem KN0.init (n : Netlist) : KN0 n 0 (List.replicate n.widths.length false) := by
 intro w hw
 unfold In at hw
 rw [List.getD_eq_getElem?_getD, List.getElem?_replicate, if_pos (by omega)]
 exact ⟨fun h => (by cases h), fun ⟨j, h1, h2, _⟩ => (by have := h1.1; omega)⟩
theorem KN0.skip {n : Netlist} {k : Nat} {l : List Bool} (h : KN0 n k l) (hc : Comb (n.cells.getD k default).kind ∨ (n.cells.getD k default).kind = 7) : KN0 n (k + 1) l := by
 intro w hw
 rw [h w hw]
 constructor
 ·rintro ⟨j, h1, h2, h3⟩; exact ⟨j, h1, by omega, h3⟩
 ·rintro ⟨j, h1, h2, h3⟩
  refine ⟨j, h1, ?_, h3⟩
  rcases Int.lt_or_eq_of_le (show j ≤ k by omega) with h' | h'
  ·exact h'
  ·subst h'
   rcases hc with hc | hc
   ·exact absurd hc h3
   ·exact absurd hc h1.2.1
theorem KN0.step {n : Netlist} {k : Nat} {l : List Bool} (h : KN0 n k l) (hk : k < n.cells.length) (hl : l.length = n.widths.length) (hc : ¬ Comb (n.cells.getD k default).kind) (h7 : (n.cells.getD k default).kind ≠ 7) (ho : In (n.cells.getD k default).out n.widths.length) :
  KN0 n (k + 1) (l.set (n.cells.getD k default).out.toNat true) := by
 intro w hw
 unfold In at ho
 have hw' := hw
 unfold In at hw'
 rw [getD_set]
 by_cases e : (n.cells.getD k default).out = w
 ·rw [if_pos ⟨by omega, by omega⟩]
  exact ⟨fun _ => ⟨(k : Int), ⟨⟨by omega, by omega⟩, h7, e⟩, by omega, hc⟩, fun _ => rfl⟩
 ·rw [if_neg (by omega), h w hw]
  constructor
  ·rintro ⟨j, h1, h2, h3⟩; exact ⟨j, h1, by omega, h3⟩
  ·rintro ⟨j, h1, h2, h3⟩
   refine ⟨j, h1, ?_, h3⟩
   rcases Int.lt_or_eq_of_le (show j ≤ k by omega) with h' | h'
   ·exact h'
   ·subst h'; exact absurd h1.2.2 e
structure LD (n : Netlist) (done : List Int) (kn : List Bool) (left : Int) : Prop where
 nd : done.Nodup
 cm : ∀ x ∈ done, CombAt n x
 kn : ∀ w, In w n.widths.length → (kn.getD w.toNat false = true ↔ ¬ Open n done w)
 left : left = (n.cells.length : Int) - ((seqL n n.cells.length).length : Int) - (done.length : Int)
 topo : ∀ p i s, done = p ++ i :: s → need n p i = 0
section
variable {n : Netlist} (hf : Formed n)
include hf
theorem LD.init {kn : List Bool} (h : KN0 n n.cells.length kn) : LD n [] kn ((n.cells.length : Int) - ((seqL n n.cells.length).length : Int)) where
 nd := List.nodup_nil
 cm := fun _ h => (by cases h)
 kn := fun w hw => by
  rw [h w hw]
  constructor
  ·rintro ⟨j, h1, h2, h3⟩ ⟨⟨i, hi, e⟩, _⟩
   have := hf.unique h1 (e ▸ hi.drives)
   subst this; exact h3 hi.2
  ·intro ho
   obtain ⟨j, hj⟩ := hf.driver hw
   refine ⟨j, hj, by have := hj.1; omega, fun hc => ho ⟨⟨j, ⟨hj.1, hc⟩, hj.2.2⟩, fun _ h => (by cases h)⟩⟩
 left := by simp
 topo := fun p i s h => by simp at h
theorem LD.step {done : List Int} {kn : List Bool} {left i : Int} (h : LD n done kn left) (hl : kn.length = n.widths.length) (hi : CombAt n i) (hk : kn.getD (n.cell i).out.toNat false = false) (hz : need n done i = 0) :
  LD n (done ++ [i]) (kn.set (n.cell i).out.toNat true) (left - 1) := by
 have hio := hf.outIn hi.drives
 have hop : Open n done (n.cell i).out := Classical.byContradiction fun hh => by
  have := (h.kn _ hio).2 hh
  rw [hk] at this; cases this
 have hni : i ∉ done := fun hm => hop.2 i hm rfl
 refine ⟨?_, fun x hx => ?_, fun w hw => ?_, ?_, fun p j s e => ?_⟩
 ·rw [List.nodup_append]
  exact ⟨h.nd, by simp, fun a ha b hb e => hni (by rw [← List.mem_singleton.1 hb, ← e]; exact ha)⟩
 ·rcases List.mem_append.1 hx with hx | hx
  ·exact h.cm x hx
  ·rw [List.mem_singleton.1 hx]; exact hi
 ·unfold In at hio
  have hw' := hw
  unfold In at hw'
  have ho : Open n (done ++ [i]) w ↔ Open n done w ∧ (n.cell i).out ≠ w := by
   constructor
   ·rintro ⟨a, b⟩
    exact ⟨⟨a, fun j hj => b j (by simp [hj])⟩, b i (by simp)⟩
   ·rintro ⟨⟨a, b⟩, c⟩
    refine ⟨a, fun j hj => ?_⟩
    rcases List.mem_append.1 hj with hj | hj
    ·exact b j hj
    ·rw [List.mem_singleton.1 hj]; exact c
  rw [getD_set, ho]
  by_cases e : (n.cell i).out = w
  ·rw [if_pos ⟨by omega, by omega⟩]
   exact ⟨fun _ h => h.2 e, fun _ => rfl⟩
  ·rw [if_neg (by omega), h.kn w hw]
   exact ⟨fun h1 h2 => h1 h2.1, fun h1 h2 => h1 ⟨h2, e⟩⟩
 ·rw [h.left, List.length_append]; simp; omega
 ·rcases List.eq_nil_or_concat s with rfl | ⟨s', x, rfl⟩
  ·obtain ⟨rfl, e3⟩ := List.append_inj' (t₁ := [i]) (t₂ := [j]) e rfl
   cases e3
   exact hz
  ·have e2 := List.append_inj' (s₁ := done) (s₂ := p ++ j :: s') (t₁ := [i]) (t₂ := [x]) (by rw [e]; simp) rfl
   exact h.topo p j s' e2.1
theorem LD.known {done : List Int} {kn : List Bool} {left : Int} (h : LD n done kn left) {i : Int} (hi : 0 ≤ i ∧ i < n.cells.length) : (∀ x ∈ (n.cell i).args, kn.getD x.toNat false = true) ↔ need n done i = 0 := by
 unfold need
 rw [List.countP_eq_zero]
 constructor
 ·intro hh x hx ho
  exact (h.kn x (hf.argIn hi hx)).1 (hh x hx) (of_decide_eq_true ho)
 ·intro hh x hx
  exact (h.kn x (hf.argIn hi hx)).2 (fun ho => hh x hx (decide_eq_true ho))
def Stuck (n : Netlist) (k : Int) (done : List Int) : Prop := ∀ i, CombAt n i → i < k → Open n done (n.cell i).out → need n done i ≠ 0
theorem LD.ki {done : List Int} {kn : List Bool} {left : Int} (h : LD n done kn left) (hs : Stuck n n.cells.length done) : KI n done [] ((List.range n.cells.length).map (fun (i : Nat) => (need n done (i : Int) : Int))) where
 nd := by simpa using h.nd
 cm := fun x hx => h.cm x (by simpa using hx)
 hrem := fun i hi => by
  have hb := hi.1
  rw [List.getD_eq_getElem?_getD, List.getElem?_map, List.getElem?_range (by omega)]
  simp only [Option.map_some, Option.getD_some]
  rw [show ((i.toNat : Nat) : Int) = i by omega]
 full := fun i hi => by
  rw [List.append_nil]
  constructor
  ·intro hm
   obtain ⟨p, s, e⟩ := List.append_of_mem hm
   have := h.topo p i s e
   rw [need_zero] at this ⊢
   intro x hx hc
   obtain ⟨j, hj, e2⟩ := this x hx hc
   exact ⟨j, by rw [e]; simp [hj], e2⟩
  ·intro hz
   refine Classical.byContradiction fun hn => hs i hi hi.1.2 ⟨⟨i, hi, rfl⟩, fun j hj e => hn ?_⟩ hz
   have := hf.unique (h.cm j hj).drives (e ▸ hi.drives)
   exact this ▸ hj
 topo := h.topo
end
theorem LD.pos {n : Netlist} {done : List Int} {kn : List Bool} {left : Int} (h : LD n done kn left) : 0 ≤ left ∧ left ≤ n.cells.length := by
 have hnd : (seqL n n.cells.length ++ done).Nodup := by
  rw [List.nodup_append]
  refine ⟨seqL_nodup _ _, h.nd, fun a ha b hb e => ?_⟩
  subst e
  exact (mem_seqL.1 ha).2 (h.cm a hb).2
 have := length_le_of_subset (m := (List.range n.cells.length).map (fun (i : Nat) => (i : Int))) hnd (fun x hx => by
  have hx' : 0 ≤ x ∧ x < n.cells.length := by
   rcases List.mem_append.1 hx with hx | hx
   ·exact (mem_seqL.1 hx).1
   ·exact (h.cm x hx).1
  exact List.mem_map.2 ⟨x.toNat, List.mem_range.2 (by omega), by omega⟩)
 rw [List.length_append, List.length_map, List.length_range] at this
 have hl := h.left
 omega
def Rnd (n : Netlist) (k left0 : Int) (kn : List Bool) (left : Int) (more : Bool) : Prop := ∃ done, LD n done kn left ∧ left ≤ left0 ∧ (more = true → left < left0) ∧ (more = false → Stuck n k done)
theorem Rnd.seq {n : Netlist} {k : Nat} {left0 left : Int} {kn : List Bool} {more : Bool} (h : Rnd n k left0 kn left more) (hc : ¬ Comb (n.cells.getD k default).kind) : Rnd n ((k + 1 : Nat) : Int) left0 kn left more := by
 obtain ⟨done, h1, h2, h3, h4⟩ := h
 refine ⟨done, h1, h2, h3, fun hm i hi h0 => h4 hm i hi (lt_succ_of hc hi h0)⟩
section
variable {n : Netlist} (hf : Formed n) {k : Nat} {left0 left : Int} {kn : List Bool} {more : Bool}
include hf
theorem Rnd.skip (h : Rnd n k left0 kn left more) (hk : k < n.cells.length) (hc : kn.getD (n.cells.getD k default).out.toNat false = true ∨ ¬ ∀ x ∈ (n.cells.getD k default).args, kn.getD x.toNat false = true) (hcm : Comb (n.cells.getD k default).kind) : Rnd n ((k + 1 : Nat) : Int) left0 kn left more := by
 obtain ⟨done, h1, h2, h3, h4⟩ := h
 have hi : CombAt n (k : Int) := ⟨⟨by omega, by omega⟩, hcm⟩
 refine ⟨done, h1, h2, h3, fun hm i hii h0 => ?_⟩
 by_cases e : i = k
 ·subst e
  intro ho hz
  rcases hc with hc | hc
  ·exact (h1.kn _ (hf.outIn hi.drives)).1 hc ho
  ·exact hc ((h1.known hf hi.1).2 hz)
 ·exact h4 hm i hii (by omega)
theorem Rnd.step (h : Rnd n k left0 kn left more) (hk : k < n.cells.length) (hl : kn.length = n.widths.length) (h1 : kn.getD (n.cells.getD k default).out.toNat false = false) (h2 : ∀ x ∈ (n.cells.getD k default).args, kn.getD x.toNat false = true) (hcm : Comb (n.cells.getD k default).kind) :
  Rnd n ((k + 1 : Nat) : Int) left0 (kn.set (n.cells.getD k default).out.toNat true) (left - 1) true := by
 obtain ⟨done, a1, a2, a3, a4⟩ := h
 have hi : CombAt n (k : Int) := ⟨⟨by omega, by omega⟩, hcm⟩
 refine ⟨done ++ [(k : Int)], a1.step hf hl hi h1 ((a1.known hf hi.1).1 h2), by omega, fun _ => by omega, fun h => (by cases h)⟩
end
theorem KN0.next {n : Netlist} (hf : Formed n) {k : Nat} {kn : List Bool} (h : KN0 n k kn) (hk : k < n.cells.length) (hl : kn.length = n.widths.length) :
  (¬ Comb (n.cells.getD k default).kind → 0 ≤ (n.cells.getD k default).out → KN0 n (k + 1) (kn.set (n.cells.getD k default).out.toNat true)) ∧ (Comb (n.cells.getD k default).kind → KN0 n (k + 1) kn ∧ 0 ≤ (n.cells.getD k default).out) ∧
  (¬ 0 ≤ (n.cells.getD k default).out → KN0 n (k + 1) kn) ∧ (0 ≤ (n.cells.getD k default).out → (n.cells.getD k default).out < n.widths.length) := by
 obtain ⟨_, _, a3, a4⟩ := hf.cells k hk
 refine ⟨fun hc ho => ?_, fun hc => ⟨h.skip (.inl hc), ?_⟩, fun ho => ?_, fun ho => ?_⟩
 ·have h7 : (n.cells.getD k default).kind ≠ 7 := fun h7 => by have := a3 h7; omega
  exact h.step hk hl hc h7 (a4 h7)
 ·have h7 : (n.cells.getD k default).kind ≠ 7 := fun h7 => by rw [h7] at hc; revert hc; unfold Comb; omega
  exact (a4 h7).1
 ·have h7 : (n.cells.getD k default).kind = 7 := Classical.byContradiction fun h7 => ho (a4 h7).1
  exact h.skip (.inr h7)
 ·have h7 : (n.cells.getD k default).kind ≠ 7 := fun h7 => by have := a3 h7; omega
  exact (a4 h7).2
end Go.Proofs.Ytligpghohcfpnaa
/- The empty netlist. -/
namespace Go.Proofs.Ytligpghohcfpnaa
open Go Go.AW
def emptyN : Netlist := ⟨ByteArray.empty, [], [], [], [], [], [], [], 0, 0, []⟩
theorem emptyN_small : emptyN.Small := ⟨by decide, by decide, by decide, fun _ h => (by cases h), by decide, fun _ h => (by cases h), fun _ h => (by cases h), fun _ h => (by cases h), by decide, by decide, by decide, by decide, by decide, by decide⟩
theorem emptyN_err : errOf emptyN = 3 := by
 unfold errOf
 rw [if_neg]
 intro h
 have := h.freeze
 unfold In emptyN at this
 simp at this
end Go.Proofs.Ytligpghohcfpnaa
/- The walks through small functions. -/
namespace Go.Proofs.Ytligpghohcfpnaa
open Go Go.AW Go.Proofs
theorem wide_spec {w : Int} : ACalls Try.prog 93 [vi w] [] [] (fun r o => r = .v (.bool (decide (Wide w))) ∧ o = []) := by
 refine ACalls.of Try.func93 rfl rfl rfl (n := 9) (by decide) (nbE rfl) (.sr ?_)
 refine .an ?_
 refine .nil (.sr ?_)
 refine .mv ?_
 refine .vl (Y.geq rfl rfl) ?_
 refine .mv ?_
 refine .splitD (d := 5) rfl (fun c5 => ?_) (fun c5 => ?_)
 refine .gw 5 (Y.move rfl rfl) (.gw 5 (Y.leq rfl rfl) ?_)
 refine .pk ?_
 refine .an ?_
 refine .nil (.ret ?_)
 exact .rb rfl (dd (by (simp only [Wide]) <;> (first | omega | grind)))
 refine .gz 5 (.gz 5 ?_)
 refine .pk ?_
 refine .an ?_
 refine .nil (.ret ?_)
 exact .rb rfl (df (by (simp only [Wide]) <;> (first | omega | grind)))
theorem named_spec {s : ByteArray} (hs : s.size ≤ 140737488351232) : ACalls Try.prog 92 [.v (.string s)] [] [] (fun r o => r = .v (.bool (decide (Named s))) ∧ o = []) := by
 refine ACalls.of Try.func92 rfl rfl rfl (n := 44) (by decide) (nbE rfl) (.sr ?_)
 refine .an ?_
 refine .nil (.seq (.sr ?_))
 refine .mv ?_
 refine .vl (Y.lenS un9 rfl) ?_
 refine .mv ?_
 refine .nil (.block ?_)
 refine .loop1 (fun (n7_2 : Nat) => ⟨[(0, .v (.string s)), (6, vi ((s.size : Nat) : Int)), (7, vi (n7_2 : Int))], []⟩) (fun (n7_2 : Nat) => ((n7_2 : Int) ≤ ((s.size : Nat) : Int)) ∧ (∀ j, j < n7_2 → okByte (sbyte s j))) (fun (n7_2 : Nat) => (((s.size : Nat) : Int) - (n7_2 : Int)).toNat) 0 (⟨by omega, by intro j h; omega⟩) (Le.mk (.c (.c (.cons (look_int rfl (by first | rfl | omega)) (.nil)))) (.nil)) (fun n7_2 hI2 => ?_)
 obtain ⟨hb2, hb⟩ := hI2
 refine .sr (.vl (Y.lss rfl rfl) (.nil ?_))
 refine .seq ?_
 refine .condD rfl (fun c8 => ?_) (fun c8 => ?_)
 refine .skip ?_
 refine .join0 (⟨[(0, .v (.string s)), (6, vi ((s.size : Nat) : Int)), (7, vi (n7_2 : Int))], []⟩) (((97 ≤ ((sbyte s n7_2 : Nat) : Int)) ∧ (((sbyte s n7_2 : Nat) : Int) ≤ 122)) ∨ ((97 ≤ ((sbyte s n7_2 : Nat) : Int)) ∧ (¬ (((sbyte s n7_2 : Nat) : Int) ≤ 122)) ∧ (65 ≤ ((sbyte s n7_2 : Nat) : Int)) ∧ (((sbyte s n7_2 : Nat) : Int) ≤ 90)) ∨ ((97 ≤ ((sbyte s n7_2 : Nat) : Int)) ∧ (¬ (((sbyte s n7_2 : Nat) : Int) ≤ 122)) ∧ (65 ≤ ((sbyte s n7_2 : Nat) : Int)) ∧ (¬ (((sbyte s n7_2 : Nat) : Int) ≤ 90)) ∧ (48 ≤ ((sbyte s n7_2 : Nat) : Int)) ∧ (((sbyte s n7_2 : Nat) : Int) ≤ 57)) ∨ ((97 ≤ ((sbyte s n7_2 : Nat) : Int)) ∧ (¬ (((sbyte s n7_2 : Nat) : Int) ≤ 122)) ∧ (65 ≤ ((sbyte s n7_2 : Nat) : Int)) ∧ (¬ (((sbyte s n7_2 : Nat) : Int) ≤ 90)) ∧ (48 ≤ ((sbyte s n7_2 : Nat) : Int)) ∧ (¬ (((sbyte s n7_2 : Nat) : Int) ≤ 57)) ∧ (((sbyte s n7_2 : Nat) : Int) = 95)) ∨ ((97 ≤ ((sbyte s n7_2 : Nat) : Int)) ∧ (¬ (((sbyte s n7_2 : Nat) : Int) ≤ 122)) ∧ (65 ≤ ((sbyte s n7_2 : Nat) : Int)) ∧ (¬ (((sbyte s n7_2 : Nat) : Int) ≤ 90)) ∧ (¬ (48 ≤ ((sbyte s n7_2 : Nat) : Int))) ∧ (((sbyte s n7_2 : Nat) : Int) = 95)) ∨ ((97 ≤ ((sbyte s n7_2 : Nat) : Int)) ∧ (¬ (((sbyte s n7_2 : Nat) : Int) ≤ 122)) ∧ (¬ (65 ≤ ((sbyte s n7_2 : Nat) : Int))) ∧ (48 ≤ ((sbyte s n7_2 : Nat) : Int)) ∧ (((sbyte s n7_2 : Nat) : Int) ≤ 57)) ∨ ((97 ≤ ((sbyte s n7_2 : Nat) : Int)) ∧ (¬ (((sbyte s n7_2 : Nat) : Int) ≤ 122)) ∧ (¬ (65 ≤ ((sbyte s n7_2 : Nat) : Int))) ∧ (48 ≤ ((sbyte s n7_2 : Nat) : Int)) ∧ (¬ (((sbyte s n7_2 : Nat) : Int) ≤ 57)) ∧ (((sbyte s n7_2 : Nat) : Int) = 95)) ∨ ((97 ≤ ((sbyte s n7_2 : Nat) : Int)) ∧ (¬ (((sbyte s n7_2 : Nat) : Int) ≤ 122)) ∧ (¬ (65 ≤ ((sbyte s n7_2 : Nat) : Int))) ∧ (¬ (48 ≤ ((sbyte s n7_2 : Nat) : Int))) ∧ (((sbyte s n7_2 : Nat) : Int) = 95)) ∨ ((¬ (97 ≤ ((sbyte s n7_2 : Nat) : Int))) ∧ (65 ≤ ((sbyte s n7_2 : Nat) : Int)) ∧ (((sbyte s n7_2 : Nat) : Int) ≤ 90)) ∨ ((¬ (97 ≤ ((sbyte s n7_2 : Nat) : Int))) ∧ (65 ≤ ((sbyte s n7_2 : Nat) : Int)) ∧ (¬ (((sbyte s n7_2 : Nat) : Int) ≤ 90)) ∧ (48 ≤ ((sbyte s n7_2 : Nat) : Int)) ∧ (((sbyte s n7_2 : Nat) : Int) ≤ 57)) ∨ ((¬ (97 ≤ ((sbyte s n7_2 : Nat) : Int))) ∧ (65 ≤ ((sbyte s n7_2 : Nat) : Int)) ∧ (¬ (((sbyte s n7_2 : Nat) : Int) ≤ 90)) ∧ (48 ≤ ((sbyte s n7_2 : Nat) : Int)) ∧ (¬ (((sbyte s n7_2 : Nat) : Int) ≤ 57)) ∧ (((sbyte s n7_2 : Nat) : Int) = 95)) ∨ ((¬ (97 ≤ ((sbyte s n7_2 : Nat) : Int))) ∧ (65 ≤ ((sbyte s n7_2 : Nat) : Int)) ∧ (¬ (((sbyte s n7_2 : Nat) : Int) ≤ 90)) ∧ (¬ (48 ≤ ((sbyte s n7_2 : Nat) : Int))) ∧ (((sbyte s n7_2 : Nat) : Int) = 95)) ∨ ((¬ (97 ≤ ((sbyte s n7_2 : Nat) : Int))) ∧ (¬ (65 ≤ ((sbyte s n7_2 : Nat) : Int))) ∧ (48 ≤ ((sbyte s n7_2 : Nat) : Int)) ∧ (((sbyte s n7_2 : Nat) : Int) ≤ 57)) ∨ ((¬ (97 ≤ ((sbyte s n7_2 : Nat) : Int))) ∧ (¬ (65 ≤ ((sbyte s n7_2 : Nat) : Int))) ∧ (48 ≤ ((sbyte s n7_2 : Nat) : Int)) ∧ (¬ (((sbyte s n7_2 : Nat) : Int) ≤ 57)) ∧ (((sbyte s n7_2 : Nat) : Int) = 95)) ∨ ((¬ (97 ≤ ((sbyte s n7_2 : Nat) : Int))) ∧ (¬ (65 ≤ ((sbyte s n7_2 : Nat) : Int))) ∧ (¬ (48 ≤ ((sbyte s n7_2 : Nat) : Int))) ∧ (((sbyte s n7_2 : Nat) : Int) = 95))) ?_ (fun hJ7 => ?_)
 refine .block (.sr ?_)
 refine .mv ?_
 refine .an ?_
 refine .nil (.sr ?_)
 refine .mv ?_
 refine .mv ?_
 refine .vl (Y.indexSb (m := n7_2) un9 rfl rfl (by first | rfl | omega) (by omega)) ?_
 refine .an ?_
 refine .nil (.sr ?_)
 refine .mv ?_
 refine .vl (Y.geq rfl rfl) ?_
 refine .mv ?_
 refine .splitD (d := 15) rfl (fun c15 => ?_) (fun c15 => ?_)
 refine .gw 15 (Y.move rfl rfl) (.gw 15 (Y.leq rfl rfl) ?_)
 refine .pk ?_
 refine .mv ?_
 refine .splitD (d := 19) rfl (fun c19 => ?_) (fun c19 => ?_)
 refine .gz 19 (.gz 19 (.gz 19 ?_))
 refine .gz 22 (.gz 22 (.gz 19 ?_))
 refine .pk ?_
 refine .mv ?_
 refine .gz 27 (.gz 27 (.gz 27 ?_))
 refine .gz 30 (.gz 30 (.gz 27 ?_))
 refine .pk ?_
 refine .mv ?_
 refine .gz 35 (.gz 35 ?_)
 refine .pk ?_
 refine .vl (Y.not rfl) (.nil (.condF rfl ?_))
 refine .skip ?_
 exact ⟨.inl ⟨c15, c19⟩, Le.mk (.c (.c (.c (.nil)))) (.nil)⟩
 refine .gw 19 (Y.move rfl rfl) (.gw 19 (Y.geq rfl rfl) (.gw 19 (Y.move rfl rfl) ?_))
 refine .splitD (d := 22) rfl (fun c22 => ?_) (fun c22 => ?_)
 refine .gw 22 (Y.move rfl rfl) (.gw 22 (Y.leq rfl rfl) (.gw 19 (Y.pick rfl rfl rfl) ?_))
 refine .pk ?_
 refine .mv ?_
 refine .splitD (d := 27) rfl (fun c27 => ?_) (fun c27 => ?_)
 refine .gz 27 (.gz 27 (.gz 27 ?_))
 refine .gz 30 (.gz 30 (.gz 27 ?_))
 refine .pk ?_
 refine .mv ?_
 refine .gz 35 (.gz 35 ?_)
 refine .pk ?_
 refine .vl (Y.not rfl) (.nil (.condF rfl ?_))
 refine .skip ?_
 exact ⟨.inr (.inl ⟨c15, c19, c22, c27⟩), Le.mk (.c (.c (.c (.nil)))) (.nil)⟩
 refine .gw 27 (Y.move rfl rfl) (.gw 27 (Y.geq rfl rfl) (.gw 27 (Y.move rfl rfl) ?_))
 refine .splitD (d := 30) rfl (fun c30 => ?_) (fun c30 => ?_)
 refine .gw 30 (Y.move rfl rfl) (.gw 30 (Y.leq rfl rfl) (.gw 27 (Y.pick rfl rfl rfl) ?_))
 refine .pk ?_
 refine .mv ?_
 refine .splitD (d := 35) rfl (fun c35 => ?_) (fun c35 => ?_)
 refine .gz 35 (.gz 35 ?_)
 refine .pk ?_
 refine .vl (Y.not rfl) (.nil (.condF rfl ?_))
 refine .skip ?_
 exact ⟨.inr (.inr (.inl ⟨c15, c19, c22, c27, c30, c35⟩)), Le.mk (.c (.c (.c (.nil)))) (.nil)⟩
 refine .gw 35 (Y.move rfl rfl) (.gw 35 (Y.eql rfl rfl) ?_)
 refine .pk ?_
 refine .vl (Y.not rfl) (.nil ?_)
 refine .cond rfl (fun c39 => ?_) (fun c39 => ?_)
 replace c39 : ¬ (((sbyte s n7_2 : Nat) : Int) = 95) := by simpa using c39
 refine .sr ?_
 refine .an ?_
 refine .nil (.ret ?_)
 exact .rb rfl (df (fun h => by have h1 := h.1 n7_2 (by omega); unfold okByte at h1; omega))
 replace c39 : ((sbyte s n7_2 : Nat) : Int) = 95 := by simpa using c39
 refine .skip ?_
 exact ⟨.inr (.inr (.inr (.inl ⟨c15, c19, c22, c27, c30, c35, c39⟩))), Le.mk (.c (.c (.c (.nil)))) (.nil)⟩
 refine .gz 30 (.gz 30 (.gw 27 (Y.pick rfl rfl rfl) ?_))
 refine .pk ?_
 refine .mv ?_
 refine .gw 35 (Y.move rfl rfl) (.gw 35 (Y.eql rfl rfl) ?_)
 refine .pk ?_
 refine .vl (Y.not rfl) (.nil ?_)
 refine .cond rfl (fun c39 => ?_) (fun c39 => ?_)
 replace c39 : ¬ (((sbyte s n7_2 : Nat) : Int) = 95) := by simpa using c39
 refine .sr ?_
 refine .an ?_
 refine .nil (.ret ?_)
 exact .rb rfl (df (fun h => by have h1 := h.1 n7_2 (by omega); unfold okByte at h1; omega))
 replace c39 : ((sbyte s n7_2 : Nat) : Int) = 95 := by simpa using c39
 refine .skip ?_
 exact ⟨.inr (.inr (.inr (.inr (.inl ⟨c15, c19, c22, c27, c30, c39⟩)))), Le.mk (.c (.c (.c (.nil)))) (.nil)⟩
 refine .gz 22 (.gz 22 (.gw 19 (Y.pick rfl rfl rfl) ?_))
 refine .pk ?_
 refine .mv ?_
 refine .gw 27 (Y.move rfl rfl) (.gw 27 (Y.geq rfl rfl) (.gw 27 (Y.move rfl rfl) ?_))
 refine .splitD (d := 30) rfl (fun c30 => ?_) (fun c30 => ?_)
 refine .gw 30 (Y.move rfl rfl) (.gw 30 (Y.leq rfl rfl) (.gw 27 (Y.pick rfl rfl rfl) ?_))
 refine .pk ?_
 refine .mv ?_
 refine .splitD (d := 35) rfl (fun c35 => ?_) (fun c35 => ?_)
 refine .gz 35 (.gz 35 ?_)
 refine .pk ?_
 refine .vl (Y.not rfl) (.nil (.condF rfl ?_))
 refine .skip ?_
 exact ⟨.inr (.inr (.inr (.inr (.inr (.inl ⟨c15, c19, c22, c30, c35⟩))))), Le.mk (.c (.c (.c (.nil)))) (.nil)⟩
 refine .gw 35 (Y.move rfl rfl) (.gw 35 (Y.eql rfl rfl) ?_)
 refine .pk ?_
 refine .vl (Y.not rfl) (.nil ?_)
 refine .cond rfl (fun c39 => ?_) (fun c39 => ?_)
 replace c39 : ¬ (((sbyte s n7_2 : Nat) : Int) = 95) := by simpa using c39
 refine .sr ?_
 refine .an ?_
 refine .nil (.ret ?_)
 exact .rb rfl (df (fun h => by have h1 := h.1 n7_2 (by omega); unfold okByte at h1; omega))
 replace c39 : ((sbyte s n7_2 : Nat) : Int) = 95 := by simpa using c39
 refine .skip ?_
 exact ⟨.inr (.inr (.inr (.inr (.inr (.inr (.inl ⟨c15, c19, c22, c30, c35, c39⟩)))))), Le.mk (.c (.c (.c (.nil)))) (.nil)⟩
 refine .gz 30 (.gz 30 (.gw 27 (Y.pick rfl rfl rfl) ?_))
 refine .pk ?_
 refine .mv ?_
 refine .gw 35 (Y.move rfl rfl) (.gw 35 (Y.eql rfl rfl) ?_)
 refine .pk ?_
 refine .vl (Y.not rfl) (.nil ?_)
 refine .cond rfl (fun c39 => ?_) (fun c39 => ?_)
 replace c39 : ¬ (((sbyte s n7_2 : Nat) : Int) = 95) := by simpa using c39
 refine .sr ?_
 refine .an ?_
 refine .nil (.ret ?_)
 exact .rb rfl (df (fun h => by have h1 := h.1 n7_2 (by omega); unfold okByte at h1; omega))
 replace c39 : ((sbyte s n7_2 : Nat) : Int) = 95 := by simpa using c39
 refine .skip ?_
 exact ⟨.inr (.inr (.inr (.inr (.inr (.inr (.inr (.inl ⟨c15, c19, c22, c30, c39⟩))))))), Le.mk (.c (.c (.c (.nil)))) (.nil)⟩
 refine .gz 15 (.gz 15 ?_)
 refine .pk ?_
 refine .mv ?_
 refine .gw 19 (Y.move rfl rfl) (.gw 19 (Y.geq rfl rfl) (.gw 19 (Y.move rfl rfl) ?_))
 refine .splitD (d := 22) rfl (fun c22 => ?_) (fun c22 => ?_)
 refine .gw 22 (Y.move rfl rfl) (.gw 22 (Y.leq rfl rfl) (.gw 19 (Y.pick rfl rfl rfl) ?_))
 refine .pk ?_
 refine .mv ?_
 refine .splitD (d := 27) rfl (fun c27 => ?_) (fun c27 => ?_)
 refine .gz 27 (.gz 27 (.gz 27 ?_))
 refine .gz 30 (.gz 30 (.gz 27 ?_))
 refine .pk ?_
 refine .mv ?_
 refine .gz 35 (.gz 35 ?_)
 refine .pk ?_
 refine .vl (Y.not rfl) (.nil (.condF rfl ?_))
 refine .skip ?_
 exact ⟨.inr (.inr (.inr (.inr (.inr (.inr (.inr (.inr (.inl ⟨c15, c22, c27⟩)))))))), Le.mk (.c (.c (.c (.nil)))) (.nil)⟩
 refine .gw 27 (Y.move rfl rfl) (.gw 27 (Y.geq rfl rfl) (.gw 27 (Y.move rfl rfl) ?_))
 refine .splitD (d := 30) rfl (fun c30 => ?_) (fun c30 => ?_)
 refine .gw 30 (Y.move rfl rfl) (.gw 30 (Y.leq rfl rfl) (.gw 27 (Y.pick rfl rfl rfl) ?_))
 refine .pk ?_
 refine .mv ?_
 refine .splitD (d := 35) rfl (fun c35 => ?_) (fun c35 => ?_)
 refine .gz 35 (.gz 35 ?_)
 refine .pk ?_
 refine .vl (Y.not rfl) (.nil (.condF rfl ?_))
 refine .skip ?_
 exact ⟨.inr (.inr (.inr (.inr (.inr (.inr (.inr (.inr (.inr (.inl ⟨c15, c22, c27, c30, c35⟩))))))))), Le.mk (.c (.c (.c (.nil)))) (.nil)⟩
 refine .gw 35 (Y.move rfl rfl) (.gw 35 (Y.eql rfl rfl) ?_)
 refine .pk ?_
 refine .vl (Y.not rfl) (.nil ?_)
 refine .cond rfl (fun c39 => ?_) (fun c39 => ?_)
 replace c39 : ¬ (((sbyte s n7_2 : Nat) : Int) = 95) := by simpa using c39
 refine .sr ?_
 refine .an ?_
 refine .nil (.ret ?_)
 exact .rb rfl (df (fun h => by have h1 := h.1 n7_2 (by omega); unfold okByte at h1; omega))
 replace c39 : ((sbyte s n7_2 : Nat) : Int) = 95 := by simpa using c39
 refine .skip ?_
 exact ⟨.inr (.inr (.inr (.inr (.inr (.inr (.inr (.inr (.inr (.inr (.inl ⟨c15, c22, c27, c30, c35, c39⟩)))))))))), Le.mk (.c (.c (.c (.nil)))) (.nil)⟩
 refine .gz 30 (.gz 30 (.gw 27 (Y.pick rfl rfl rfl) ?_))
 refine .pk ?_
 refine .mv ?_
 refine .gw 35 (Y.move rfl rfl) (.gw 35 (Y.eql rfl rfl) ?_)
 refine .pk ?_
 refine .vl (Y.not rfl) (.nil ?_)
 refine .cond rfl (fun c39 => ?_) (fun c39 => ?_)
 replace c39 : ¬ (((sbyte s n7_2 : Nat) : Int) = 95) := by simpa using c39
 refine .sr ?_
 refine .an ?_
 refine .nil (.ret ?_)
 exact .rb rfl (df (fun h => by have h1 := h.1 n7_2 (by omega); unfold okByte at h1; omega))
 replace c39 : ((sbyte s n7_2 : Nat) : Int) = 95 := by simpa using c39
 refine .skip ?_
 exact ⟨.inr (.inr (.inr (.inr (.inr (.inr (.inr (.inr (.inr (.inr (.inr (.inl ⟨c15, c22, c27, c30, c39⟩))))))))))), Le.mk (.c (.c (.c (.nil)))) (.nil)⟩
 refine .gz 22 (.gz 22 (.gw 19 (Y.pick rfl rfl rfl) ?_))
 refine .pk ?_
 refine .mv ?_
 refine .gw 27 (Y.move rfl rfl) (.gw 27 (Y.geq rfl rfl) (.gw 27 (Y.move rfl rfl) ?_))
 refine .splitD (d := 30) rfl (fun c30 => ?_) (fun c30 => ?_)
 refine .gw 30 (Y.move rfl rfl) (.gw 30 (Y.leq rfl rfl) (.gw 27 (Y.pick rfl rfl rfl) ?_))
 refine .pk ?_
 refine .mv ?_
 refine .splitD (d := 35) rfl (fun c35 => ?_) (fun c35 => ?_)
 refine .gz 35 (.gz 35 ?_)
 refine .pk ?_
 refine .vl (Y.not rfl) (.nil (.condF rfl ?_))
 refine .skip ?_
 exact ⟨.inr (.inr (.inr (.inr (.inr (.inr (.inr (.inr (.inr (.inr (.inr (.inr (.inl ⟨c15, c22, c30, c35⟩)))))))))))), Le.mk (.c (.c (.c (.nil)))) (.nil)⟩
 refine .gw 35 (Y.move rfl rfl) (.gw 35 (Y.eql rfl rfl) ?_)
 refine .pk ?_
 refine .vl (Y.not rfl) (.nil ?_)
 refine .cond rfl (fun c39 => ?_) (fun c39 => ?_)
 replace c39 : ¬ (((sbyte s n7_2 : Nat) : Int) = 95) := by simpa using c39
 refine .sr ?_
 refine .an ?_
 refine .nil (.ret ?_)
 exact .rb rfl (df (fun h => by have h1 := h.1 n7_2 (by omega); unfold okByte at h1; omega))
 replace c39 : ((sbyte s n7_2 : Nat) : Int) = 95 := by simpa using c39
 refine .skip ?_
 exact ⟨.inr (.inr (.inr (.inr (.inr (.inr (.inr (.inr (.inr (.inr (.inr (.inr (.inr (.inl ⟨c15, c22, c30, c35, c39⟩))))))))))))), Le.mk (.c (.c (.c (.nil)))) (.nil)⟩
 refine .gz 30 (.gz 30 (.gw 27 (Y.pick rfl rfl rfl) ?_))
 refine .pk ?_
 refine .mv ?_
 refine .gw 35 (Y.move rfl rfl) (.gw 35 (Y.eql rfl rfl) ?_)
 refine .pk ?_
 refine .vl (Y.not rfl) (.nil ?_)
 refine .cond rfl (fun c39 => ?_) (fun c39 => ?_)
 replace c39 : ¬ (((sbyte s n7_2 : Nat) : Int) = 95) := by simpa using c39
 refine .sr ?_
 refine .an ?_
 refine .nil (.ret ?_)
 exact .rb rfl (df (fun h => by have h1 := h.1 n7_2 (by omega); unfold okByte at h1; omega))
 replace c39 : ((sbyte s n7_2 : Nat) : Int) = 95 := by simpa using c39
 refine .skip ?_
 exact ⟨.inr (.inr (.inr (.inr (.inr (.inr (.inr (.inr (.inr (.inr (.inr (.inr (.inr (.inr (⟨c15, c22, c30, c39⟩)))))))))))))), Le.mk (.c (.c (.c (.nil)))) (.nil)⟩
 refine .region ?_
 refine .vl (Y.addI rfl rfl (by omega)) ?_
 refine .mv ?_
 refine .nil ?_
 exact ⟨n7_2 + 1, ⟨by omega, below_succ hb (by unfold okByte; omega)⟩, by omega, Le.mk (.c (.c (.cons (look_int rfl (by first | rfl | omega)) (.nil)))) (.nil)⟩
 refine .exit (.sr ?_)
 refine .mv ?_
 refine .vl (Y.lenS un9 rfl) (.vl (Y.leq rfl rfl) ?_)
 refine .an ?_
 refine .nil (.ret ?_)
 exact .rb rfl (dd ⟨fun h => ⟨fun j hj => hb j (by omega), by omega⟩, fun h => by have := h.2; omega⟩)
theorem operands_spec {op : Int} : ACalls Try.prog 124 [vi op] [] [] (fun r o => r = (vi (opArgs op)) ∧ o = []) := by
 refine ACalls.of Try.func124 rfl rfl rfl (n := 25) (by decide) (nbE rfl) (.sr ?_)
 refine .an ?_
 refine .nil (.seq (.sr ?_))
 refine .mv ?_
 refine .nil (.block (.seq ?_))
 refine .sr (.vl (Y.eql rfl rfl) ?_)
 refine .an ?_
 refine .nil ?_
 refine .condKD rfl (fun c4 => ?_) (fun c4 => ?_)
 refine .skip (.condT rfl (.sr ?_))
 refine .an ?_
 refine .nil (.ret ?_)
 exact .ri rfl (by simp only [opArgs]; omega)
 refine .sr (.vl (Y.eql rfl rfl) ?_)
 refine .an ?_
 refine .nil ?_
 refine .condKD rfl (fun c4 => ?_) (fun c4 => ?_)
 refine .skip (.condT rfl (.sr ?_))
 refine .an ?_
 refine .nil (.ret ?_)
 exact .ri rfl (by simp only [opArgs]; omega)
 refine .sr (.vl (Y.eql rfl rfl) ?_)
 refine .an ?_
 refine .nil ?_
 refine .condKD rfl (fun c4 => ?_) (fun c4 => ?_)
 refine .skip (.condT rfl (.sr ?_))
 refine .an ?_
 refine .nil (.ret ?_)
 exact .ri rfl (by simp only [opArgs]; omega)
 refine .sr (.vl (Y.eql rfl rfl) ?_)
 refine .an ?_
 refine .nil ?_
 refine .condKD rfl (fun c4 => ?_) (fun c4 => ?_)
 refine .skip (.condT rfl (.sr ?_))
 refine .an ?_
 refine .nil (.ret ?_)
 exact .ri rfl (by simp only [opArgs]; omega)
 refine .sr (.vl (Y.eql rfl rfl) ?_)
 refine .an ?_
 refine .nil ?_
 refine .condKD rfl (fun c4 => ?_) (fun c4 => ?_)
 refine .skip (.condT rfl (.sr ?_))
 refine .an ?_
 refine .nil (.ret ?_)
 exact .ri rfl (by simp only [opArgs]; omega)
 refine .sr (.vl (Y.eql rfl rfl) ?_)
 refine .an ?_
 refine .nil ?_
 refine .condKD rfl (fun c4 => ?_) (fun c4 => ?_)
 refine .skip (.condT rfl (.sr ?_))
 refine .an ?_
 refine .nil (.ret ?_)
 exact .ri rfl (by simp only [opArgs]; omega)
 refine .sr (.vl (Y.eql rfl rfl) ?_)
 refine .an ?_
 refine .nil ?_
 refine .condKD rfl (fun c4 => ?_) (fun c4 => ?_)
 refine .skip (.condT rfl (.sr ?_))
 refine .an ?_
 refine .nil (.ret ?_)
 exact .ri rfl (by simp only [opArgs]; omega)
 refine .sr (.vl (Y.eql rfl rfl) ?_)
 refine .an ?_
 refine .nil ?_
 refine .condKD rfl (fun c4 => ?_) (fun c4 => ?_)
 refine .skip (.condT rfl (.sr ?_))
 refine .an ?_
 refine .nil (.ret ?_)
 exact .ri rfl (by simp only [opArgs]; omega)
 refine .sr (.vl (Y.eql rfl rfl) ?_)
 refine .an ?_
 refine .nil ?_
 refine .condKD rfl (fun c4 => ?_) (fun c4 => ?_)
 refine .skip (.condT rfl (.sr ?_))
 refine .an ?_
 refine .nil (.ret ?_)
 exact .ri rfl (by simp only [opArgs]; omega)
 refine .sr (.vl (Y.eql rfl rfl) ?_)
 refine .an ?_
 refine .nil ?_
 refine .condKD rfl (fun c4 => ?_) (fun c4 => ?_)
 refine .skip (.condT rfl (.sr ?_))
 refine .an ?_
 refine .nil (.ret ?_)
 exact .ri rfl (by simp only [opArgs]; omega)
 refine .sr (.vl (Y.eql rfl rfl) ?_)
 refine .an ?_
 refine .nil ?_
 refine .condKD rfl (fun c4 => ?_) (fun c4 => ?_)
 refine .skip (.condT rfl (.sr ?_))
 refine .an ?_
 refine .nil (.ret ?_)
 exact .ri rfl (by simp only [opArgs]; omega)
 refine .sr (.vl (Y.eql rfl rfl) ?_)
 refine .an ?_
 refine .nil ?_
 refine .condKD rfl (fun c4 => ?_) (fun c4 => ?_)
 refine .skip (.condT rfl (.sr ?_))
 refine .an ?_
 refine .nil (.ret ?_)
 exact .ri rfl (by simp only [opArgs]; omega)
 refine .sr (.vl (Y.eql rfl rfl) ?_)
 refine .an ?_
 refine .nil ?_
 refine .condKD rfl (fun c4 => ?_) (fun c4 => ?_)
 refine .skip (.condT rfl (.sr ?_))
 refine .an ?_
 refine .nil (.ret ?_)
 exact .ri rfl (by simp only [opArgs]; omega)
 refine .region (.vl (Y.eql rfl rfl) ?_)
 refine .an ?_
 refine .nil ?_
 refine .condKD rfl (fun c4 => ?_) (fun c4 => ?_)
 refine .sr ?_
 refine .an ?_
 refine .nil (.ret ?_)
 exact .ri rfl (by simp only [opArgs]; omega)
 refine .sr (.vl (Y.eql rfl rfl) ?_)
 refine .an ?_
 refine .nil ?_
 refine .condD rfl (fun c19 => ?_) (fun c19 => ?_)
 refine .sr ?_
 refine .an ?_
 refine .nil (.ret ?_)
 exact .ri rfl (by simp only [opArgs]; omega)
 refine .seq (.sr (.vl (Y.eql rfl rfl) ?_))
 refine .an ?_
 refine .nil ?_
 refine .condKD rfl (fun c21 => ?_) (fun c21 => ?_)
 refine .skip (.condT rfl (.sr ?_))
 refine .an ?_
 refine .nil (.ret ?_)
 exact .ri rfl (by simp only [opArgs]; omega)
 refine .sr (.vl (Y.eql rfl rfl) ?_)
 refine .an ?_
 refine .nil ?_
 refine .condKD rfl (fun c21 => ?_) (fun c21 => ?_)
 refine .skip (.condT rfl (.sr ?_))
 refine .an ?_
 refine .nil (.ret ?_)
 exact .ri rfl (by simp only [opArgs]; omega)
 refine .region (.vl (Y.eql rfl rfl) ?_)
 refine .an ?_
 refine .nil ?_
 refine .condKD rfl (fun c21 => ?_) (fun c21 => ?_)
 refine .sr ?_
 refine .an ?_
 refine .nil (.ret ?_)
 exact .ri rfl (by simp only [opArgs]; omega)
 refine .skip (.sr ?_)
 refine .an ?_
 refine .nil (.ret ?_)
 exact .ri rfl (by simp only [opArgs]; omega)
end Go.Proofs.Ytligpghohcfpnaa
/- Walks through small functions of words. -/
namespace Go.Proofs.Ytligpghohcfpnaa
open Go Go.AW Go.Proofs
theorem lim127_spec {w : Int} : ACalls Try.prog 127 [vi w] [] [] (fun r o => r = (vi ((limN w : Nat) : Int)) ∧ o = []) := by
 refine ACalls.of Try.func127 rfl rfl rfl (n := 6) (by decide) (nbE rfl) (.sr ?_)
 refine .an ?_
 refine .nil (.sr ?_)
 refine .mv ?_
 refine .vl (Y.max rfl rfl rfl) (.vl (Y.min rfl rfl rfl) ?_)
 refine .an ?_
 refine .nil (.ret ?_)
 exact .ri rfl (by unfold limN; (repeat' split) <;> omega)
theorem lim104_spec {w : Int} : ACalls Try.prog 104 [vi w] [] [] (fun r o => r = (vi ((limN w : Nat) : Int)) ∧ o = []) := by
 refine ACalls.of Try.func104 rfl rfl rfl (n := 6) (by decide) (nbE rfl) (.sr ?_)
 refine .an ?_
 refine .nil (.sr ?_)
 refine .mv ?_
 refine .vl (Y.max rfl rfl rfl) (.vl (Y.min rfl rfl rfl) ?_)
 refine .an ?_
 refine .nil (.ret ?_)
 exact .ri rfl (by unfold limN; (repeat' split) <;> omega)
theorem mask_spec {w : Int} : ACalls Try.prog 103 [vi w] [] [] (fun r o => r = .v (.int .u64 ((2 ^ limN w - 1 : Nat) : Int)) ∧ o = []) := by
 refine ACalls.of Try.func103 rfl rfl rfl (n := 10) (by decide) (nbE rfl) ?_
 have hl := limN_le w
 refine .sr ?_
 refine .an ?_
 refine .nil (.seq (.sr ?_))
 refine .mv ?_
 refine .callP ok127 (lim127_spec (w := w)) rfl (.keep rfl rfl .nil) (by decide) rfl ?_
 refine .an ?_
 refine .nil (.sr ?_)
 refine .mv ?_
 refine .vl (Y.eql rfl rfl) (.nil ?_)
 refine .condD rfl (fun c6 => ?_) (fun c6 => ?_)
 refine .sr ?_
 refine .an ?_
 refine .nil (.ret ?_)
 exact .ri rfl (by rw [show limN w = 0 by omega]; rfl)
 refine .skip (.sr ?_)
 refine .mv ?_
 refine .vl (Y.subI rfl rfl (by first | omega | simp [-List.getD_eq_getElem?_getD] <;> omega)) ?_
 refine .vl (Y.shrN (a := 18446744073709551615) ((64 - ((limN w : Nat) : Int)).toNat) rfl rfl (by omega) (by omega)) ?_
 refine .an ?_
 refine .nil (.ret ?_)
 exact .ri rfl (by rw [show ((64 : Int) - ((limN w : Nat) : Int)).toNat = 64 - limN w by omega, mask_eq])
theorem bfit_spec {w : Int} {x : Nat} (hx : x < 18446744073709551616) : ACalls Try.prog 65 [vi w, .v (.int .u64 (x : Int))] [] [] (fun r o => r = .v (.int .u64 ((fitN w x : Nat) : Int)) ∧ o = []) := by
 refine ACalls.of Try.func65 rfl rfl rfl (n := 9) (by decide) (nbE rfl) ?_
 have hm := mask_lt w
 refine .sr ?_
 refine .an ?_
 refine .nil (.sr ?_)
 refine .mv ?_
 refine .mv ?_
 refine .callP ok103 (mask_spec (w := w)) rfl (.keep rfl rfl .nil) (by decide) rfl ?_
 refine .vl (Y.andN (a := x) (b := (2 ^ limN w - 1)) rfl rfl (by omega)) ?_
 refine .an ?_
 refine .nil (.ret ?_)
 exact .ri rfl (by rw [fitN_and])
theorem isCompare_spec {w : Int} : ACalls Try.prog 74 [vi w] [] [] (fun r o => r = .v (.bool (decide (Cmp w))) ∧ o = []) := by
 refine ACalls.of Try.func74 rfl rfl rfl (n := 9) (by decide) (nbE rfl) (.sr ?_)
 refine .an ?_
 refine .nil (.sr ?_)
 refine .mv ?_
 refine .vl (Y.geq rfl rfl) ?_
 refine .mv ?_
 refine .splitD (d := 5) rfl (fun c5 => ?_) (fun c5 => ?_)
 refine .gw 5 (Y.move rfl rfl) (.gw 5 (Y.leq rfl rfl) ?_)
 refine .pk ?_
 refine .an ?_
 refine .nil (.ret ?_)
 exact .rb rfl (dd (by (simp only [Cmp]) <;> (first | omega | grind)))
 refine .gz 5 (.gz 5 ?_)
 refine .pk ?_
 refine .an ?_
 refine .nil (.ret ?_)
 exact .rb rfl (df (by (simp only [Cmp]) <;> (first | omega | grind)))
theorem refIsCompare_spec {w : Int} : ACalls Try.prog 77 [vi w] [] [] (fun r o => r = .v (.bool (decide (Cmp w))) ∧ o = []) := by
 refine ACalls.of Try.func77 rfl rfl rfl (n := 9) (by decide) (nbE rfl) (.sr ?_)
 refine .an ?_
 refine .nil (.sr ?_)
 refine .mv ?_
 refine .vl (Y.geq rfl rfl) ?_
 refine .mv ?_
 refine .splitD (d := 5) rfl (fun c5 => ?_) (fun c5 => ?_)
 refine .gw 5 (Y.move rfl rfl) (.gw 5 (Y.leq rfl rfl) ?_)
 refine .pk ?_
 refine .an ?_
 refine .nil (.ret ?_)
 exact .rb rfl (dd (by (simp only [Cmp]) <;> (first | omega | grind)))
 refine .gz 5 (.gz 5 ?_)
 refine .pk ?_
 refine .an ?_
 refine .nil (.ret ?_)
 exact .rb rfl (df (by (simp only [Cmp]) <;> (first | omega | grind)))
theorem unary_spec {w : Int} : ACalls Try.prog 118 [vi w] [] [] (fun r o => r = .v (.bool (decide (Unary w))) ∧ o = []) := by
 refine ACalls.of Try.func118 rfl rfl rfl (n := 13) (by decide) (nbE rfl) (.sr ?_)
 refine .an ?_
 refine .nil (.sr ?_)
 refine .mv ?_
 refine .vl (Y.eql rfl rfl) ?_
 refine .mv ?_
 refine .splitD (d := 5) rfl (fun c5 => ?_) (fun c5 => ?_)
 refine .gz 5 (.gz 5 ?_)
 refine .pk ?_
 refine .mv ?_
 refine .gz 9 (.gz 9 ?_)
 refine .pk ?_
 refine .an ?_
 refine .nil (.ret ?_)
 exact .rb rfl (dt (by (simp only [Unary]) <;> (first | omega | grind)))
 refine .gw 5 (Y.move rfl rfl) (.gw 5 (Y.eql rfl rfl) ?_)
 refine .pk ?_
 refine .mv ?_
 refine .splitD (d := 9) rfl (fun c9 => ?_) (fun c9 => ?_)
 refine .gz 9 (.gz 9 ?_)
 refine .pk ?_
 refine .an ?_
 refine .nil (.ret ?_)
 exact .rb rfl (dt (by (simp only [Unary]) <;> (first | omega | grind)))
 refine .gw 9 (Y.move rfl rfl) (.gw 9 (Y.eql rfl rfl) ?_)
 refine .pk ?_
 refine .an ?_
 refine .nil (.ret ?_)
 exact .rb rfl (dd (by (simp only [Unary]) <;> (first | omega | grind)))
theorem comb_spec {w : Int} : ACalls Try.prog 21 [vi w] [] [] (fun r o => r = .v (.bool (decide (Comb w))) ∧ o = []) := by
 refine ACalls.of Try.func21 rfl rfl rfl (n := 13) (by decide) (nbE rfl) (.sr ?_)
 refine .an ?_
 refine .nil (.sr ?_)
 refine .mv ?_
 refine .vl (Y.eql rfl rfl) ?_
 refine .mv ?_
 refine .splitD (d := 5) rfl (fun c5 => ?_) (fun c5 => ?_)
 refine .gz 5 (.gz 5 ?_)
 refine .pk ?_
 refine .mv ?_
 refine .gz 9 (.gz 9 ?_)
 refine .pk ?_
 refine .an ?_
 refine .nil (.ret ?_)
 exact .rb rfl (dt (by (simp only [Comb]) <;> (first | omega | grind)))
 refine .gw 5 (Y.move rfl rfl) (.gw 5 (Y.eql rfl rfl) ?_)
 refine .pk ?_
 refine .mv ?_
 refine .splitD (d := 9) rfl (fun c9 => ?_) (fun c9 => ?_)
 refine .gz 9 (.gz 9 ?_)
 refine .pk ?_
 refine .an ?_
 refine .nil (.ret ?_)
 exact .rb rfl (dt (by (simp only [Comb]) <;> (first | omega | grind)))
 refine .gw 9 (Y.move rfl rfl) (.gw 9 (Y.eql rfl rfl) ?_)
 refine .pk ?_
 refine .an ?_
 refine .nil (.ret ?_)
 exact .rb rfl (dd (by (simp only [Comb]) <;> (first | omega | grind)))
theorem refComb_spec {w : Int} : ACalls Try.prog 22 [vi w] [] [] (fun r o => r = .v (.bool (decide (Comb w))) ∧ o = []) := by
 refine ACalls.of Try.func22 rfl rfl rfl (n := 13) (by decide) (nbE rfl) (.sr ?_)
 refine .an ?_
 refine .nil (.sr ?_)
 refine .mv ?_
 refine .vl (Y.eql rfl rfl) ?_
 refine .mv ?_
 refine .splitD (d := 5) rfl (fun c5 => ?_) (fun c5 => ?_)
 refine .gz 5 (.gz 5 ?_)
 refine .pk ?_
 refine .mv ?_
 refine .gz 9 (.gz 9 ?_)
 refine .pk ?_
 refine .an ?_
 refine .nil (.ret ?_)
 exact .rb rfl (dt (by (simp only [Comb]) <;> (first | omega | grind)))
 refine .gw 5 (Y.move rfl rfl) (.gw 5 (Y.eql rfl rfl) ?_)
 refine .pk ?_
 refine .mv ?_
 refine .splitD (d := 9) rfl (fun c9 => ?_) (fun c9 => ?_)
 refine .gz 9 (.gz 9 ?_)
 refine .pk ?_
 refine .an ?_
 refine .nil (.ret ?_)
 exact .rb rfl (dt (by (simp only [Comb]) <;> (first | omega | grind)))
 refine .gw 9 (Y.move rfl rfl) (.gw 9 (Y.eql rfl rfl) ?_)
 refine .pk ?_
 refine .an ?_
 refine .nil (.ret ?_)
 exact .rb rfl (dd (by (simp only [Comb]) <;> (first | omega | grind)))
end Go.Proofs.Ytligpghohcfpnaa
/- Walks through the specification of words. -/
namespace Go.Proofs.Ytligpghohcfpnaa
open Go Go.AW Go.Proofs
theorem bits_spec {w : Int} {x : Nat} (hx : x < 18446744073709551616) : ACalls Try.prog 67 [vi w, .v (.int .u64 ((x : Nat) : Int))] [] [] (fun r o => r = .uni 1 ((bitsN (limN w) x).map irow) ∧ o = []) := by
 refine ACalls.of Try.func67 rfl rfl rfl (n := 22) (by decide) (nbE rfl) ?_
 have hl := limN_le w
 refine .sr ?_
 refine .an ?_
 refine .nil (.sr ?_)
 refine .an ?_
 refine .sh (Sh.nil (d := 5) 105 1 rfl (by decide)) (.nil (.seq ?_))
 refine .sr ?_
 refine .an ?_
 refine .nil (.block ?_)
 refine .loop3 (fun (x1_3 : Nat) (i6_3 : Nat) (out5_3 : List Int) => ⟨[(0, vi w), (1, .v (.int .u64 (x1_3 : Int))), (5, .slc 105 1 0 out5_3.length), (6, vi (i6_3 : Int))], [(105, .rows 1 (out5_3.map irow))]⟩) (fun (x1_3 : Nat) (i6_3 : Nat) (out5_3 : List Int) => ((i6_3 : Int) ≤ ((limN w : Nat) : Int)) ∧ (out5_3.length = i6_3) ∧ (out5_3 = bitsN i6_3 x) ∧ (x1_3 = x / 2 ^ i6_3) ∧ (x1_3 < 18446744073709551616)) (fun (x1_3 : Nat) (i6_3 : Nat) (out5_3 : List Int) => (((limN w : Nat) : Int) - (i6_3 : Int)).toNat) x 0 ([] : List Int) (⟨by first | omega | (simp [-List.getD_eq_getElem?_getD]; done) | (simp [-List.getD_eq_getElem?_getD]; omega), rfl, rfl, by simp, hx⟩) (Le.mk (.c (.cons (look_int rfl (by first | rfl | omega)) (.cons (look_slc rfl (by first | omega | simp [-List.getD_eq_getElem?_getD] <;> omega)) (.cons (look_int rfl (by first | rfl | omega)) (.nil))))) (.c (.nil))) (fun x1_3 i6_3 out5_3 hI3 => ?_)
 obtain ⟨hb3, hlen, hb, hv, hm⟩ := hI3
 refine .seq (.sr ?_)
 refine .mv ?_
 refine .mv ?_
 refine .callP ok104 (lim104_spec (w := w)) rfl (.keep rfl rfl .nil) (by decide) rfl (.vl (Y.lss rfl rfl) (.nil ?_))
 refine .condD rfl (fun c10 => ?_) (fun c10 => ?_)
 refine .skip (.seq (.block ?_))
 refine .sr ?_
 refine .mv ?_
 refine .mv ?_
 refine .vl (Y.remN (a := x1_3) (b := 2) rfl rfl (by omega)) ?_
 refine .vl (Y.convK ii37 ii3 rfl (by first | rfl | exact IntWalk.i64_in _ (by omega))) ?_
 refine .buildSlice (([((x1_3 % 2 : Nat) : Int)] : List Int).map irow) sl22 ze3 rfl rfl rfl rfl rfl (uniform_map (s := 1) (f := irow) (fun _ => rfl)) rfl rfl rfl (by decide) ?_
 refine .appendE ((out5_3 ++ ([((x1_3 % 2 : Nat) : Int)] : List Int)).map irow) (out5_3 ++ ([((x1_3 % 2 : Nat) : Int)] : List Int)).length sl22 ze3 rfl rfl rfl rfl (app_le (by first | omega | simp [-List.getD_eq_getElem?_getD] <;> omega)) (app_map (by first | omega | simp [-List.getD_eq_getElem?_getD] <;> omega)) (app_n (by first | omega | simp [-List.getD_eq_getElem?_getD] <;> omega)) (by first | omega | simp [-List.getD_eq_getElem?_getD] <;> omega) (by first | omega | simp [-List.getD_eq_getElem?_getD] <;> omega) (by decide) (by decide) ?_
 refine .an ?_
 refine .nil (.region ?_)
 refine .mv ?_
 refine .vl (Y.quoN (a := x1_3) (b := 2) rfl rfl (by omega)) ?_
 refine .an ?_
 refine .nil (.region ?_)
 refine .mv ?_
 refine .vl (Y.addI rfl rfl (by omega)) ?_
 refine .an ?_
 refine .nil ?_
 exact ⟨x1_3 / 2, i6_3 + 1, out5_3 ++ ([((x1_3 % 2 : Nat) : Int)] : List Int), ⟨by omega, by simp; omega, by rw [hb, bitsN_succ, hv], by rw [hv, Nat.div_div_eq_div_mul, Nat.pow_succ], by omega⟩, by omega, Le.mk (.c (.cons (look_int rfl (by first | rfl | omega)) (.cons (look_slc rfl (by omega)) (.cons (look_int rfl (by first | rfl | omega)) (.nil))))) (.c (.nil))⟩
 refine .exit (.sr ?_)
 refine .mv ?_
 refine .an ?_
 refine .sh (Sh.detach (d := 4) (o := 105) rfl rfl (len_map (by omega)) (by decide)) ?_
 refine .nil (.ret ?_)
 exact ⟨_, _, rfl, rfl, (cg1 (fun (z0 : List Int) => X.uni 1 (z0.map irow)) (by rw [hb, show i6_3 = limN w by omega] : out5_3 = bitsN (limN w) x) : X.uni 1 (out5_3.map irow) = X.uni 1 ((bitsN (limN w) x).map irow)), rfl⟩
theorem word_spec {l : List Int} (h1 : ∀ b ∈ l, 0 ≤ b ∧ b ≤ 1) (h2 : l.length ≤ 64) : ACalls Try.prog 66 [.fz 1 (l.map irow)] [] [] (fun r o => r = .v (.int .u64 ((wordN l : Nat) : Int)) ∧ o = []) := by
 refine ACalls.of Try.func66 rfl rfl rfl (n := 21) (by decide) (nbE rfl) (.sr ?_)
 refine .an ?_
 refine .nil (.sr ?_)
 refine .an ?_
 refine .nil (.seq (.sr ?_))
 refine .mv ?_
 refine .vl (Y.len (n := l.length) sl22 rfl (congrArg some (List.length_map ..))) ?_
 refine .vl (Y.subI rfl rfl (by first | omega | simp [-List.getD_eq_getElem?_getD] <;> omega)) ?_
 refine .an ?_
 refine .nil (.block ?_)
 refine .loop2 (fun (x3_3 : Nat) (i4_3 : Int) => ⟨[(0, .fz 1 (l.map irow)), (3, .v (.int .u64 (x3_3 : Int))), (4, vi i4_3)], []⟩) (fun (x3_3 : Nat) (i4_3 : Int) => (-1 ≤ i4_3 ∧ i4_3 < (l.length : Int)) ∧ (x3_3 = wordN (l.drop (i4_3 + 1).toNat))) (fun (x3_3 : Nat) (i4_3 : Int) => (i4_3 + 1).toNat) 0 (((l.length : Nat) : Int) - 1) (⟨by omega, by rw [List.drop_eq_nil_of_le (by omega)]; rfl⟩) (Le.mk (.c (.cons (look_int rfl (by first | rfl | omega)) (.cons (look_int rfl (by first | rfl | omega)) (.nil)))) (.nil)) (fun x3_3 i4_3 hI3 => ?_)
 obtain ⟨hi, hx⟩ := hI3
 refine .seq (.sr ?_)
 refine .mv ?_
 refine .vl (Y.geq rfl rfl) (.nil ?_)
 refine .condD rfl (fun c9 => ?_) (fun c9 => ?_)
 refine .skip (.seq (.block ?_))
 refine .region ?_
 refine .mv ?_
 refine .vl (Y.mulN (a := 2) (b := x3_3) rfl rfl) ?_
 refine .mv ?_
 refine .mv ?_
 refine .vl (Y.indexF (m := (i4_3).toNat) sl22 rfl rfl (by omega) (row_getD (d := 0) (by omega))) ?_
 have hb := h1 _ (getD_mem (l := l) (i := i4_3.toNat) (by omega))
 refine .ld sh3 ?_
 refine .vl (Y.conv ii3 ii37 rfl (u64_toNat _ (by omega))) ?_
 refine .vl (Y.addN (a := ((2 * x3_3) % 18446744073709551616)) (b := ((l.getD ((i4_3).toNat) 0).toNat)) rfl rfl) ?_
 refine .an ?_
 refine .nil (.region ?_)
 refine .mv ?_
 refine .vl (Y.subI rfl rfl (by first | omega | simp [-List.getD_eq_getElem?_getD] <;> omega)) ?_
 refine .an ?_
 refine .nil ?_
 exact ⟨(((2 * x3_3) % 18446744073709551616) + ((l.getD ((i4_3).toNat) 0).toNat)) % 18446744073709551616, i4_3 - 1, ⟨by omega, word_step h1 h2 (by omega) hx⟩, by omega, Le.mk (.c (.cons (look_int rfl (by first | rfl | omega)) (.cons (look_int rfl (by first | rfl | omega)) (.nil)))) (.nil)⟩
 refine .exit (.sr ?_)
 refine .mv ?_
 refine .an ?_
 refine .nil (.ret ?_)
 exact .ri rfl (by rw [hx, show (i4_3 + 1).toNat = 0 by omega, List.drop_zero])
theorem rfit_spec {w : Int} {x : Nat} (hx : x < 18446744073709551616) : ACalls Try.prog 26 [vi w, .v (.int .u64 ((x : Nat) : Int))] [] [] (fun r o => r = .v (.int .u64 ((fitN w x : Nat) : Int)) ∧ o = []) := by
 refine ACalls.of Try.func26 rfl rfl rfl (n := 9) (by decide) (nbE rfl) (.sr ?_)
 refine .an ?_
 refine .nil (.sr ?_)
 refine .mv ?_
 refine .mv ?_
 refine .callP ok67 (bits_spec (w := w) (x := x) ((by omega))) rfl (.keep rfl rfl (.keep rfl rfl .nil)) (by decide) rfl ?_
 refine .sh (Sh.freezeE (d := 7) ((bitsN (limN w) x).map irow) rfl (by first | rfl | exact rep_map rfl) (Frees.map irow_frees)) (.callP ok66 (word_spec (l := (bitsN (limN w) x)) (bitsN_01 _ _) (by rw [bitsN_len]; exact limN_le _)) rfl (.keep rfl rfl .nil) (by decide) rfl ?_)
 refine .an ?_
 refine .nil (.ret ?_)
 exact .ri rfl (by rw [wordN_bits]; rfl)
end Go.Proofs.Ytligpghohcfpnaa
/- Walks through the widths of the specification. -/
namespace Go.Proofs.Ytligpghohcfpnaa
open Go Go.AW Go.Proofs
end Go.Proofs.Ytligpghohcfpnaa
/- The widths of the specification, whatever the kind. -/
namespace Go.Proofs.Ytligpghohcfpnaa
open Go Go.AW Go.Proofs
end Go.Proofs.Ytligpghohcfpnaa
/- Walk through shaped. -/
namespace Go.Proofs.Ytligpghohcfpnaa
open Go Go.AW Go.Proofs
theorem shaped_spec {n : Netlist} {c : Cell} (hs : n.Small) (hc : c.args.length ≤ 17592186043904) : ACalls Try.prog 98 [.agg (Netlist.row n), .agg (Cell.row c)] [] [] (fun r o => r = .v (.bool (decide (Shaped n c))) ∧ o = []) := by
 refine ACalls.of Try.func98 rfl rfl rfl (n := 132) (by decide) (nbE rfl) ?_
 have hs4 := hs.ins; have hs5 := hs.mems; have hs6 := hs.streams
 refine .sr (.box 102 rfl rfl rfl rfl rfl (by decide) (.box 103 rfl rfl rfl rfl rfl (by decide) ?_))
 refine .an ?_
 refine .nil (.sr ?_)
 refine .an ?_
 refine .an ?_
 refine .an ?_
 refine .an ?_
 refine .nil (.seq (.sr ?_))
 refine .fa fl39_0 ?_
 refine .ld sh3 ?_
 refine .nil (.block (.sr ?_))
 refine .vl (Y.eql rfl rfl) ?_
 refine .an ?_
 refine .nil ?_
 refine .condD rfl (fun c11 => ?_) (fun c11 => ?_)
 refine .region ?_
 refine .an ?_
 refine .nil ?_
 refine .join0 (⟨[(2, .ptr 102 0 0 0), (3, .ptr 103 0 0 0), (8, vi (-1))], [(102, .cells (Netlist.row n)), (103, .cells (Cell.row c))]⟩) (((¬ (((c.args.length : Nat) : Int) ≠ 0)) ∧ (¬ (c.op ≠ 0)) ∧ (((c.num : Nat) : Int) ≠ 0)) ∨ ((¬ (((c.args.length : Nat) : Int) ≠ 0)) ∧ (¬ (c.op ≠ 0)) ∧ (¬ (((c.num : Nat) : Int) ≠ 0)))) ?_ (fun hJ33 => ?_)
 refine .sr ?_
 refine .fa fl39_3 ?_
 refine .ld sh22 ?_
 refine .vl (Y.len (n := c.args.length) sl22 rfl (congrArg some (List.length_map ..))) ?_
 refine .mv ?_
 refine .vl (Y.neq rfl rfl) ?_
 refine .mv ?_
 refine .splitD (d := 88) rfl (fun c88 => ?_) (fun c88 => ?_)
 refine .gz 88 (.gz 88 (.gz 88 ?_))
 refine .gz 88 ?_
 refine .pk ?_
 refine .mv ?_
 refine .gz 94 (.gz 94 (.gz 94 ?_))
 refine .gz 94 (.gz 98 (.gz 98 ?_))
 refine .gz 94 ?_
 refine .pk ?_
 refine .nil (.condT rfl (.sr ?_))
 refine .an ?_
 refine .nil (.ret ?_)
 exact .rb rfl (df (by (simp only [Shaped, c11, Int.reduceEq, Bool.not_eq_true, false_and, true_and, and_true, and_false, or_false, false_or, ne_eq]) <;> (first | omega | grind)))
 refine .gw 88 (Y.fieldAddr fl39_1 rfl rfl) (.gw 88 (Y.load sh3 rfl rfl rfl rfl) (.gw 88 (Y.move rfl rfl) ?_))
 refine .gw 88 (Y.neq rfl rfl) ?_
 refine .pk ?_
 refine .mv ?_
 refine .splitD (d := 94) rfl (fun c94 => ?_) (fun c94 => ?_)
 refine .gz 94 (.gz 94 (.gz 94 ?_))
 refine .gz 94 (.gz 98 (.gz 98 ?_))
 refine .gz 94 ?_
 refine .pk ?_
 refine .nil (.condT rfl (.sr ?_))
 refine .an ?_
 refine .nil (.ret ?_)
 exact .rb rfl (df (by (simp only [Shaped, c11, Int.reduceEq, Bool.not_eq_true, false_and, true_and, and_true, and_false, or_false, false_or, ne_eq]) <;> (first | omega | grind)))
 refine .gw 94 (Y.fieldAddr fl39_4 rfl rfl) (.gw 94 (Y.load sh37 rfl rfl rfl rfl) (.gw 94 (Y.neq rfl rfl) ?_))
 refine .gw 94 (Y.move rfl rfl) ?_
 refine .splitD (d := 98) rfl (fun c98 => ?_) (fun c98 => ?_)
 refine .gw 98 (Y.move rfl rfl) (.gw 98 (Y.not rfl) (.gw 94 (Y.pick rfl rfl rfl) ?_))
 refine .pk ?_
 refine .nil (.condF rfl (.skip ?_))
 exact ⟨.inl ⟨c88, c94, c98⟩, Le.mk (.c (.c (.c (.nil)))) (.c (.c (.nil)))⟩
 refine .gz 98 (.gz 98 (.gw 94 (Y.pick rfl rfl rfl) ?_))
 refine .pk ?_
 refine .nil (.condF rfl (.skip ?_))
 exact ⟨.inr (⟨c88, c94, c98⟩), Le.mk (.c (.c (.c (.nil)))) (.c (.c (.nil)))⟩
 refine .seq (.sr ?_)
 refine .mv ?_
 refine .vl (Y.lss rfl rfl) (.nil (.condT rfl ?_))
 refine .sr ?_
 refine .fa fl39_5 ?_
 refine .ld sh3 ?_
 refine .vl (Y.eql rfl rfl) ?_
 refine .an ?_
 refine .nil (.ret ?_)
 exact .rb rfl (dd (by (simp only [Shaped, c11, Int.reduceEq, Bool.not_eq_true, false_and, true_and, and_true, and_false, or_false, false_or, ne_eq]) <;> (first | omega | grind)))
 refine .sr (.vl (Y.eql rfl rfl) ?_)
 refine .an ?_
 refine .nil ?_
 refine .condD rfl (fun c13 => ?_) (fun c13 => ?_)
 refine .seq (.regionAny rfl (.blind 0 rfl (by kernel_rfl) (Blind.fieldAddr fl39_1 rfl rfl) (by decide) ?_))
 refine .blind 3 rfl (by kernel_rfl) (Blind.fieldAddr fl39_1 rfl rfl) (by decide) ?_
 refine .two 1 4 rfl rfl (by kernel_rfl) ?_ ?_
 refine .ld sh3 ?_
 refine .nil ⟨rfl, ?_⟩
 refine .two 2 4 rfl rfl (by kernel_rfl) ?_ ?_
 refine .callP ok124 (operands_spec (op := c.op)) rfl (.keep rfl rfl .nil) (by decide) rfl ?_
 refine .nil ⟨rfl, ?_⟩
 refine .quietN (n := 0) [4, 5, 6] [] 0 rfl (by kernel_rfl) (.cn 4 rfl (Y.load sh3 rfl rfl rfl rfl) (.cn 5 rfl (Y.assign rfl rfl) ?_))
 refine .cn 6 rfl (Y.assign rfl rfl) (.nil (.done (by kernel_rfl) ?_))
 refine .sr ?_
 refine .mv ?_
 refine .vl (Y.eql rfl rfl) (.nil ?_)
 refine .condD rfl (fun c21 => ?_) (fun c21 => ?_)
 refine .sr ?_
 refine .an ?_
 refine .nil (.ret ?_)
 exact .rb rfl (df (by (simp only [Shaped, c13, Int.reduceEq, Bool.not_eq_true, false_and, true_and, and_true, and_false, or_false, false_or, ne_eq]) <;> (first | omega | grind)))
 refine .skip (.seq (.sr ?_))
 refine .fa fl39_3 ?_
 refine .ld sh22 ?_
 refine .vl (Y.len (n := c.args.length) sl22 rfl (congrArg some (List.length_map ..))) ?_
 refine .mv ?_
 refine .vl (Y.neq rfl rfl) ?_
 refine .mv ?_
 refine .splitD (d := 88) rfl (fun c88 => ?_) (fun c88 => ?_)
 refine .gz 88 (.gz 88 (.gz 88 ?_))
 refine .gz 88 ?_
 refine .pk ?_
 refine .mv ?_
 refine .gz 94 (.gz 94 (.gz 94 ?_))
 refine .gz 94 (.gz 98 (.gz 98 ?_))
 refine .gz 94 ?_
 refine .pk ?_
 refine .nil (.condT rfl (.sr ?_))
 refine .an ?_
 refine .nil (.ret ?_)
 exact .rb rfl (df (by (simp only [Shaped, c13, Int.reduceEq, Bool.not_eq_true, false_and, true_and, and_true, and_false, or_false, false_or, ne_eq]) <;> (first | omega | grind)))
 refine .gw 88 (Y.fieldAddr fl39_1 rfl rfl) (.gw 88 (Y.load sh3 rfl rfl rfl rfl) (.gw 88 (Y.move rfl rfl) ?_))
 refine .gw 88 (Y.neq rfl rfl) ?_
 refine .pk ?_
 refine .mv ?_
 refine .splitD (d := 94) rfl (fun c94 => ?_) (fun c94 => ?_)
 refine .gz 94 (.gz 94 (.gz 94 ?_))
 refine .gz 94 (.gz 98 (.gz 98 ?_))
 refine .gz 94 ?_
 refine .pk ?_
 refine .nil (.condT rfl (.sr ?_))
 refine .an ?_
 refine .nil (.ret ?_)
 exact .rb rfl (df (by (simp only [Shaped, c13, Int.reduceEq, Bool.not_eq_true, false_and, true_and, and_true, and_false, or_false, false_or, ne_eq]) <;> (first | omega | grind)))
 refine .gw 94 (Y.fieldAddr fl39_4 rfl rfl) (.gw 94 (Y.load sh37 rfl rfl rfl rfl) (.gw 94 (Y.neq rfl rfl) ?_))
 refine .gw 94 (Y.move rfl rfl) ?_
 refine .splitD (d := 98) rfl (fun c98 => ?_) (fun c98 => ?_)
 refine .gw 98 (Y.move rfl rfl) (.gw 98 (Y.not rfl) (.gw 94 (Y.pick rfl rfl rfl) ?_))
 refine .pk ?_
 refine .nil (.condT rfl (.sr ?_))
 refine .an ?_
 refine .nil (.ret ?_)
 exact .rb rfl (df (by (simp only [Shaped, c13, Int.reduceEq, Bool.not_eq_true, false_and, true_and, and_true, and_false, or_false, false_or, ne_eq]) <;> (first | omega | grind)))
 refine .gz 98 (.gz 98 (.gw 94 (Y.pick rfl rfl rfl) ?_))
 refine .pk ?_
 refine .nil (.condF rfl (.skip ?_))
 refine .seq (.sr ?_)
 refine .mv ?_
 refine .vl (Y.lss rfl rfl) (.nil (.condT rfl ?_))
 refine .sr ?_
 refine .fa fl39_5 ?_
 refine .ld sh3 ?_
 refine .vl (Y.eql rfl rfl) ?_
 refine .an ?_
 refine .nil (.ret ?_)
 exact .rb rfl (dd (by (simp only [Shaped, c13, Int.reduceEq, Bool.not_eq_true, false_and, true_and, and_true, and_false, or_false, false_or, ne_eq]) <;> (first | omega | grind)))
 refine .ld sh3 ?_
 refine .nil ⟨rfl, ?_⟩
 refine .one 2 rfl (by kernel_rfl) (.callP ok124 (operands_spec (op := c.op)) rfl (.keep rfl rfl .nil) (by decide) rfl ?_)
 refine .nil ⟨rfl, ?_⟩
 refine .quietN (n := 0) [5, 6] [] 0 rfl (by kernel_rfl) (.cn 5 rfl (Y.assign rfl rfl) (.cn 6 rfl (Y.assign rfl rfl) ?_))
 refine .nil (.done (by kernel_rfl) (.sr ?_))
 refine .mv ?_
 refine .vl (Y.eql rfl rfl) (.nil ?_)
 refine .condD rfl (fun c21 => ?_) (fun c21 => ?_)
 refine .sr ?_
 refine .an ?_
 refine .nil (.ret ?_)
 exact .rb rfl (df (by (simp only [Shaped, c13, Int.reduceEq, Bool.not_eq_true, false_and, true_and, and_true, and_false, or_false, false_or, ne_eq]) <;> (first | omega | grind)))
 refine .skip (.seq (.sr ?_))
 refine .fa fl39_3 ?_
 refine .ld sh22 ?_
 refine .vl (Y.len (n := c.args.length) sl22 rfl (congrArg some (List.length_map ..))) ?_
 refine .mv ?_
 refine .vl (Y.neq rfl rfl) ?_
 refine .mv ?_
 refine .splitD (d := 88) rfl (fun c88 => ?_) (fun c88 => ?_)
 refine .gz 88 (.gz 88 (.gz 88 ?_))
 refine .gz 88 ?_
 refine .pk ?_
 refine .mv ?_
 refine .gz 94 (.gz 94 (.gz 94 ?_))
 refine .gz 94 (.gz 98 (.gz 98 ?_))
 refine .gz 94 ?_
 refine .pk ?_
 refine .nil (.condT rfl (.sr ?_))
 refine .an ?_
 refine .nil (.ret ?_)
 exact .rb rfl (df (by (simp only [Shaped, c13, Int.reduceEq, Bool.not_eq_true, false_and, true_and, and_true, and_false, or_false, false_or, ne_eq]) <;> (first | omega | grind)))
 refine .gw 88 (Y.fieldAddr fl39_1 rfl rfl) (.gw 88 (Y.load sh3 rfl rfl rfl rfl) (.gw 88 (Y.move rfl rfl) ?_))
 refine .gw 88 (Y.neq rfl rfl) ?_
 refine .pk ?_
 refine .mv ?_
 refine .splitD (d := 94) rfl (fun c94 => ?_) (fun c94 => ?_)
 refine .gz 94 (.gz 94 (.gz 94 ?_))
 refine .gz 94 (.gz 98 (.gz 98 ?_))
 refine .gz 94 ?_
 refine .pk ?_
 refine .nil (.condT rfl (.sr ?_))
 refine .an ?_
 refine .nil (.ret ?_)
 exact .rb rfl (df (by (simp only [Shaped, c13, Int.reduceEq, Bool.not_eq_true, false_and, true_and, and_true, and_false, or_false, false_or, ne_eq]) <;> (first | omega | grind)))
 refine .gw 94 (Y.fieldAddr fl39_4 rfl rfl) (.gw 94 (Y.load sh37 rfl rfl rfl rfl) (.gw 94 (Y.neq rfl rfl) ?_))
 refine .gw 94 (Y.move rfl rfl) ?_
 refine .splitD (d := 98) rfl (fun c98 => ?_) (fun c98 => ?_)
 refine .gw 98 (Y.move rfl rfl) (.gw 98 (Y.not rfl) (.gw 94 (Y.pick rfl rfl rfl) ?_))
 refine .pk ?_
 refine .nil (.condT rfl (.sr ?_))
 refine .an ?_
 refine .nil (.ret ?_)
 exact .rb rfl (df (by (simp only [Shaped, c13, Int.reduceEq, Bool.not_eq_true, false_and, true_and, and_true, and_false, or_false, false_or, ne_eq]) <;> (first | omega | grind)))
 refine .gz 98 (.gz 98 (.gw 94 (Y.pick rfl rfl rfl) ?_))
 refine .pk ?_
 refine .nil (.condF rfl (.skip ?_))
 refine .seq (.sr ?_)
 refine .mv ?_
 refine .vl (Y.lss rfl rfl) (.nil (.condT rfl ?_))
 refine .sr ?_
 refine .fa fl39_5 ?_
 refine .ld sh3 ?_
 refine .vl (Y.eql rfl rfl) ?_
 refine .an ?_
 refine .nil (.ret ?_)
 exact .rb rfl (dd (by (simp only [Shaped, c13, Int.reduceEq, Bool.not_eq_true, false_and, true_and, and_true, and_false, or_false, false_or, ne_eq]) <;> (first | omega | grind)))
 refine .ld sh3 ?_
 refine .nil ⟨rfl, ?_⟩
 refine .quietN (n := 3) [1] [2, 5, 6] 2 rfl (by kernel_rfl) (.cn 1 rfl (Y.load sh3 rfl rfl rfl rfl) (.nil ?_))
 refine .one 2 rfl (by kernel_rfl) (.callP ok124 (operands_spec (op := c.op)) rfl (.keep rfl rfl .nil) (by decide) rfl ?_)
 refine .nil ⟨rfl, ?_⟩
 refine .quietN (n := 0) [5, 6] [] 0 rfl (by kernel_rfl) (.cn 5 rfl (Y.assign rfl rfl) (.cn 6 rfl (Y.assign rfl rfl) ?_))
 refine .nil (.done (by kernel_rfl) (.sr ?_))
 refine .mv ?_
 refine .vl (Y.eql rfl rfl) (.nil ?_)
 refine .condD rfl (fun c21 => ?_) (fun c21 => ?_)
 refine .sr ?_
 refine .an ?_
 refine .nil (.ret ?_)
 exact .rb rfl (df (by (simp only [Shaped, c13, Int.reduceEq, Bool.not_eq_true, false_and, true_and, and_true, and_false, or_false, false_or, ne_eq]) <;> (first | omega | grind)))
 refine .skip (.seq (.sr ?_))
 refine .fa fl39_3 ?_
 refine .ld sh22 ?_
 refine .vl (Y.len (n := c.args.length) sl22 rfl (congrArg some (List.length_map ..))) ?_
 refine .mv ?_
 refine .vl (Y.neq rfl rfl) ?_
 refine .mv ?_
 refine .splitD (d := 88) rfl (fun c88 => ?_) (fun c88 => ?_)
 refine .gz 88 (.gz 88 (.gz 88 ?_))
 refine .gz 88 ?_
 refine .pk ?_
 refine .mv ?_
 refine .gz 94 (.gz 94 (.gz 94 ?_))
 refine .gz 94 (.gz 98 (.gz 98 ?_))
 refine .gz 94 ?_
 refine .pk ?_
 refine .nil (.condT rfl (.sr ?_))
 refine .an ?_
 refine .nil (.ret ?_)
 exact .rb rfl (df (by (simp only [Shaped, c13, Int.reduceEq, Bool.not_eq_true, false_and, true_and, and_true, and_false, or_false, false_or, ne_eq]) <;> (first | omega | grind)))
 refine .gw 88 (Y.fieldAddr fl39_1 rfl rfl) (.gw 88 (Y.load sh3 rfl rfl rfl rfl) (.gw 88 (Y.move rfl rfl) ?_))
 refine .gw 88 (Y.neq rfl rfl) ?_
 refine .pk ?_
 refine .mv ?_
 refine .splitD (d := 94) rfl (fun c94 => ?_) (fun c94 => ?_)
 refine .gz 94 (.gz 94 (.gz 94 ?_))
 refine .gz 94 (.gz 98 (.gz 98 ?_))
 refine .gz 94 ?_
 refine .pk ?_
 refine .nil (.condT rfl (.sr ?_))
 refine .an ?_
 refine .nil (.ret ?_)
 exact .rb rfl (df (by (simp only [Shaped, c13, Int.reduceEq, Bool.not_eq_true, false_and, true_and, and_true, and_false, or_false, false_or, ne_eq]) <;> (first | omega | grind)))
 refine .gw 94 (Y.fieldAddr fl39_4 rfl rfl) (.gw 94 (Y.load sh37 rfl rfl rfl rfl) (.gw 94 (Y.neq rfl rfl) ?_))
 refine .gw 94 (Y.move rfl rfl) ?_
 refine .splitD (d := 98) rfl (fun c98 => ?_) (fun c98 => ?_)
 refine .gw 98 (Y.move rfl rfl) (.gw 98 (Y.not rfl) (.gw 94 (Y.pick rfl rfl rfl) ?_))
 refine .pk ?_
 refine .nil (.condT rfl (.sr ?_))
 refine .an ?_
 refine .nil (.ret ?_)
 exact .rb rfl (df (by (simp only [Shaped, c13, Int.reduceEq, Bool.not_eq_true, false_and, true_and, and_true, and_false, or_false, false_or, ne_eq]) <;> (first | omega | grind)))
 refine .gz 98 (.gz 98 (.gw 94 (Y.pick rfl rfl rfl) ?_))
 refine .pk ?_
 refine .nil (.condF rfl (.skip ?_))
 refine .seq (.sr ?_)
 refine .mv ?_
 refine .vl (Y.lss rfl rfl) (.nil (.condT rfl ?_))
 refine .sr ?_
 refine .fa fl39_5 ?_
 refine .ld sh3 ?_
 refine .vl (Y.eql rfl rfl) ?_
 refine .an ?_
 refine .nil (.ret ?_)
 exact .rb rfl (dd (by (simp only [Shaped, c13, Int.reduceEq, Bool.not_eq_true, false_and, true_and, and_true, and_false, or_false, false_or, ne_eq]) <;> (first | omega | grind)))
 refine .sr (.vl (Y.eql rfl rfl) ?_)
 refine .an ?_
 refine .nil ?_
 refine .condD rfl (fun c22 => ?_) (fun c22 => ?_)
 refine .sr ?_
 refine .fa fl39_3 ?_
 refine .ld sh22 ?_
 refine .vl (Y.len (n := c.args.length) sl22 rfl (congrArg some (List.length_map ..))) ?_
 refine .an ?_
 refine .nil (.sr ?_)
 refine .mv ?_
 refine .vl (Y.lss rfl rfl) ?_
 refine .mv ?_
 refine .splitD (d := 29) rfl (fun c29 => ?_) (fun c29 => ?_)
 refine .gz 29 (.gz 29 (.gz 29 ?_))
 refine .pk ?_
 refine .nil (.condT rfl (.sr ?_))
 refine .an ?_
 refine .nil (.ret ?_)
 exact .rb rfl (df (by (simp only [Shaped, c22, Int.reduceEq, Bool.not_eq_true, false_and, true_and, and_true, and_false, or_false, false_or, ne_eq]) <;> (first | omega | grind)))
 refine .gw 29 (Y.move rfl rfl) ?_
 refine .gw 29 (Y.remI rfl rfl (by omega)) ?_
 refine .gw 29 (Y.eql rfl rfl) ?_
 refine .pk ?_
 refine .nil ?_
 refine .condD rfl (fun c33 => ?_) (fun c33 => ?_)
 refine .sr ?_
 refine .an ?_
 refine .nil (.ret ?_)
 exact .rb rfl (df (by (simp only [Shaped, c22, Int.reduceEq, Bool.not_eq_true, false_and, true_and, and_true, and_false, or_false, false_or, ne_eq]) <;> (first | omega | grind)))
 refine .skip (.seq (.sr ?_))
 refine .fa fl39_3 ?_
 refine .ld sh22 ?_
 refine .vl (Y.len (n := c.args.length) sl22 rfl (congrArg some (List.length_map ..))) ?_
 refine .mv ?_
 refine .vl (Y.neq rfl rfl) ?_
 refine .mv ?_
 refine .splitD (d := 88) rfl (fun c88 => ?_) (fun c88 => ?_)
 refine .gz 88 (.gz 88 (.gz 88 ?_))
 refine .gz 88 ?_
 refine .pk ?_
 refine .mv ?_
 refine .gz 94 (.gz 94 (.gz 94 ?_))
 refine .gz 94 (.gz 98 (.gz 98 ?_))
 refine .gz 94 ?_
 refine .pk ?_
 refine .nil (.condT rfl (.sr ?_))
 refine .an ?_
 refine .nil (.ret ?_)
 exact .rb rfl (df (by (simp only [Shaped, c22, Int.reduceEq, Bool.not_eq_true, false_and, true_and, and_true, and_false, or_false, false_or, ne_eq]) <;> (first | omega | grind)))
 refine .gw 88 (Y.fieldAddr fl39_1 rfl rfl) (.gw 88 (Y.load sh3 rfl rfl rfl rfl) (.gw 88 (Y.move rfl rfl) ?_))
 refine .gw 88 (Y.neq rfl rfl) ?_
 refine .pk ?_
 refine .mv ?_
 refine .splitD (d := 94) rfl (fun c94 => ?_) (fun c94 => ?_)
 refine .gz 94 (.gz 94 (.gz 94 ?_))
 refine .gz 94 (.gz 98 (.gz 98 ?_))
 refine .gz 94 ?_
 refine .pk ?_
 refine .nil (.condT rfl (.sr ?_))
 refine .an ?_
 refine .nil (.ret ?_)
 exact .rb rfl (df (by (simp only [Shaped, c22, Int.reduceEq, Bool.not_eq_true, false_and, true_and, and_true, and_false, or_false, false_or, ne_eq]) <;> (first | omega | grind)))
 refine .gw 94 (Y.fieldAddr fl39_4 rfl rfl) (.gw 94 (Y.load sh37 rfl rfl rfl rfl) (.gw 94 (Y.neq rfl rfl) ?_))
 refine .gw 94 (Y.move rfl rfl) ?_
 refine .splitD (d := 98) rfl (fun c98 => ?_) (fun c98 => ?_)
 refine .gw 98 (Y.move rfl rfl) (.gw 98 (Y.not rfl) (.gw 94 (Y.pick rfl rfl rfl) ?_))
 refine .pk ?_
 refine .nil (.condT rfl (.sr ?_))
 refine .an ?_
 refine .nil (.ret ?_)
 exact .rb rfl (df (by (simp only [Shaped, c22, Int.reduceEq, Bool.not_eq_true, false_and, true_and, and_true, and_false, or_false, false_or, ne_eq]) <;> (first | omega | grind)))
 refine .gz 98 (.gz 98 (.gw 94 (Y.pick rfl rfl rfl) ?_))
 refine .pk ?_
 refine .nil (.condF rfl (.skip ?_))
 refine .seq (.sr ?_)
 refine .mv ?_
 refine .vl (Y.lss rfl rfl) (.nil (.condT rfl ?_))
 refine .sr ?_
 refine .fa fl39_5 ?_
 refine .ld sh3 ?_
 refine .vl (Y.eql rfl rfl) ?_
 refine .an ?_
 refine .nil (.ret ?_)
 exact .rb rfl (dd (by (simp only [Shaped, c22, Int.reduceEq, Bool.not_eq_true, false_and, true_and, and_true, and_false, or_false, false_or, ne_eq]) <;> (first | omega | grind)))
 refine .sr (.vl (Y.eql rfl rfl) ?_)
 refine .an ?_
 refine .nil ?_
 refine .condD rfl (fun c34 => ?_) (fun c34 => ?_)
 refine .region ?_
 refine .an ?_
 refine .an ?_
 refine .nil ?_
 refine .join0 (⟨[(2, .ptr 102 0 0 0), (3, .ptr 103 0 0 0), (8, vi (-1))], [(102, .cells (Netlist.row n)), (103, .cells (Cell.row c))]⟩) (((¬ (((c.args.length : Nat) : Int) ≠ 2)) ∧ (¬ (c.op ≠ 0)) ∧ (((c.num : Nat) : Int) ≠ 0)) ∨ ((¬ (((c.args.length : Nat) : Int) ≠ 2)) ∧ (¬ (c.op ≠ 0)) ∧ (¬ (((c.num : Nat) : Int) ≠ 0)))) ?_ (fun hJ33 => ?_)
 refine .sr ?_
 refine .fa fl39_3 ?_
 refine .ld sh22 ?_
 refine .vl (Y.len (n := c.args.length) sl22 rfl (congrArg some (List.length_map ..))) ?_
 refine .mv ?_
 refine .vl (Y.neq rfl rfl) ?_
 refine .mv ?_
 refine .splitD (d := 88) rfl (fun c88 => ?_) (fun c88 => ?_)
 refine .gz 88 (.gz 88 (.gz 88 ?_))
 refine .gz 88 ?_
 refine .pk ?_
 refine .mv ?_
 refine .gz 94 (.gz 94 (.gz 94 ?_))
 refine .gz 94 (.gz 98 (.gz 98 ?_))
 refine .gz 94 ?_
 refine .pk ?_
 refine .nil (.condT rfl (.sr ?_))
 refine .an ?_
 refine .nil (.ret ?_)
 exact .rb rfl (df (by (simp only [Shaped, c34, Int.reduceEq, Bool.not_eq_true, false_and, true_and, and_true, and_false, or_false, false_or, ne_eq]) <;> (first | omega | grind)))
 refine .gw 88 (Y.fieldAddr fl39_1 rfl rfl) (.gw 88 (Y.load sh3 rfl rfl rfl rfl) (.gw 88 (Y.move rfl rfl) ?_))
 refine .gw 88 (Y.neq rfl rfl) ?_
 refine .pk ?_
 refine .mv ?_
 refine .splitD (d := 94) rfl (fun c94 => ?_) (fun c94 => ?_)
 refine .gz 94 (.gz 94 (.gz 94 ?_))
 refine .gz 94 (.gz 98 (.gz 98 ?_))
 refine .gz 94 ?_
 refine .pk ?_
 refine .nil (.condT rfl (.sr ?_))
 refine .an ?_
 refine .nil (.ret ?_)
 exact .rb rfl (df (by (simp only [Shaped, c34, Int.reduceEq, Bool.not_eq_true, false_and, true_and, and_true, and_false, or_false, false_or, ne_eq]) <;> (first | omega | grind)))
 refine .gw 94 (Y.fieldAddr fl39_4 rfl rfl) (.gw 94 (Y.load sh37 rfl rfl rfl rfl) (.gw 94 (Y.neq rfl rfl) ?_))
 refine .gw 94 (Y.move rfl rfl) ?_
 refine .splitD (d := 98) rfl (fun c98 => ?_) (fun c98 => ?_)
 refine .gw 98 (Y.move rfl rfl) (.gw 98 (Y.not rfl) (.gw 94 (Y.pick rfl rfl rfl) ?_))
 refine .pk ?_
 refine .nil (.condF rfl (.skip ?_))
 exact ⟨.inl ⟨c88, c94, c98⟩, Le.mk (.c (.c (.c (.nil)))) (.c (.c (.nil)))⟩
 refine .gz 98 (.gz 98 (.gw 94 (Y.pick rfl rfl rfl) ?_))
 refine .pk ?_
 refine .nil (.condF rfl (.skip ?_))
 exact ⟨.inr (⟨c88, c94, c98⟩), Le.mk (.c (.c (.c (.nil)))) (.c (.c (.nil)))⟩
 refine .seq (.sr ?_)
 refine .mv ?_
 refine .vl (Y.lss rfl rfl) (.nil (.condT rfl ?_))
 refine .sr ?_
 refine .fa fl39_5 ?_
 refine .ld sh3 ?_
 refine .vl (Y.eql rfl rfl) ?_
 refine .an ?_
 refine .nil (.ret ?_)
 exact .rb rfl (dd (by (simp only [Shaped, c34, Int.reduceEq, Bool.not_eq_true, false_and, true_and, and_true, and_false, or_false, false_or, ne_eq]) <;> (first | omega | grind)))
 refine .sr (.vl (Y.eql rfl rfl) ?_)
 refine .an ?_
 refine .nil ?_
 refine .condD rfl (fun c36 => ?_) (fun c36 => ?_)
 refine .seq (.regionS rfl (by kernel_rfl) (.val (Y.fieldAddr fl39_1 rfl rfl) (by decide) ?_))
 refine .val (Y.load sh3 rfl rfl rfl rfl) (by decide) (.val (Y.assign rfl rfl) (by decide) (.val (Y.assign rfl rfl) (by decide) ?_))
 refine .val (Y.assign rfl rfl) (by decide) (.nil (.sr ?_))
 refine .fa fl39_1 ?_
 refine .ld sh3 ?_
 refine .vl (Y.lss rfl rfl) ?_
 refine .mv ?_
 refine .splitD (d := 43) rfl (fun c43 => ?_) (fun c43 => ?_)
 refine .gz 43 (.gz 43 (.gz 43 ?_))
 refine .pk ?_
 refine .mv ?_
 refine .gz 48 (.gz 48 (.gz 48 ?_))
 refine .pk ?_
 refine .mv ?_
 refine .gz 53 (.gz 53 (.gz 53 ?_))
 refine .pk ?_
 refine .nil (.condT rfl (.sr ?_))
 refine .an ?_
 refine .nil (.ret ?_)
 exact .rb rfl (df (by (simp only [Shaped, c36, Int.reduceEq, Bool.not_eq_true, false_and, true_and, and_true, and_false, or_false, false_or, ne_eq]) <;> (first | omega | grind)))
 refine .gw 43 (Y.fieldAddr fl39_1 rfl rfl) (.gw 43 (Y.load sh3 rfl rfl rfl rfl) (.gw 43 (Y.gtr rfl rfl) ?_))
 refine .pk ?_
 refine .mv ?_
 refine .splitD (d := 48) rfl (fun c48 => ?_) (fun c48 => ?_)
 refine .gz 48 (.gz 48 (.gz 48 ?_))
 refine .pk ?_
 refine .mv ?_
 refine .gz 53 (.gz 53 (.gz 53 ?_))
 refine .pk ?_
 refine .nil (.condT rfl (.sr ?_))
 refine .an ?_
 refine .nil (.ret ?_)
 exact .rb rfl (df (by (simp only [Shaped, c36, Int.reduceEq, Bool.not_eq_true, false_and, true_and, and_true, and_false, or_false, false_or, ne_eq]) <;> (first | omega | grind)))
 refine .gw 48 (Y.fieldAddr fl39_4 rfl rfl) (.gw 48 (Y.load sh37 rfl rfl rfl rfl) (.gw 48 (Y.lss rfl rfl) ?_))
 refine .pk ?_
 refine .mv ?_
 refine .splitD (d := 53) rfl (fun c53 => ?_) (fun c53 => ?_)
 refine .gz 53 (.gz 53 (.gz 53 ?_))
 refine .pk ?_
 refine .nil (.condT rfl (.sr ?_))
 refine .an ?_
 refine .nil (.ret ?_)
 exact .rb rfl (df (by (simp only [Shaped, c36, Int.reduceEq, Bool.not_eq_true, false_and, true_and, and_true, and_false, or_false, false_or, ne_eq]) <;> (first | omega | grind)))
 refine .gw 53 (Y.fieldAddr fl39_4 rfl rfl) (.gw 53 (Y.load sh37 rfl rfl rfl rfl) (.gw 53 (Y.gtr rfl rfl) ?_))
 refine .pk ?_
 refine .nil ?_
 refine .condD rfl (fun c57 => ?_) (fun c57 => ?_)
 refine .sr ?_
 refine .an ?_
 refine .nil (.ret ?_)
 exact .rb rfl (df (by (simp only [Shaped, c36, Int.reduceEq, Bool.not_eq_true, false_and, true_and, and_true, and_false, or_false, false_or, ne_eq]) <;> (first | omega | grind)))
 refine .skip ?_
 refine .join0 (⟨[(2, .ptr 102 0 0 0), (3, .ptr 103 0 0 0), (8, vi (-1))], [(102, .cells (Netlist.row n)), (103, .cells (Cell.row c))]⟩) (((¬ (((c.args.length : Nat) : Int) ≠ 2)) ∧ (¬ (c.op ≠ c.op)) ∧ (((c.num : Nat) : Int) ≠ 0)) ∨ ((¬ (((c.args.length : Nat) : Int) ≠ 2)) ∧ (¬ (c.op ≠ c.op)) ∧ (¬ (((c.num : Nat) : Int) ≠ 0)))) ?_ (fun hJ33 => ?_)
 refine .sr ?_
 refine .fa fl39_3 ?_
 refine .ld sh22 ?_
 refine .vl (Y.len (n := c.args.length) sl22 rfl (congrArg some (List.length_map ..))) ?_
 refine .mv ?_
 refine .vl (Y.neq rfl rfl) ?_
 refine .mv ?_
 refine .splitD (d := 88) rfl (fun c88 => ?_) (fun c88 => ?_)
 refine .gz 88 (.gz 88 (.gz 88 ?_))
 refine .gz 88 ?_
 refine .pk ?_
 refine .mv ?_
 refine .gz 94 (.gz 94 (.gz 94 ?_))
 refine .gz 94 (.gz 98 (.gz 98 ?_))
 refine .gz 94 ?_
 refine .pk ?_
 refine .nil (.condT rfl (.sr ?_))
 refine .an ?_
 refine .nil (.ret ?_)
 exact .rb rfl (df (by (simp only [Shaped, c36, Int.reduceEq, Bool.not_eq_true, false_and, true_and, and_true, and_false, or_false, false_or, ne_eq]) <;> (first | omega | grind)))
 refine .gw 88 (Y.fieldAddr fl39_1 rfl rfl) (.gw 88 (Y.load sh3 rfl rfl rfl rfl) (.gw 88 (Y.move rfl rfl) ?_))
 refine .gw 88 (Y.neq rfl rfl) ?_
 refine .pk ?_
 refine .mv ?_
 refine .splitD (d := 94) rfl (fun c94 => ?_) (fun c94 => ?_)
 refine .gz 94 (.gz 94 (.gz 94 ?_))
 refine .gz 94 (.gz 98 (.gz 98 ?_))
 refine .gz 94 ?_
 refine .pk ?_
 refine .nil (.condT rfl (.sr ?_))
 refine .an ?_
 refine .nil (.ret ?_)
 exact .rb rfl (df (by (simp only [Shaped, c36, Int.reduceEq, Bool.not_eq_true, false_and, true_and, and_true, and_false, or_false, false_or, ne_eq]) <;> (first | omega | grind)))
 refine .gw 94 (Y.fieldAddr fl39_4 rfl rfl) (.gw 94 (Y.load sh37 rfl rfl rfl rfl) (.gw 94 (Y.neq rfl rfl) ?_))
 refine .gw 94 (Y.move rfl rfl) ?_
 refine .splitD (d := 98) rfl (fun c98 => ?_) (fun c98 => ?_)
 refine .gw 98 (Y.move rfl rfl) (.gw 98 (Y.not rfl) (.gw 94 (Y.pick rfl rfl rfl) ?_))
 refine .pk ?_
 refine .nil (.condF rfl (.skip ?_))
 exact ⟨.inl ⟨c88, c94, c98⟩, Le.mk (.c (.c (.c (.nil)))) (.c (.c (.nil)))⟩
 refine .gz 98 (.gz 98 (.gw 94 (Y.pick rfl rfl rfl) ?_))
 refine .pk ?_
 refine .nil (.condF rfl (.skip ?_))
 exact ⟨.inr (⟨c88, c94, c98⟩), Le.mk (.c (.c (.c (.nil)))) (.c (.c (.nil)))⟩
 refine .seq (.sr ?_)
 refine .mv ?_
 refine .vl (Y.lss rfl rfl) (.nil (.condT rfl ?_))
 refine .sr ?_
 refine .fa fl39_5 ?_
 refine .ld sh3 ?_
 refine .vl (Y.eql rfl rfl) ?_
 refine .an ?_
 refine .nil (.ret ?_)
 exact .rb rfl (dd (by (simp only [Shaped, c36, Int.reduceEq, Bool.not_eq_true, false_and, true_and, and_true, and_false, or_false, false_or, ne_eq]) <;> (first | omega | grind)))
 refine .sr (.vl (Y.eql rfl rfl) ?_)
 refine .an ?_
 refine .nil ?_
 refine .condD rfl (fun c58 => ?_) (fun c58 => ?_)
 refine .regionS rfl (by kernel_rfl) (.val (Y.fieldAddr fl27_4 rfl rfl) (by decide) (.val (Y.load sh24 rfl rfl rfl rfl) (by decide) ?_))
 refine .val (Y.len (n := n.mems.length) sl24 rfl (congrArg some (List.length_map ..))) (by decide) (.val (Y.assign rfl rfl) (by decide) (.val (Y.assign rfl rfl) (by decide) ?_))
 refine .nil (.seq (.sr ?_))
 refine .fa fl39_3 ?_
 refine .ld sh22 ?_
 refine .vl (Y.len (n := c.args.length) sl22 rfl (congrArg some (List.length_map ..))) ?_
 refine .mv ?_
 refine .vl (Y.neq rfl rfl) ?_
 refine .mv ?_
 refine .splitD (d := 88) rfl (fun c88 => ?_) (fun c88 => ?_)
 refine .gz 88 (.gz 88 (.gz 88 ?_))
 refine .gz 88 ?_
 refine .pk ?_
 refine .mv ?_
 refine .gz 94 (.gz 94 (.gz 94 ?_))
 refine .gz 94 (.gz 98 (.gz 98 ?_))
 refine .gz 94 ?_
 refine .pk ?_
 refine .nil (.condT rfl (.sr ?_))
 refine .an ?_
 refine .nil (.ret ?_)
 exact .rb rfl (df (by (simp only [Shaped, c58, Int.reduceEq, Bool.not_eq_true, false_and, true_and, and_true, and_false, or_false, false_or, ne_eq]) <;> (first | omega | grind)))
 refine .gw 88 (Y.fieldAddr fl39_1 rfl rfl) (.gw 88 (Y.load sh3 rfl rfl rfl rfl) (.gw 88 (Y.move rfl rfl) ?_))
 refine .gw 88 (Y.neq rfl rfl) ?_
 refine .pk ?_
 refine .mv ?_
 refine .splitD (d := 94) rfl (fun c94 => ?_) (fun c94 => ?_)
 refine .gz 94 (.gz 94 (.gz 94 ?_))
 refine .gz 94 (.gz 98 (.gz 98 ?_))
 refine .gz 94 ?_
 refine .pk ?_
 refine .nil (.condT rfl (.sr ?_))
 refine .an ?_
 refine .nil (.ret ?_)
 exact .rb rfl (df (by (simp only [Shaped, c58, Int.reduceEq, Bool.not_eq_true, false_and, true_and, and_true, and_false, or_false, false_or, ne_eq]) <;> (first | omega | grind)))
 refine .gw 94 (Y.fieldAddr fl39_4 rfl rfl) (.gw 94 (Y.load sh37 rfl rfl rfl rfl) (.gw 94 (Y.neq rfl rfl) ?_))
 refine .gw 94 (Y.move rfl rfl) ?_
 refine .splitD (d := 98) rfl (fun c98 => ?_) (fun c98 => ?_)
 refine .gw 98 (Y.move rfl rfl) (.gw 98 (Y.not rfl) (.gw 94 (Y.pick rfl rfl rfl) ?_))
 refine .pk ?_
 refine .nil (.condT rfl (.sr ?_))
 refine .an ?_
 refine .nil (.ret ?_)
 exact .rb rfl (df (by (simp only [Shaped, c58, Int.reduceEq, Bool.not_eq_true, false_and, true_and, and_true, and_false, or_false, false_or, ne_eq]) <;> (first | omega | grind)))
 refine .gz 98 (.gz 98 (.gw 94 (Y.pick rfl rfl rfl) ?_))
 refine .pk ?_
 refine .nil (.condF rfl (.skip ?_))
 refine .seq (.sr ?_)
 refine .mv ?_
 refine .vl (Y.lss rfl rfl) (.nil ?_)
 refine .condD rfl (fun c104 => ?_) (fun c104 => ?_)
 refine .sr ?_
 refine .fa fl39_5 ?_
 refine .ld sh3 ?_
 refine .vl (Y.eql rfl rfl) ?_
 refine .an ?_
 refine .nil (.ret ?_)
 exact .rb rfl (dd (by (simp only [Shaped, c58, Int.reduceEq, Bool.not_eq_true, false_and, true_and, and_true, and_false, or_false, false_or, ne_eq]) <;> (first | omega | grind)))
 refine .skip (.sr ?_)
 refine .fa fl39_5 ?_
 refine .ld sh3 ?_
 refine .vl (Y.geq rfl rfl) ?_
 refine .mv ?_
 refine .splitD (d := 111) rfl (fun c111 => ?_) (fun c111 => ?_)
 refine .gw 111 (Y.fieldAddr fl39_5 rfl rfl) (.gw 111 (Y.load sh3 rfl rfl rfl rfl) (.gw 111 (Y.move rfl rfl) ?_))
 refine .gw 111 (Y.lss rfl rfl) ?_
 refine .pk ?_
 refine .mv ?_
 refine .splitD (d := 117) rfl (fun c117 => ?_) (fun c117 => ?_)
 refine .gw 117 (Y.fieldAddr fl39_0 rfl rfl) (.gw 117 (Y.load sh3 rfl rfl rfl rfl) (.gw 117 (Y.neq rfl rfl) ?_))
 refine .gw 117 (Y.move rfl rfl) ?_
 refine .splitD (d := 121) rfl (fun c121 => ?_) (fun c121 => ?_)
 refine .gz 121 (.gz 121 (.gz 121 ?_))
 refine .gz 121 (.gz 121 (.gz 121 ?_))
 refine .gz 121 (.gz 121 (.gw 117 (Y.pick rfl rfl rfl) ?_))
 refine .pk ?_
 refine .an ?_
 refine .nil (.ret ?_)
 exact .rb rfl (dt (by (simp only [Shaped, c58, Int.reduceEq, Bool.not_eq_true, false_and, true_and, and_true, and_false, or_false, false_or, ne_eq]) <;> (first | omega | grind)))
 refine .gw 121 (Y.fieldAddr fl27_5 rfl rfl) (.gw 121 (Y.load sh25 rfl rfl rfl rfl) (.gw 121 (Y.fieldAddr fl39_5 rfl rfl) ?_))
 refine .gw 121 (Y.load sh3 rfl rfl rfl rfl) ?_
 refine .gw 121 (Y.indexF (m := (c.mem).toNat) sl25 rfl rfl (by omega) (row_getD (d := default) (by omega))) ?_
 refine .gw 121 (Y.fieldAddr fl83_2 rfl rfl) (.gw 121 (Y.load sh4 rfl rfl rfl rfl) (.gw 121 (Y.not rfl) ?_))
 refine .gw 117 (Y.pick rfl rfl rfl) ?_
 refine .pk ?_
 refine .an ?_
 refine .nil (.ret ?_)
 exact .rb rfl (db (by (simp only [Shaped, c58, Int.reduceEq, Bool.not_eq_true, false_and, true_and, and_true, and_false, or_false, false_or, ne_eq]) <;> (first | omega | grind)))
 refine .gz 117 (.gz 117 (.gz 117 ?_))
 refine .gz 117 (.gz 121 (.gz 121 ?_))
 refine .gz 121 (.gz 121 (.gz 121 ?_))
 refine .gz 121 (.gz 121 (.gz 121 ?_))
 refine .gz 117 ?_
 refine .pk ?_
 refine .an ?_
 refine .nil (.ret ?_)
 exact .rb rfl (df (by (simp only [Shaped, c58, Int.reduceEq, Bool.not_eq_true, false_and, true_and, and_true, and_false, or_false, false_or, ne_eq]) <;> (first | omega | grind)))
 refine .gz 111 (.gz 111 (.gz 111 ?_))
 refine .gz 111 ?_
 refine .pk ?_
 refine .mv ?_
 refine .gz 117 (.gz 117 (.gz 117 ?_))
 refine .gz 117 (.gz 121 (.gz 121 ?_))
 refine .gz 121 (.gz 121 (.gz 121 ?_))
 refine .gz 121 (.gz 121 (.gz 121 ?_))
 refine .gz 117 ?_
 refine .pk ?_
 refine .an ?_
 refine .nil (.ret ?_)
 exact .rb rfl (df (by (simp only [Shaped, c58, Int.reduceEq, Bool.not_eq_true, false_and, true_and, and_true, and_false, or_false, false_or, ne_eq]) <;> (first | omega | grind)))
 refine .sr (.vl (Y.eql rfl rfl) ?_)
 refine .an ?_
 refine .nil ?_
 refine .condD rfl (fun c63 => ?_) (fun c63 => ?_)
 refine .regionS rfl (by kernel_rfl) (.val (Y.fieldAddr fl27_4 rfl rfl) (by decide) (.val (Y.load sh24 rfl rfl rfl rfl) (by decide) ?_))
 refine .val (Y.len (n := n.mems.length) sl24 rfl (congrArg some (List.length_map ..))) (by decide) (.val (Y.assign rfl rfl) (by decide) (.val (Y.assign rfl rfl) (by decide) ?_))
 refine .nil (.seq (.sr ?_))
 refine .fa fl39_3 ?_
 refine .ld sh22 ?_
 refine .vl (Y.len (n := c.args.length) sl22 rfl (congrArg some (List.length_map ..))) ?_
 refine .mv ?_
 refine .vl (Y.neq rfl rfl) ?_
 refine .mv ?_
 refine .splitD (d := 88) rfl (fun c88 => ?_) (fun c88 => ?_)
 refine .gz 88 (.gz 88 (.gz 88 ?_))
 refine .gz 88 ?_
 refine .pk ?_
 refine .mv ?_
 refine .gz 94 (.gz 94 (.gz 94 ?_))
 refine .gz 94 (.gz 98 (.gz 98 ?_))
 refine .gz 94 ?_
 refine .pk ?_
 refine .nil (.condT rfl (.sr ?_))
 refine .an ?_
 refine .nil (.ret ?_)
 exact .rb rfl (df (by (simp only [Shaped, c63, Int.reduceEq, Bool.not_eq_true, false_and, true_and, and_true, and_false, or_false, false_or, ne_eq]) <;> (first | omega | grind)))
 refine .gw 88 (Y.fieldAddr fl39_1 rfl rfl) (.gw 88 (Y.load sh3 rfl rfl rfl rfl) (.gw 88 (Y.move rfl rfl) ?_))
 refine .gw 88 (Y.neq rfl rfl) ?_
 refine .pk ?_
 refine .mv ?_
 refine .splitD (d := 94) rfl (fun c94 => ?_) (fun c94 => ?_)
 refine .gz 94 (.gz 94 (.gz 94 ?_))
 refine .gz 94 (.gz 98 (.gz 98 ?_))
 refine .gz 94 ?_
 refine .pk ?_
 refine .nil (.condT rfl (.sr ?_))
 refine .an ?_
 refine .nil (.ret ?_)
 exact .rb rfl (df (by (simp only [Shaped, c63, Int.reduceEq, Bool.not_eq_true, false_and, true_and, and_true, and_false, or_false, false_or, ne_eq]) <;> (first | omega | grind)))
 refine .gw 94 (Y.fieldAddr fl39_4 rfl rfl) (.gw 94 (Y.load sh37 rfl rfl rfl rfl) (.gw 94 (Y.neq rfl rfl) ?_))
 refine .gw 94 (Y.move rfl rfl) ?_
 refine .splitD (d := 98) rfl (fun c98 => ?_) (fun c98 => ?_)
 refine .gw 98 (Y.move rfl rfl) (.gw 98 (Y.not rfl) (.gw 94 (Y.pick rfl rfl rfl) ?_))
 refine .pk ?_
 refine .nil (.condT rfl (.sr ?_))
 refine .an ?_
 refine .nil (.ret ?_)
 exact .rb rfl (df (by (simp only [Shaped, c63, Int.reduceEq, Bool.not_eq_true, false_and, true_and, and_true, and_false, or_false, false_or, ne_eq]) <;> (first | omega | grind)))
 refine .gz 98 (.gz 98 (.gw 94 (Y.pick rfl rfl rfl) ?_))
 refine .pk ?_
 refine .nil (.condF rfl (.skip ?_))
 refine .seq (.sr ?_)
 refine .mv ?_
 refine .vl (Y.lss rfl rfl) (.nil ?_)
 refine .condD rfl (fun c104 => ?_) (fun c104 => ?_)
 refine .sr ?_
 refine .fa fl39_5 ?_
 refine .ld sh3 ?_
 refine .vl (Y.eql rfl rfl) ?_
 refine .an ?_
 refine .nil (.ret ?_)
 exact .rb rfl (dd (by (simp only [Shaped, c63, Int.reduceEq, Bool.not_eq_true, false_and, true_and, and_true, and_false, or_false, false_or, ne_eq]) <;> (first | omega | grind)))
 refine .skip (.sr ?_)
 refine .fa fl39_5 ?_
 refine .ld sh3 ?_
 refine .vl (Y.geq rfl rfl) ?_
 refine .mv ?_
 refine .splitD (d := 111) rfl (fun c111 => ?_) (fun c111 => ?_)
 refine .gw 111 (Y.fieldAddr fl39_5 rfl rfl) (.gw 111 (Y.load sh3 rfl rfl rfl rfl) (.gw 111 (Y.move rfl rfl) ?_))
 refine .gw 111 (Y.lss rfl rfl) ?_
 refine .pk ?_
 refine .mv ?_
 refine .splitD (d := 117) rfl (fun c117 => ?_) (fun c117 => ?_)
 refine .gw 117 (Y.fieldAddr fl39_0 rfl rfl) (.gw 117 (Y.load sh3 rfl rfl rfl rfl) (.gw 117 (Y.neq rfl rfl) ?_))
 refine .gw 117 (Y.move rfl rfl) ?_
 refine .splitD (d := 121) rfl (fun c121 => ?_) (fun c121 => ?_)
 refine .gz 121 (.gz 121 (.gz 121 ?_))
 refine .gz 121 (.gz 121 (.gz 121 ?_))
 refine .gz 121 (.gz 121 (.gw 117 (Y.pick rfl rfl rfl) ?_))
 refine .pk ?_
 refine .an ?_
 refine .nil (.ret ?_)
 exact .rb rfl (dt (by (simp only [Shaped, c63, Int.reduceEq, Bool.not_eq_true, false_and, true_and, and_true, and_false, or_false, false_or, ne_eq]) <;> (first | omega | grind)))
 refine .gw 121 (Y.fieldAddr fl27_5 rfl rfl) (.gw 121 (Y.load sh25 rfl rfl rfl rfl) (.gw 121 (Y.fieldAddr fl39_5 rfl rfl) ?_))
 refine .gw 121 (Y.load sh3 rfl rfl rfl rfl) ?_
 refine .gw 121 (Y.indexF (m := (c.mem).toNat) sl25 rfl rfl (by omega) (row_getD (d := default) (by omega))) ?_
 refine .gw 121 (Y.fieldAddr fl83_2 rfl rfl) (.gw 121 (Y.load sh4 rfl rfl rfl rfl) (.gw 121 (Y.not rfl) ?_))
 refine .gw 117 (Y.pick rfl rfl rfl) ?_
 refine .pk ?_
 refine .an ?_
 refine .nil (.ret ?_)
 exact .rb rfl (db (by (simp only [Shaped, c63, Int.reduceEq, Bool.not_eq_true, false_and, true_and, and_true, and_false, or_false, false_or, ne_eq]) <;> (first | omega | grind)))
 refine .gz 117 (.gz 117 (.gz 117 ?_))
 refine .gz 117 (.gz 121 (.gz 121 ?_))
 refine .gz 121 (.gz 121 (.gz 121 ?_))
 refine .gz 121 (.gz 121 (.gz 121 ?_))
 refine .gz 117 ?_
 refine .pk ?_
 refine .an ?_
 refine .nil (.ret ?_)
 exact .rb rfl (df (by (simp only [Shaped, c63, Int.reduceEq, Bool.not_eq_true, false_and, true_and, and_true, and_false, or_false, false_or, ne_eq]) <;> (first | omega | grind)))
 refine .gz 111 (.gz 111 (.gz 111 ?_))
 refine .gz 111 ?_
 refine .pk ?_
 refine .mv ?_
 refine .gz 117 (.gz 117 (.gz 117 ?_))
 refine .gz 117 (.gz 121 (.gz 121 ?_))
 refine .gz 121 (.gz 121 (.gz 121 ?_))
 refine .gz 121 (.gz 121 (.gz 121 ?_))
 refine .gz 117 ?_
 refine .pk ?_
 refine .an ?_
 refine .nil (.ret ?_)
 exact .rb rfl (df (by (simp only [Shaped, c63, Int.reduceEq, Bool.not_eq_true, false_and, true_and, and_true, and_false, or_false, false_or, ne_eq]) <;> (first | omega | grind)))
 refine .sr (.vl (Y.eql rfl rfl) ?_)
 refine .an ?_
 refine .nil ?_
 refine .condD rfl (fun c68 => ?_) (fun c68 => ?_)
 refine .sr ?_
 refine .an ?_
 refine .nil (.sr ?_)
 refine .fa fl39_4 ?_
 refine .ld sh37 ?_
 refine .fa fl27_3 ?_
 refine .ld sh22 ?_
 refine .vl (Y.len (n := n.ins.length) sl22 rfl (congrArg some (List.length_map ..))) ?_
 refine .vl (Y.convK ii3 ii37 rfl (by first | rfl | exact IntWalk.u64_in _ (by omega))) ?_
 refine .vl (Y.geq rfl rfl) (.nil ?_)
 refine .condD rfl (fun c76 => ?_) (fun c76 => ?_)
 refine .sr ?_
 refine .an ?_
 refine .nil (.ret ?_)
 exact .rb rfl (df (by (simp only [Shaped, c68, Int.reduceEq, Bool.not_eq_true, false_and, true_and, and_true, and_false, or_false, false_or, ne_eq]) <;> (first | omega | grind)))
 refine .skip ?_
 refine .join0 (⟨[(2, .ptr 102 0 0 0), (3, .ptr 103 0 0 0), (8, vi (-1))], [(102, .cells (Netlist.row n)), (103, .cells (Cell.row c))]⟩) (((¬ (((c.args.length : Nat) : Int) ≠ 0)) ∧ (¬ (c.op ≠ 0)) ∧ (((c.num : Nat) : Int) ≠ 0)) ∨ ((¬ (((c.args.length : Nat) : Int) ≠ 0)) ∧ (¬ (c.op ≠ 0)) ∧ (¬ (((c.num : Nat) : Int) ≠ 0)))) ?_ (fun hJ33 => ?_)
 refine .sr ?_
 refine .fa fl39_3 ?_
 refine .ld sh22 ?_
 refine .vl (Y.len (n := c.args.length) sl22 rfl (congrArg some (List.length_map ..))) ?_
 refine .mv ?_
 refine .vl (Y.neq rfl rfl) ?_
 refine .mv ?_
 refine .splitD (d := 88) rfl (fun c88 => ?_) (fun c88 => ?_)
 refine .gz 88 (.gz 88 (.gz 88 ?_))
 refine .gz 88 ?_
 refine .pk ?_
 refine .mv ?_
 refine .gz 94 (.gz 94 (.gz 94 ?_))
 refine .gz 94 (.gz 98 (.gz 98 ?_))
 refine .gz 94 ?_
 refine .pk ?_
 refine .nil (.condT rfl (.sr ?_))
 refine .an ?_
 refine .nil (.ret ?_)
 exact .rb rfl (df (by (simp only [Shaped, c68, Int.reduceEq, Bool.not_eq_true, false_and, true_and, and_true, and_false, or_false, false_or, ne_eq]) <;> (first | omega | grind)))
 refine .gw 88 (Y.fieldAddr fl39_1 rfl rfl) (.gw 88 (Y.load sh3 rfl rfl rfl rfl) (.gw 88 (Y.move rfl rfl) ?_))
 refine .gw 88 (Y.neq rfl rfl) ?_
 refine .pk ?_
 refine .mv ?_
 refine .splitD (d := 94) rfl (fun c94 => ?_) (fun c94 => ?_)
 refine .gz 94 (.gz 94 (.gz 94 ?_))
 refine .gz 94 (.gz 98 (.gz 98 ?_))
 refine .gz 94 ?_
 refine .pk ?_
 refine .nil (.condT rfl (.sr ?_))
 refine .an ?_
 refine .nil (.ret ?_)
 exact .rb rfl (df (by (simp only [Shaped, c68, Int.reduceEq, Bool.not_eq_true, false_and, true_and, and_true, and_false, or_false, false_or, ne_eq]) <;> (first | omega | grind)))
 refine .gw 94 (Y.fieldAddr fl39_4 rfl rfl) (.gw 94 (Y.load sh37 rfl rfl rfl rfl) (.gw 94 (Y.neq rfl rfl) ?_))
 refine .gw 94 (Y.move rfl rfl) ?_
 refine .splitD (d := 98) rfl (fun c98 => ?_) (fun c98 => ?_)
 refine .gw 98 (Y.move rfl rfl) (.gw 98 (Y.not rfl) (.gw 94 (Y.pick rfl rfl rfl) ?_))
 refine .pk ?_
 refine .nil (.condF rfl (.skip ?_))
 exact ⟨.inl ⟨c88, c94, c98⟩, Le.mk (.c (.c (.c (.nil)))) (.c (.c (.nil)))⟩
 refine .gz 98 (.gz 98 (.gw 94 (Y.pick rfl rfl rfl) ?_))
 refine .pk ?_
 refine .nil (.condF rfl (.skip ?_))
 exact ⟨.inr (⟨c88, c94, c98⟩), Le.mk (.c (.c (.c (.nil)))) (.c (.c (.nil)))⟩
 refine .seq (.sr ?_)
 refine .mv ?_
 refine .vl (Y.lss rfl rfl) (.nil (.condT rfl ?_))
 refine .sr ?_
 refine .fa fl39_5 ?_
 refine .ld sh3 ?_
 refine .vl (Y.eql rfl rfl) ?_
 refine .an ?_
 refine .nil (.ret ?_)
 exact .rb rfl (dd (by (simp only [Shaped, c68, Int.reduceEq, Bool.not_eq_true, false_and, true_and, and_true, and_false, or_false, false_or, ne_eq]) <;> (first | omega | grind)))
 refine .seq (.sr (.vl (Y.eql rfl rfl) ?_))
 refine .an ?_
 refine .nil ?_
 refine .condKD rfl (fun c77 => ?_) (fun c77 => ?_)
 refine .skip (.condT rfl (.region ?_))
 refine .fa fl27_5 ?_
 refine .ld sh25 ?_
 refine .vl (Y.len (n := n.streams.length) sl25 rfl (congrArg some (List.length_map ..))) ?_
 refine .an ?_
 refine .nil (.seq (.sr ?_))
 refine .fa fl39_3 ?_
 refine .ld sh22 ?_
 refine .vl (Y.len (n := c.args.length) sl22 rfl (congrArg some (List.length_map ..))) ?_
 refine .mv ?_
 refine .vl (Y.neq rfl rfl) ?_
 refine .mv ?_
 refine .splitD (d := 88) rfl (fun c88 => ?_) (fun c88 => ?_)
 refine .gz 88 (.gz 88 (.gz 88 ?_))
 refine .gz 88 ?_
 refine .pk ?_
 refine .mv ?_
 refine .gz 94 (.gz 94 (.gz 94 ?_))
 refine .gz 94 (.gz 98 (.gz 98 ?_))
 refine .gz 94 ?_
 refine .pk ?_
 refine .nil (.condT rfl (.sr ?_))
 refine .an ?_
 refine .nil (.ret ?_)
 exact .rb rfl (df (by (simp only [Shaped, c77, Int.reduceEq, Bool.not_eq_true, false_and, true_and, and_true, and_false, or_false, false_or, ne_eq]) <;> (first | omega | grind)))
 refine .gw 88 (Y.fieldAddr fl39_1 rfl rfl) (.gw 88 (Y.load sh3 rfl rfl rfl rfl) (.gw 88 (Y.move rfl rfl) ?_))
 refine .gw 88 (Y.neq rfl rfl) ?_
 refine .pk ?_
 refine .mv ?_
 refine .splitD (d := 94) rfl (fun c94 => ?_) (fun c94 => ?_)
 refine .gz 94 (.gz 94 (.gz 94 ?_))
 refine .gz 94 (.gz 98 (.gz 98 ?_))
 refine .gz 94 ?_
 refine .pk ?_
 refine .nil (.condT rfl (.sr ?_))
 refine .an ?_
 refine .nil (.ret ?_)
 exact .rb rfl (df (by (simp only [Shaped, c77, Int.reduceEq, Bool.not_eq_true, false_and, true_and, and_true, and_false, or_false, false_or, ne_eq]) <;> (first | omega | grind)))
 refine .gw 94 (Y.fieldAddr fl39_4 rfl rfl) (.gw 94 (Y.load sh37 rfl rfl rfl rfl) (.gw 94 (Y.neq rfl rfl) ?_))
 refine .gw 94 (Y.move rfl rfl) ?_
 refine .splitD (d := 98) rfl (fun c98 => ?_) (fun c98 => ?_)
 refine .gw 98 (Y.move rfl rfl) (.gw 98 (Y.not rfl) (.gw 94 (Y.pick rfl rfl rfl) ?_))
 refine .pk ?_
 refine .nil (.condT rfl (.sr ?_))
 refine .an ?_
 refine .nil (.ret ?_)
 exact .rb rfl (df (by (simp only [Shaped, c77, Int.reduceEq, Bool.not_eq_true, false_and, true_and, and_true, and_false, or_false, false_or, ne_eq]) <;> (first | omega | grind)))
 refine .gz 98 (.gz 98 (.gw 94 (Y.pick rfl rfl rfl) ?_))
 refine .pk ?_
 refine .nil (.condF rfl (.skip ?_))
 refine .seq (.sr ?_)
 refine .mv ?_
 refine .vl (Y.lss rfl rfl) (.nil ?_)
 refine .condD rfl (fun c104 => ?_) (fun c104 => ?_)
 refine .sr ?_
 refine .fa fl39_5 ?_
 refine .ld sh3 ?_
 refine .vl (Y.eql rfl rfl) ?_
 refine .an ?_
 refine .nil (.ret ?_)
 exact .rb rfl (dd (by (simp only [Shaped, c77, Int.reduceEq, Bool.not_eq_true, false_and, true_and, and_true, and_false, or_false, false_or, ne_eq]) <;> (first | omega | grind)))
 refine .skip (.sr ?_)
 refine .fa fl39_5 ?_
 refine .ld sh3 ?_
 refine .vl (Y.geq rfl rfl) ?_
 refine .mv ?_
 refine .splitD (d := 111) rfl (fun c111 => ?_) (fun c111 => ?_)
 refine .gw 111 (Y.fieldAddr fl39_5 rfl rfl) (.gw 111 (Y.load sh3 rfl rfl rfl rfl) (.gw 111 (Y.move rfl rfl) ?_))
 refine .gw 111 (Y.lss rfl rfl) ?_
 refine .pk ?_
 refine .mv ?_
 refine .splitD (d := 117) rfl (fun c117 => ?_) (fun c117 => ?_)
 refine .gw 117 (Y.fieldAddr fl39_0 rfl rfl) (.gw 117 (Y.load sh3 rfl rfl rfl rfl) (.gw 117 (Y.neq rfl rfl) ?_))
 refine .gw 117 (Y.move rfl rfl) ?_
 refine .splitD (d := 121) rfl (fun c121 => ?_) (fun c121 => ?_)
 refine .gz 121 (.gz 121 (.gz 121 ?_))
 refine .gz 121 (.gz 121 (.gz 121 ?_))
 refine .gz 121 (.gz 121 (.gw 117 (Y.pick rfl rfl rfl) ?_))
 refine .pk ?_
 refine .an ?_
 refine .nil (.ret ?_)
 exact .rb rfl (dt (by (simp only [Shaped, c77, Int.reduceEq, Bool.not_eq_true, false_and, true_and, and_true, and_false, or_false, false_or, ne_eq]) <;> (first | omega | grind)))
 refine .gw 121 (Y.fieldAddr fl27_5 rfl rfl) (.gw 121 (Y.load sh25 rfl rfl rfl rfl) (.gw 121 (Y.fieldAddr fl39_5 rfl rfl) ?_))
 refine .gw 121 (Y.load sh3 rfl rfl rfl rfl) ?_
 refine .gw 121 (Y.indexF (m := (c.mem).toNat) sl25 rfl rfl (by omega) (row_getD (d := default) (by omega))) ?_
 refine .gw 121 (Y.fieldAddr fl83_2 rfl rfl) (.gw 121 (Y.load sh4 rfl rfl rfl rfl) (.gw 121 (Y.not rfl) ?_))
 refine .gw 117 (Y.pick rfl rfl rfl) ?_
 refine .pk ?_
 refine .an ?_
 refine .nil (.ret ?_)
 exact .rb rfl (db (by (simp only [Shaped, c77, Int.reduceEq, Bool.not_eq_true, false_and, true_and, and_true, and_false, or_false, false_or, ne_eq]) <;> (first | omega | grind)))
 refine .gz 117 (.gz 117 (.gz 117 ?_))
 refine .gz 117 (.gz 121 (.gz 121 ?_))
 refine .gz 121 (.gz 121 (.gz 121 ?_))
 refine .gz 121 (.gz 121 (.gz 121 ?_))
 refine .gz 117 ?_
 refine .pk ?_
 refine .an ?_
 refine .nil (.ret ?_)
 exact .rb rfl (df (by (simp only [Shaped, c77, Int.reduceEq, Bool.not_eq_true, false_and, true_and, and_true, and_false, or_false, false_or, ne_eq]) <;> (first | omega | grind)))
 refine .gz 111 (.gz 111 (.gz 111 ?_))
 refine .gz 111 ?_
 refine .pk ?_
 refine .mv ?_
 refine .gz 117 (.gz 117 (.gz 117 ?_))
 refine .gz 117 (.gz 121 (.gz 121 ?_))
 refine .gz 121 (.gz 121 (.gz 121 ?_))
 refine .gz 121 (.gz 121 (.gz 121 ?_))
 refine .gz 117 ?_
 refine .pk ?_
 refine .an ?_
 refine .nil (.ret ?_)
 exact .rb rfl (df (by (simp only [Shaped, c77, Int.reduceEq, Bool.not_eq_true, false_and, true_and, and_true, and_false, or_false, false_or, ne_eq]) <;> (first | omega | grind)))
 refine .region (.vl (Y.eql rfl rfl) ?_)
 refine .an ?_
 refine .nil ?_
 refine .condKD rfl (fun c77 => ?_) (fun c77 => ?_)
 refine .region ?_
 refine .fa fl27_5 ?_
 refine .ld sh25 ?_
 refine .vl (Y.len (n := n.streams.length) sl25 rfl (congrArg some (List.length_map ..))) ?_
 refine .an ?_
 refine .nil (.seq (.sr ?_))
 refine .fa fl39_3 ?_
 refine .ld sh22 ?_
 refine .vl (Y.len (n := c.args.length) sl22 rfl (congrArg some (List.length_map ..))) ?_
 refine .mv ?_
 refine .vl (Y.neq rfl rfl) ?_
 refine .mv ?_
 refine .splitD (d := 88) rfl (fun c88 => ?_) (fun c88 => ?_)
 refine .gz 88 (.gz 88 (.gz 88 ?_))
 refine .gz 88 ?_
 refine .pk ?_
 refine .mv ?_
 refine .gz 94 (.gz 94 (.gz 94 ?_))
 refine .gz 94 (.gz 98 (.gz 98 ?_))
 refine .gz 94 ?_
 refine .pk ?_
 refine .nil (.condT rfl (.sr ?_))
 refine .an ?_
 refine .nil (.ret ?_)
 exact .rb rfl (df (by (simp only [Shaped, c77, Int.reduceEq, Bool.not_eq_true, false_and, true_and, and_true, and_false, or_false, false_or, ne_eq]) <;> (first | omega | grind)))
 refine .gw 88 (Y.fieldAddr fl39_1 rfl rfl) (.gw 88 (Y.load sh3 rfl rfl rfl rfl) (.gw 88 (Y.move rfl rfl) ?_))
 refine .gw 88 (Y.neq rfl rfl) ?_
 refine .pk ?_
 refine .mv ?_
 refine .splitD (d := 94) rfl (fun c94 => ?_) (fun c94 => ?_)
 refine .gz 94 (.gz 94 (.gz 94 ?_))
 refine .gz 94 (.gz 98 (.gz 98 ?_))
 refine .gz 94 ?_
 refine .pk ?_
 refine .nil (.condT rfl (.sr ?_))
 refine .an ?_
 refine .nil (.ret ?_)
 exact .rb rfl (df (by (simp only [Shaped, c77, Int.reduceEq, Bool.not_eq_true, false_and, true_and, and_true, and_false, or_false, false_or, ne_eq]) <;> (first | omega | grind)))
 refine .gw 94 (Y.fieldAddr fl39_4 rfl rfl) (.gw 94 (Y.load sh37 rfl rfl rfl rfl) (.gw 94 (Y.neq rfl rfl) ?_))
 refine .gw 94 (Y.move rfl rfl) ?_
 refine .splitD (d := 98) rfl (fun c98 => ?_) (fun c98 => ?_)
 refine .gw 98 (Y.move rfl rfl) (.gw 98 (Y.not rfl) (.gw 94 (Y.pick rfl rfl rfl) ?_))
 refine .pk ?_
 refine .nil (.condT rfl (.sr ?_))
 refine .an ?_
 refine .nil (.ret ?_)
 exact .rb rfl (df (by (simp only [Shaped, c77, Int.reduceEq, Bool.not_eq_true, false_and, true_and, and_true, and_false, or_false, false_or, ne_eq]) <;> (first | omega | grind)))
 refine .gz 98 (.gz 98 (.gw 94 (Y.pick rfl rfl rfl) ?_))
 refine .pk ?_
 refine .nil (.condF rfl (.skip ?_))
 refine .seq (.sr ?_)
 refine .mv ?_
 refine .vl (Y.lss rfl rfl) (.nil ?_)
 refine .condD rfl (fun c104 => ?_) (fun c104 => ?_)
 refine .sr ?_
 refine .fa fl39_5 ?_
 refine .ld sh3 ?_
 refine .vl (Y.eql rfl rfl) ?_
 refine .an ?_
 refine .nil (.ret ?_)
 exact .rb rfl (dd (by (simp only [Shaped, c77, Int.reduceEq, Bool.not_eq_true, false_and, true_and, and_true, and_false, or_false, false_or, ne_eq]) <;> (first | omega | grind)))
 refine .skip (.sr ?_)
 refine .fa fl39_5 ?_
 refine .ld sh3 ?_
 refine .vl (Y.geq rfl rfl) ?_
 refine .mv ?_
 refine .splitD (d := 111) rfl (fun c111 => ?_) (fun c111 => ?_)
 refine .gw 111 (Y.fieldAddr fl39_5 rfl rfl) (.gw 111 (Y.load sh3 rfl rfl rfl rfl) (.gw 111 (Y.move rfl rfl) ?_))
 refine .gw 111 (Y.lss rfl rfl) ?_
 refine .pk ?_
 refine .mv ?_
 refine .splitD (d := 117) rfl (fun c117 => ?_) (fun c117 => ?_)
 refine .gw 117 (Y.fieldAddr fl39_0 rfl rfl) (.gw 117 (Y.load sh3 rfl rfl rfl rfl) (.gw 117 (Y.neq rfl rfl) ?_))
 refine .gw 117 (Y.move rfl rfl) ?_
 refine .splitD (d := 121) rfl (fun c121 => ?_) (fun c121 => ?_)
 refine .gz 121 (.gz 121 (.gz 121 ?_))
 refine .gz 121 (.gz 121 (.gz 121 ?_))
 refine .gz 121 (.gz 121 (.gw 117 (Y.pick rfl rfl rfl) ?_))
 refine .pk ?_
 refine .an ?_
 refine .nil (.ret ?_)
 exact .rb rfl (dt (by (simp only [Shaped, c77, Int.reduceEq, Bool.not_eq_true, false_and, true_and, and_true, and_false, or_false, false_or, ne_eq]) <;> (first | omega | grind)))
 refine .gw 121 (Y.fieldAddr fl27_5 rfl rfl) (.gw 121 (Y.load sh25 rfl rfl rfl rfl) (.gw 121 (Y.fieldAddr fl39_5 rfl rfl) ?_))
 refine .gw 121 (Y.load sh3 rfl rfl rfl rfl) ?_
 refine .gw 121 (Y.indexF (m := (c.mem).toNat) sl25 rfl rfl (by omega) (row_getD (d := default) (by omega))) ?_
 refine .gw 121 (Y.fieldAddr fl83_2 rfl rfl) (.gw 121 (Y.load sh4 rfl rfl rfl rfl) (.gw 121 (Y.not rfl) ?_))
 refine .gw 117 (Y.pick rfl rfl rfl) ?_
 refine .pk ?_
 refine .an ?_
 refine .nil (.ret ?_)
 exact .rb rfl (db (by (simp only [Shaped, c77, Int.reduceEq, Bool.not_eq_true, false_and, true_and, and_true, and_false, or_false, false_or, ne_eq]) <;> (first | omega | grind)))
 refine .gz 117 (.gz 117 (.gz 117 ?_))
 refine .gz 117 (.gz 121 (.gz 121 ?_))
 refine .gz 121 (.gz 121 (.gz 121 ?_))
 refine .gz 121 (.gz 121 (.gz 121 ?_))
 refine .gz 117 ?_
 refine .pk ?_
 refine .an ?_
 refine .nil (.ret ?_)
 exact .rb rfl (df (by (simp only [Shaped, c77, Int.reduceEq, Bool.not_eq_true, false_and, true_and, and_true, and_false, or_false, false_or, ne_eq]) <;> (first | omega | grind)))
 refine .gz 111 (.gz 111 (.gz 111 ?_))
 refine .gz 111 ?_
 refine .pk ?_
 refine .mv ?_
 refine .gz 117 (.gz 117 (.gz 117 ?_))
 refine .gz 117 (.gz 121 (.gz 121 ?_))
 refine .gz 121 (.gz 121 (.gz 121 ?_))
 refine .gz 121 (.gz 121 (.gz 121 ?_))
 refine .gz 117 ?_
 refine .pk ?_
 refine .an ?_
 refine .nil (.ret ?_)
 exact .rb rfl (df (by (simp only [Shaped, c77, Int.reduceEq, Bool.not_eq_true, false_and, true_and, and_true, and_false, or_false, false_or, ne_eq]) <;> (first | omega | grind)))
 refine .sr ?_
 refine .an ?_
 refine .nil (.ret ?_)
 exact .rb rfl (df (by (simp only [Shaped, c11, c13, c22, c34, c36, c58, c63, c68, c77, c77, Int.reduceEq, Bool.not_eq_true, false_and, true_and, and_true, and_false, or_false, false_or, ne_eq]) <;> (first | omega | grind)))
end Go.Proofs.Ytligpghohcfpnaa
/- Walks through the searches of slices. -/
namespace Go.Proofs.Ytligpghohcfpnaa
open Go Go.AW Go.Proofs
theorem indexFuncInt_spec {l : List Int} {p : Int → Bool} {g : Nat} {row : List X} (hl : l.length ≤ 17592186043904) (hok : callOK Try.prog g = true) (hg : ∀ z ∈ l, ACalls Try.prog g [vi z, .fp row 0] [] [] (fun r o => r = .v (.bool (p z)) ∧ o = [])) : ACalls Try.prog 123 [.fz 1 (l.map irow), .clo (.func g) [] [.fp row 0]] [] [] (fun r o => r = (vi (idxF p l)) ∧ o = []) := by
 refine ACalls.of Try.func123 rfl rfl rfl (n := 19) (by decide) (nbE rfl) (.sr ?_)
 refine .an ?_
 refine .nil (.seq (.sr ?_))
 refine .mv ?_
 refine .vl (Y.len (n := l.length) sl22 rfl (congrArg some (List.length_map ..))) ?_
 refine .mv ?_
 refine .nil (.block ?_)
 refine .loop1 (fun (n8_2 : Nat) => ⟨[(0, .fz 1 (l.map irow)), (1, .clo (.func g) [] [.fp row 0]), (7, vi ((l.length : Nat) : Int)), (8, vi (n8_2 : Int))], []⟩) (fun (n8_2 : Nat) => ((n8_2 : Int) ≤ ((l.length : Nat) : Int)) ∧ (∀ j, j < n8_2 → p (l.getD j 0) = false)) (fun (n8_2 : Nat) => (((l.length : Nat) : Int) - (n8_2 : Int)).toNat) 0 (⟨by omega, fun j hj => by omega⟩) (Le.mk (.c (.c (.c (.cons (look_int rfl (by first | rfl | omega)) (.nil))))) (.nil)) (fun n8_2 hI2 => ?_)
 obtain ⟨hb2, h0⟩ := hI2
 refine .sr (.vl (Y.lss rfl rfl) (.nil ?_))
 refine .seq ?_
 refine .condD rfl (fun c9 => ?_) (fun c9 => ?_)
 refine .skip (.seq (.block ?_))
 refine .sr ?_
 refine .mv ?_
 refine .an ?_
 refine .nil (.sr ?_)
 refine .mv ?_
 refine .mv ?_
 refine .mv ?_
 refine .vl (Y.indexF (m := n8_2) sl22 rfl rfl (by first | rfl | omega) (row_getD (d := 0) (by omega))) ?_
 refine .ld sh3 ?_
 refine .callCP rfl hok (hg _ (getD_mem' (by omega))) rfl (.keep rfl rfl (.keep rfl rfl .nil)) (by decide) rfl (.nil ?_)
 refine .cond rfl (fun c16 => ?_) (fun c16 => ?_)
 refine .sr ?_
 refine .mv ?_
 refine .an ?_
 refine .nil (.ret ?_)
 exact .ri rfl (idxF_found h0 (by omega) c16)
 refine .skip (.region ?_)
 refine .vl (Y.addI rfl rfl (by omega)) ?_
 refine .mv ?_
 refine .nil ?_
 exact ⟨n8_2 + 1, ⟨by omega, below_false h0 c16⟩, by omega, Le.mk (.c (.c (.c (.cons (look_int rfl (by first | rfl | omega)) (.nil))))) (.nil)⟩
 refine .exit (.sr ?_)
 refine .an ?_
 refine .nil (.ret ?_)
 exact .ri rfl (idxF_none (fun j hj => h0 j (by omega)))
theorem containsFuncInt_spec {l : List Int} {p : Int → Bool} {g : Nat} {row : List X} (hl : l.length ≤ 17592186043904) (hok : callOK Try.prog g = true) (hg : ∀ z ∈ l, ACalls Try.prog g [vi z, .fp row 0] [] [] (fun r o => r = .v (.bool (p z)) ∧ o = [])) : ACalls Try.prog 95 [.fz 1 (l.map irow), .clo (.func g) [] [.fp row 0]] [] [] (fun r o => r = .v (.bool (l.any p)) ∧ o = []) := by
 refine ACalls.of Try.func95 rfl rfl rfl (n := 9) (by decide) (nbE rfl) (.sr ?_)
 refine .an ?_
 refine .nil (.sr ?_)
 refine .mv ?_
 refine .mv ?_
 refine .callP ok123 (indexFuncInt_spec (l := l) hl hok hg) rfl (.keep rfl rfl (.keep rfl rfl .nil)) (by decide) rfl (.vl (Y.geq rfl rfl) ?_)
 refine .an ?_
 refine .nil (.ret ?_)
 exact .rb rfl (idxF_any)
theorem indexFuncCell_spec {l : List Cell} {p : Cell → Bool} {g : Nat} {row : List X} (hl : l.length ≤ 17592186043904) (hok : callOK Try.prog g = true) (hg : ∀ z ∈ l, ACalls Try.prog g [.agg (Cell.row z), .fp row 0] [] [] (fun r o => r = .v (.bool (p z)) ∧ o = [])) : ACalls Try.prog 126 [.fz 6 (l.map Cell.row), .clo (.func g) [] [.fp row 0]] [] [] (fun r o => r = (vi (idxF p l)) ∧ o = []) := by
 refine ACalls.of Try.func126 rfl rfl rfl (n := 19) (by decide) (nbE rfl) (.sr ?_)
 refine .an ?_
 refine .nil (.seq (.sr ?_))
 refine .mv ?_
 refine .vl (Y.len (n := l.length) sl23 rfl (congrArg some (List.length_map ..))) ?_
 refine .mv ?_
 refine .nil (.block ?_)
 refine .loop1 (fun (n8_2 : Nat) => ⟨[(0, .fz 6 (l.map Cell.row)), (1, .clo (.func g) [] [.fp row 0]), (7, vi ((l.length : Nat) : Int)), (8, vi (n8_2 : Int))], []⟩) (fun (n8_2 : Nat) => ((n8_2 : Int) ≤ ((l.length : Nat) : Int)) ∧ (∀ j, j < n8_2 → p (l.getD j default) = false)) (fun (n8_2 : Nat) => (((l.length : Nat) : Int) - (n8_2 : Int)).toNat) 0 (⟨by omega, fun j hj => by omega⟩) (Le.mk (.c (.c (.c (.cons (look_int rfl (by first | rfl | omega)) (.nil))))) (.nil)) (fun n8_2 hI2 => ?_)
 obtain ⟨hb2, h0⟩ := hI2
 refine .sr (.vl (Y.lss rfl rfl) (.nil ?_))
 refine .seq ?_
 refine .condD rfl (fun c9 => ?_) (fun c9 => ?_)
 refine .skip (.seq (.block ?_))
 refine .sr ?_
 refine .mv ?_
 refine .an ?_
 refine .nil (.sr ?_)
 refine .mv ?_
 refine .mv ?_
 refine .mv ?_
 refine .vl (Y.indexF (m := n8_2) sl23 rfl rfl (by first | rfl | omega) (row_getD (d := default) (by omega))) ?_
 refine .vl (Y.loadA sh39 rfl rfl (nbE rfl) rfl rfl) (.callCP rfl hok (hg _ (getD_mem' (by omega))) rfl (.keep rfl rfl (.keep rfl rfl .nil)) (by decide) rfl (.nil ?_))
 refine .cond rfl (fun c16 => ?_) (fun c16 => ?_)
 refine .sr ?_
 refine .mv ?_
 refine .an ?_
 refine .nil (.ret ?_)
 exact .ri rfl (idxF_found h0 (by omega) c16)
 refine .skip (.region ?_)
 refine .vl (Y.addI rfl rfl (by omega)) ?_
 refine .mv ?_
 refine .nil ?_
 exact ⟨n8_2 + 1, ⟨by omega, below_false h0 c16⟩, by omega, Le.mk (.c (.c (.c (.cons (look_int rfl (by first | rfl | omega)) (.nil))))) (.nil)⟩
 refine .exit (.sr ?_)
 refine .an ?_
 refine .nil (.ret ?_)
 exact .ri rfl (idxF_none (fun j hj => h0 j (by omega)))
theorem containsFuncCell_spec {l : List Cell} {p : Cell → Bool} {g : Nat} {row : List X} (hl : l.length ≤ 17592186043904) (hok : callOK Try.prog g = true) (hg : ∀ z ∈ l, ACalls Try.prog g [.agg (Cell.row z), .fp row 0] [] [] (fun r o => r = .v (.bool (p z)) ∧ o = [])) : ACalls Try.prog 100 [.fz 6 (l.map Cell.row), .clo (.func g) [] [.fp row 0]] [] [] (fun r o => r = .v (.bool (l.any p)) ∧ o = []) := by
 refine ACalls.of Try.func100 rfl rfl rfl (n := 9) (by decide) (nbE rfl) (.sr ?_)
 refine .an ?_
 refine .nil (.sr ?_)
 refine .mv ?_
 refine .mv ?_
 refine .callP ok126 (indexFuncCell_spec (l := l) hl hok hg) rfl (.keep rfl rfl (.keep rfl rfl .nil)) (by decide) rfl (.vl (Y.geq rfl rfl) ?_)
 refine .an ?_
 refine .nil (.ret ?_)
 exact .rb rfl (idxF_any)
theorem indexBool_spec {l : List Bool} {b : Bool} (hl : l.length ≤ 140737488351232) : ACalls Try.prog 125 [.fz 1 (l.map brow), .v (.bool b)] [] [] (fun r o => r = (vi (idxF (fun x => b == x) l)) ∧ o = []) := by
 refine ACalls.of Try.func125 rfl rfl rfl (n := 19) (by decide) (nbE rfl) (.sr ?_)
 refine .an ?_
 refine .nil (.seq (.sr ?_))
 refine .mv ?_
 refine .vl (Y.len (n := l.length) sl63 rfl (congrArg some (List.length_map ..))) ?_
 refine .mv ?_
 refine .nil (.block ?_)
 refine .loop1 (fun (n8_2 : Nat) => ⟨[(0, .fz 1 (l.map brow)), (1, .v (.bool b)), (7, vi ((l.length : Nat) : Int)), (8, vi (n8_2 : Int))], []⟩) (fun (n8_2 : Nat) => ((n8_2 : Int) ≤ ((l.length : Nat) : Int)) ∧ (∀ j, j < n8_2 → (fun x => b == x) (l.getD j false) = false)) (fun (n8_2 : Nat) => (((l.length : Nat) : Int) - (n8_2 : Int)).toNat) 0 (⟨by omega, fun j hj => by omega⟩) (Le.mk (.c (.c (.c (.cons (look_int rfl (by first | rfl | omega)) (.nil))))) (.nil)) (fun n8_2 hI2 => ?_)
 obtain ⟨hb2, h0⟩ := hI2
 refine .sr (.vl (Y.lss rfl rfl) (.nil ?_))
 refine .seq ?_
 refine .condD rfl (fun c9 => ?_) (fun c9 => ?_)
 refine .skip (.seq (.block ?_))
 refine .sr ?_
 refine .mv ?_
 refine .an ?_
 refine .nil (.sr ?_)
 refine .mv ?_
 refine .mv ?_
 refine .mv ?_
 refine .vl (Y.indexF (m := n8_2) sl63 rfl rfl (by first | rfl | omega) (row_getD (d := false) (by omega))) ?_
 refine .ld sh4 ?_
 refine .vl (Y.eqlB un4 rfl rfl) (.nil ?_)
 refine .cond rfl (fun c16 => ?_) (fun c16 => ?_)
 refine .sr ?_
 refine .mv ?_
 refine .an ?_
 refine .nil (.ret ?_)
 exact .ri rfl (idxF_found (d := false) h0 (by omega) c16)
 refine .skip (.region ?_)
 refine .vl (Y.addI rfl rfl (by omega)) ?_
 refine .mv ?_
 refine .nil ?_
 exact ⟨n8_2 + 1, ⟨by omega, below_false h0 c16⟩, by omega, Le.mk (.c (.c (.c (.cons (look_int rfl (by first | rfl | omega)) (.nil))))) (.nil)⟩
 refine .exit (.sr ?_)
 refine .an ?_
 refine .nil (.ret ?_)
 exact .ri rfl (idxF_none (d := false) (fun j hj => h0 j (by omega)))
theorem containsBool_spec {l : List Bool} {b : Bool} (hl : l.length ≤ 140737488351232) : ACalls Try.prog 99 [.fz 1 (l.map brow), .v (.bool b)] [] [] (fun r o => r = .v (.bool (l.any (fun x => b == x))) ∧ o = []) := by
 refine ACalls.of Try.func99 rfl rfl rfl (n := 9) (by decide) (nbE rfl) (.sr ?_)
 refine .an ?_
 refine .nil (.sr ?_)
 refine .mv ?_
 refine .mv ?_
 refine .callP ok125 (indexBool_spec (l := l) (b := b) ((by omega))) rfl (.keep rfl rfl (.keep rfl rfl .nil)) (by decide) rfl ?_
 refine .vl (Y.geq rfl rfl) ?_
 refine .an ?_
 refine .nil (.ret ?_)
 exact .rb rfl (idxF_any)
end Go.Proofs.Ytligpghohcfpnaa
/- Walks through slices.Concat. -/
namespace Go.Proofs.Ytligpghohcfpnaa
open Go Go.AW Go.Proofs
theorem grow_spec {n : Nat} (hn : n ≤ 35184372088832) : ACalls Try.prog 108 [.v (.slice none 0 0), vi (n : Int)] [] [] (fun r o => r = .uni 1 (([] : List Int).map irow) ∧ o = []) := by
 refine ACalls.of Try.func108 rfl rfl rfl (n := 27) (by decide) (nbE rfl) (.sr ?_)
 refine .an ?_
 refine .nil (.seq (.sr ?_))
 refine .mv ?_
 refine .vl (Y.lss rfl rfl) (.nil ?_)
 refine .condD rfl (fun c6 => ?_) (fun c6 => ?_)
 exfalso; omega
 refine .skip (.seq (.sr ?_))
 refine .mv ?_
 refine .mv ?_
 refine .vl (Y.capNil sl22 rfl) ?_
 refine .mv ?_
 refine .vl (Y.len (n := 0) sl22 rfl rfl) ?_
 refine .vl (Y.subI rfl rfl (by first | omega | simp [-List.getD_eq_getElem?_getD] <;> omega)) ?_
 refine .vl (Y.subI rfl rfl (by first | omega | simp [-List.getD_eq_getElem?_getD] <;> omega)) ?_
 refine .an ?_
 refine .nil (.sr ?_)
 refine .mv ?_
 refine .vl (Y.gtr rfl rfl) (.nil ?_)
 refine .condD rfl (fun c16 => ?_) (fun c16 => ?_)
 refine .region ?_
 refine .mv ?_
 refine .mv ?_
 refine .vl (Y.capNil sl22 rfl) (.vl (Y.sliceNil sl22 rfl (.none _) (.some rfl)) ?_)
 refine .mv ?_
 refine .appendMake (n := (((n : Int) - (0 - 0)).toNat)) sl22 ze3 rfl rfl ii3 rfl (by first | rfl | (rw [show ((n : Int) - (0 - 0) : Int) = ((((n : Int) - (0 - 0)).toNat : Nat) : Int) by omega]; rfl)) (by omega) (by decide) (by omega) (by omega) (by decide) ?_
 refine .mv ?_
 refine .vl (Y.len (n := 0) sl22 rfl rfl) (.sh (Sh.adoptE (d := 22) (n := (List.replicate (((n : Int) - (0 - 0)).toNat) 0).length) 122 ((List.replicate (((n : Int) - (0 - 0)).toNat) 0).map irow) rfl (by first | rfl | exact rep_map rfl) (len_map rfl) (by decide)) ?_)
 refine .vl (Y.sliceO (l := 0) (h := 0) sl22 rfl (.none _) (.some rfl) (by omega) (by omega)) ?_
 refine .an ?_
 refine .nil (.sr ?_)
 refine .mv ?_
 refine .an ?_
 refine .sh (Sh.trimE (d := 4) (o := 122) (([] : List Int).map irow) rfl rfl (by simp) (by simp) (by decide)) ?_
 refine .sh (Sh.detach (d := 4) (o := 122) rfl rfl (len_map (by first | omega | simp [-List.getD_eq_getElem?_getD] <;> omega)) (by decide)) ?_
 refine .nil (.ret ?_)
 exact ⟨_, _, rfl, rfl, (cg1 (fun (z0 : List Int) => X.uni 1 (z0.map irow)) (rfl : ([] : List Int) = ([] : List Int)) : X.uni 1 (([] : List Int).map irow) = X.uni 1 (([] : List Int).map irow)), rfl⟩
 refine .skip (.sr ?_)
 refine .mv ?_
 refine .an ?_
 refine .nil (.sh (Sh.nilU (d := 4) 1 rfl) (.ret ?_))
 exact ⟨_, _, rfl, rfl, (cg1 (fun (z0 : List Int) => X.uni 1 (z0.map irow)) (rfl : ([] : List Int) = ([] : List Int)) : X.uni 1 (([] : List Int).map irow) = X.uni 1 (([] : List Int).map irow)), rfl⟩
theorem concat_spec {ls : List (List Int)} (h1 : ls.length ≤ 1000) (hn : ls.flatten.length ≤ 17592186044416) : ACalls Try.prog 72 [.fz 1 (ls.map lrow)] [] [] (fun r o => r = .uni 1 (ls.flatten.map irow) ∧ o = []) := by
 refine ACalls.of Try.func72 rfl rfl rfl (n := 36) (by decide) (nbE rfl) (.sr ?_)
 refine .an ?_
 refine .nil (.sr ?_)
 refine .an ?_
 refine .nil (.seq (.sr ?_))
 refine .mv ?_
 refine .vl (Y.len (n := ls.length) sl92 rfl (congrArg some (List.length_map ..))) ?_
 refine .mv ?_
 refine .nil (.block ?_)
 refine .loop2 (fun (size3_3 : Nat) (n11_3 : Nat) => ⟨[(0, .fz 1 (ls.map lrow)), (3, vi (size3_3 : Int)), (9, .fz 1 (ls.map lrow)), (10, vi ((ls.length : Nat) : Int)), (11, vi (n11_3 : Int))], []⟩) (fun (size3_3 : Nat) (n11_3 : Nat) => ((n11_3 : Int) ≤ ((ls.length : Nat) : Int)) ∧ (size3_3 = (ls.take n11_3).flatten.length)) (fun (size3_3 : Nat) (n11_3 : Nat) => (((ls.length : Nat) : Int) - (n11_3 : Int)).toNat) 0 0 (⟨by omega, rfl⟩) (Le.mk (.c (.cons (look_int rfl (by first | rfl | omega)) (.c (.c (.cons (look_int rfl (by first | rfl | omega)) (.nil)))))) (.nil)) (fun size3_3 n11_3 hI3 => ?_)
 obtain ⟨hb3, hs⟩ := hI3
 refine .sr (.vl (Y.lss rfl rfl) (.nil ?_))
 refine .seq ?_
 refine .condD rfl (fun c12 => ?_) (fun c12 => ?_)
 refine .skip (.seq (.block ?_))
 refine .sr ?_
 have hf := congrArg List.length (flat_succ (ls := ls) (i := n11_3) (by omega))
 rw [List.length_append] at hf
 have hf2 := flat_le ls (n11_3 + 1)
 have hf3 := flat_le ls n11_3
 refine .vl (Y.indexF (m := n11_3) sl92 rfl rfl (by first | rfl | omega) (row_getD (d := []) (by omega))) ?_
 refine .ld sh22 ?_
 refine .an ?_
 refine .nil (.sr ?_)
 refine .mv ?_
 refine .mv ?_
 refine .vl (Y.len (n := (ls.getD n11_3 []).length) sl22 rfl (congrArg some (List.length_map ..))) ?_
 refine .vl (Y.addI rfl rfl (by omega)) ?_
 refine .an ?_
 refine .nil (.sr ?_)
 refine .mv ?_
 refine .vl (Y.lss rfl rfl) (.nil ?_)
 refine .condD rfl (fun c20 => ?_) (fun c20 => ?_)
 exfalso; omega
 refine .skip (.region ?_)
 refine .vl (Y.addI rfl rfl (by omega)) ?_
 refine .mv ?_
 refine .nil ?_
 exact ⟨size3_3 + ((ls.getD n11_3 []).length), n11_3 + 1, ⟨by omega, by omega⟩, by omega, Le.mk (.c (.cons (look_int rfl (by first | rfl | omega)) (.c (.c (.cons (look_int rfl (by first | rfl | omega)) (.nil)))))) (.nil)⟩
 refine .exit (.sr ?_)
 have hf3 := flat_le ls n11_3
 refine .mv ?_
 refine .callP ok108 (grow_spec (n := size3_3) ((by omega))) rfl (.keep rfl rfl (.keep rfl rfl .nil)) (by decide) rfl ?_
 refine .assignX rfl (by decide) (.sh (Sh.adoptE (d := 6) (n := ([] : List Int).length) 106 (([] : List Int).map irow) rfl (by first | rfl | exact rep_map rfl) (len_map rfl) (by decide)) (.nil ?_))
 refine .seq (.sr ?_)
 refine .mv ?_
 refine .vl (Y.len (n := ls.length) sl92 rfl (congrArg some (List.length_map ..))) ?_
 refine .mv ?_
 refine .nil (.block ?_)
 refine .loop2 (fun (n27_11 : Nat) (newslice6_11 : List Int) => ⟨[(6, .slc 106 1 0 newslice6_11.length), (25, .fz 1 (ls.map lrow)), (26, vi ((ls.length : Nat) : Int)), (27, vi (n27_11 : Int))], [(106, .rows 1 (newslice6_11.map irow))]⟩) (fun (n27_11 : Nat) (newslice6_11 : List Int) => ((n27_11 : Int) ≤ ((ls.length : Nat) : Int)) ∧ (newslice6_11 = (ls.take n27_11).flatten)) (fun (n27_11 : Nat) (newslice6_11 : List Int) => (((ls.length : Nat) : Int) - (n27_11 : Int)).toNat) 0 ([] : List Int) (⟨by omega, rfl⟩) (Le.mk (.cons (look_slc rfl (by omega)) (.c (.c (.cons (look_int rfl (by first | rfl | omega)) (.nil))))) (.c (.nil))) (fun n27_11 newslice6_11 hI11 => ?_)
 obtain ⟨hb11, ht⟩ := hI11
 refine .sr (.vl (Y.lss rfl rfl) (.nil ?_))
 refine .seq ?_
 refine .condD rfl (fun c28 => ?_) (fun c28 => ?_)
 refine .skip (.seq (.block ?_))
 refine .sr ?_
 have hf := flat_succ (ls := ls) (i := n27_11) (by omega)
 have hf1 := congrArg List.length hf
 rw [List.length_append] at hf1
 have hf2 := flat_le ls (n27_11 + 1)
 have hf3 := flat_le ls n27_11
 have hf4 := congrArg List.length ht
 refine .vl (Y.indexF (m := n27_11) sl92 rfl rfl (by first | rfl | omega) (row_getD (d := []) (by omega))) ?_
 refine .ld sh22 ?_
 refine .an ?_
 refine .nil (.region ?_)
 refine .mv ?_
 refine .mv ?_
 refine .appendFE ((newslice6_11 ++ (ls.getD n27_11 [])).map irow) (newslice6_11 ++ (ls.getD n27_11 [])).length sl22 ze3 rfl rfl rfl rfl (app_le (by first | omega | simp [-List.getD_eq_getElem?_getD] <;> omega)) (app_map (by first | omega | simp [-List.getD_eq_getElem?_getD] <;> omega)) (app_n (by first | omega | simp [-List.getD_eq_getElem?_getD] <;> omega)) (by first | omega | simp [-List.getD_eq_getElem?_getD] <;> omega) (by first | omega | simp [-List.getD_eq_getElem?_getD] <;> omega) (by decide) (by decide) ?_
 refine .an ?_
 refine .nil (.region ?_)
 refine .vl (Y.addI rfl rfl (by omega)) ?_
 refine .mv ?_
 refine .nil ?_
 exact ⟨n27_11 + 1, newslice6_11 ++ (ls.getD n27_11 []), ⟨by omega, by rw [ht]; exact hf.symm⟩, by omega, Le.mk (.cons (look_slc rfl (by omega)) (.c (.c (.cons (look_int rfl (by first | rfl | omega)) (.nil))))) (.c (.nil))⟩
 refine .exit (.sr ?_)
 refine .mv ?_
 refine .an ?_
 refine .sh (Sh.detach (d := 2) (o := 106) rfl rfl (len_map (by omega)) (by decide)) ?_
 refine .nil (.ret ?_)
 exact ⟨_, _, rfl, rfl, (cg1 (fun (z0 : List Int) => X.uni 1 (z0.map irow)) (by rw [ht, List.take_of_length_le (by omega)] : newslice6_11 = ls.flatten) : X.uni 1 (newslice6_11.map irow) = X.uni 1 (ls.flatten.map irow)), rfl⟩
end Go.Proofs.Ytligpghohcfpnaa
/- The walk through formed. -/
namespace Go.Proofs.Ytligpghohcfpnaa
open Go Go.AW Go.Proofs
theorem formed1_spec {i : Int} {n : Netlist} : ACalls Try.prog 94 [vi i, .fp (Netlist.row n) 0] [] [] (fun r o => r = .v (.bool (decide (In i n.widths.length))) ∧ o = []) := by
 refine ACalls.of Try.func94 rfl rfl rfl (n := 13) (by decide) (nbE rfl) (.sr ?_)
 refine .an ?_
 refine .nil (.sr ?_)
 refine .mv ?_
 refine .vl (Y.geq rfl rfl) ?_
 refine .mv ?_
 refine .splitD (d := 6) rfl (fun c6 => ?_) (fun c6 => ?_)
 refine .gw 6 (Y.move rfl rfl) (.gw 6 (Y.fieldAddr fl27_1 rfl rfl) (.gw 6 (Y.load sh22 rfl rfl rfl rfl) ?_))
 refine .gw 6 (Y.len (n := n.widths.length) sl22 rfl (congrArg some (List.length_map ..))) (.gw 6 (Y.lss rfl rfl) ?_)
 refine .pk ?_
 refine .an ?_
 refine .nil (.ret ?_)
 exact .rb rfl (dd (by (simp only [In]) <;> (first | omega | grind)))
 refine .gz 6 (.gz 6 (.gz 6 ?_))
 refine .gz 6 (.gz 6 ?_)
 refine .pk ?_
 refine .an ?_
 refine .nil (.ret ?_)
 exact .rb rfl (df (by (simp only [In]) <;> (first | omega | grind)))
theorem formed2_spec {i : Int} {n : Netlist} : ACalls Try.prog 96 [vi i, .fp ([.clo (.func 94) [] [.fp (Netlist.row n) 0]]) 0] [] [] (fun r o => r = .v (.bool (!decide (In i n.widths.length))) ∧ o = []) := by
 refine ACalls.of Try.func96 rfl rfl rfl (n := 8) (by decide) (nbE rfl) (.sr ?_)
 refine .an ?_
 refine .nil (.sr ?_)
 refine .ld sh45 ?_
 refine .mv ?_
 refine .callCP rfl ok94 (formed1_spec (i := i)) rfl (.keep rfl rfl (.keep rfl rfl .nil)) (by decide) rfl (.vl (Y.not rfl) ?_)
 refine .an ?_
 refine .nil (.ret ?_)
 exact .rb rfl (rfl)
theorem formed3_spec {i : Int} {n : Netlist} : ACalls Try.prog 97 [vi i, .fp ([.clo (.func 94) [] [.fp (Netlist.row n) 0]]) 0] [] [] (fun r o => r = .v (.bool (!decide (In i n.widths.length))) ∧ o = []) := by
 refine ACalls.of Try.func97 rfl rfl rfl (n := 8) (by decide) (nbE rfl) (.sr ?_)
 refine .an ?_
 refine .nil (.sr ?_)
 refine .ld sh45 ?_
 refine .mv ?_
 refine .callCP rfl ok94 (formed1_spec (i := i)) rfl (.keep rfl rfl (.keep rfl rfl .nil)) (by decide) rfl (.vl (Y.not rfl) ?_)
 refine .an ?_
 refine .nil (.ret ?_)
 exact .rb rfl (rfl)
theorem formed_spec {n : Netlist} (hs : n.Small) (hwi : n.widths.length + n.ins.length ≤ 17592186044416) : ACalls Try.prog 57 [.agg (Netlist.row n)] [] [] (fun r o => r = .v (.bool (decide (Formed n))) ∧ o = []) := by
 refine ACalls.of Try.func57 rfl rfl rfl (n := 234) (by decide) (nbE rfl) ?_
 have hs1 := hs.name; have hs2 := hs.widths; have hs3 := hs.cells; have hs4 := hs.ins; have hs5 := hs.mems; have hs6 := hs.streams; have hs7 := hs.active; have hs8 := hs.data; have hs9 := hs.rets
 have hcat : ([n.widths, n.ins] : List (List Int)).flatten = n.widths ++ n.ins := by simp
 have hcl : (([n.widths, n.ins] : List (List Int)).flatten).length = n.widths.length + n.ins.length := by simp
 refine .sr (.box 101 rfl rfl rfl rfl rfl (by decide) ?_)
 refine .an ?_
 refine .nil (.seq (.sr ?_))
 refine .fa fl27_0 ?_
 refine .ld sh9 ?_
 refine .callP ok92 (named_spec (s := n.name) (by first | assumption | omega)) rfl (.keep rfl rfl .nil) (by decide) rfl (.vl (Y.not rfl) ?_)
 refine .mv ?_
 refine .split (d := 17) rfl (fun c17 => ?_) (fun c17 => ?_)
 replace c17 : ¬ (Named n.name) := by simpa using c17
 refine .gz 17 (.gz 17 (.gz 17 ?_))
 refine .gz 17 ?_
 refine .pk ?_
 refine .mv ?_
 refine .gz 23 (.gz 23 (.gz 23 ?_))
 refine .gz 23 ?_
 refine .pk ?_
 refine .mv ?_
 refine .gz 29 (.gz 29 (.gz 29 ?_))
 refine .gz 29 ?_
 refine .pk ?_
 refine .mv ?_
 refine .gz 35 (.gz 35 (.gz 35 ?_))
 refine .gz 35 ?_
 refine .pk ?_
 refine .mv ?_
 refine .gz 41 (.gz 41 (.gz 41 ?_))
 refine .gz 41 (.gz 41 (.gz 41 ?_))
 refine .gz 41 ?_
 refine .pk ?_
 refine .mv ?_
 refine .gz 50 (.gz 50 (.gz 50 ?_))
 refine .gz 50 (.gz 50 (.gz 50 ?_))
 refine .gz 50 ?_
 refine .pk ?_
 refine .nil (.condT rfl (.sr ?_))
 refine .an ?_
 refine .nil (.ret ?_)
 exact .rb rfl (df (fun h => by have h1 := h.name; have h2 := h.ncells; have h3 := h.nwidths; have h4 := h.nmems; have h5 := h.nstreams; have h6 := h.nactive; have h7 := h.ndata; first | omega | contradiction))
 replace c17 : Named n.name := by simpa using c17
 refine .gw 17 (Y.fieldAddr fl27_2 rfl rfl) (.gw 17 (Y.load sh23 rfl rfl rfl rfl) (.gw 17 (Y.len (n := n.cells.length) sl23 rfl (congrArg some (List.length_map ..))) ?_))
 refine .gw 17 (Y.gtr rfl rfl) ?_
 refine .pk ?_
 refine .mv ?_
 refine .splitD (d := 23) rfl (fun c23 => ?_) (fun c23 => ?_)
 refine .gz 23 (.gz 23 (.gz 23 ?_))
 refine .gz 23 ?_
 refine .pk ?_
 refine .mv ?_
 refine .gz 29 (.gz 29 (.gz 29 ?_))
 refine .gz 29 ?_
 refine .pk ?_
 refine .mv ?_
 refine .gz 35 (.gz 35 (.gz 35 ?_))
 refine .gz 35 ?_
 refine .pk ?_
 refine .mv ?_
 refine .gz 41 (.gz 41 (.gz 41 ?_))
 refine .gz 41 (.gz 41 (.gz 41 ?_))
 refine .gz 41 ?_
 refine .pk ?_
 refine .mv ?_
 refine .gz 50 (.gz 50 (.gz 50 ?_))
 refine .gz 50 (.gz 50 (.gz 50 ?_))
 refine .gz 50 ?_
 refine .pk ?_
 refine .nil (.condT rfl (.sr ?_))
 refine .an ?_
 refine .nil (.ret ?_)
 exact .rb rfl (df (fun h => by have h1 := h.name; have h2 := h.ncells; have h3 := h.nwidths; have h4 := h.nmems; have h5 := h.nstreams; have h6 := h.nactive; have h7 := h.ndata; first | omega | contradiction))
 refine .gw 23 (Y.fieldAddr fl27_1 rfl rfl) (.gw 23 (Y.load sh22 rfl rfl rfl rfl) (.gw 23 (Y.len (n := n.widths.length) sl22 rfl (congrArg some (List.length_map ..))) ?_))
 refine .gw 23 (Y.gtr rfl rfl) ?_
 refine .pk ?_
 refine .mv ?_
 refine .splitD (d := 29) rfl (fun c29 => ?_) (fun c29 => ?_)
 refine .gz 29 (.gz 29 (.gz 29 ?_))
 refine .gz 29 ?_
 refine .pk ?_
 refine .mv ?_
 refine .gz 35 (.gz 35 (.gz 35 ?_))
 refine .gz 35 ?_
 refine .pk ?_
 refine .mv ?_
 refine .gz 41 (.gz 41 (.gz 41 ?_))
 refine .gz 41 (.gz 41 (.gz 41 ?_))
 refine .gz 41 ?_
 refine .pk ?_
 refine .mv ?_
 refine .gz 50 (.gz 50 (.gz 50 ?_))
 refine .gz 50 (.gz 50 (.gz 50 ?_))
 refine .gz 50 ?_
 refine .pk ?_
 refine .nil (.condT rfl (.sr ?_))
 refine .an ?_
 refine .nil (.ret ?_)
 exact .rb rfl (df (fun h => by have h1 := h.name; have h2 := h.ncells; have h3 := h.nwidths; have h4 := h.nmems; have h5 := h.nstreams; have h6 := h.nactive; have h7 := h.ndata; first | omega | contradiction))
 refine .gw 29 (Y.fieldAddr fl27_4 rfl rfl) (.gw 29 (Y.load sh24 rfl rfl rfl rfl) (.gw 29 (Y.len (n := n.mems.length) sl24 rfl (congrArg some (List.length_map ..))) ?_))
 refine .gw 29 (Y.gtr rfl rfl) ?_
 refine .pk ?_
 refine .mv ?_
 refine .splitD (d := 35) rfl (fun c35 => ?_) (fun c35 => ?_)
 refine .gz 35 (.gz 35 (.gz 35 ?_))
 refine .gz 35 ?_
 refine .pk ?_
 refine .mv ?_
 refine .gz 41 (.gz 41 (.gz 41 ?_))
 refine .gz 41 (.gz 41 (.gz 41 ?_))
 refine .gz 41 ?_
 refine .pk ?_
 refine .mv ?_
 refine .gz 50 (.gz 50 (.gz 50 ?_))
 refine .gz 50 (.gz 50 (.gz 50 ?_))
 refine .gz 50 ?_
 refine .pk ?_
 refine .nil (.condT rfl (.sr ?_))
 refine .an ?_
 refine .nil (.ret ?_)
 exact .rb rfl (df (fun h => by have h1 := h.name; have h2 := h.ncells; have h3 := h.nwidths; have h4 := h.nmems; have h5 := h.nstreams; have h6 := h.nactive; have h7 := h.ndata; first | omega | contradiction))
 refine .gw 35 (Y.fieldAddr fl27_5 rfl rfl) (.gw 35 (Y.load sh25 rfl rfl rfl rfl) (.gw 35 (Y.len (n := n.streams.length) sl25 rfl (congrArg some (List.length_map ..))) ?_))
 refine .gw 35 (Y.gtr rfl rfl) ?_
 refine .pk ?_
 refine .mv ?_
 refine .splitD (d := 41) rfl (fun c41 => ?_) (fun c41 => ?_)
 refine .gz 41 (.gz 41 (.gz 41 ?_))
 refine .gz 41 (.gz 41 (.gz 41 ?_))
 refine .gz 41 ?_
 refine .pk ?_
 refine .mv ?_
 refine .gz 50 (.gz 50 (.gz 50 ?_))
 refine .gz 50 (.gz 50 (.gz 50 ?_))
 refine .gz 50 ?_
 refine .pk ?_
 refine .nil (.condT rfl (.sr ?_))
 refine .an ?_
 refine .nil (.ret ?_)
 exact .rb rfl (df (fun h => by have h1 := h.name; have h2 := h.ncells; have h3 := h.nwidths; have h4 := h.nmems; have h5 := h.nstreams; have h6 := h.nactive; have h7 := h.ndata; first | omega | contradiction))
 refine .gw 41 (Y.fieldAddr fl27_6 rfl rfl) (.gw 41 (Y.load sh22 rfl rfl rfl rfl) (.gw 41 (Y.len (n := n.active.length) sl22 rfl (congrArg some (List.length_map ..))) ?_))
 refine .gw 41 (Y.fieldAddr fl27_5 rfl rfl) (.gw 41 (Y.load sh25 rfl rfl rfl rfl) (.gw 41 (Y.len (n := n.streams.length) sl25 rfl (congrArg some (List.length_map ..))) ?_))
 refine .gw 41 (Y.neq rfl rfl) ?_
 refine .pk ?_
 refine .mv ?_
 refine .splitD (d := 50) rfl (fun c50 => ?_) (fun c50 => ?_)
 refine .gz 50 (.gz 50 (.gz 50 ?_))
 refine .gz 50 (.gz 50 (.gz 50 ?_))
 refine .gz 50 ?_
 refine .pk ?_
 refine .nil (.condT rfl (.sr ?_))
 refine .an ?_
 refine .nil (.ret ?_)
 exact .rb rfl (df (fun h => by have h1 := h.name; have h2 := h.ncells; have h3 := h.nwidths; have h4 := h.nmems; have h5 := h.nstreams; have h6 := h.nactive; have h7 := h.ndata; first | omega | contradiction))
 refine .gw 50 (Y.fieldAddr fl27_7 rfl rfl) (.gw 50 (Y.load sh22 rfl rfl rfl rfl) (.gw 50 (Y.len (n := n.data.length) sl22 rfl (congrArg some (List.length_map ..))) ?_))
 refine .gw 50 (Y.fieldAddr fl27_5 rfl rfl) (.gw 50 (Y.load sh25 rfl rfl rfl rfl) (.gw 50 (Y.len (n := n.streams.length) sl25 rfl (congrArg some (List.length_map ..))) ?_))
 refine .gw 50 (Y.neq rfl rfl) ?_
 refine .pk ?_
 refine .nil ?_
 refine .condD rfl (fun c58 => ?_) (fun c58 => ?_)
 refine .sr ?_
 refine .an ?_
 refine .nil (.ret ?_)
 exact .rb rfl (df (fun h => by have h1 := h.name; have h2 := h.ncells; have h3 := h.nwidths; have h4 := h.nmems; have h5 := h.nstreams; have h6 := h.nactive; have h7 := h.ndata; first | omega | contradiction))
 refine .skip (.seq (.sr ?_))
 refine .fa fl27_1 ?_
 refine .ld sh22 ?_
 refine .fa fl27_3 ?_
 refine .ld sh22 ?_
 refine .buildSlice (([n.widths, n.ins] : List (List Int)).map lrow) sl92 ze22 rfl rfl rfl rfl rfl (uniform_map (s := 1) (f := lrow) (fun _ => rfl)) rfl rfl rfl (by decide) ?_
 refine .sh (Sh.freezeE (d := 63) (([n.widths, n.ins] : List (List Int)).map lrow) rfl (by first | rfl | exact rep_map rfl) (Frees.map lrow_frees)) (.callP ok72 (concat_spec (ls := ([n.widths, n.ins] : List (List Int))) (by simp) (by simp; omega)) rfl (.keep rfl rfl .nil) (by decide) rfl (.vl (Y.len (n := (([n.widths, n.ins] : List (List Int)).flatten).length) sl22 rfl (congrArg some (List.length_map ..))) ?_))
 refine .mv ?_
 refine .nil (.block (.sh (Sh.freezeE (d := 64) ((([n.widths, n.ins] : List (List Int)).flatten).map irow) rfl (by first | rfl | exact rep_map rfl) (Frees.map irow_frees)) ?_))
 refine .loop1 (fun (n66_4 : Nat) => ⟨[(1, .ptr 101 0 0 0), (64, .fz 1 ((([n.widths, n.ins] : List (List Int)).flatten).map irow)), (65, vi (((([n.widths, n.ins] : List (List Int)).flatten).length : Nat) : Int)), (66, vi (n66_4 : Int))], [(101, .cells (Netlist.row n))]⟩) (fun (n66_4 : Nat) => ((n66_4 : Int) ≤ (((([n.widths, n.ins] : List (List Int)).flatten).length : Nat) : Int)) ∧ (∀ j, j < n66_4 → Wide (([n.widths, n.ins] : List (List Int)).flatten.getD j 0))) (fun (n66_4 : Nat) => ((((([n.widths, n.ins] : List (List Int)).flatten).length : Nat) : Int) - (n66_4 : Int)).toNat) 0 (⟨by omega, fun j hj => by omega⟩) (Le.mk (.c (.c (.c (.cons (look_int rfl (by first | rfl | omega)) (.nil))))) (.c (.nil))) (fun n66_4 hI4 => ?_)
 obtain ⟨hb4, hw⟩ := hI4
 refine .sr (.vl (Y.lss rfl rfl) (.nil ?_))
 refine .seq ?_
 refine .condD rfl (fun c67 => ?_) (fun c67 => ?_)
 refine .skip (.seq (.block ?_))
 refine .sr ?_
 refine .vl (Y.indexF (m := n66_4) sl22 rfl rfl (by first | rfl | omega) (row_getD (d := 0) (by omega))) ?_
 refine .ld sh3 ?_
 refine .an ?_
 refine .nil (.sr ?_)
 refine .mv ?_
 refine .callP ok93 (wide_spec (w := ((([n.widths, n.ins] : List (List Int)).flatten).getD n66_4 0))) rfl (.keep rfl rfl .nil) (by decide) rfl (.vl (Y.not rfl) (.nil ?_))
 refine .cond rfl (fun c72 => ?_) (fun c72 => ?_)
 replace c72 : ¬ (Wide ((([n.widths, n.ins] : List (List Int)).flatten).getD n66_4 0)) := by simpa using c72
 refine .sr ?_
 refine .an ?_
 refine .nil (.ret ?_)
 exact .rb rfl (df (fun h => by have h1 := h.wide n66_4 (by rw [List.length_append]; omega); rw [← hcat] at h1; contradiction))
 replace c72 : Wide ((([n.widths, n.ins] : List (List Int)).flatten).getD n66_4 0) := by simpa using c72
 refine .skip (.region ?_)
 refine .vl (Y.addI rfl rfl (by omega)) ?_
 refine .mv ?_
 refine .nil ?_
 exact ⟨n66_4 + 1, ⟨by omega, below_succ' hw (by assumption)⟩, by omega, Le.mk (.c (.c (.c (.cons (look_int rfl (by first | rfl | omega)) (.nil))))) (.c (.nil))⟩
 refine .exit (.seq (.sr ?_))
 refine .fa fl27_4 ?_
 refine .ld sh24 ?_
 refine .vl (Y.len (n := n.mems.length) sl24 rfl (congrArg some (List.length_map ..))) ?_
 refine .mv ?_
 refine .nil (.block ?_)
 refine .loop1 (fun (n77_10 : Nat) => ⟨[(1, .ptr 101 0 0 0), (75, .fz 5 (n.mems.map Arr.row)), (76, vi ((n.mems.length : Nat) : Int)), (77, vi (n77_10 : Int))], [(101, .cells (Netlist.row n))]⟩) (fun (n77_10 : Nat) => ((n77_10 : Int) ≤ ((n.mems.length : Nat) : Int)) ∧ (∀ j, j < n77_10 → MemOK (n.mems.getD j default))) (fun (n77_10 : Nat) => (((n.mems.length : Nat) : Int) - (n77_10 : Int)).toNat) 0 (⟨by omega, fun j hj => by omega⟩) (Le.mk (.c (.c (.c (.cons (look_int rfl (by first | rfl | omega)) (.nil))))) (.c (.nil))) (fun n77_10 hI10 => ?_)
 obtain ⟨hb10, hm⟩ := hI10
 refine .sr (.vl (Y.lss rfl rfl) (.nil ?_))
 refine .seq ?_
 refine .condD rfl (fun c78 => ?_) (fun c78 => ?_)
 refine .skip (.seq (.block ?_))
 refine .sr ?_
 refine .vl (Y.indexF (m := n77_10) sl24 rfl rfl (by first | rfl | omega) (row_getD (d := default) (by omega))) ?_
 refine .vl (Y.loadA sh48 rfl rfl (nbE rfl) rfl rfl) (.alloc 106 ze48 rfl rfl (by decide) (.storeC si48 rfl rfl rfl rfl rfl rfl (nbE rfl) rfl ?_))
 refine .nil (.sr ?_)
 have hmn := hs.memNames _ (getD_mem' (l := n.mems) (i := n77_10) (d := default) (by omega))
 refine .fa fl48_0 ?_
 refine .ld sh9 ?_
 refine .callP ok92 (named_spec (s := ((n.mems.getD n77_10 default).name)) (by first | assumption | omega)) rfl (.keep rfl rfl .nil) (by decide) rfl (.vl (Y.not rfl) ?_)
 refine .mv ?_
 refine .split (d := 85) rfl (fun c85 => ?_) (fun c85 => ?_)
 replace c85 : ¬ (Named ((n.mems.getD n77_10 default).name)) := by simpa using c85
 refine .gz 85 (.gz 85 (.gz 85 ?_))
 refine .gz 85 ?_
 refine .pk ?_
 refine .mv ?_
 refine .gz 91 (.gz 91 (.gz 91 ?_))
 refine .pk ?_
 refine .mv ?_
 refine .gz 96 (.gz 96 (.gz 96 ?_))
 refine .pk ?_
 refine .mv ?_
 refine .gz 101 (.gz 101 (.gz 101 ?_))
 refine .pk ?_
 refine .mv ?_
 refine .gz 106 (.gz 106 (.gz 106 ?_))
 refine .pk ?_
 refine .nil (.condT rfl (.sr ?_))
 refine .an ?_
 refine .nil (.ret ?_)
 exact .rb rfl (df (fun h => by have h1 := h.mems n77_10 (by omega); unfold MemOK at h1; obtain ⟨a1, a2, a3, a4, a5, a6⟩ := h1; first | contradiction | omega))
 replace c85 : Named ((n.mems.getD n77_10 default).name) := by simpa using c85
 refine .gw 85 (Y.fieldAddr fl48_1 rfl rfl) (.gw 85 (Y.load sh3 rfl rfl rfl rfl) (.guardRun (d := 85) rfl (by decide) rfl ?_))
 refine .callP ok93 (wide_spec (w := ((n.mems.getD n77_10 default).width))) rfl (.keep rfl rfl .nil) (by decide) rfl (.gw 85 (Y.not rfl) ?_)
 refine .pk ?_
 refine .mv ?_
 refine .split (d := 91) rfl (fun c91 => ?_) (fun c91 => ?_)
 replace c91 : ¬ (Wide ((n.mems.getD n77_10 default).width)) := by simpa using c91
 refine .gz 91 (.gz 91 (.gz 91 ?_))
 refine .pk ?_
 refine .mv ?_
 refine .gz 96 (.gz 96 (.gz 96 ?_))
 refine .pk ?_
 refine .mv ?_
 refine .gz 101 (.gz 101 (.gz 101 ?_))
 refine .pk ?_
 refine .mv ?_
 refine .gz 106 (.gz 106 (.gz 106 ?_))
 refine .pk ?_
 refine .nil (.condT rfl (.sr ?_))
 refine .an ?_
 refine .nil (.ret ?_)
 exact .rb rfl (df (fun h => by have h1 := h.mems n77_10 (by omega); unfold MemOK at h1; obtain ⟨a1, a2, a3, a4, a5, a6⟩ := h1; first | contradiction | omega))
 replace c91 : Wide ((n.mems.getD n77_10 default).width) := by simpa using c91
 refine .gw 91 (Y.fieldAddr fl48_2 rfl rfl) (.gw 91 (Y.load sh3 rfl rfl rfl rfl) (.gw 91 (Y.lss rfl rfl) ?_))
 refine .pk ?_
 refine .mv ?_
 refine .splitD (d := 96) rfl (fun c96 => ?_) (fun c96 => ?_)
 refine .gz 96 (.gz 96 (.gz 96 ?_))
 refine .pk ?_
 refine .mv ?_
 refine .gz 101 (.gz 101 (.gz 101 ?_))
 refine .pk ?_
 refine .mv ?_
 refine .gz 106 (.gz 106 (.gz 106 ?_))
 refine .pk ?_
 refine .nil (.condT rfl (.sr ?_))
 refine .an ?_
 refine .nil (.ret ?_)
 exact .rb rfl (df (fun h => by have h1 := h.mems n77_10 (by omega); unfold MemOK at h1; obtain ⟨a1, a2, a3, a4, a5, a6⟩ := h1; first | contradiction | omega))
 refine .gw 96 (Y.fieldAddr fl48_2 rfl rfl) (.gw 96 (Y.load sh3 rfl rfl rfl rfl) (.gw 96 (Y.gtr rfl rfl) ?_))
 refine .pk ?_
 refine .mv ?_
 refine .splitD (d := 101) rfl (fun c101 => ?_) (fun c101 => ?_)
 refine .gz 101 (.gz 101 (.gz 101 ?_))
 refine .pk ?_
 refine .mv ?_
 refine .gz 106 (.gz 106 (.gz 106 ?_))
 refine .pk ?_
 refine .nil (.condT rfl (.sr ?_))
 refine .an ?_
 refine .nil (.ret ?_)
 exact .rb rfl (df (fun h => by have h1 := h.mems n77_10 (by omega); unfold MemOK at h1; obtain ⟨a1, a2, a3, a4, a5, a6⟩ := h1; first | contradiction | omega))
 refine .gw 101 (Y.fieldAddr fl48_3 rfl rfl) (.gw 101 (Y.load sh3 rfl rfl rfl rfl) (.gw 101 (Y.neq rfl rfl) ?_))
 refine .pk ?_
 refine .mv ?_
 refine .splitD (d := 106) rfl (fun c106 => ?_) (fun c106 => ?_)
 refine .gz 106 (.gz 106 (.gz 106 ?_))
 refine .pk ?_
 refine .nil (.condT rfl (.sr ?_))
 refine .an ?_
 refine .nil (.ret ?_)
 exact .rb rfl (df (fun h => by have h1 := h.mems n77_10 (by omega); unfold MemOK at h1; obtain ⟨a1, a2, a3, a4, a5, a6⟩ := h1; first | contradiction | omega))
 refine .gw 106 (Y.fieldAddr fl48_4 rfl rfl) (.gw 106 (Y.load sh3 rfl rfl rfl rfl) (.gw 106 (Y.neq rfl rfl) ?_))
 refine .pk ?_
 refine .nil ?_
 refine .condD rfl (fun c110 => ?_) (fun c110 => ?_)
 refine .sr ?_
 refine .an ?_
 refine .nil (.ret ?_)
 exact .rb rfl (df (fun h => by have h1 := h.mems n77_10 (by omega); unfold MemOK at h1; obtain ⟨a1, a2, a3, a4, a5, a6⟩ := h1; first | contradiction | omega))
 refine .skip (.region ?_)
 refine .vl (Y.addI rfl rfl (by omega)) ?_
 refine .mv ?_
 refine .nil ?_
 exact ⟨n77_10 + 1, ⟨by omega, below_succ' hm (by unfold MemOK; refine ⟨?_, ?_, ?_, ?_, ?_, ?_⟩ <;> first | assumption | omega)⟩, by omega, Le.mk (.c (.c (.c (.cons (look_int rfl (by first | rfl | omega)) (.nil))))) (.c (.nil))⟩
 refine .exit (.sr (.sh (Sh.freezeO 101 rfl rfl) ?_))
 refine .vl (Y.makeFunc rfl rfl rfl rfl) (.alloc 107 ze45 rfl rfl (by decide) (.storeC si45 rfl rfl rfl rfl rfl rfl (nbE rfl) rfl ?_))
 refine .nil (.seq (.seq ?_))
 refine .sh (Sh.freezeO 107 rfl rfl) (.region ?_)
 refine .fa fl27_5 ?_
 refine .ld sh25 ?_
 refine .vl (Y.len (n := n.streams.length) sl25 rfl (congrArg some (List.length_map ..))) ?_
 refine .mv ?_
 refine .nil (.block ?_)
 refine .loop1 (fun (n116_17 : Nat) => ⟨[(1, .fp (Netlist.row n) 0), (7, .fp ([.clo (.func 94) [] [.fp (Netlist.row n) 0]]) 0), (114, .fz 3 (n.streams.map Strm.row)), (115, vi ((n.streams.length : Nat) : Int)), (116, vi (n116_17 : Int))], []⟩) (fun (n116_17 : Nat) => ((n116_17 : Int) ≤ ((n.streams.length : Nat) : Int)) ∧ (∀ j, j < n116_17 → StrOK n j)) (fun (n116_17 : Nat) => (((n.streams.length : Nat) : Int) - (n116_17 : Int)).toNat) 0 (⟨by omega, fun j hj => by omega⟩) (Le.mk (.c (.c (.c (.c (.cons (look_int rfl (by first | rfl | omega)) (.nil)))))) (.nil)) (fun n116_17 hI17 => ?_)
 obtain ⟨hb17, hst⟩ := hI17
 refine .sr (.vl (Y.lss rfl rfl) (.nil ?_))
 refine .seq ?_
 refine .condD rfl (fun c117 => ?_) (fun c117 => ?_)
 refine .skip ?_
 refine .join4 (fun (n144_j21 : Bool) (n153_j21 : Bool) (n159_j21 : Bool) (n166_j21 : Bool) => ⟨[(1, .fp (Netlist.row n) 0), (7, .fp ([.clo (.func 94) [] [.fp (Netlist.row n) 0]]) 0), (114, .fz 3 (n.streams.map Strm.row)), (115, vi ((n.streams.length : Nat) : Int)), (116, vi (n116_17 : Int)), (126, .ptr 109 0 0 1), (127, vi ((n.streams.getD n116_17 default).width)), (128, .v (.bool (decide (Wide ((n.streams.getD n116_17 default).width))))), (129, .v (.bool (!decide (Wide ((n.streams.getD n116_17 default).width))))), (132, .clo (.func 94) [] [.fp (Netlist.row n) 0]), (133, .fp (Netlist.row n) 6), (134, .fz 1 (n.active.map irow)), (135, vi (n116_17 : Int)), (136, .fp (irow (n.active.getD n116_17 0)) 0), (137, vi (n.active.getD n116_17 0)), (138, .v (.bool (decide (In (n.active.getD n116_17 0) n.widths.length)))), (139, .v (.bool (!decide (In (n.active.getD n116_17 0) n.widths.length)))), (142, .ptr 109 0 0 2), (143, .v (.bool ((n.streams.getD n116_17 default).out))), (144, .v (.bool n144_j21)), (153, .v (.bool n153_j21)), (156, .ptr 109 0 0 2), (157, .v (.bool ((n.streams.getD n116_17 default).out))), (158, .v (.bool (!((n.streams.getD n116_17 default).out)))), (159, .v (.bool n159_j21)), (166, .v (.bool n166_j21))], [(109, .cells [.v (.string ((n.streams.getD n116_17 default).name)), vi ((n.streams.getD n116_17 default).width), .v (.bool ((n.streams.getD n116_17 default).out))])]⟩) (fun (n144_j21 : Bool) (n153_j21 : Bool) (n159_j21 : Bool) (n166_j21 : Bool) => StrOK n n116_17) ?_ (fun n144_j21 n153_j21 n159_j21 n166_j21 hJ21 => ?_)
 refine .block (.sr ?_)
 have hsn := hs.strNames _ (getD_mem' (l := n.streams) (i := n116_17) (d := default) (by omega))
 refine .mv ?_
 refine .vl (Y.indexF (m := n116_17) sl25 rfl rfl (by first | rfl | omega) (row_getD (d := default) (by omega))) ?_
 refine .vl (Y.loadA sh83 rfl rfl (nbE rfl) rfl rfl) (.alloc 109 ze83 rfl rfl (by decide) ?_)
 refine .an ?_
 refine .storeC si83 rfl rfl rfl rfl rfl rfl (nbE rfl) rfl (.nil (.seq ?_))
 refine .regionAny rfl (.quietN (n := 45) [0, 1] [2, 3, 4, 5, 6, 7, 8, 9, 10, 11, 12, 13, 14, 15, 16, 17, 18, 19, 20, 21, 22, 23, 24, 25, 26, 27, 28, 29, 30, 31, 32, 33, 34, 35, 36, 37, 38, 39, 40, 41, 42, 43, 44, 45, 46] 2 rfl (by kernel_rfl) (.cn 0 rfl (Y.fieldAddr fl83_0 rfl rfl) ?_))
 refine .cn 1 rfl (Y.load sh9 rfl rfl rfl rfl) (.nil (.one 2 rfl (by kernel_rfl) ?_))
 refine .callP ok92 (named_spec (s := ((n.streams.getD n116_17 default).name)) (by first | assumption | omega)) rfl (.keep rfl rfl .nil) (by decide) rfl ?_
 refine .nil ⟨rfl, ?_⟩
 refine .quietN (n := 40) [3, 4, 5, 6] [7, 8, 9, 10, 11, 12, 13, 14, 15, 16, 17, 18, 19, 20, 21, 22, 23, 24, 25, 26, 27, 28, 29, 30, 31, 32, 33, 34, 35, 36, 37, 38, 39, 40, 41, 42, 43, 44, 45, 46] 7 rfl (by kernel_rfl) (.cn 3 rfl (Y.not rfl) (.cn 4 rfl (Y.move rfl rfl) ?_))
 refine .split (d := 125) rfl (fun c125 => ?_) (fun c125 => ?_)
 replace c125 : ¬ (Named ((n.streams.getD n116_17 default).name)) := by simpa using c125
 refine .sk 5 rfl rfl rfl rfl (.sk 6 rfl rfl rfl rfl (.nil ?_))
 refine .skipOp 7 rfl (by kernel_rfl) rfl (by decide) (by decide) rfl rfl (.skipOp 8 rfl (by kernel_rfl) rfl (by decide) (by decide) rfl rfl (.quietN (n := 30) [9, 10, 11, 12, 13, 14, 15, 16] [17, 18, 19, 20, 21, 22, 23, 24, 25, 26, 27, 28, 29, 30, 31, 32, 33, 34, 35, 36, 37, 38, 39, 40, 41, 42, 43, 44, 45, 46] 17 rfl (by kernel_rfl) ?_))
 refine .cn 9 rfl (Y.pick rfl rfl rfl) (.cn 10 rfl (Y.move rfl rfl) (.sk 11 rfl rfl rfl rfl ?_))
 refine .sk 12 rfl rfl rfl rfl (.sk 13 rfl rfl rfl rfl (.sk 14 rfl rfl rfl rfl ?_))
 refine .sk 15 rfl rfl rfl rfl (.sk 16 rfl rfl rfl rfl (.nil ?_))
 refine .skipOp 17 rfl (by kernel_rfl) rfl (by decide) (by decide) rfl rfl (.skipOp 18 rfl (by kernel_rfl) rfl (by decide) (by decide) rfl rfl (.quietN (n := 17) [19, 20, 21, 22, 23, 24, 25, 26, 27, 28, 29] [30, 31, 32, 33, 34, 35, 36, 37, 38, 39, 40, 41, 42, 43, 44, 45, 46] 30 rfl (by kernel_rfl) ?_))
 refine .cn 19 rfl (Y.pick rfl rfl rfl) (.cn 20 rfl (Y.move rfl rfl) (.sk 21 rfl rfl rfl rfl ?_))
 refine .sk 22 rfl rfl rfl rfl (.sk 23 rfl rfl rfl rfl (.sk 24 rfl rfl rfl rfl ?_))
 refine .sk 25 rfl rfl rfl rfl (.sk 26 rfl rfl rfl rfl (.sk 27 rfl rfl rfl rfl ?_))
 refine .sk 28 rfl rfl rfl rfl (.sk 29 rfl rfl rfl rfl (.nil ?_))
 refine .skipOp 30 rfl (by kernel_rfl) rfl (by decide) (by decide) rfl rfl (.skipOp 31 rfl (by kernel_rfl) rfl (by decide) (by decide) rfl rfl (.skipOp 32 rfl (by kernel_rfl) rfl (by decide) (by decide) rfl rfl ?_))
 refine .quietN (n := 0) [33, 34, 35, 36, 37, 38, 39, 40, 41, 42, 43, 44, 45, 46] [] 0 rfl (by kernel_rfl) (.cn 33 rfl (Y.pick rfl rfl rfl) (.cn 34 rfl (Y.move rfl rfl) ?_))
 refine .sk 35 rfl rfl rfl rfl (.sk 36 rfl rfl rfl rfl (.sk 37 rfl rfl rfl rfl ?_))
 refine .sk 38 rfl rfl rfl rfl (.sk 39 rfl rfl rfl rfl (.sk 40 rfl rfl rfl rfl ?_))
 refine .sk 41 rfl rfl rfl rfl (.sk 42 rfl rfl rfl rfl (.sk 43 rfl rfl rfl rfl ?_))
 refine .sk 44 rfl rfl rfl rfl (.sk 45 rfl rfl rfl rfl (.cn 46 rfl (Y.pick rfl rfl rfl) ?_))
 refine .nil (.done (by kernel_rfl) (.condT rfl ?_))
 refine .sr ?_
 refine .an ?_
 refine .nil (.ret ?_)
 exact .rb rfl (df (fun h => by have h1 := h.strs n116_17 (by omega); unfold StrOK at h1; obtain ⟨a1, a2, a3, a4, a5⟩ := h1; first | contradiction | grind))
 replace c125 : Named ((n.streams.getD n116_17 default).name) := by simpa using c125
 refine .rn 5 rfl rfl rfl (Y.fieldAddr fl83_1 rfl rfl) (.rn 6 rfl rfl rfl (Y.load sh3 rfl rfl rfl rfl) (.nil ?_))
 refine .one 7 rfl (by kernel_rfl) (.guardRun (d := 125) rfl (by decide) rfl (.callP ok93 (wide_spec (w := ((n.streams.getD n116_17 default).width))) rfl (.keep rfl rfl .nil) (by decide) rfl ?_))
 refine .nil ⟨rfl, ?_⟩
 refine .quietN (n := 30) [8, 9, 10, 11, 12, 13, 14, 15, 16] [17, 18, 19, 20, 21, 22, 23, 24, 25, 26, 27, 28, 29, 30, 31, 32, 33, 34, 35, 36, 37, 38, 39, 40, 41, 42, 43, 44, 45, 46] 17 rfl (by kernel_rfl) (.rn 8 rfl rfl rfl (Y.not rfl) (.cn 9 rfl (Y.pick rfl rfl rfl) ?_))
 refine .cn 10 rfl (Y.move rfl rfl) ?_
 refine .split (d := 131) rfl (fun c131 => ?_) (fun c131 => ?_)
 replace c131 : ¬ (Wide ((n.streams.getD n116_17 default).width)) := by simpa using c131
 refine .sk 11 rfl rfl rfl rfl (.sk 12 rfl rfl rfl rfl (.sk 13 rfl rfl rfl rfl ?_))
 refine .sk 14 rfl rfl rfl rfl (.sk 15 rfl rfl rfl rfl (.sk 16 rfl rfl rfl rfl ?_))
 refine .nil (.skipOp 17 rfl (by kernel_rfl) rfl (by decide) (by decide) rfl rfl (.skipOp 18 rfl (by kernel_rfl) rfl (by decide) (by decide) rfl rfl ?_))
 refine .quietN (n := 17) [19, 20, 21, 22, 23, 24, 25, 26, 27, 28, 29] [30, 31, 32, 33, 34, 35, 36, 37, 38, 39, 40, 41, 42, 43, 44, 45, 46] 30 rfl (by kernel_rfl) (.cn 19 rfl (Y.pick rfl rfl rfl) (.cn 20 rfl (Y.move rfl rfl) ?_))
 refine .sk 21 rfl rfl rfl rfl (.sk 22 rfl rfl rfl rfl (.sk 23 rfl rfl rfl rfl ?_))
 refine .sk 24 rfl rfl rfl rfl (.sk 25 rfl rfl rfl rfl (.sk 26 rfl rfl rfl rfl ?_))
 refine .sk 27 rfl rfl rfl rfl (.sk 28 rfl rfl rfl rfl (.sk 29 rfl rfl rfl rfl ?_))
 refine .nil (.skipOp 30 rfl (by kernel_rfl) rfl (by decide) (by decide) rfl rfl (.skipOp 31 rfl (by kernel_rfl) rfl (by decide) (by decide) rfl rfl ?_))
 refine .skipOp 32 rfl (by kernel_rfl) rfl (by decide) (by decide) rfl rfl (.quietN (n := 0) [33, 34, 35, 36, 37, 38, 39, 40, 41, 42, 43, 44, 45, 46] [] 0 rfl (by kernel_rfl) (.cn 33 rfl (Y.pick rfl rfl rfl) ?_))
 refine .cn 34 rfl (Y.move rfl rfl) (.sk 35 rfl rfl rfl rfl (.sk 36 rfl rfl rfl rfl ?_))
 refine .sk 37 rfl rfl rfl rfl (.sk 38 rfl rfl rfl rfl (.sk 39 rfl rfl rfl rfl ?_))
 refine .sk 40 rfl rfl rfl rfl (.sk 41 rfl rfl rfl rfl (.sk 42 rfl rfl rfl rfl ?_))
 refine .sk 43 rfl rfl rfl rfl (.sk 44 rfl rfl rfl rfl (.sk 45 rfl rfl rfl rfl ?_))
 refine .cn 46 rfl (Y.pick rfl rfl rfl) (.nil (.done (by kernel_rfl) ?_))
 refine .condT rfl (.sr ?_)
 refine .an ?_
 refine .nil (.ret ?_)
 exact .rb rfl (df (fun h => by have h1 := h.strs n116_17 (by omega); unfold StrOK at h1; obtain ⟨a1, a2, a3, a4, a5⟩ := h1; first | contradiction | grind))
 replace c131 : Wide ((n.streams.getD n116_17 default).width) := by simpa using c131
 refine .rn 11 rfl rfl rfl (Y.load sh45 rfl rfl rfl rfl) (.rn 12 rfl rfl rfl (Y.fieldAddr fl27_6 rfl rfl) (.rn 13 rfl rfl rfl (Y.load sh22 rfl rfl rfl rfl) ?_))
 refine .rn 14 rfl rfl rfl (Y.move rfl rfl) ?_
 refine .rn 15 rfl rfl rfl (Y.indexF (m := n116_17) sl22 rfl rfl (by first | rfl | omega) (row_getD (d := 0) (by omega))) ?_
 refine .rn 16 rfl rfl rfl (Y.load sh3 rfl rfl rfl rfl) (.nil (.one 17 rfl (by kernel_rfl) ?_))
 refine .guardRun (d := 131) rfl (by decide) rfl (.callCP rfl ok94 (formed1_spec (i := (n.active.getD n116_17 0))) rfl (.keep rfl rfl (.keep rfl rfl .nil)) (by decide) rfl ?_)
 refine .nil ⟨rfl, ?_⟩
 refine .quietN (n := 17) [18, 19, 20, 21, 22, 23, 24, 25, 26, 27, 28, 29] [30, 31, 32, 33, 34, 35, 36, 37, 38, 39, 40, 41, 42, 43, 44, 45, 46] 30 rfl (by kernel_rfl) (.rn 18 rfl rfl rfl (Y.not rfl) (.cn 19 rfl (Y.pick rfl rfl rfl) ?_))
 refine .cn 20 rfl (Y.move rfl rfl) ?_
 refine .split (d := 141) rfl (fun c141 => ?_) (fun c141 => ?_)
 replace c141 : ¬ (In (n.active.getD n116_17 0) n.widths.length) := by simpa using c141
 refine .sk 21 rfl rfl rfl rfl (.sk 22 rfl rfl rfl rfl (.sk 23 rfl rfl rfl rfl ?_))
 refine .sk 24 rfl rfl rfl rfl (.sk 25 rfl rfl rfl rfl (.sk 26 rfl rfl rfl rfl ?_))
 refine .sk 27 rfl rfl rfl rfl (.sk 28 rfl rfl rfl rfl (.sk 29 rfl rfl rfl rfl ?_))
 refine .nil (.skipOp 30 rfl (by kernel_rfl) rfl (by decide) (by decide) rfl rfl (.skipOp 31 rfl (by kernel_rfl) rfl (by decide) (by decide) rfl rfl ?_))
 refine .skipOp 32 rfl (by kernel_rfl) rfl (by decide) (by decide) rfl rfl (.quietN (n := 0) [33, 34, 35, 36, 37, 38, 39, 40, 41, 42, 43, 44, 45, 46] [] 0 rfl (by kernel_rfl) (.cn 33 rfl (Y.pick rfl rfl rfl) ?_))
 refine .cn 34 rfl (Y.move rfl rfl) (.sk 35 rfl rfl rfl rfl (.sk 36 rfl rfl rfl rfl ?_))
 refine .sk 37 rfl rfl rfl rfl (.sk 38 rfl rfl rfl rfl (.sk 39 rfl rfl rfl rfl ?_))
 refine .sk 40 rfl rfl rfl rfl (.sk 41 rfl rfl rfl rfl (.sk 42 rfl rfl rfl rfl ?_))
 refine .sk 43 rfl rfl rfl rfl (.sk 44 rfl rfl rfl rfl (.sk 45 rfl rfl rfl rfl ?_))
 refine .cn 46 rfl (Y.pick rfl rfl rfl) (.nil (.done (by kernel_rfl) ?_))
 refine .condT rfl (.sr ?_)
 refine .an ?_
 refine .nil (.ret ?_)
 exact .rb rfl (df (fun h => by have h1 := h.strs n116_17 (by omega); unfold StrOK at h1; obtain ⟨a1, a2, a3, a4, a5⟩ := h1; first | contradiction | grind))
 replace c141 : In (n.active.getD n116_17 0) n.widths.length := by simpa using c141
 refine .rn 21 rfl rfl rfl (Y.fieldAddr fl83_2 rfl rfl) (.rn 22 rfl rfl rfl (Y.load sh4 rfl rfl rfl rfl) (.rn 23 rfl rfl rfl (Y.move rfl rfl) ?_))
 refine .split (d := 144) rfl (fun c144 => ?_) (fun c144 => ?_)
 refine .rn 24 rfl rfl rfl (Y.load sh45 rfl rfl rfl rfl) (.rn 25 rfl rfl rfl (Y.fieldAddr fl27_7 rfl rfl) (.rn 26 rfl rfl rfl (Y.load sh22 rfl rfl rfl rfl) ?_))
 refine .rn 27 rfl rfl rfl (Y.move rfl rfl) ?_
 refine .rn 28 rfl rfl rfl (Y.indexF (m := n116_17) sl22 rfl rfl (by first | rfl | omega) (row_getD (d := 0) (by omega))) ?_
 refine .rn 29 rfl rfl rfl (Y.load sh3 rfl rfl rfl rfl) (.nil (.one 30 rfl (by kernel_rfl) ?_))
 refine .guardRun (d := 144) rfl (by decide) rfl (.callCP rfl ok94 (formed1_spec (i := (n.data.getD n116_17 0))) rfl (.keep rfl rfl (.keep rfl rfl .nil)) (by decide) rfl ?_)
 refine .nil ⟨rfl, ?_⟩
 refine .quietN (n := 0) [31, 32, 33, 34, 35, 36, 37, 38, 39, 40, 41, 42, 43, 44, 45, 46] [] 0 rfl (by kernel_rfl) (.rn 31 rfl rfl rfl (Y.not rfl) (.rn 32 rfl rfl rfl (Y.pick rfl rfl rfl) ?_))
 refine .cn 33 rfl (Y.pick rfl rfl rfl) (.cn 34 rfl (Y.move rfl rfl) ?_)
 refine .split (d := 155) rfl (fun c155 => ?_) (fun c155 => ?_)
 replace c155 : ¬ (In (n.data.getD n116_17 0) n.widths.length) := by simpa using c155
 refine .sk 35 rfl rfl rfl rfl (.sk 36 rfl rfl rfl rfl (.sk 37 rfl rfl rfl rfl ?_))
 refine .sk 38 rfl rfl rfl rfl (.sk 39 rfl rfl rfl rfl (.sk 40 rfl rfl rfl rfl ?_))
 refine .sk 41 rfl rfl rfl rfl (.sk 42 rfl rfl rfl rfl (.sk 43 rfl rfl rfl rfl ?_))
 refine .sk 44 rfl rfl rfl rfl (.sk 45 rfl rfl rfl rfl (.cn 46 rfl (Y.pick rfl rfl rfl) ?_))
 refine .nil (.done (by kernel_rfl) (.condT rfl ?_))
 refine .sr ?_
 refine .an ?_
 refine .nil (.ret ?_)
 exact .rb rfl (df (fun h => by have h1 := h.strs n116_17 (by omega); unfold StrOK at h1; obtain ⟨a1, a2, a3, a4, a5⟩ := h1; first | contradiction | grind))
 replace c155 : In (n.data.getD n116_17 0) n.widths.length := by simpa using c155
 refine .rn 35 rfl rfl rfl (Y.fieldAddr fl83_2 rfl rfl) (.rn 36 rfl rfl rfl (Y.load sh4 rfl rfl rfl rfl) (.rn 37 rfl rfl rfl (Y.not rfl) ?_))
 refine .rn 38 rfl rfl rfl (Y.move rfl rfl) ?_
 refine .split (d := 159) rfl (fun c159 => ?_) (fun c159 => ?_)
 replace c159 : ((n.streams.getD n116_17 default).out) = false := by simpa using c159
 refine .rn 39 rfl rfl rfl (Y.fieldAddr fl27_7 rfl rfl) (.rn 40 rfl rfl rfl (Y.load sh22 rfl rfl rfl rfl) (.rn 41 rfl rfl rfl (Y.move rfl rfl) ?_))
 refine .rn 42 rfl rfl rfl (Y.indexF (m := n116_17) sl22 rfl rfl (by first | rfl | omega) (row_getD (d := 0) (by omega))) ?_
 refine .rn 43 rfl rfl rfl (Y.load sh3 rfl rfl rfl rfl) (.rn 44 rfl rfl rfl (Y.neq rfl rfl) (.rn 45 rfl rfl rfl (Y.pick rfl rfl rfl) ?_))
 refine .cn 46 rfl (Y.pick rfl rfl rfl) (.nil (.done (by kernel_rfl) ?_))
 refine .condD rfl (fun c167 => ?_) (fun c167 => ?_)
 refine .sr ?_
 refine .an ?_
 refine .nil (.ret ?_)
 exact .rb rfl (df (fun h => by have h1 := h.strs n116_17 (by omega); unfold StrOK at h1; obtain ⟨a1, a2, a3, a4, a5⟩ := h1; first | contradiction | grind))
 refine .skip ?_
 exact ⟨true, (!decide (In (n.data.getD n116_17 0) n.widths.length)), true, decide ((n.data.getD n116_17 0) ≠ (-1)), by unfold StrOK; grind, Le.mk (.c (.c (.c (.c (.c (.c (.c (.c (.c (.c (.c (.c (.c (.c (.c (.c (.c (.c (.c (.cons (look_bool rfl (by first | rfl | simp_all)) (.cons (look_bool rfl (by first | rfl | simp_all)) (.c (.c (.c (.cons (look_bool rfl (by first | rfl | simp_all)) (.cons (look_bool rfl (by first | rfl | simp_all)) (.nil))))))))))))))))))))))))))) (.c (.nil))⟩
 replace c159 : ((n.streams.getD n116_17 default).out) = true := by simpa using c159
 refine .sk 39 rfl rfl rfl rfl (.sk 40 rfl rfl rfl rfl (.sk 41 rfl rfl rfl rfl ?_))
 refine .sk 42 rfl rfl rfl rfl (.sk 43 rfl rfl rfl rfl (.sk 44 rfl rfl rfl rfl ?_))
 refine .rn 45 rfl rfl rfl (Y.pick rfl rfl rfl) (.cn 46 rfl (Y.pick rfl rfl rfl) (.nil ?_))
 refine .done (by kernel_rfl) (.condF rfl (.skip ?_))
 exact ⟨true, (!decide (In (n.data.getD n116_17 0) n.widths.length)), false, false, by unfold StrOK; grind, Le.mk (.c (.c (.c (.c (.c (.c (.c (.c (.c (.c (.c (.c (.c (.c (.c (.c (.c (.c (.c (.cons (look_bool rfl (by first | rfl | simp_all)) (.cons (look_bool rfl (by first | rfl | simp_all)) (.c (.c (.c (.cons (look_bool rfl (by first | rfl | simp_all)) (.cons (look_bool rfl (by first | rfl | simp_all)) (.nil))))))))))))))))))))))))))) (.c (.nil))⟩
 refine .sk 24 rfl rfl rfl rfl (.sk 25 rfl rfl rfl rfl (.sk 26 rfl rfl rfl rfl ?_))
 refine .sk 27 rfl rfl rfl rfl (.sk 28 rfl rfl rfl rfl (.sk 29 rfl rfl rfl rfl ?_))
 refine .nil (.skipOp 30 rfl (by kernel_rfl) rfl (by decide) (by decide) rfl rfl (.skipOp 31 rfl (by kernel_rfl) rfl (by decide) (by decide) rfl rfl ?_))
 refine .quietN (n := 0) [32, 33, 34, 35, 36, 37, 38, 39, 40, 41, 42, 43, 44, 45, 46] [] 0 rfl (by kernel_rfl) (.rn 32 rfl rfl rfl (Y.pick rfl rfl rfl) (.cn 33 rfl (Y.pick rfl rfl rfl) ?_))
 refine .cn 34 rfl (Y.move rfl rfl) (.rn 35 rfl rfl rfl (Y.fieldAddr fl83_2 rfl rfl) (.rn 36 rfl rfl rfl (Y.load sh4 rfl rfl rfl rfl) ?_))
 refine .rn 37 rfl rfl rfl (Y.not rfl) (.rn 38 rfl rfl rfl (Y.move rfl rfl) ?_)
 refine .split (d := 159) rfl (fun c159 => ?_) (fun c159 => ?_)
 replace c159 : ((n.streams.getD n116_17 default).out) = false := by simpa using c159
 refine .rn 39 rfl rfl rfl (Y.fieldAddr fl27_7 rfl rfl) (.rn 40 rfl rfl rfl (Y.load sh22 rfl rfl rfl rfl) (.rn 41 rfl rfl rfl (Y.move rfl rfl) ?_))
 refine .rn 42 rfl rfl rfl (Y.indexF (m := n116_17) sl22 rfl rfl (by first | rfl | omega) (row_getD (d := 0) (by omega))) ?_
 refine .rn 43 rfl rfl rfl (Y.load sh3 rfl rfl rfl rfl) (.rn 44 rfl rfl rfl (Y.neq rfl rfl) (.rn 45 rfl rfl rfl (Y.pick rfl rfl rfl) ?_))
 refine .cn 46 rfl (Y.pick rfl rfl rfl) (.nil (.done (by kernel_rfl) ?_))
 refine .condD rfl (fun c167 => ?_) (fun c167 => ?_)
 refine .sr ?_
 refine .an ?_
 refine .nil (.ret ?_)
 exact .rb rfl (df (fun h => by have h1 := h.strs n116_17 (by omega); unfold StrOK at h1; obtain ⟨a1, a2, a3, a4, a5⟩ := h1; first | contradiction | grind))
 refine .skip ?_
 exact ⟨false, false, true, decide ((n.data.getD n116_17 0) ≠ (-1)), by unfold StrOK; grind, Le.mk (.c (.c (.c (.c (.c (.c (.c (.c (.c (.c (.c (.c (.c (.c (.c (.c (.c (.c (.c (.cons (look_bool rfl (by first | rfl | simp_all)) (.cons (look_bool rfl (by first | rfl | simp_all)) (.c (.c (.c (.cons (look_bool rfl (by first | rfl | simp_all)) (.cons (look_bool rfl (by first | rfl | simp_all)) (.nil))))))))))))))))))))))))))) (.c (.nil))⟩
 replace c159 : ((n.streams.getD n116_17 default).out) = true := by simpa using c159
 refine .sk 39 rfl rfl rfl rfl (.sk 40 rfl rfl rfl rfl (.sk 41 rfl rfl rfl rfl ?_))
 refine .sk 42 rfl rfl rfl rfl (.sk 43 rfl rfl rfl rfl (.sk 44 rfl rfl rfl rfl ?_))
 refine .rn 45 rfl rfl rfl (Y.pick rfl rfl rfl) (.cn 46 rfl (Y.pick rfl rfl rfl) (.nil ?_))
 refine .done (by kernel_rfl) (.condF rfl (.skip ?_))
 exact ⟨false, false, false, false, by unfold StrOK; grind, Le.mk (.c (.c (.c (.c (.c (.c (.c (.c (.c (.c (.c (.c (.c (.c (.c (.c (.c (.c (.c (.cons (look_bool rfl (by first | rfl | simp_all)) (.cons (look_bool rfl (by first | rfl | simp_all)) (.c (.c (.c (.cons (look_bool rfl (by first | rfl | simp_all)) (.cons (look_bool rfl (by first | rfl | simp_all)) (.nil))))))))))))))))))))))))))) (.c (.nil))⟩
 refine .region ?_
 refine .vl (Y.addI rfl rfl (by omega)) ?_
 refine .mv ?_
 refine .nil ?_
 exact ⟨n116_17 + 1, ⟨by omega, below_succ' hst hJ21⟩, by omega, Le.mk (.c (.c (.c (.c (.cons (look_int rfl (by first | rfl | omega)) (.nil)))))) (.nil)⟩
 refine .exit (.seq (.sr ?_))
 refine .ld sh45 ?_
 refine .fa fl27_8 ?_
 refine .ld sh3 ?_
 refine .callCP rfl ok94 (formed1_spec (i := n.freeze)) rfl (.keep rfl rfl (.keep rfl rfl .nil)) (by decide) rfl (.vl (Y.not rfl) ?_)
 refine .mv ?_
 refine .split (d := 174) rfl (fun c174 => ?_) (fun c174 => ?_)
 replace c174 : ¬ (In n.freeze n.widths.length) := by simpa using c174
 refine .gz 174 (.gz 174 (.gz 174 ?_))
 refine .gz 174 (.gz 174 ?_)
 refine .pk ?_
 refine .mv ?_
 refine .gz 181 (.gz 181 (.gz 181 ?_))
 refine .gz 181 ?_
 refine .pk ?_
 refine .nil (.condT rfl (.sr ?_))
 refine .an ?_
 refine .nil (.ret ?_)
 exact .rb rfl (df (fun h => by have h1 := h.freeze; have h2 := h.done; contradiction))
 replace c174 : In n.freeze n.widths.length := by simpa using c174
 refine .gw 174 (Y.load sh45 rfl rfl rfl rfl) (.gw 174 (Y.fieldAddr fl27_9 rfl rfl) (.gw 174 (Y.load sh3 rfl rfl rfl rfl) ?_))
 refine .guardRun (d := 174) rfl (by decide) rfl (.callCP rfl ok94 (formed1_spec (i := n.done)) rfl (.keep rfl rfl (.keep rfl rfl .nil)) (by decide) rfl (.gw 174 (Y.not rfl) ?_))
 refine .pk ?_
 refine .mv ?_
 refine .split (d := 181) rfl (fun c181 => ?_) (fun c181 => ?_)
 replace c181 : ¬ (In n.done n.widths.length) := by simpa using c181
 refine .gz 181 (.gz 181 (.gz 181 ?_))
 refine .gz 181 ?_
 refine .pk ?_
 refine .nil (.condT rfl (.sr ?_))
 refine .an ?_
 refine .nil (.ret ?_)
 exact .rb rfl (df (fun h => by have h1 := h.freeze; have h2 := h.done; contradiction))
 replace c181 : In n.done n.widths.length := by simpa using c181
 refine .gw 181 (Y.fieldAddr fl27_10 rfl rfl) (.gw 181 (Y.load sh22 rfl rfl rfl rfl) (.gw 181 (Y.makeFunc rfl rfl rfl rfl) ?_))
 refine .guardRun (d := 181) rfl (by decide) rfl ?_
 refine .callP ok95 (containsFuncInt_spec (l := n.rets) (p := fun z => !decide (In z n.widths.length)) ((by omega)) ok96 (fun z _ => formed2_spec)) rfl (.keep rfl rfl (.keep rfl rfl .nil)) (by decide) rfl ?_
 refine .pk ?_
 refine .nil ?_
 refine .cond rfl (fun c186 => ?_) (fun c186 => ?_)
 refine .sr ?_
 refine .an ?_
 refine .nil (.ret ?_)
 exact .rb rfl (df (fun h => absurd h.rets (any_not.1 (by assumption))))
 refine .skip (.sr ?_)
 refine .fa fl27_1 ?_
 refine .ld sh22 ?_
 refine .vl (Y.len (n := n.widths.length) sl22 rfl (congrArg some (List.length_map ..))) ?_
 refine .makeSlice (n := n.widths.length) sl63 ze4 rfl rfl rfl rfl (by omega) (by omega) (by decide) ?_
 refine .assignX rfl (by decide) (.sh (Sh.adoptE (d := 10) (n := n.widths.length) 110 ((List.replicate n.widths.length false).map brow) rfl (by first | rfl | exact rep_map rfl) (len_map (by simp)) (by decide)) (.nil ?_))
 refine .seq (.sr ?_)
 refine .fa fl27_2 ?_
 refine .ld sh23 ?_
 refine .vl (Y.len (n := n.cells.length) sl23 rfl (congrArg some (List.length_map ..))) ?_
 refine .mv ?_
 refine .nil (.block ?_)
 refine .loop2 (fun (n194_26 : Nat) (driven10_26 : List Bool) => ⟨[(1, .fp (Netlist.row n) 0), (7, .fp ([.clo (.func 94) [] [.fp (Netlist.row n) 0]]) 0), (10, .slc 110 1 0 n.widths.length), (192, .fz 6 (n.cells.map Cell.row)), (193, vi ((n.cells.length : Nat) : Int)), (194, vi (n194_26 : Int))], [(110, .rows 1 (driven10_26.map brow))]⟩) (fun (n194_26 : Nat) (driven10_26 : List Bool) => (driven10_26.length = n.widths.length) ∧ ((n194_26 : Int) ≤ ((n.cells.length : Nat) : Int)) ∧ (Drv n n194_26 driven10_26) ∧ (∀ j, j < n194_26 → CellOK n (n.cells.getD j default))) (fun (n194_26 : Nat) (driven10_26 : List Bool) => (((n.cells.length : Nat) : Int) - (n194_26 : Int)).toNat) 0 (List.replicate n.widths.length false) (⟨by first | omega | (simp [-List.getD_eq_getElem?_getD]; done) | (simp [-List.getD_eq_getElem?_getD]; omega) | (unfold In at *; omega), by first | omega | (simp [-List.getD_eq_getElem?_getD]; done) | (simp [-List.getD_eq_getElem?_getD]; omega) | (unfold In at *; omega), Drv.init n, fun j hj => by omega⟩) (Le.mk (.c (.c (.c (.c (.c (.cons (look_int rfl (by first | rfl | omega)) (.nil))))))) (.c (.nil))) (fun n194_26 driven10_26 hI26 => ?_)
 obtain ⟨hl110, hb26, hd, hc⟩ := hI26
 refine .sr (.vl (Y.lss rfl rfl) (.nil ?_))
 refine .seq ?_
 refine .condD rfl (fun c195 => ?_) (fun c195 => ?_)
 refine .skip ?_
 refine .join1 (fun (driven10_j36 : List Bool) => ⟨[(1, .fp (Netlist.row n) 0), (7, .fp ([.clo (.func 94) [] [.fp (Netlist.row n) 0]]) 0), (10, .slc 110 1 0 n.widths.length), (192, .fz 6 (n.cells.map Cell.row)), (193, vi ((n.cells.length : Nat) : Int)), (194, vi (n194_26 : Int)), (203, .agg [.v (.string n.name), .fz 1 (n.widths.map irow), .fz 6 (n.cells.map Cell.row), .fz 1 (n.ins.map irow), .fz 5 (n.mems.map Arr.row), .fz 3 (n.streams.map Strm.row), .fz 1 (n.active.map irow), .fz 1 (n.data.map irow), vi n.freeze, vi n.done, .fz 1 (n.rets.map irow)]), (204, .agg [vi ((n.cells.getD n194_26 default).kind), vi ((n.cells.getD n194_26 default).op), vi ((n.cells.getD n194_26 default).out), .fz 1 (((n.cells.getD n194_26 default).args).map irow), .v (.int .u64 (((n.cells.getD n194_26 default).num : Nat) : Int)), vi ((n.cells.getD n194_26 default).mem)]), (205, .v (.bool (decide (Shaped n (n.cells.getD n194_26 default))))), (206, .v (.bool (!decide (Shaped n (n.cells.getD n194_26 default)))))], [(110, .rows 1 (driven10_j36.map brow))]⟩) (fun (driven10_j36 : List Bool) => (driven10_j36.length = n.widths.length) ∧ (CellOK n (n.cells.getD n194_26 default) ∧ Drv n (n194_26 + 1) driven10_j36)) ?_ (fun driven10_j36 hJx36 => ?_)
 refine .block (.sr ?_)
 refine .vl (Y.indexF (m := n194_26) sl23 rfl rfl (by first | rfl | omega) (row_getD (d := default) (by omega))) ?_
 refine .vl (Y.loadA sh39 rfl rfl (nbE rfl) rfl rfl) (.alloc 112 ze39 rfl rfl (by decide) (.storeC si39 rfl rfl rfl rfl rfl rfl (nbE rfl) rfl ?_))
 refine .nil (.seq (.sr ?_))
 have hca := hs.args (n.cells.getD n194_26 default) (getD_mem' (by omega))
 refine .fa fl39_3 ?_
 refine .ld sh22 ?_
 refine .vl (Y.makeFunc rfl rfl rfl rfl) ?_
 refine .callP ok95 (containsFuncInt_spec (l := ((n.cells.getD n194_26 default).args)) (p := fun z => !decide (In z n.widths.length)) ((by omega)) ok97 (fun z _ => formed3_spec)) rfl (.keep rfl rfl (.keep rfl rfl .nil)) (by decide) rfl ?_
 refine .mv ?_
 refine .split (d := 202) rfl (fun c202 => ?_) (fun c202 => ?_)
 refine .gz 202 (.gz 202 (.gz 202 ?_))
 refine .gz 202 ?_
 refine .pk ?_
 refine .nil (.condT rfl (.sr ?_))
 refine .an ?_
 refine .nil (.ret ?_)
 exact .rb rfl (df (fun h => by have h1 := h.cells n194_26 (by omega); obtain ⟨a1, a2, a3, a4⟩ := h1; first | contradiction | exact absurd a1 (any_not.1 (by assumption)) | (have := a3 (by assumption); contradiction) | (have := a4 (by assumption); contradiction)))
 refine .gw 202 (Y.loadA sh27 rfl rfl (nbE rfl) rfl rfl) (.gw 202 (Y.loadA sh39 rfl rfl (nbE rfl) rfl rfl) (.guardRun (d := 202) rfl (by decide) rfl ?_))
 refine .callP ok98 (shaped_spec (n := n) (c := (n.cells.getD n194_26 default)) hs (by first | assumption | omega)) rfl (.keep rfl rfl (.keep rfl rfl .nil)) (by decide) rfl (.gw 202 (Y.not rfl) ?_)
 refine .pk ?_
 refine .nil ?_
 refine .cond rfl (fun c207 => ?_) (fun c207 => ?_)
 replace c207 : ¬ (Shaped n (n.cells.getD n194_26 default)) := by simpa using c207
 refine .sr ?_
 refine .an ?_
 refine .nil (.ret ?_)
 exact .rb rfl (df (fun h => by have h1 := h.cells n194_26 (by omega); obtain ⟨a1, a2, a3, a4⟩ := h1; first | contradiction | exact absurd a1 (any_not.1 (by assumption)) | (have := a3 (by assumption); contradiction) | (have := a4 (by assumption); contradiction)))
 replace c207 : Shaped n (n.cells.getD n194_26 default) := by simpa using c207
 refine .skip (.seq (.sr ?_))
 refine .fa fl39_0 ?_
 refine .ld sh3 ?_
 refine .vl (Y.eql rfl rfl) (.nil ?_)
 refine .condD rfl (fun c210 => ?_) (fun c210 => ?_)
 refine .seq (.sr ?_)
 refine .fa fl39_2 ?_
 refine .ld sh3 ?_
 refine .vl (Y.neq rfl rfl) (.nil ?_)
 refine .condD rfl (fun c213 => ?_) (fun c213 => ?_)
 refine .sr ?_
 refine .an ?_
 refine .nil (.ret ?_)
 exact .rb rfl (df (fun h => by have h1 := h.cells n194_26 (by omega); obtain ⟨a1, a2, a3, a4⟩ := h1; first | contradiction | exact absurd a1 (any_not.1 (by assumption)) | (have := a3 (by assumption); contradiction) | (have := a4 (by assumption); contradiction)))
 refine .skip (.exit ?_)
 exact ⟨driven10_26, ⟨by omega, ⟨⟨any_not_false (by assumption), by assumption, fun _ => by omega, fun h => absurd (by assumption) h⟩, hd.skip (by omega) (by assumption)⟩⟩, Le.mk (.c (.c (.c (.c (.c (.c (.c (.c (.c (.c (.nil))))))))))) (.c (.nil))⟩
 refine .skip (.seq (.sr ?_))
 refine .ld sh45 ?_
 refine .fa fl39_2 ?_
 refine .ld sh3 ?_
 refine .callCP rfl ok94 (formed1_spec (i := ((n.cells.getD n194_26 default).out))) rfl (.keep rfl rfl (.keep rfl rfl .nil)) (by decide) rfl (.vl (Y.not rfl) ?_)
 refine .mv ?_
 refine .split (d := 219) rfl (fun c219 => ?_) (fun c219 => ?_)
 replace c219 : ¬ (In ((n.cells.getD n194_26 default).out) n.widths.length) := by simpa using c219
 refine .gz 219 (.gz 219 (.gz 219 ?_))
 refine .gz 219 (.gz 219 ?_)
 refine .pk ?_
 refine .nil (.condT rfl (.sr ?_))
 refine .an ?_
 refine .nil (.ret ?_)
 exact .rb rfl (df (fun h => by have h1 := h.cells n194_26 (by omega); obtain ⟨a1, a2, a3, a4⟩ := h1; first | contradiction | exact absurd a1 (any_not.1 (by assumption)) | (have := a3 (by assumption); contradiction) | (have := a4 (by assumption); contradiction)))
 replace c219 : In ((n.cells.getD n194_26 default).out) n.widths.length := by simpa using c219
 refine .gw 219 (Y.move rfl rfl) (.gw 219 (Y.fieldAddr fl39_2 rfl rfl) (.gw 219 (Y.load sh3 rfl rfl rfl rfl) ?_))
 refine .gw 219 (Y.indexO (m := ((n.cells.getD n194_26 default).out).toNat) sl63 rfl rfl (by first | omega | (simp [-List.getD_eq_getElem?_getD]; done) | (simp [-List.getD_eq_getElem?_getD]; omega) | (unfold In at *; omega)) (by first | omega | (simp [-List.getD_eq_getElem?_getD]; done) | (simp [-List.getD_eq_getElem?_getD]; omega) | (unfold In at *; omega))) ?_
 refine .gw 219 (Y.load sh4 rfl (row_getD0 (d := false) (by first | omega | (simp [-List.getD_eq_getElem?_getD]; done) | (simp [-List.getD_eq_getElem?_getD]; omega) | (unfold In at *; omega))) rfl rfl) ?_
 refine .pk ?_
 refine .nil ?_
 refine .cond rfl (fun c225 => ?_) (fun c225 => ?_)
 refine .sr ?_
 refine .an ?_
 refine .nil (.ret ?_)
 exact .rb rfl (df (fun h => Drv.dup hd (by omega) (by assumption) (by assumption) (by assumption) h))
 refine .skip (.region ?_)
 refine .mv ?_
 refine .fa fl39_2 ?_
 refine .ld sh3 ?_
 refine .vl (Y.indexO (m := ((n.cells.getD n194_26 default).out).toNat) sl63 rfl rfl (by first | omega | (simp [-List.getD_eq_getElem?_getD]; done) | (simp [-List.getD_eq_getElem?_getD]; omega) | (unfold In at *; omega)) (by first | omega | (simp [-List.getD_eq_getElem?_getD]; done) | (simp [-List.getD_eq_getElem?_getD]; omega) | (unfold In at *; omega))) ?_
 refine .storeE ((driven10_26.set (((n.cells.getD n194_26 default).out).toNat) true).map brow) si4 rfl rfl rfl rfl rfl rfl rfl (row_getD0 (d := false) (by first | omega | (simp [-List.getD_eq_getElem?_getD]; done) | (simp [-List.getD_eq_getElem?_getD]; omega) | (unfold In at *; omega))) (nbE rfl) (set_map0 rfl) ?_
 refine .nil ?_
 exact ⟨driven10_26.set (((n.cells.getD n194_26 default).out).toNat) true, ⟨by first | omega | (simp [-List.getD_eq_getElem?_getD]; done) | (simp [-List.getD_eq_getElem?_getD]; omega) | (unfold In at *; omega), ⟨⟨any_not_false (by assumption), by assumption, fun h => absurd h (by assumption), fun _ => by assumption⟩, hd.step (by omega) (by assumption) (by assumption) hl110 (by assumption)⟩⟩, Le.mk (.c (.c (.c (.c (.c (.c (.c (.c (.c (.c (.nil))))))))))) (.c (.nil))⟩
 obtain ⟨hlj36_110, hJ36⟩ := hJx36
 refine .region ?_
 refine .vl (Y.addI rfl rfl (by omega)) ?_
 refine .mv ?_
 refine .nil ?_
 exact ⟨n194_26 + 1, driven10_j36, ⟨by omega, by omega, hJ36.2, below_succ' hc hJ36.1⟩, by omega, Le.mk (.c (.c (.c (.c (.c (.cons (look_int rfl (by first | rfl | omega)) (.nil))))))) (.c (.nil))⟩
 refine .exit (.sr ?_)
 refine .mv ?_
 refine .callLP [110] ok99 (containsBool_spec (l := driven10_26) (b := false) ((by omega))) rfl (.lend rfl rfl (lend_le (by omega)) (lend_eq (by omega)) (.keep rfl rfl .nil)) (lend1 rfl (owns_map brow_frees)) (by decide) rfl trivial ?_
 refine .vl (Y.not rfl) ?_
 refine .an ?_
 refine .nil (.ret ?_)
 exact .rb rfl (db ((Drv.all (d := driven10_26) (by rw [show n.cells.length = n194_26 by omega]; exact hd) hl110).trans ⟨fun h => ⟨by assumption, by omega, by omega, by omega, by omega, by omega, by omega, fun j hj => by have := hw j (by rw [List.length_append] at hj; omega); rw [hcat] at this; exact this, fun j hj => hm j (by omega), fun j hj => hst j (by omega), by assumption, by assumption, any_not_false (by assumption), fun j hj => hc j (by omega), h⟩, fun h => h.driven⟩))
end Go.Proofs.Ytligpghohcfpnaa
