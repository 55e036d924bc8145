/- Part of the abstract walk: operations that make or write memory. -/
import Derived.Test.YtiehdnjcapjacaaAWA9
namespace Go.AW
open Go

def X.ones : List X → Bool
  | [] => true
  | x :: r => x.one && X.ones r

theorem frees_v : ∀ (z : List Value), X.frees (z.map X.v) = true
  | [] => rfl
  | _ :: r => by simp [X.frees, X.free, frees_v r]
theorem nrs_v : ∀ (z : List Value), X.nrs (z.map X.v) = true
  | [] => rfl
  | _ :: r => by simp [X.nrs, X.nr, nrs_v r]
theorem RXs_v {E : Env} : ∀ {z : List Value}, X.ones (z.map X.v) = true → RXs E (z.map X.v) z []
  | [], _ => by simp [RXs]
  | c :: r, h => by
    simp only [List.map_cons, X.ones, Bool.and_eq_true] at h
    simp only [List.map_cons, RXs]
    have hx : RX E (X.v c) c [] := by simp [RX]
    exact ⟨c, r, [], [], rfl, hx.one h.1, hx, RXs_v h.2, rfl⟩

theorem RXs.oneCell {E : Env} : ∀ {xs : List X} {vs : List Value} {R : List Nat}, RXs E xs vs R → ∀ v ∈ vs, v.oneCell' = true
  | [], _, _, h, v, hv => by simp only [RXs] at h; rw [h.1] at hv; cases hv
  | x :: r, _, _, h, v, hv => by
    simp only [RXs] at h
    obtain ⟨c, cs', R₁, R₂, rfl, hs, _, h2, _⟩ := h
    rcases List.mem_cons.1 hv with h' | h'
    · subst h'; cases v <;> first | rfl | exact hs.elim
    · exact RXs.oneCell h2 v h'

def Sh (N : Frm) (st st' : St) : Prop := ∀ G : Ctx, G.fn = N → ∀ a w, Holds G st a w → Holds G st' a w

section
variable {P : Program} {N : Frm} {st st' : St} {Q : Exit → St → Prop} {all : Array Oper} {rest : List Oper} {d : Nat} {ty : TypeId} {pos : String} {af : Array Edge}

theorem AOps.sh (h : Sh N st st') (k : AOps P N all rest st' Q) : AOps P N all rest st Q := fun G hn a w hh => k G hn a w (h G hn a w hh)
theorem AWp.sh {c : Code} (h : Sh N st st') (k : AWp P N c st' Q) : AWp P N c st Q := fun G hn a w hh => k G hn a w (h G hn a w hh)

/-- An operation with a value: the new state holds behind it. -/
theorem AOps.eff {op : Op} (h : ∀ (G : Ctx) (E : Env) (RR : Own → List Nat) (a : Act), G.fn = N → Inv G E RR st a →
      ∃ u E' RR', (execOp a.eval ⟨some d, op, ty, pos, af, none⟩).run P E.w = .ok (.value u) E'.w ∧ Inv G E' RR' st' (a.put (some d) u))
    (k : AOps P N all rest st' Q) : AOps P N all (⟨some d, op, ty, pos, af, none⟩ :: rest) st Q := by
  intro G hn a w hh
  obtain ⟨E, RR, rfl, hi⟩ := hh
  obtain ⟨u, E', RR', hr, hi'⟩ := h G E RR a hn hi
  refine wpList_plain rfl fun K hK => ?_
  simp only [Oper.wp, hr, Oper.upon_value]
  exact hK _ _ (k G hn _ _ ⟨E', RR', rfl, hi'⟩)

/-- An operation without one. -/
theorem AOps.eff0 {op : Op} (h : ∀ (G : Ctx) (E : Env) (RR : Own → List Nat) (a : Act), G.fn = N → Inv G E RR st a →
      ∃ E' RR', (execOp a.eval ⟨none, op, ty, pos, af, none⟩).run P E.w = .ok .skip E'.w ∧ Inv G E' RR' st' a)
    (k : AOps P N all rest st' Q) : AOps P N all (⟨none, op, ty, pos, af, none⟩ :: rest) st Q := by
  intro G hn a w hh
  obtain ⟨E, RR, rfl, hi⟩ := hh
  obtain ⟨E', RR', hr, hi'⟩ := h G E RR a hn hi
  refine wpList_plain rfl fun K hK => ?_
  simp only [Oper.wp, hr, Oper.upon_skip]
  exact hK _ _ (k G hn _ _ ⟨E', RR', rfl, hi'⟩)

theorem TY.zero_spec {t : TypeId} {z : List Value} (h : TY.zero P t = some z) : ∃ i z0, P.info? t = some i ∧ i.zero = some z0 ∧ z0.cells.toList = z := by
  unfold TY.zero at h
  cases hi : P.info? t with
  | none => simp [hi] at h
  | some i =>
    rw [hi] at h
    simp only [Option.bind_some] at h
    cases hz : i.zero with
    | none => simp [hz] at h
    | some z0 =>
      rw [hz] at h
      simp only [Option.map_some, Option.some.injEq] at h
      exact ⟨i, z0, rfl, hz, h⟩

/-- The world with a new variable. -/
def Env.withVar (E : Env) (o : Nat) (cs : Array Value) (t : TypeId) : Env :=
  { E with w := E.w.alloc (.cells cs t), β := fun q => if q = o then some ⟨E.w.heap.size, 0, 0⟩ else E.β q }

theorem heap_alloc (w : World) (o : Go.Obj) : (w.alloc o).heap[w.heap.size]? = some o := by
  show (w.heap.push o)[w.heap.size]? = _
  simp

/-- A new variable, under the name o. -/
theorem Inv.newVar {G : Ctx} {E : Env} {RR : Own → List Nat} {a : Act} (hi : Inv G E RR st a) {o : Nat} {ys : List X} {vs : List Value} {t : TypeId} (hF : G.fn.F.elem o = false) (hy : RXs E ys vs []) (hf : X.frees ys = true) (hm : X.ments o ys = false) :
    ∃ RR', Inv G (E.withVar o vs.toArray t) RR' ((st.kill o).putO o (.cells ys)) a := by
  refine ⟨_, hi.reobj (E' := E.withVar o vs.toArray t) (T := fun _ => False) (o := o) (R := [E.w.heap.size]) ?_ (fun _ h => h.elim) (fun q hq => by simp [Env.withVar, hq]) (fun h => by rw [hF] at h; cases h) ?_ (by simp) ?_⟩
  · exact { Moves.alloc G E (.cells vs.toArray t) with φ := rfl }
  · have hon : E.On (E.withVar o vs.toArray t) [] := ⟨fun _ _ _ h => h, fun _ h => by cases h⟩
    have hy' : RXs (E.withVar o vs.toArray t) ys vs [] := RXs.mono ys vs [] hon (fun q hq => by
      have : q ≠ o := fun e => by subst e; rw [hm] at hq; cases hq
      simp [Env.withVar, this]) hy
    simp only [ROb]
    refine ⟨hf, ⟨E.w.heap.size, 0, 0⟩, vs.toArray, t, by simp [Env.withVar], heap_alloc _ _, fun i => ?_, by simp [RXs.length hy], ?_, rfl⟩
    · show E.φ E.w.heap.size i = none
      cases h : E.φ E.w.heap.size i with
      | none => rfl
      | some v => exact absurd (World.block_lt_of_cell? E.w _ (hi.frz _ _ _ h)) (by simp)
    · exact RO.of hy' (fun j v hj => by simpa using hj)
  · intro b hb
    simp only [List.mem_singleton] at hb
    subst hb
    refine ⟨by simp [Env.withVar], fun hK => ?_, hi.mine (.inr (Nat.le_refl _))⟩
    have := hi.small _ hK
    have := hi.size
    omega

/-- `var x T`, by name. -/
theorem AOps.alloc {t : TypeId} {z : List Value} (o : Nat) (hz : TY.zero P t = some z) (h1 : X.ones (z.map X.v) = true) (hF : N.F.elem o = false) (hd : d < N.n)
    (k : AOps P N all rest (((st.kill o).putO o (.cells (z.map X.v))).put d (.ptr o 0 0 0)) Q) : AOps P N all (⟨some d, .alloc t, ty, pos, af, none⟩ :: rest) st Q := by
  refine AOps.eff (fun G E RR a hn hi => ?_) k
  have hm : ∀ z : List Value, X.ments o (z.map X.v) = false := by
    intro z
    induction z with
    | nil => rfl
    | cons c r ih => simp [X.ments, X.ment, ih]
  obtain ⟨RR', hi'⟩ := hi.newVar (o := o) (t := t) (by rw [hn]; exact hF) (RXs_v h1) (frees_v z) (hm z)
  refine ⟨.pointer (some ⟨E.w.heap.size, 0, none⟩), _, _, ?_, hi'.put0 (x := .ptr o 0 0 0) (by rw [hn]; exact hd) ?_⟩
  · obtain ⟨i, z0, hi0, hz0, hzz⟩ := TY.zero_spec hz
    show (do let x ← Instr.alloc t true (.tuple #[]); pure (Next.value x) : Sem Next).run P E.w = _
    refine run_v ?_
    have hzz' : z0.cells = z.toArray := by rw [← hzz]
    simp [Instr.alloc, zeroValue, typeInfo, hi0, hz0, Go.newVar, newRow, Env.withVar, hzz']
  · simp only [RX]
    exact ⟨trivial, ⟨E.w.heap.size, 0, 0⟩, by simp [Env.withVar], by simp⟩

/-- A parameter that gets a variable of its own. -/
theorem AOps.box {t : TypeId} {x : Operand} {y : X} {ys : List X} (o : Nat) (hx : opd st x = some y) (hy : y.flat = some ys) (hf : X.frees ys = true) (hm : X.ments o ys = false) (hF : N.F.elem o = false) (hd : d < N.n)
    (k : AOps P N all rest (((st.kill o).putO o (.cells ys)).put d (.ptr o 0 0 0)) Q) : AOps P N all (⟨some d, .box t x, ty, pos, af, none⟩ :: rest) st Q := by
  refine AOps.eff (fun G E RR a hn hi => ?_) k
  obtain ⟨R, hxv⟩ := hi.eval hx
  have hfl := hxv.flat hy
  have h0 := RXs.free hf hfl
  subst h0
  obtain ⟨RR', hi'⟩ := hi.newVar (o := o) (t := t) (by rw [hn]; exact hF) hfl hf hm
  refine ⟨.pointer (some ⟨E.w.heap.size, 0, none⟩), _, _, ?_, hi'.put0 (x := .ptr o 0 0 0) (by rw [hn]; exact hd) ?_⟩
  · show (do let z ← Instr.box t (a.eval x); pure (Next.value z) : Sem Next).run P E.w = _
    refine run_v ?_
    simp [Instr.box, Go.newVar, newRow, Env.withVar]
  · simp only [RX]
    exact ⟨trivial, ⟨E.w.heap.size, 0, 0⟩, by simp [Env.withVar], by simp⟩

end
end Go.AW
