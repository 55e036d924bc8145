/- Part of the abstract walk: operations that leave memory as it is. -/
import Derived.Test.YtiehdnjcapjacaaAWA2
namespace Go.AW
open Go

def TY.shape (P : Program) (t : TypeId) : Option (Option Nat) :=
  match P.underlying t, P.info? t with
  | some (.struct _), some i => some (some i.size)
  | some (.array _ _), some i => some (some i.size)
  | some _, some _ => some none
  | _, _ => none
def TY.slice (P : Program) (t : TypeId) : Option (Nat × Nat × Nat) :=
  match P.underlying t with
  | some (.slice e) => (P.info? e).map fun i => (e, i.size, i.bytes)
  | _ => none
def TY.array (P : Program) (t : TypeId) : Option (Nat × Nat × Nat) :=
  match P.underlying t with
  | some (.array n e) => (P.info? e).map fun i => (n, e, i.size)
  | _ => none
def TY.fld (P : Program) (t : TypeId) (f : Nat) : Option (Nat × TypeId) :=
  match P.underlying t with
  | some (.struct fs) => match fs[f]? with
    | some fd => match P.info? fd.type with
      | some i => bif Nat.beq i.size 0 then none else some (fd.offset, fd.type)
      | none => none
    | none => none
  | _ => none
def TY.zero (P : Program) (t : TypeId) : Option (List Value) := (P.info? t).bind fun i => i.zero.map (·.cells.toList)
def TY.isInt (P : Program) (t : TypeId) : Option IntKind := match P.underlying t with | some (.int k) => some k | _ => none

def St.put (st : St) (d : Nat) (x : X) : St := { st with slots := (d, x) :: st.slots }

mutual
theorem RX.free {E : Env} : ∀ {x : X} {c : Value} {R : List Nat}, x.free = true → RX E x c R → R = []
  | .v _, _, _, _, h => by simp only [RX] at h; exact h.2
  | .no, _, _, _, h => by simpa [RX] using h
  | .fz .., _, _, _, h => by simp only [RX] at h; exact h.1
  | .ptr .., _, _, _, h => by simp only [RX] at h; exact h.1
  | .slc .., _, _, _, h => by simp only [RX] at h; exact h.1
  | .mref _, _, _, _, h => by simp only [RX] at h; exact h.1
  | .fp .., _, _, _, h => by simp only [RX] at h; exact h.1
  | .clo .., _, _, _, h => by simp only [RX] at h; exact h.1
  | .uni .., _, _, hf, _ => by simp [X.free] at hf
  | .agg xs, _, _, hf, h => by
    simp only [RX] at h
    obtain ⟨_, _, h⟩ := h
    exact RXs.free (xs := xs) hf h
  | .tup xs, _, _, hf, h => by
    simp only [RX] at h
    obtain ⟨_, _, h⟩ := h
    exact RXt.free (xs := xs) hf h
theorem RXs.free {E : Env} : ∀ {xs : List X} {cs : List Value} {R : List Nat}, X.frees xs = true → RXs E xs cs R → R = []
  | [], _, _, _, h => by simp only [RXs] at h; exact h.2
  | x :: r, _, _, hf, h => by
    simp only [RXs] at h
    obtain ⟨c, cs', R₁, R₂, _, _, h1, h2, hR⟩ := h
    simp only [X.frees, Bool.and_eq_true] at hf
    rw [hR, RX.free hf.1 h1, RXs.free hf.2 h2]; rfl
theorem RXt.free {E : Env} : ∀ {xs : List X} {cs : List Value} {R : List Nat}, X.frees xs = true → RXt E xs cs R → R = []
  | [], _, _, _, h => by simp only [RXt] at h; exact h.2
  | x :: r, _, _, hf, h => by
    simp only [RXt] at h
    obtain ⟨c, cs', R₁, R₂, _, h1, h2, hR⟩ := h
    simp only [X.frees, Bool.and_eq_true] at hf
    rw [hR, RX.free hf.1 h1, RXt.free hf.2 h2]; rfl
end

theorem RO.free {E : Env} : ∀ {xs : List X} {cs : Array Value} {off : Nat} {R : List Nat}, X.frees xs = true → RO E xs cs off R → R = []
  | [], _, _, _, _, h => by simpa [RO] using h
  | x :: r, _, _, _, hf, h => by
    simp only [RO] at h
    obtain ⟨c, R₁, R₂, _, _, h1, h2, hR⟩ := h
    simp only [X.frees, Bool.and_eq_true] at hf
    rw [hR, RX.free hf.1 h1, RO.free hf.2 h2]; rfl

def upd (RR : Own → List Nat) (p : Own) (R : List Nat) : Own → List Nat := fun q => if q = p then R else RR q

theorem getD_put {a : Act} {d : Nat} {u : Value} (hd : d < a.tmps.size) : (a.put (some d) u).tmps.getD d undef = u := by
  simp [Act.put, Array.getD, hd]
theorem getD_put_ne {a : Act} {d s : Nat} {u : Value} (h : d ≠ s) : (a.put (some d) u).tmps.getD s undef = a.tmps.getD s undef := by
  simp only [Act.put, Array.getD_eq_getD_getElem?, Array.getElem?_setIfInBounds_ne h]

section
variable {P : Program} {N : Frm} {G : Ctx} {E : Env} {RR : Own → List Nat} {st : St} {a : Act} {Q : Exit → St → Prop}

/-- A new value in a slot, with the blocks R, which nobody else owns. -/
theorem Inv.put (hi : Inv G E RR st a) {d : Nat} {x : X} {u : Value} {R : List Nat} (hd : d < G.fn.n) (hx : RX E x u R) (hn : R.Nodup)
    (hR : ∀ b ∈ R, b < E.w.heap.size ∧ ¬ G.K b ∧ ∀ p, p ≠ .slot d → b ∉ RR p) : Inv G E (upd RR (.slot d) R) (st.put d x) (a.put (some d) u) := by
  refine { hi with slots := ?_, objs := ?_, nodup := ?_, apart := ?_, own := ?_, tmps := ?_, defers := ?_ }
  · intro s y hy
    simp only [St.put, look] at hy
    cases hb : Nat.beq d s with
    | true =>
      have := Nat.eq_of_beq_eq_true hb
      subst this
      rw [hb] at hy
      simp only [cond_true, Option.some.injEq] at hy
      subst hy
      rw [getD_put (by rw [hi.tmps]; exact hd)]
      simpa [upd] using hx
    | false =>
      have hne := Nat.ne_of_beq_eq_false hb
      rw [hb] at hy
      rw [getD_put_ne hne]
      have : upd RR (.slot d) R (.slot s) = RR (.slot s) := by simp [upd, Ne.symm hne]
      rw [this]
      exact hi.slots s y hy
  · intro o ob ho
    have : upd RR (.slot d) R (.obj o) = RR (.obj o) := by simp [upd]
    rw [this]; exact hi.objs o ob ho
  · intro p
    unfold upd
    split
    · exact hn
    · exact hi.nodup p
  · intro p q hpq b hb
    unfold upd at hb ⊢
    split at hb
    · rename_i hp
      subst hp
      rw [if_neg (Ne.symm hpq)]
      exact (hR b hb).2.2 q (Ne.symm hpq)
    · split
      · rename_i hp hq
        subst hq
        intro hb'
        exact (hR b hb').2.2 p hpq hb
      · exact hi.apart p q hpq b hb
  · intro p b hb
    unfold upd at hb
    split at hb
    · exact ⟨(hR b hb).1, (hR b hb).2.1⟩
    · exact hi.own p b hb
  · simp [Act.put, hi.tmps]
  · simp [Act.put, hi.defers]

theorem Inv.put0 (hi : Inv G E RR st a) {d : Nat} {x : X} {u : Value} (hd : d < G.fn.n) (hx : RX E x u []) : Inv G E (upd RR (.slot d) []) (st.put d x) (a.put (some d) u) :=
  hi.put hd hx List.nodup_nil (fun _ hb => by cases hb)

/-- The operation gives x, and memory stays. -/
def Yields (P : Program) (N : Frm) (st : St) (o : Oper) (x : X) : Prop :=
  ∀ (G : Ctx) (E : Env) (RR : Own → List Nat) (a : Act), G.fn = N → Inv G E RR st a → ∃ u, (execOp a.eval o).run P E.w = .ok (.value u) E.w ∧ RX E x u []

theorem AOps.val {all : Array Oper} {rest : List Oper} {d : Nat} {op : Op} {ty : TypeId} {pos : String} {af : Array Edge} {x : X}
    (hy : Yields P N st ⟨some d, op, ty, pos, af, none⟩ x) (hd : d < N.n) (k : AOps P N all rest (st.put d x) Q) : AOps P N all (⟨some d, op, ty, pos, af, none⟩ :: rest) st Q := by
  intro G hn a w hh
  obtain ⟨E, RR, rfl, hi⟩ := hh
  obtain ⟨u, hr, hx⟩ := hy G E RR a hn hi
  refine wpList_plain rfl fun K hK => ?_
  simp only [Oper.wp, hr, Oper.upon_value]
  exact hK _ _ (k G hn _ _ ⟨E, _, rfl, hi.put0 (hn ▸ hd) hx⟩)

/-- The slot's test, decided. -/
theorem AOps.split {all : Array Oper} {rest : List Oper} {d : Nat} {b : Bool} (hx : look st.slots d = some (.v (.bool b)))
    (ht : b = true → AOps P N all rest (st.put d (.v (.bool true))) Q) (hf : b = false → AOps P N all rest (st.put d (.v (.bool false))) Q) : AOps P N all rest st Q := by
  have : Le st (st.put d (.v (.bool b))) := ⟨SubL.cons hx (fun _ _ h => h), fun _ _ h => h⟩
  cases b
  · exact (hf rfl).le this
  · exact (ht rfl).le this

theorem AOps.guardRun {all : Array Oper} {rest : List Oper} {dst : Option Nat} {op : Op} {ty : TypeId} {pos : String} {af : Array Edge} {j d : Nat} {want : Bool}
    (hj : (all[j]?).bind (·.dst) = some d) (hd : d < N.n) (hx : look st.slots d = some (.v (.bool want)))
    (k : AOps P N all (⟨dst, op, ty, pos, af, none⟩ :: rest) st Q) : AOps P N all (⟨dst, op, ty, pos, af, some (j, want)⟩ :: rest) st Q := by
  intro G hn a w hh
  have hk := k G hn a w hh
  obtain ⟨E, RR, rfl, hi⟩ := hh
  have hs := hi.slots d _ hx
  simp only [RX] at hs
  have hsz : d < a.tmps.size := by rw [hi.tmps, hn]; exact hd
  have hv : a.tmps[d]? = some (.bool want) := by
    have := hs.1
    simp only [Array.getD, hsz, dif_pos] at this
    rw [Array.getElem?_eq_getElem hsz]
    exact congrArg some this
  have hw : Region.wanted ⟨dst, op, ty, pos, af, some (j, want)⟩ (yielded all a.tmps) = true := by
    simp [Region.wanted, yielded, hj, hv]
  unfold wpList at hk ⊢
  rw [if_pos hw]
  rw [if_pos (by simp [Region.wanted])] at hk
  exact hk

theorem AOps.guardSkip {all : Array Oper} {rest : List Oper} {dd : Nat} {op : Op} {ty : TypeId} {pos : String} {af : Array Edge} {j d : Nat} {want have_ : Bool}
    (hj : (all[j]?).bind (·.dst) = some d) (hd : d < N.n) (hdd : dd < N.n) (hx : look st.slots d = some (.v (.bool have_))) (hne : (have_ == want) = false)
    (k : AOps P N all rest (st.put dd .no) Q) : AOps P N all (⟨some dd, op, ty, pos, af, some (j, want)⟩ :: rest) st Q := by
  intro G hn a w hh
  obtain ⟨E, RR, rfl, hi⟩ := hh
  have hs := hi.slots d _ hx
  simp only [RX] at hs
  have hsz : d < a.tmps.size := by rw [hi.tmps, hn]; exact hd
  have hv : a.tmps[d]? = some (.bool have_) := by
    have := hs.1
    simp only [Array.getD, hsz, dif_pos] at this
    rw [Array.getElem?_eq_getElem hsz]
    exact congrArg some this
  have hw : Region.wanted ⟨some dd, op, ty, pos, af, some (j, want)⟩ (yielded all a.tmps) = false := by
    have hne' : have_ ≠ want := by simpa using hne
    simp [Region.wanted, yielded, hj, hv, hne']
  unfold wpList
  rw [if_neg (by rw [hw]; simp)]
  exact k G hn _ _ ⟨E, _, rfl, hi.put0 (hn ▸ hdd) (by simp [RX])⟩

/-- A store's result is never asked for; an operation without a result that is not wanted. -/
theorem AOps.guardSkip0 {all : Array Oper} {rest : List Oper} {op : Op} {ty : TypeId} {pos : String} {af : Array Edge} {j d : Nat} {want have_ : Bool}
    (hj : (all[j]?).bind (·.dst) = some d) (hd : d < N.n) (hx : look st.slots d = some (.v (.bool have_))) (hne : (have_ == want) = false)
    (k : AOps P N all rest st Q) : AOps P N all (⟨none, op, ty, pos, af, some (j, want)⟩ :: rest) st Q := by
  intro G hn a w hh
  have hk := k G hn a w hh
  obtain ⟨E, RR, rfl, hi⟩ := hh
  have hs := hi.slots d _ hx
  simp only [RX] at hs
  have hsz : d < a.tmps.size := by rw [hi.tmps, hn]; exact hd
  have hv : a.tmps[d]? = some (.bool have_) := by
    have := hs.1
    simp only [Array.getD, hsz, dif_pos] at this
    rw [Array.getElem?_eq_getElem hsz]
    exact congrArg some this
  have hw : Region.wanted ⟨none, op, ty, pos, af, some (j, want)⟩ (yielded all a.tmps) = false := by
    have hne' : have_ ≠ want := by simpa using hne
    simp [Region.wanted, yielded, hj, hv, hne']
  unfold wpList
  rw [if_neg (by rw [hw]; simp)]
  exact hk

end
end Go.AW
