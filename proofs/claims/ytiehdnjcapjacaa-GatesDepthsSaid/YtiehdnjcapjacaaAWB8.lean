/- Part of the abstract walk: the rule for a call. -/
import Derived.Test.YtiehdnjcapjacaaAWB7
namespace Go.AW
open Go

/-- What a callee gets for an argument: the same under its own names, or a frozen view of a slice over an object in L. -/
inductive Lent (st : St) (L : List Nat) (ν : Nat → Nat) : X → X → Prop where
  | same {x : X} (h : x.free = true) : Lent st L ν (x.ren ν) x
  | view {o s lo n : Nat} {rs : List (List X)} (ho : look st.objs o = some (.rows s rs)) (hL : o ∈ L) (hln : lo + n ≤ rs.length) : Lent st L ν (.slc o s lo n) (.fz s ((rs.drop lo).take n))
  | deref {o s i k : Nat} {row : List X} (ho : rowAt st (.ptr o s i k) = some row) (hL : o ∈ L) (hnr : X.nrs row = true) : Lent st L ν (.ptr o s i k) (.fp row k)

inductive LentL (st : St) (L : List Nat) (ν : Nat → Nat) : List X → List X → Prop where
  | nil : LentL st L ν [] []
  | cons {x y : X} {xs ys : List X} (h : Lent st L ν x y) (hs : LentL st L ν xs ys) : LentL st L ν (x :: xs) (y :: ys)
  | agg {us vs xs ys : List X} (h : LentL st L ν us vs) (h1 : X.ones vs = true) (hs : LentL st L ν xs ys) : LentL st L ν (.agg us :: xs) (.agg vs :: ys)

def posIn : List Nat → Nat → Option Nat
  | [], _ => none
  | o :: r, q => bif Nat.beq o q then some 0 else (posIn r q).map (· + 1)

theorem posIn_some : ∀ {l : List Nat} {q j : Nat}, posIn l q = some j → l[j]? = some q
  | [], _, _, h => by cases h
  | o :: r, q, j, h => by
    simp only [posIn] at h
    cases hb : Nat.beq o q with
    | true => rw [hb] at h; simp at h; subst h; simp [Nat.eq_of_beq_eq_true hb]
    | false =>
      rw [hb] at h
      simp only [cond_false, Option.map_eq_some_iff] at h
      obtain ⟨j', h1, rfl⟩ := h
      simpa using posIn_some h1

theorem posIn_of : ∀ {l : List Nat} {q j : Nat}, l.Nodup → l[j]? = some q → posIn l q = some j
  | [], _, _, _, h => by simp at h
  | o :: r, q, j, hn, h => by
    simp only [posIn]
    have hn' := List.nodup_cons.1 hn
    cases j with
    | zero =>
      simp at h; subst h
      simp
    | succ j =>
      have h' : r[j]? = some q := by simpa using h
      have hne : o ≠ q := fun e => hn'.1 (by rw [e]; exact List.mem_of_getElem? h')
      have : Nat.beq o q = false := by
        cases hb : Nat.beq o q with
        | false => rfl
        | true => exact absurd (Nat.eq_of_beq_eq_true hb) hne
      rw [this]
      simp [posIn_of hn'.2 h']

theorem posIn_none : ∀ {l : List Nat} {q : Nat}, posIn l q = none → q ∉ l
  | [], _, _ => by simp
  | o :: r, q, h => by
    simp only [posIn] at h
    cases hb : Nat.beq o q with
    | true => simp [hb] at h
    | false =>
      rw [hb] at h
      simp only [cond_false, Option.map_eq_none_iff] at h
      have := posIn_none h
      have hne := Nat.ne_of_beq_eq_false hb
      simp [this, Ne.symm hne]

def opds (st : St) : List Operand → Option (List X)
  | [] => some []
  | x :: r => match opd st x, opds st r with
    | some y, some l => some (y :: l)
    | _, _ => none

/-- It has a body, and is no row of the machine's. -/
def callOK (P : Program) (f : FuncId) : Bool :=
  match P.funcs[f]? with
  | some fn => fn.body.isSome && fn.name != "runtime.NumGoroutine"
  | none => false

theorem callOK_run {P : Program} {f : FuncId} (h : callOK P f = true) (args : Array Value) (w : World) : (callFunc f args).run P w = .ok (.enter f args) w := by
  unfold callOK at h
  cases hf : P.funcs[f]? with
  | none => simp [hf] at h
  | some fn =>
    rw [hf] at h
    simp only [Bool.and_eq_true] at h
    have h1 : fn.name ≠ "runtime.NumGoroutine" := by
      have := h.2
      simpa [bne] using this
    have h2 : fn.body ≠ none := fun e => by rw [e] at h; simp at h
    simp [callFunc, hf, h1, h2]

/-- The names that may have lost their place. -/
def loose (ν F : List Nat) : List Nat := ((enumF 0 ν).filter fun p => !F.elem p.1).map (·.2)

theorem mem_loose {ν F : List Nat} {o : Nat} (h : o ∉ loose ν F) {j : Nat} (hj : ν[j]? = some o) : F.elem j = true := by
  cases hF : F.elem j with
  | true => rfl
  | false =>
    refine absurd ?_ h
    unfold loose
    refine List.mem_map.2 ⟨(j, o), List.mem_filter.2 ⟨?_, by simpa using hF⟩, rfl⟩
    have : ∀ (l : List Nat) (i : Nat), l[j]? = some o → (i + j, o) ∈ enumF i l := by
      clear h hj hF
      induction j with
      | zero =>
        intro l i h
        cases l with
        | nil => simp at h
        | cons x r => simp at h; subst h; simp [enumF]
      | succ j ih =>
        intro l i h
        cases l with
        | nil => simp at h
        | cons x r =>
          simp only [enumF, List.mem_cons]
          right
          have := ih r (i + 1) (by simpa using h)
          rw [show i + (j + 1) = i + 1 + j by omega]; exact this
    simpa using this ν 0 hj

def nameF (ν : List Nat) (j : Nat) : Nat := ν.getD j 0

/-- The state behind a call. -/
def callSt (st : St) (ν F : List Nat) (objs' : List Obj) : St :=
  ⟨(st.killM (loose ν F)).slots, ν.zip (objs'.map (Obj.ren (nameF ν))) ++ (st.killM (loose ν F)).objs⟩

theorem look_zip : ∀ {ν : List Nat} {l : List Obj} {r : List (Nat × Obj)} {o : Nat}, ν.length = l.length → look (ν.zip l ++ r) o = match posIn ν o with | some j => l[j]? | none => look r o
  | [], [], _, _, _ => rfl
  | [], _ :: _, _, _, h => by simp at h
  | _ :: _, [], _, _, h => by simp at h
  | q :: ν, x :: l, r, o, h => by
    simp only [List.zip_cons_cons, List.cons_append, look, posIn]
    cases hb : Nat.beq q o with
    | true => simp
    | false =>
      simp only [cond_false]
      rw [look_zip (by simpa using h)]
      cases hp : posIn ν o with
      | none => simp
      | some j => simp

section
variable {P : Program} {N : Frm} {st : St} {Q : Exit → St → Prop} {all : Array Oper} {rest : List Oper} {d : Nat} {ty : TypeId} {pos : String} {af : Array Edge}

theorem nrs_take : ∀ (xs : List X) (n : Nat), X.nrs xs = true → X.nrs (xs.take n) = true
  | [], n, _ => by simp [X.nrs]
  | x :: r, 0, _ => by simp [X.nrs]
  | x :: r, n + 1, h => by simp only [X.nrs, Bool.and_eq_true, List.take_succ_cons] at h ⊢; exact ⟨h.1, nrs_take r n h.2⟩

/-- Owned cells, frozen. -/
theorem RO.freeze {E E1 : Env} {b : Nat} : ∀ {xs : List X} {cs : Array Value} {off : Nat} , (∀ i v, cs[i]? = some v → E1.φ b i = some v) → (∀ c i v, E.φ c i = some v → E1.φ c i = some v) → X.nrs xs = true →
    RO E xs cs off [] → RF E1 xs b off
  | [], _, _, _, _, _, _ => by simp [RF]
  | x :: r, cs, off, h1, h2, hn, h => by
    simp only [RO] at h
    obtain ⟨u, R₁, R₂, hu, hs, hx, hr, hR⟩ := h
    obtain ⟨rfl, rfl⟩ := List.append_eq_nil_iff.1 hR.symm
    simp only [X.nrs, Bool.and_eq_true] at hn
    simp only [RF]
    refine ⟨⟨u, h1 _ _ hu, hs, hn.1, RX.mono x u [] ⟨h2, fun _ h => by cases h⟩ (fun o ho => by rw [X.ment_of_nr hn.1] at ho; cases ho) hx⟩, RO.freeze h1 h2 hn.2 hr⟩

theorem ROr.freeze {E E1 : Env} {b : Nat} : ∀ {rs : List (List X)} {cs : Array Value} {off : Nat}, (∀ i v, cs[i]? = some v → E1.φ b i = some v) → (∀ c i v, E.φ c i = some v → E1.φ c i = some v) →
    ROr E rs cs off [] → RFr E1 rs b off
  | [], _, _, _, _, _ => by simp [RFr]
  | r :: rs, cs, off, h1, h2, h => by
    simp only [ROr] at h
    obtain ⟨R₁, R₂, hn, hx, hr, hR⟩ := h
    obtain ⟨rfl, rfl⟩ := List.append_eq_nil_iff.1 hR.symm
    simp only [RFr]
    exact ⟨RO.freeze h1 h2 hn hx, ROr.freeze h1 h2 hr⟩

/-- Rows that own nothing. -/
def Owns0 : Obj → Prop
  | .rows _ rs => ∀ r ∈ rs, X.frees r = true
  | .cells _ => True
  | .gone => True

theorem ROr.free {E : Env} : ∀ {rs : List (List X)} {cs : Array Value} {off : Nat} {R : List Nat}, (∀ r ∈ rs, X.frees r = true) → ROr E rs cs off R → R = []
  | [], _, _, _, _, h => by simpa [ROr] using h
  | r :: rs, _, _, _, hf, h => by
    simp only [ROr] at h
    obtain ⟨R₁, R₂, _, h1, h2, hR⟩ := h
    rw [hR, RO.free (hf r (by simp)) h1, ROr.free (fun q hq => hf q (by simp [hq])) h2]; rfl

/-- The frozen memory with some blocks more. -/
noncomputable def Env.lend (E : Env) (LB : Nat → Prop) : Env := by
  classical
  exact { E with φ := fun b i => if LB b then E.w.cell? ⟨b, i, none⟩ else E.φ b i }

theorem lend_in (E : Env) {LB : Nat → Prop} {b : Nat} (h : LB b) (i : Nat) : (E.lend LB).φ b i = E.w.cell? ⟨b, i, none⟩ := by simp [Env.lend, h]
theorem lend_out (E : Env) {LB : Nat → Prop} {b : Nat} (h : ¬ LB b) (i : Nat) : (E.lend LB).φ b i = E.φ b i := by simp [Env.lend, h]

theorem Lent.rx {G : Ctx} {E : Env} {RR : Own → List Nat} {a : Act} {L : List Nat} {ν : Nat → Nat} {LB : Nat → Prop} (hi : Inv G E RR st a) (hLB : ∀ o ∈ L, ∀ b ∈ RR (.obj o), LB b) (hle : ∀ c i v, E.φ c i = some v → (E.lend LB).φ c i = some v)
    (h0 : ∀ o ∈ L, ∀ ob, look st.objs o = some ob → Owns0 ob) {x y : X} {c : Value} {R : List Nat} (h : Lent st L ν x y) (hx : RX E x c R) : RX ((E.lend LB).names ν) y c [] := by
  have hon : E.On (E.lend LB) [] := ⟨hle, fun _ h => by cases h⟩
  cases h with
  | same hf =>
    have : R = [] := RX.free (by rw [X.free_ren]; exact hf) hx
    subst this
    exact (RX.ren y c []).2 (RX.mono _ c [] hon (fun _ _ => rfl) hx)
  | view ho hL hln =>
    rename_i o s lo n rs
    have hob := hi.objs o _ ho
    have hfree : ∀ r ∈ rs, X.frees r = true := h0 o hL _ ho
    simp only [RX] at hx ⊢
    obtain ⟨_, base, cap, rfl, hcase⟩ := hx
    simp only [ROb] at hob
    obtain ⟨hu, hob⟩ := hob
    have hwl : ((rs.drop lo).take n).length = n := by simp; omega
    refine ⟨trivial, (hu.drop lo).take n, base, cap, by rw [hwl], ?_⟩
    by_cases hcap0 : cap = 0
    · refine .inl ⟨?_, hcap0⟩
      have hn0 : n = 0 := by rcases hcase with ⟨_, _, h, _⟩ | ⟨_, _, _, h, _⟩ <;> omega
      subst hn0; simp
    · rcases hcase with ⟨_, _, _, h⟩ | ⟨B, hB, hlc, hn', hb⟩
      · exact absurd h hcap0
      have hb' := hb.resolve_left hcap0
      rcases hob with ⟨h1, _⟩ | ⟨B', cs, tb, R', hB', hw, hφ, hcp, hsz, hRO, hRR⟩
      · rw [hB] at h1; cases h1
      rw [hB] at hB'
      obtain rfl := Option.some.inj hB'
      have hR0 := ROr.free hfree hRO
      subst hR0
      obtain ⟨R1, hwin, hsub, _⟩ := ROr.window hu hRO hln
      have hR1 : R1 = [] := by
        cases R1 with
        | nil => rfl
        | cons b r => have := hsub b (by simp); cases this
      subst hR1
      have hbL : LB B.b := hLB o hL _ (by rw [hRR]; simp)
      refine .inr ⟨B.b, B.off + lo * s, hb', by omega, ?_⟩
      have hfr : RFr (E.lend LB) ((rs.drop lo).take n) B.b (B.off + lo * s) := ROr.freeze (fun i v hv => by rw [lend_in E hbL, cell_of_heap hw]; exact hv) hle hwin
      exact RFr.mono _ _ _ (names_on (E.lend LB) ν []).2 hfr
  | deref ho hL hnr =>
    rename_i o s i k row
    simp only [RX] at hx ⊢
    obtain ⟨_, B, hB, rfl⟩ := hx
    simp only [rowAt] at ho
    split at ho
    · rename_i xs hobj
      have hob := hi.objs o _ hobj
      simp only [ROb] at hob
      obtain ⟨_, B', cs, tb, hB', hw, _, _, hRO, hRR⟩ := hob
      rw [hB] at hB'
      obtain rfl := Option.some.inj hB'
      cases hi0 : Nat.beq i 0 with
      | false => simp [hi0] at ho
      | true =>
        have := Nat.eq_of_beq_eq_true hi0
        subst this
        simp only [hi0, cond_true, Option.some.injEq] at ho
        subst ho
        have hbL : LB B.b := hLB o hL _ (by rw [hRR]; simp)
        refine ⟨trivial, B.b, B.off, by simp, ?_⟩
        exact RF.mono _ _ _ (names_on (E.lend LB) ν []).2 (RO.freeze (fun i v hv => by rw [lend_in E hbL, cell_of_heap hw]; exact hv) hle hnr hRO)
    · rename_i s' rs hobj
      have hob := hi.objs o _ hobj
      have hfree : ∀ r ∈ rs, X.frees r = true := h0 o hL _ hobj
      simp only [ROb] at hob
      obtain ⟨hu, hob⟩ := hob
      cases hss : Nat.beq s s' with
      | false => simp [hss] at ho
      | true =>
        have := Nat.eq_of_beq_eq_true hss
        subst this
        simp only [hss, cond_true] at ho
        rcases hob with ⟨_, h1, _⟩ | ⟨B', cs, tb, R', hB', hw, _, _, _, hRO, hRR⟩
        · subst h1; simp at ho
        rw [hB] at hB'
        obtain rfl := Option.some.inj hB'
        have hR0 := ROr.free hfree hRO
        subst hR0
        obtain ⟨R1, _, hrow, hsub⟩ := ROr.get hu hRO ho
        have hR1 : R1 = [] := by
          cases R1 with
          | nil => rfl
          | cons b r => have := hsub b (by simp); cases this
        subst hR1
        have hbL : LB B.b := hLB o hL _ (by rw [hRR]; simp)
        refine ⟨trivial, B.b, B.off + i * s, by rw [Nat.add_assoc], ?_⟩
        exact RF.mono _ _ _ (names_on (E.lend LB) ν []).2 (RO.freeze (fun i v hv => by rw [lend_in E hbL, cell_of_heap hw]; exact hv) hle hnr hrow)
    · cases ho

theorem LentL.get {L : List Nat} {ν : Nat → Nat} : ∀ {xs ys : List X} {j : Nat} {y : X}, LentL st L ν xs ys → ys[j]? = some y → ∃ x, xs[j]? = some x ∧ (Lent st L ν x y ∨ ∃ us vs, x = .agg us ∧ y = .agg vs ∧ LentL st L ν us vs ∧ X.ones vs = true)
  | _, _, j, y, .nil, h => by simp at h
  | _, _, 0, y, .cons h _, hy => by simp at hy; subst hy; exact ⟨_, rfl, .inl h⟩
  | _, _, j + 1, y, .cons _ hs, hy => by simpa using LentL.get hs (by simpa using hy)
  | _, _, 0, y, .agg h h1 _, hy => by simp at hy; subst hy; exact ⟨_, rfl, .inr ⟨_, _, rfl, rfl, h, h1⟩⟩
  | _, _, j + 1, y, .agg _ _ hs, hy => by simpa using LentL.get hs (by simpa using hy)

theorem LentL.length {L : List Nat} {ν : Nat → Nat} : ∀ {xs ys : List X}, LentL st L ν xs ys → xs.length = ys.length
  | _, _, .nil => rfl
  | _, _, .cons _ hs => by simp [hs.length]
  | _, _, .agg _ _ hs => by simp [hs.length]

theorem LentL.rxs {G : Ctx} {E : Env} {RR : Own → List Nat} {a : Act} {L : List Nat} {ν : Nat → Nat} {LB : Nat → Prop} (hi : Inv G E RR st a) (hLB : ∀ o ∈ L, ∀ b ∈ RR (.obj o), LB b) (hle : ∀ c i v, E.φ c i = some v → (E.lend LB).φ c i = some v)
    (h0 : ∀ o ∈ L, ∀ ob, look st.objs o = some ob → Owns0 ob) : ∀ {xs ys : List X} {cs : List Value} {R : List Nat}, LentL st L ν xs ys → RXs E xs cs R → RXs ((E.lend LB).names ν) ys cs []
  | _, _, cs, R, .nil, h => by simp only [RXs] at h ⊢; exact ⟨h.1, trivial⟩
  | _, _, cs, R, .cons hl hs, h => by
    simp only [RXs] at h ⊢
    obtain ⟨c, cs', R₁, R₂, rfl, h1, h2, h3, _⟩ := h
    exact ⟨c, cs', [], [], rfl, h1, hl.rx hi hLB hle h0 h2, hs.rxs hi hLB hle h0 h3, rfl⟩
  | _, _, cs, R, .agg hl _ hs, h => by
    simp only [RXs] at h ⊢
    obtain ⟨c, cs', R₁, R₂, rfl, h1, h2, h3, _⟩ := h
    simp only [RX] at h2
    obtain ⟨ds, rfl, h4⟩ := h2
    exact h1.elim

end
end Go.AW
