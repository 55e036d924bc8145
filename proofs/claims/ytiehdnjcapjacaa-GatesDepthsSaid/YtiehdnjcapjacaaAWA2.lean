/- Part of the abstract walk: states, what they say of a machine, and the rules for control. -/
import Derived.Test.YtiehdnjcapjacaaAWA1
namespace Go.AW
open Go

def look {α : Type} : List (Nat × α) → Nat → Option α
  | [], _ => none
  | (t, x) :: r, s => bif Nat.beq t s then some x else look r s

structure St where
  slots : List (Nat × X)
  objs : List (Nat × Obj)

def ROb (E : Env) (o : Nat) : Obj → List Nat → Prop
  | .cells xs, R => X.frees xs = true ∧ ∃ B cs ty, E.β o = some B ∧ E.w.heap[B.b]? = some (.cells cs ty (0, 0)) ∧ (∀ i, E.φ B.b i = none) ∧ B.off + xs.length ≤ cs.size ∧ RO E xs cs B.off [] ∧ R = [B.b]
  | .rows s rs, R => Uniform s rs ∧ ((E.β o = none ∧ rs = [] ∧ R = []) ∨ ∃ B cs ty R', E.β o = some B ∧ E.w.heap[B.b]? = some (.cells cs ty (0, 0)) ∧ (∀ i, E.φ B.b i = none) ∧
      rs.length ≤ B.cap ∧ B.off + B.cap * s ≤ cs.size ∧ ROr E rs cs B.off R' ∧ R = B.b :: R')
  | .gone, R => R = []

inductive Own where
  | slot (s : Nat)
  | obj (o : Nat)
  deriving DecidableEq

/-- The size of a frame, and the objects that keep their place. -/
structure Frm where
  n : Nat
  F : List Nat

/-- What stays fixed while the body of one call is walked. K: the blocks that must stay as they are. -/
structure Ctx where
  K : Nat → Prop
  w0 : World
  φ0 : Fz
  β0 : Nat → Option Blk
  fn : Frm

structure Inv (G : Ctx) (E : Env) (RR : Own → List Nat) (st : St) (a : Act) : Prop where
  frz : ∀ b i v, E.φ b i = some v → E.w.cell? ⟨b, i, none⟩ = some v
  slots : ∀ s x, look st.slots s = some x → RX E x (a.tmps.getD s undef) (RR (.slot s))
  objs : ∀ o ob, look st.objs o = some ob → ROb E o ob (RR (.obj o))
  nodup : ∀ p, (RR p).Nodup
  apart : ∀ p q, p ≠ q → ∀ b ∈ RR p, b ∉ RR q
  own : ∀ p b, b ∈ RR p → b < E.w.heap.size ∧ ¬ G.K b
  keep : ∀ b, G.K b → E.w.heap[b]? = G.w0.heap[b]?
  size : G.w0.heap.size ≤ E.w.heap.size
  small : ∀ b, G.K b → b < G.w0.heap.size
  os : E.w.os = G.w0.os
  tape : E.w.tape = G.w0.tape
  output : E.w.output = G.w0.output
  φ0 : ∀ b i v, G.φ0 b i = some v → E.φ b i = some v
  grow : ∀ b i v, E.φ b i = some v → G.φ0 b i = some v ∨ ¬ G.K b
  fixed : ∀ o, G.fn.F.elem o = true → E.β o = G.β0 o
  tmps : a.tmps.size = G.fn.n
  defers : a.defers = []

def Holds (G : Ctx) (st : St) (a : Act) (w : World) : Prop := ∃ E RR, E.w = w ∧ Inv G E RR st a

def Post (G : Ctx) (Q : Exit → St → Prop) (e : Exit) (a : Act) (w : World) : Prop := ∃ st, Holds G st a w ∧ Q e st

/-- From any machine that is as st says, c leads to an end with Q. -/
def AWp (P : Program) (N : Frm) (c : Code) (st : St) (Q : Exit → St → Prop) : Prop :=
  ∀ G : Ctx, G.fn = N → ∀ a w, Holds G st a w → c.wp P (Post G Q) a w

def AOps (P : Program) (N : Frm) (all : Array Oper) (rest : List Oper) (st : St) (Q : Exit → St → Prop) : Prop :=
  ∀ G : Ctx, G.fn = N → ∀ a w, Holds G st a w → wpList P all (Post G Q) rest a w

def Then (K : St → Prop) (Q : Exit → St → Prop) : Exit → St → Prop
  | .normal, st => K st
  | e, st => Q e st

def InBlock (id : Nat) (Q : Exit → St → Prop) : Exit → St → Prop
  | .exit id', st => bif Nat.beq id' id then Q .normal st else Q (.exit id') st
  | e, st => Q e st

/-- What the operands are. -/
def opd (st : St) : Operand → Option X
  | .tmp t => look st.slots t
  | .const v => some (.v v)
  | .func f => some (.v (.func (.func f) #[] #[]))
  | .global _ => none

/-- st' says no more than st. -/
def Le (st st' : St) : Prop :=
  (∀ s x, look st'.slots s = some x → look st.slots s = some x) ∧ (∀ o x, look st'.objs o = some x → look st.objs o = some x)

theorem Le.refl (st : St) : Le st st := ⟨fun _ _ h => h, fun _ _ h => h⟩

theorem Le.holds {G : Ctx} {st st' : St} {a : Act} {w : World} (h : Le st st') (hh : Holds G st a w) : Holds G st' a w := by
  obtain ⟨E, RR, hw, hi⟩ := hh
  exact ⟨E, RR, hw, { hi with slots := fun s x hx => hi.slots s x (h.1 s x hx), objs := fun o x hx => hi.objs o x (h.2 o x hx) }⟩

def SubL {α : Type} (l l' : List (Nat × α)) : Prop := ∀ s x, look l' s = some x → look l s = some x
theorem SubL.nil {α : Type} {l : List (Nat × α)} : SubL l [] := fun _ _ h => by cases h
theorem SubL.cons {α : Type} {l l' : List (Nat × α)} {s : Nat} {x : α} (h : look l s = some x) (hr : SubL l l') : SubL l ((s, x) :: l') := by
  intro t y hy
  unfold look at hy
  cases hb : Nat.beq s t with
  | true => rw [hb] at hy; simp at hy; subst hy; rw [Nat.eq_of_beq_eq_true hb] at h; exact h
  | false => rw [hb] at hy; exact hr t y hy
theorem Le.mk {st : St} {sl : List (Nat × X)} {ob : List (Nat × Obj)} (h : SubL st.slots sl) (h' : SubL st.objs ob) : Le st ⟨sl, ob⟩ := ⟨h, h'⟩

section control
variable {P : Program} {N : Frm} {st st' : St} {Q Q' : Exit → St → Prop}

theorem Post.mono {G : Ctx} {e : Exit} {a : Act} {w : World} (h : ∀ st, Q e st → Q' e st) (hp : Post G Q e a w) : Post G Q' e a w :=
  let ⟨st, hh, hq⟩ := hp; ⟨st, hh, h st hq⟩

theorem AWp.mono {c : Code} (h : AWp P N c st Q) (hq : ∀ e st, Q e st → Q' e st) : AWp P N c st Q' :=
  fun G hn a w hh => wp_mono (h G hn a w hh) fun e _ _ hp => Post.mono (hq e) hp

theorem AWp.le {c : Code} (hl : Le st st') (h : AWp P N c st' Q) : AWp P N c st Q :=
  fun G hn a w hh => h G hn a w (hl.holds hh)

theorem AOps.le {all : Array Oper} {rest : List Oper} (hl : Le st st') (h : AOps P N all rest st' Q) : AOps P N all rest st Q :=
  fun G hn a w hh => h G hn a w (hl.holds hh)

theorem AWp.skip (h : Q .normal st) : AWp P N .skip st Q := fun _ _ _ _ hh => wp_skip ⟨st, hh, h⟩
theorem AWp.label {l : Nat} (h : Q .normal st) : AWp P N (.label l) st Q := fun _ _ _ _ hh => wp_label ⟨st, hh, h⟩
theorem AWp.exit {id : Nat} (h : Q (.exit id) st) : AWp P N (.exit id) st Q := fun _ _ _ _ hh => wp_exit ⟨st, hh, h⟩
theorem AWp.ret (h : Q .ret st) : AWp P N .ret st Q := fun _ _ _ _ hh => wp_ret ⟨st, hh, h⟩

theorem AWp.seq {x y : Code} (h : AWp P N x st (Then (fun st' => AWp P N y st' Q) Q)) : AWp P N (.seq x y) st Q := by
  intro G hn a w hh
  refine wp_seq (wp_mono (h G hn a w hh) ?_)
  rintro e a' w' ⟨st', hh', hq⟩
  cases e <;> first | exact hq G hn a' w' hh' | exact ⟨st', hh', hq⟩

theorem AWp.block {id : Nat} {c : Code} (h : AWp P N c st (InBlock id Q)) : AWp P N (.block id c) st Q := by
  intro G hn a w hh
  refine wp_block (wp_mono (h G hn a w hh) ?_)
  rintro e a' w' ⟨st', hh', hq⟩
  cases e with
  | exit id' =>
    simp only [InBlock] at hq
    simp only [Exit.inBlock]
    cases hb : Nat.beq id' id with
    | true =>
      rw [hb] at hq
      rw [if_pos (Nat.eq_of_beq_eq_true hb)]
      exact ⟨st', hh', hq⟩
    | false =>
      rw [hb] at hq
      rw [if_neg (Nat.ne_of_beq_eq_false hb)]
      exact ⟨st', hh', hq⟩
  | _ => exact ⟨st', hh', hq⟩

theorem Inv.eval {G : Ctx} {E : Env} {RR : Own → List Nat} {a : Act} (hi : Inv G E RR st a) {o : Operand} {x : X} (h : opd st o = some x) : ∃ R, RX E x (a.eval o) R := by
  cases o with
  | tmp t => exact ⟨_, hi.slots t x h⟩
  | const v => simp only [opd, Option.some.injEq] at h; subst h; exact ⟨[], by simp [RX, Act.eval]⟩
  | func f => simp only [opd, Option.some.injEq] at h; subst h; exact ⟨[], by simp [RX, Act.eval]⟩
  | global g => cases h

/-- An operand whose value stands as it is. -/
theorem Inv.val {G : Ctx} {E : Env} {RR : Own → List Nat} {a : Act} (hi : Inv G E RR st a) {o : Operand} {u : Value} (h : opd st o = some (.v u)) : a.eval o = u := by
  obtain ⟨R, hR⟩ := hi.eval h
  simp only [RX] at hR
  exact hR.1

theorem AWp.cond {c : Operand} {x y : Code} {b : Bool} (hc : opd st c = some (.v (.bool b))) (ht : b = true → AWp P N x st Q) (hf : b = false → AWp P N y st Q) :
    AWp P N (.cond c x y) st Q := by
  intro G hn a w hh
  obtain ⟨E, RR, rfl, hi⟩ := hh
  exact wp_cond_split (hi.val hc) (fun h => ht h G hn a E.w ⟨E, RR, rfl, hi⟩) (fun h => hf h G hn a E.w ⟨E, RR, rfl, hi⟩)

theorem wp_loop_ix {c : Code} {ι : Type} {R : Exit → Act → World → Prop} (J : ι → Act → World → Prop) (μ : ι → Nat)
    (round : ∀ i a w, J i a w → c.wp P (Exit.then (fun a' w' => ∃ j, J j a' w' ∧ μ j < μ i) R) a w) {i : ι} {a : Act} {w : World} (h₀ : J i a w) : (Code.loop c).wp P R a w := by
  intro b k cs
  have key : ∀ n i a w, μ i = n → J i a w →
      ∃ e a' w', R e a' w' ∧ Arrives P (lone (b.at a (.code c :: .inLoop c :: k)) cs w) b k cs e a' w' := by
    intro n
    induction n using Nat.strongRecOn with
    | _ n ih =>
      intro i a w hn hI
      obtain ⟨e, a₁, w₁, hq, harr⟩ := round i a w hI b (.inLoop c :: k) cs
      cases e with
      | normal =>
        obtain ⟨j, hI₁, hlt⟩ := hq
        obtain ⟨e₂, a₂, w₂, hq₂, harr₂⟩ := ih (μ j) (hn ▸ hlt) j a₁ w₁ rfl hI₁
        exact ⟨e₂, a₂, w₂, hq₂, .of_steps (Steps.trans harr (.one step_inLoop)) harr₂⟩
      | exit id => exact ⟨_, a₁, w₁, hq, .pass (x := .inLoop c) rfl (fun _ _ => .inl (by simp)) harr⟩
      | goto l => exact ⟨_, a₁, w₁, hq, .pass (x := .inLoop c) rfl (fun _ _ => .inl (by simp)) harr⟩
      | ret => exact ⟨_, a₁, w₁, hq, .pass (x := .inLoop c) rfl (fun _ _ => .inl (by simp)) harr⟩
      | panic ch => exact ⟨_, a₁, w₁, hq, .pass (x := .inLoop c) rfl (fun _ _ => .inl (by simp)) harr⟩
      | outgrown => exact ⟨_, a₁, w₁, hq, .pass (x := .inLoop c) rfl (fun _ _ => .inl (by simp)) harr⟩
  obtain ⟨e, a', w', hq, harr⟩ := key _ i a w rfl h₀
  exact ⟨e, a', w', hq, .of_steps (.one step_loop) harr⟩

/-- A loop: S i is the state at the head of a round, for the i with I i. -/
theorem AWp.loop {ι : Type} {c : Code} (S : ι → St) (I : ι → Prop) (μ : ι → Nat) (i : ι) (hi : I i) (hs : Le st (S i))
    (round : ∀ i, I i → AWp P N c (S i) (Then (fun st' => ∃ j, I j ∧ μ j < μ i ∧ Le st' (S j)) Q)) : AWp P N (.loop c) st Q := by
  intro G hn a w hh
  refine wp_loop_ix (fun i a w => I i ∧ Holds G (S i) a w) μ ?_ ⟨hi, hs.holds hh⟩
  rintro i a w ⟨hI, hh⟩
  refine wp_mono (round i hI G hn a w hh) ?_
  rintro e a' w' ⟨st', hh', hq⟩
  cases e with
  | normal => obtain ⟨j, hj, hlt, hle⟩ := hq; exact ⟨j, ⟨hj, hle.holds hh'⟩, hlt⟩
  | _ => exact ⟨st', hh', hq⟩

theorem AWp.scope {c : Code} (h : AWp P N c st (fun e st => match e with | .goto _ => False | e => Q e st)) : AWp P N (.scope c) st Q := by
  intro G hn a w hh
  refine wp_scope_straight (wp_mono (h G hn a w hh) ?_)
  rintro e a' w' ⟨st', hh', hq⟩
  cases e <;> first | exact hq.elim | exact ⟨st', hh', hq⟩

theorem AWp.region {id : Nat} {l : List Oper} (h : AOps P N l.toArray l st Q) : AWp P N (.region id l.toArray false) st Q :=
  fun G hn a w hh => wp_region_lit (h G hn a w hh)

theorem AOps.nil {all : Array Oper} (h : Q .normal st) : AOps P N all [] st Q := fun _ _ _ _ hh => ⟨st, hh, h⟩

end control
end Go.AW
