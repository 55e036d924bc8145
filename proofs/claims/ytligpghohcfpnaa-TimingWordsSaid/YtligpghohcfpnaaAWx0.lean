/- Part of the abstract walk: values as trees, objects by name, and what they say of the model's values and memory. -/
import Derived.WalkKit
set_option linter.unusedSimpArgs false
set_option linter.unusedVariables false
set_option linter.unusedSectionVars false
namespace Go.AW
open Go
theorem om {p : Prop} (h : p := by omega) : p := h
theorem krf {p : Prop} (h : p := by kernel_rfl) : p := h
theorem dcd {p : Prop} (h : p := by decide) : p := h
theorem asm {p : Prop} (h : p := by assumption) : p := h
theorem oml {p : Prop} (h : p := by (simp only [List.length_append, List.length_cons, List.length_nil]; omega)) : p := h
theorem rls {p : Prop} (h : p := by first | rfl | simp_all) : p := h
theorem rlo {p : Prop} (h : p := by first | rfl | omega) : p := h
theorem oms {p : Prop} (h : p := by first | omega | simp [-List.getD_eq_getElem?_getD] <;> omega) : p := h
theorem omd {p : Prop} (h : p := by first | omega | (simp [-List.getD_eq_getElem?_getD]; done) | (simp [-List.getD_eq_getElem?_getD]; omega)) : p := h

inductive X where
 | v (u : Value)
 | no
 | fz (s : Nat) (rows : List (List X))
 | uni (s : Nat) (rows : List (List X))
 | ptr (o s i k : Nat)
 | slc (o s lo n : Nat)
 | mref (o : Nat)
 | fp (row : List X) (k : Nat)
 | agg (xs : List X)
 | tup (xs : List X)
 | clo (fn : Fn) (first caps : List X)

mutual
def X.nr : X → Bool
 | .v _ | .no | .fz .. | .uni .. | .fp .. => true
 | .ptr .. | .slc .. | .mref _ => false
 | .agg xs => X.nrs xs
 | .tup xs => X.nrs xs
 | .clo _ a b => X.nrs a && X.nrs b
def X.nrs : List X → Bool
 | [] => true
 | x :: r => x.nr && X.nrs r
end

mutual
def X.ment (o : Nat) : X → Bool
 | .v _ | .no | .fz .. | .uni .. | .fp .. => false
 | .ptr p .. => Nat.beq p o
 | .slc p .. => Nat.beq p o
 | .mref p => Nat.beq p o
 | .agg xs => X.ments o xs
 | .tup xs => X.ments o xs
 | .clo _ a b => X.ments o a || X.ments o b
def X.ments (o : Nat) : List X → Bool
 | [] => false
 | x :: r => x.ment o || X.ments o r
end

mutual
def X.free : X → Bool
 | .v _ | .no | .fz .. | .ptr .. | .slc .. | .mref _ | .fp .. | .clo .. => true
 | .uni .. => false
 | .agg xs => X.frees xs
 | .tup xs => X.frees xs
def X.frees : List X → Bool
 | [] => true
 | x :: r => x.free && X.frees r
end

structure Blk where
 b : Nat
 off : Nat
 cap : Nat

abbrev Fz := Nat → Nat → Option Value

structure Env where
 φ : Fz
 β : Nat → Option Blk
 w : World

def Single : Value → Prop
 | .agg _ | .tuple _ => False
 | _ => True

def Uniform (s : Nat) (rows : List (List X)) : Prop := ∀ r ∈ rows, r.length = s

mutual
def RX (E : Env) : X → Value → List Nat → Prop
 | .v u, c, R => c = u ∧ R = []
 | .no, _, R => R = []
 | .fz s rows, c, R => R = [] ∧ Uniform s rows ∧ ∃ base cap, c = .slice base rows.length cap ∧
   ((rows = [] ∧ cap = 0) ∨ ∃ b off, base = some ⟨b, off, none⟩ ∧ rows.length ≤ cap ∧ RFr E rows b off)
 | .uni s rows, c, R => Uniform s rows ∧ ∃ base cap, c = .slice base rows.length cap ∧
   ((rows = [] ∧ cap = 0 ∧ R = []) ∨ ∃ b off cs ty R', base = some ⟨b, off, none⟩ ∧ E.w.heap[b]? = some (.cells cs ty (0, 0)) ∧
    rows.length ≤ cap ∧ off + cap * s ≤ cs.size ∧ (∀ i, E.φ b i = none) ∧ ROr E rows cs off R' ∧ R = b :: R')
 | .ptr o s i k, c, R => R = [] ∧ ∃ B, E.β o = some B ∧ c = .pointer (some ⟨B.b, B.off + (i * s + k), none⟩)
 | .slc o s lo n, c, R => R = [] ∧ ∃ base cap, c = .slice base n cap ∧
   ((E.β o = none ∧ lo = 0 ∧ n = 0 ∧ cap = 0) ∨ ∃ B, E.β o = some B ∧ lo + cap = B.cap ∧ n ≤ cap ∧ (cap = 0 ∨ base = some ⟨B.b, B.off + lo * s, none⟩))
 | .mref o, c, R => R = [] ∧ ∃ B, E.β o = some B ∧ c = .map (some B.b)
 | .fp row k, c, R => R = [] ∧ ∃ b off, c = .pointer (some ⟨b, off + k, none⟩) ∧ RF E row b off
 | .agg xs, c, R => ∃ cs, c = .agg cs ∧ RXs E xs cs.toList R
 | .tup xs, c, R => ∃ cs, c = .tuple cs ∧ RXt E xs cs.toList R
 | .clo fn first caps, c, R => R = [] ∧ ∃ f cc, c = .func fn f cc ∧ RXt E first f.toList [] ∧ RXt E caps cc.toList []
def RXs (E : Env) : List X → List Value → List Nat → Prop
 | [], cs, R => cs = [] ∧ R = []
 | x :: r, cs, R => ∃ c cs' R₁ R₂, cs = c :: cs' ∧ Single c ∧ RX E x c R₁ ∧ RXs E r cs' R₂ ∧ R = R₁ ++ R₂
def RXt (E : Env) : List X → List Value → List Nat → Prop
 | [], cs, R => cs = [] ∧ R = []
 | x :: r, cs, R => ∃ c cs' R₁ R₂, cs = c :: cs' ∧ RX E x c R₁ ∧ RXt E r cs' R₂ ∧ R = R₁ ++ R₂
def RF (E : Env) : List X → Nat → Nat → Prop
 | [], _, _ => True
 | x :: r, b, off => (∃ u, E.φ b off = some u ∧ Single u ∧ x.nr = true ∧ RX E x u []) ∧ RF E r b (off + 1)
def RFr (E : Env) : List (List X) → Nat → Nat → Prop
 | [], _, _ => True
 | r :: rs, b, off => RF E r b off ∧ RFr E rs b (off + r.length)
def RO (E : Env) : List X → Array Value → Nat → List Nat → Prop
 | [], _, _, R => R = []
 | x :: r, cs, off, R => ∃ u R₁ R₂, cs[off]? = some u ∧ Single u ∧ RX E x u R₁ ∧ RO E r cs (off + 1) R₂ ∧ R = R₁ ++ R₂
def ROr (E : Env) : List (List X) → Array Value → Nat → List Nat → Prop
 | [], _, _, R => R = []
 | r :: rs, cs, off, R => ∃ R₁ R₂, X.nrs r = true ∧ RO E r cs off R₁ ∧ ROr E rs cs (off + r.length) R₂ ∧ R = R₁ ++ R₂
end

inductive Obj where
 | cells (xs : List X)
 | rows (s : Nat) (rs : List (List X))
 | tab (es : List (Value × Value))
 | gone

end Go.AW
/- Part of the abstract walk: what holds of a value goes on holding while its own blocks stay as they are. -/
namespace Go.AW
open Go

theorem mem_app_l {α} {a : α} {l r : List α} (h : a ∈ l) : a ∈ l ++ r := List.mem_append.2 (.inl h)
theorem mem_app_r {α} {a : α} {l r : List α} (h : a ∈ r) : a ∈ l ++ r := List.mem_append.2 (.inr h)

def Env.On (E E' : Env) (R : List Nat) : Prop :=
 (∀ b i v, E.φ b i = some v → E'.φ b i = some v) ∧ ∀ b ∈ R, E'.w.heap[b]? = E.w.heap[b]? ∧ ((∀ i, E.φ b i = none) → ∀ i, E'.φ b i = none)

theorem Env.On.sub {E E' : Env} {R R' : List Nat} (h : E.On E' R) (hs : ∀ b ∈ R', b ∈ R) : E.On E' R' := ⟨h.1, fun b hb => h.2 b (hs b hb)⟩

mutual
theorem X.ment_of_nr : ∀ {x : X}, x.nr = true → ∀ o, x.ment o = false
 | .v _, _, _ | .no, _, _ | .fz .., _, _ | .uni .., _, _ | .fp .., _, _ => rfl
 | .agg xs, h, o => X.ments_of_nrs (xs := xs) h o
 | .tup xs, h, o => X.ments_of_nrs (xs := xs) h o
 | .clo _ a b, h, o => by
  simp only [X.nr, Bool.and_eq_true] at h
  simp only [X.ment, X.ments_of_nrs h.1 o, X.ments_of_nrs h.2 o, Bool.or_self]
theorem X.ments_of_nrs : ∀ {xs : List X}, X.nrs xs = true → ∀ o, X.ments o xs = false
 | [], _, _ => rfl
 | x :: r, h, o => by
  simp only [X.nrs, Bool.and_eq_true] at h
  simp only [X.ments, X.ment_of_nr h.1 o, X.ments_of_nrs h.2 o, Bool.or_self]
end

mutual
theorem RX.mono {E E' : Env} : ∀ (x : X) (c : Value) (R : List Nat), E.On E' R → (∀ o, x.ment o = true → E'.β o = E.β o) → RX E x c R → RX E' x c R
 | .v u, c, R, _, _, h => by simpa [RX] using h
 | .no, c, R, _, _, h => by simpa [RX] using h
 | .fz s rows, c, R, hE, _, h => by
  simp only [RX] at h ⊢
  obtain ⟨hR, hu, base, cap, hc, hh⟩ := h
  refine ⟨hR, hu, base, cap, hc, ?_⟩
  rcases hh with hh | ⟨b, off, hb, hl, hf⟩
  ·exact .inl hh
  ·exact .inr ⟨b, off, hb, hl, RFr.mono rows b off (hE.sub (by simp)) hf⟩
 | .uni s rows, c, R, hE, _, h => by
  simp only [RX] at h ⊢
  obtain ⟨hu, base, cap, hc, hh⟩ := h
  refine ⟨hu, base, cap, hc, ?_⟩
  rcases hh with hh | ⟨b, off, cs, ty, R', hb, hw, hl, ho, hf, hr, hR⟩
  ·exact .inl hh
  ·subst hR
   have h2 := hE.2 b (by simp)
   exact .inr ⟨b, off, cs, ty, R', hb, h2.1.trans hw, hl, ho, h2.2 hf, ROr.mono rows cs off R' (hE.sub (fun _ h => by simp [h])) hr, rfl⟩
 | .ptr o s i k, c, R, _, hβ, h => by
  simp only [RX] at h ⊢
  rw [hβ o (by simp [X.ment])]; exact h
 | .slc o s lo n, c, R, _, hβ, h => by
  simp only [RX] at h ⊢
  rw [hβ o (by simp [X.ment])]; exact h
 | .mref o, c, R, _, hβ, h => by
  simp only [RX] at h ⊢
  rw [hβ o (by simp [X.ment])]; exact h
 | .fp row k, c, R, hE, _, h => by
  simp only [RX] at h ⊢
  obtain ⟨hR, b, off, hc, hf⟩ := h
  exact ⟨hR, b, off, hc, RF.mono row b off (hE.sub (by simp)) hf⟩
 | .agg xs, c, R, hE, hβ, h => by
  simp only [RX] at h ⊢
  obtain ⟨cs, hc, hs⟩ := h
  exact ⟨cs, hc, RXs.mono xs _ R hE (fun o ho => hβ o (by simp [X.ment, ho])) hs⟩
 | .tup xs, c, R, hE, hβ, h => by
  simp only [RX] at h ⊢
  obtain ⟨cs, hc, hs⟩ := h
  exact ⟨cs, hc, RXt.mono xs _ R hE (fun o ho => hβ o (by simp [X.ment, ho])) hs⟩
 | .clo fn a b, c, R, hE, hβ, h => by
  simp only [RX] at h ⊢
  obtain ⟨hR, f, cc, hc, h1, h2⟩ := h
  exact ⟨hR, f, cc, hc, RXt.mono a _ [] (hE.sub (by simp)) (fun o ho => hβ o (by simp [X.ment, ho])) h1, RXt.mono b _ [] (hE.sub (by simp)) (fun o ho => hβ o (by simp [X.ment, ho])) h2⟩
theorem RXs.mono {E E' : Env} : ∀ (xs : List X) (cs : List Value) (R : List Nat), E.On E' R → (∀ o, X.ments o xs = true → E'.β o = E.β o) → RXs E xs cs R → RXs E' xs cs R
 | [], _, _, _, _, h => by simpa [RXs] using h
 | x :: r, cs, R, hE, hβ, h => by
  simp only [RXs] at h ⊢
  obtain ⟨c, cs', R₁, R₂, hc, hs, h1, h2, hR⟩ := h
  subst hR
  exact ⟨c, cs', R₁, R₂, hc, hs, RX.mono x c R₁ (hE.sub (fun _ h => mem_app_l h)) (fun o ho => hβ o (by simp [X.ments, ho])) h1,
   RXs.mono r cs' R₂ (hE.sub (fun _ h => mem_app_r h)) (fun o ho => hβ o (by simp [X.ments, ho])) h2, rfl⟩
theorem RXt.mono {E E' : Env} : ∀ (xs : List X) (cs : List Value) (R : List Nat), E.On E' R → (∀ o, X.ments o xs = true → E'.β o = E.β o) → RXt E xs cs R → RXt E' xs cs R
 | [], _, _, _, _, h => by simpa [RXt] using h
 | x :: r, cs, R, hE, hβ, h => by
  simp only [RXt] at h ⊢
  obtain ⟨c, cs', R₁, R₂, hc, h1, h2, hR⟩ := h
  subst hR
  exact ⟨c, cs', R₁, R₂, hc, RX.mono x c R₁ (hE.sub (fun _ h => mem_app_l h)) (fun o ho => hβ o (by simp [X.ments, ho])) h1,
   RXt.mono r cs' R₂ (hE.sub (fun _ h => mem_app_r h)) (fun o ho => hβ o (by simp [X.ments, ho])) h2, rfl⟩
theorem RF.mono {E E' : Env} : ∀ (xs : List X) (b off : Nat), E.On E' [] → RF E xs b off → RF E' xs b off
 | [], _, _, _, _ => by simp [RF]
 | x :: r, b, off, hE, h => by
  simp only [RF] at h ⊢
  obtain ⟨⟨u, hu, hs, hn, hx⟩, hr⟩ := h
  exact ⟨⟨u, hE.1 _ _ _ hu, hs, hn, RX.mono x u [] hE (fun o ho => by rw [X.ment_of_nr hn] at ho; cases ho) hx⟩, RF.mono r b (off + 1) hE hr⟩
theorem RFr.mono {E E' : Env} : ∀ (rs : List (List X)) (b off : Nat), E.On E' [] → RFr E rs b off → RFr E' rs b off
 | [], _, _, _, _ => by simp [RFr]
 | r :: rs, b, off, hE, h => by
  simp only [RFr] at h ⊢
  exact ⟨RF.mono r b off hE h.1, RFr.mono rs b _ hE h.2⟩
theorem RO.mono {E E' : Env} : ∀ (xs : List X) (cs : Array Value) (off : Nat) (R : List Nat), E.On E' R → (∀ o, X.ments o xs = true → E'.β o = E.β o) → RO E xs cs off R → RO E' xs cs off R
 | [], _, _, _, _, _, h => by simpa [RO] using h
 | x :: r, cs, off, R, hE, hβ, h => by
  simp only [RO] at h ⊢
  obtain ⟨u, R₁, R₂, hu, hs, h1, h2, hR⟩ := h
  subst hR
  exact ⟨u, R₁, R₂, hu, hs, RX.mono x u R₁ (hE.sub (fun _ h => mem_app_l h)) (fun o ho => hβ o (by simp [X.ments, ho])) h1,
   RO.mono r cs (off + 1) R₂ (hE.sub (fun _ h => mem_app_r h)) (fun o ho => hβ o (by simp [X.ments, ho])) h2, rfl⟩
theorem ROr.mono {E E' : Env} : ∀ (rs : List (List X)) (cs : Array Value) (off : Nat) (R : List Nat), E.On E' R → ROr E rs cs off R → ROr E' rs cs off R
 | [], _, _, _, _, h => by simpa [ROr] using h
 | r :: rs, cs, off, R, hE, h => by
  simp only [ROr] at h ⊢
  obtain ⟨R₁, R₂, hn, h1, h2, hR⟩ := h
  subst hR
  exact ⟨R₁, R₂, hn, RO.mono r cs off R₁ (hE.sub (fun _ h => mem_app_l h)) (fun o ho => by rw [X.ments_of_nrs hn] at ho; cases ho) h1,
   ROr.mono rs cs _ R₂ (hE.sub (fun _ h => mem_app_r h)) h2, rfl⟩
end

end Go.AW
/- Part of the abstract walk: states, what they say of a machine, and the rules for control. -/
namespace Go.AW
open Go

def look {α : Type} : List (Nat × α) → Nat → Option α
 | [], _ => none
 | (t, x) :: r, s => bif Nat.beq t s then some x else look r s

structure St where
 slots : List (Nat × X)
 objs : List (Nat × Obj)

def ROb (E : Env) (o : Nat) : Obj → List Nat → Prop
 | .cells xs, R => X.frees xs = true ∧ ∃ B cs ty, E.β o = some B ∧ E.w.heap[B.b]? = some (.cells cs ty (0, 0)) ∧ (∀ i, E.φ B.b i = none) ∧ B.off + xs.length ≤ cs.size ∧ RO E xs cs B.off [] ∧ R = [B.b]
 | .rows s rs, R => Uniform s rs ∧ ((E.β o = none ∧ rs = [] ∧ R = []) ∨ ∃ B cs ty R', E.β o = some B ∧ E.w.heap[B.b]? = some (.cells cs ty (0, 0)) ∧ (∀ i, E.φ B.b i = none) ∧
   rs.length ≤ B.cap ∧ B.off + B.cap * s ≤ cs.size ∧ ROr E rs cs B.off R' ∧ R = B.b :: R')
 | .tab es, R => ∃ B ents clock, E.β o = some B ∧ E.w.heap[B.b]? = some (.map ents clock) ∧ (∀ i, E.φ B.b i = none) ∧ ents.toList.map (fun e => (e.key, e.val)) = es ∧ R = [B.b]
 | .gone, R => R = []

inductive Own where
 | slot (s : Nat)
 | obj (o : Nat)
 deriving DecidableEq

structure Frm where
 n : Nat
 F : List Nat

structure Ctx where
 K : Nat → Prop
 w0 : World
 φ0 : Fz
 β0 : Nat → Option Blk
 fn : Frm
 ds : List Deferred

structure Inv (G : Ctx) (E : Env) (RR : Own → List Nat) (st : St) (a : Act) : Prop where
 frz : ∀ b i v, E.φ b i = some v → E.w.cell? ⟨b, i, none⟩ = some v
 slots : ∀ s x, look st.slots s = some x → RX E x (a.tmps.getD s undef) (RR (.slot s))
 objs : ∀ o ob, look st.objs o = some ob → ROb E o ob (RR (.obj o))
 nodup : ∀ p, (RR p).Nodup
 apart : ∀ p q, p ≠ q → ∀ b ∈ RR p, b ∉ RR q
 own : ∀ p b, b ∈ RR p → b < E.w.heap.size ∧ ¬ G.K b
 keep : ∀ b, G.K b → E.w.heap[b]? = G.w0.heap[b]?
 size : G.w0.heap.size ≤ E.w.heap.size
 small : ∀ b, G.K b → b < G.w0.heap.size
 os : E.w.os = G.w0.os
 tape : E.w.tape = G.w0.tape
 output : E.w.output = G.w0.output
 φ0 : ∀ b i v, G.φ0 b i = some v → E.φ b i = some v
 grow : ∀ b i v, E.φ b i = some v → G.φ0 b i = some v ∨ ¬ G.K b
 fixed : ∀ o, G.fn.F.elem o = true → E.β o = G.β0 o
 tmps : a.tmps.size = G.fn.n
 defers : a.defers = G.ds

def Holds (G : Ctx) (st : St) (a : Act) (w : World) : Prop := ∃ E RR, E.w = w ∧ Inv G E RR st a

def Post (G : Ctx) (Q : Exit → St → Prop) (e : Exit) (a : Act) (w : World) : Prop := ∃ st, Holds G st a w ∧ Q e st

def AWp (P : Program) (N : Frm) (c : Code) (st : St) (Q : Exit → St → Prop) : Prop :=
 ∀ G : Ctx, G.fn = N → ∀ a w, Holds G st a w → c.wp P (Post G Q) a w

def AOps (P : Program) (N : Frm) (all : Array Oper) (rest : List Oper) (st : St) (Q : Exit → St → Prop) : Prop :=
 ∀ G : Ctx, G.fn = N → ∀ a w, Holds G st a w → wpList P all (Post G Q) rest a w

def Then (K : St → Prop) (Q : Exit → St → Prop) : Exit → St → Prop
 | .normal, st => K st
 | e, st => Q e st

def InBlock (id : Nat) (Q : Exit → St → Prop) : Exit → St → Prop
 | .exit id', st => bif Nat.beq id' id then Q .normal st else Q (.exit id') st
 | e, st => Q e st

def opd (st : St) : Operand → Option X
 | .tmp t => look st.slots t
 | .const v => some (.v v)
 | .func f => some (.v (.func (.func f) #[] #[]))
 | .global _ => none

def Le (st st' : St) : Prop :=
 (∀ s x, look st'.slots s = some x → look st.slots s = some x) ∧ (∀ o x, look st'.objs o = some x → look st.objs o = some x)

theorem Le.refl (st : St) : Le st st := ⟨fun _ _ h => h, fun _ _ h => h⟩

theorem Le.holds {G : Ctx} {st st' : St} {a : Act} {w : World} (h : Le st st') (hh : Holds G st a w) : Holds G st' a w := by
 obtain ⟨E, RR, hw, hi⟩ := hh
 exact ⟨E, RR, hw, { hi with slots := fun s x hx => hi.slots s x (h.1 s x hx), objs := fun o x hx => hi.objs o x (h.2 o x hx) }⟩

def SubL {α : Type} (l l' : List (Nat × α)) : Prop := ∀ s x, look l' s = some x → look l s = some x
theorem SubL.nil {α : Type} {l : List (Nat × α)} : SubL l [] := fun _ _ h => by cases h
theorem SubL.cons {α : Type} {l l' : List (Nat × α)} {s : Nat} {x : α} (h : look l s = some x) (hr : SubL l l') : SubL l ((s, x) :: l') := by
 intro t y hy
 unfold look at hy
 cases hb : Nat.beq s t with
 | true => rw [hb] at hy; simp at hy; subst hy; rw [Nat.eq_of_beq_eq_true hb] at h; exact h
 | false => rw [hb] at hy; exact hr t y hy
theorem Le.mk {st : St} {sl : List (Nat × X)} {ob : List (Nat × Obj)} (h : SubL st.slots sl) (h' : SubL st.objs ob) : Le st ⟨sl, ob⟩ := ⟨h, h'⟩

section control
variable {P : Program} {N : Frm} {st st' : St} {Q Q' : Exit → St → Prop}

theorem Post.mono {G : Ctx} {e : Exit} {a : Act} {w : World} (h : ∀ st, Q e st → Q' e st) (hp : Post G Q e a w) : Post G Q' e a w :=
 let ⟨st, hh, hq⟩ := hp; ⟨st, hh, h st hq⟩

theorem AWp.mono {c : Code} (h : AWp P N c st Q) (hq : ∀ e st, Q e st → Q' e st) : AWp P N c st Q' :=
 fun G hn a w hh => wp_mono (h G hn a w hh) fun e _ _ hp => Post.mono (hq e) hp

theorem AWp.le {c : Code} (hl : Le st st') (h : AWp P N c st' Q) : AWp P N c st Q :=
 fun G hn a w hh => h G hn a w (hl.holds hh)

theorem AOps.le {all : Array Oper} {rest : List Oper} (hl : Le st st') (h : AOps P N all rest st' Q) : AOps P N all rest st Q :=
 fun G hn a w hh => h G hn a w (hl.holds hh)

theorem AWp.skip (h : Q .normal st) : AWp P N .skip st Q := fun _ _ _ _ hh => wp_skip ⟨st, hh, h⟩
theorem AWp.exit {id : Nat} (h : Q (.exit id) st) : AWp P N (.exit id) st Q := fun _ _ _ _ hh => wp_exit ⟨st, hh, h⟩
theorem AWp.ret (h : Q .ret st) : AWp P N .ret st Q := fun _ _ _ _ hh => wp_ret ⟨st, hh, h⟩

theorem AWp.seq {x y : Code} (h : AWp P N x st (Then (fun st' => AWp P N y st' Q) Q)) : AWp P N (.seq x y) st Q := by
 intro G hn a w hh
 refine wp_seq (wp_mono (h G hn a w hh) ?_)
 rintro e a' w' ⟨st', hh', hq⟩
 cases e <;> first | exact hq G hn a' w' hh' | exact ⟨st', hh', hq⟩

theorem AWp.block {id : Nat} {c : Code} (h : AWp P N c st (InBlock id Q)) : AWp P N (.block id c) st Q := by
 intro G hn a w hh
 refine wp_block (wp_mono (h G hn a w hh) ?_)
 rintro e a' w' ⟨st', hh', hq⟩
 cases e with
 | exit id' =>
  simp only [InBlock] at hq
  simp only [Exit.inBlock]
  cases hb : Nat.beq id' id with
  | true =>
   rw [hb] at hq
   rw [if_pos (Nat.eq_of_beq_eq_true hb)]
   exact ⟨st', hh', hq⟩
  | false =>
   rw [hb] at hq
   rw [if_neg (Nat.ne_of_beq_eq_false hb)]
   exact ⟨st', hh', hq⟩
 | _ => exact ⟨st', hh', hq⟩

theorem Inv.eval {G : Ctx} {E : Env} {RR : Own → List Nat} {a : Act} (hi : Inv G E RR st a) {o : Operand} {x : X} (h : opd st o = some x) : ∃ R, RX E x (a.eval o) R := by
 cases o with
 | tmp t => exact ⟨_, hi.slots t x h⟩
 | const v => simp only [opd, Option.some.injEq] at h; subst h; exact ⟨[], by simp [RX, Act.eval]⟩
 | func f => simp only [opd, Option.some.injEq] at h; subst h; exact ⟨[], by simp [RX, Act.eval]⟩
 | global g => cases h

theorem Inv.val {G : Ctx} {E : Env} {RR : Own → List Nat} {a : Act} (hi : Inv G E RR st a) {o : Operand} {u : Value} (h : opd st o = some (.v u)) : a.eval o = u := by
 obtain ⟨R, hR⟩ := hi.eval h
 simp only [RX] at hR
 exact hR.1

theorem AWp.cond {c : Operand} {x y : Code} {b : Bool} (hc : opd st c = some (.v (.bool b))) (ht : b = true → AWp P N x st Q) (hf : b = false → AWp P N y st Q) :
  AWp P N (.cond c x y) st Q := by
 intro G hn a w hh
 obtain ⟨E, RR, rfl, hi⟩ := hh
 exact wp_cond_split (hi.val hc) (fun h => ht h G hn a E.w ⟨E, RR, rfl, hi⟩) (fun h => hf h G hn a E.w ⟨E, RR, rfl, hi⟩)

theorem wp_loop_ix {c : Code} {ι : Type} {R : Exit → Act → World → Prop} (J : ι → Act → World → Prop) (μ : ι → Nat)
  (round : ∀ i a w, J i a w → c.wp P (Exit.then (fun a' w' => ∃ j, J j a' w' ∧ μ j < μ i) R) a w) {i : ι} {a : Act} {w : World} (h₀ : J i a w) : (Code.loop c).wp P R a w := by
 intro b k cs
 have key : ∀ n i a w, μ i = n → J i a w →
   ∃ e a' w', R e a' w' ∧ Arrives P (lone (b.at a (.code c :: .inLoop c :: k)) cs w) b k cs e a' w' := by
  intro n
  induction n using Nat.strongRecOn with
  | _ n ih =>
   intro i a w hn hI
   obtain ⟨e, a₁, w₁, hq, harr⟩ := round i a w hI b (.inLoop c :: k) cs
   cases e with
   | normal =>
    obtain ⟨j, hI₁, hlt⟩ := hq
    obtain ⟨e₂, a₂, w₂, hq₂, harr₂⟩ := ih (μ j) (hn ▸ hlt) j a₁ w₁ rfl hI₁
    exact ⟨e₂, a₂, w₂, hq₂, .of_steps (Steps.trans harr (.one step_inLoop)) harr₂⟩
   | exit id => exact ⟨_, a₁, w₁, hq, .pass (x := .inLoop c) rfl (fun _ _ => .inl (by simp)) harr⟩
   | goto l => exact ⟨_, a₁, w₁, hq, .pass (x := .inLoop c) rfl (fun _ _ => .inl (by simp)) harr⟩
   | ret => exact ⟨_, a₁, w₁, hq, .pass (x := .inLoop c) rfl (fun _ _ => .inl (by simp)) harr⟩
   | panic ch => exact ⟨_, a₁, w₁, hq, .pass (x := .inLoop c) rfl (fun _ _ => .inl (by simp)) harr⟩
   | outgrown => exact ⟨_, a₁, w₁, hq, .pass (x := .inLoop c) rfl (fun _ _ => .inl (by simp)) harr⟩
 obtain ⟨e, a', w', hq, harr⟩ := key _ i a w rfl h₀
 exact ⟨e, a', w', hq, .of_steps (.one step_loop) harr⟩

theorem AWp.loop {ι : Type} {c : Code} (S : ι → St) (I : ι → Prop) (μ : ι → Nat) (i : ι) (hi : I i) (hs : Le st (S i))
  (round : ∀ i, I i → AWp P N c (S i) (Then (fun st' => ∃ j, I j ∧ μ j < μ i ∧ Le st' (S j)) Q)) : AWp P N (.loop c) st Q := by
 intro G hn a w hh
 refine wp_loop_ix (fun i a w => I i ∧ Holds G (S i) a w) μ ?_ ⟨hi, hs.holds hh⟩
 rintro i a w ⟨hI, hh⟩
 refine wp_mono (round i hI G hn a w hh) ?_
 rintro e a' w' ⟨st', hh', hq⟩
 cases e with
 | normal => obtain ⟨j, hj, hlt, hle⟩ := hq; exact ⟨j, ⟨hj, hle.holds hh'⟩, hlt⟩
 | _ => exact ⟨st', hh', hq⟩

theorem AWp.region {id : Nat} {l : List Oper} (h : AOps P N l.toArray l st Q) : AWp P N (.region id l.toArray false) st Q :=
 fun G hn a w hh => wp_region_lit (h G hn a w hh)

theorem AOps.nil {all : Array Oper} (h : Q .normal st) : AOps P N all [] st Q := fun _ _ _ _ hh => ⟨st, hh, h⟩

end control
end Go.AW
/- Part of the abstract walk: operations that leave memory as it is. -/
namespace Go.AW
open Go

def TY.shape (P : Program) (t : TypeId) : Option (Option Nat) :=
 match P.underlying t, P.info? t with
 | some (.struct _), some i => some (some i.size)
 | some (.array _ _), some i => some (some i.size)
 | some _, some _ => some none
 | _, _ => none
def TY.slice (P : Program) (t : TypeId) : Option (Nat × Nat × Nat) :=
 match P.underlying t with
 | some (.slice e) => (P.info? e).map fun i => (e, i.size, i.bytes)
 | _ => none
def TY.array (P : Program) (t : TypeId) : Option (Nat × Nat × Nat) :=
 match P.underlying t with
 | some (.array n e) => (P.info? e).map fun i => (n, e, i.size)
 | _ => none
def TY.fld (P : Program) (t : TypeId) (f : Nat) : Option (Nat × TypeId) :=
 match P.underlying t with
 | some (.struct fs) => match fs[f]? with
  | some fd => match P.info? fd.type with
   | some i => bif Nat.beq i.size 0 then none else some (fd.offset, fd.type)
   | none => none
  | none => none
 | _ => none
def TY.zero (P : Program) (t : TypeId) : Option (List Value) := (P.info? t).bind fun i => i.zero.map (·.cells.toList)
def TY.isInt (P : Program) (t : TypeId) : Option IntKind := match P.underlying t with | some (.int k) => some k | _ => none

def St.put (st : St) (d : Nat) (x : X) : St := { st with slots := (d, x) :: st.slots }

mutual
theorem RX.free {E : Env} : ∀ {x : X} {c : Value} {R : List Nat}, x.free = true → RX E x c R → R = []
 | .v _, _, _, _, h => by simp only [RX] at h; exact h.2
 | .no, _, _, _, h => by simpa [RX] using h
 | .fz .., _, _, _, h => by simp only [RX] at h; exact h.1
 | .ptr .., _, _, _, h => by simp only [RX] at h; exact h.1
 | .slc .., _, _, _, h => by simp only [RX] at h; exact h.1
 | .mref _, _, _, _, h => by simp only [RX] at h; exact h.1
 | .fp .., _, _, _, h => by simp only [RX] at h; exact h.1
 | .clo .., _, _, _, h => by simp only [RX] at h; exact h.1
 | .uni .., _, _, hf, _ => by simp [X.free] at hf
 | .agg xs, _, _, hf, h => by
  simp only [RX] at h
  obtain ⟨_, _, h⟩ := h
  exact RXs.free (xs := xs) hf h
 | .tup xs, _, _, hf, h => by
  simp only [RX] at h
  obtain ⟨_, _, h⟩ := h
  exact RXt.free (xs := xs) hf h
theorem RXs.free {E : Env} : ∀ {xs : List X} {cs : List Value} {R : List Nat}, X.frees xs = true → RXs E xs cs R → R = []
 | [], _, _, _, h => by simp only [RXs] at h; exact h.2
 | x :: r, _, _, hf, h => by
  simp only [RXs] at h
  obtain ⟨c, cs', R₁, R₂, _, _, h1, h2, hR⟩ := h
  simp only [X.frees, Bool.and_eq_true] at hf
  rw [hR, RX.free hf.1 h1, RXs.free hf.2 h2]; rfl
theorem RXt.free {E : Env} : ∀ {xs : List X} {cs : List Value} {R : List Nat}, X.frees xs = true → RXt E xs cs R → R = []
 | [], _, _, _, h => by simp only [RXt] at h; exact h.2
 | x :: r, _, _, hf, h => by
  simp only [RXt] at h
  obtain ⟨c, cs', R₁, R₂, _, h1, h2, hR⟩ := h
  simp only [X.frees, Bool.and_eq_true] at hf
  rw [hR, RX.free hf.1 h1, RXt.free hf.2 h2]; rfl
end

theorem RO.free {E : Env} : ∀ {xs : List X} {cs : Array Value} {off : Nat} {R : List Nat}, X.frees xs = true → RO E xs cs off R → R = []
 | [], _, _, _, _, h => by simpa [RO] using h
 | x :: r, _, _, _, hf, h => by
  simp only [RO] at h
  obtain ⟨c, R₁, R₂, _, _, h1, h2, hR⟩ := h
  simp only [X.frees, Bool.and_eq_true] at hf
  rw [hR, RX.free hf.1 h1, RO.free hf.2 h2]; rfl

def upd (RR : Own → List Nat) (p : Own) (R : List Nat) : Own → List Nat := fun q => if q = p then R else RR q

theorem getD_put {a : Act} {d : Nat} {u : Value} (hd : d < a.tmps.size) : (a.put (some d) u).tmps.getD d undef = u := by
 simp [Act.put, Array.getD, hd]
theorem getD_put_ne {a : Act} {d s : Nat} {u : Value} (h : d ≠ s) : (a.put (some d) u).tmps.getD s undef = a.tmps.getD s undef := by
 simp only [Act.put, Array.getD_eq_getD_getElem?, Array.getElem?_setIfInBounds_ne h]

section
variable {P : Program} {N : Frm} {G : Ctx} {E : Env} {RR : Own → List Nat} {st : St} {a : Act} {Q : Exit → St → Prop}

theorem Inv.put (hi : Inv G E RR st a) {d : Nat} {x : X} {u : Value} {R : List Nat} (hd : d < G.fn.n) (hx : RX E x u R) (hn : R.Nodup)
  (hR : ∀ b ∈ R, b < E.w.heap.size ∧ ¬ G.K b ∧ ∀ p, p ≠ .slot d → b ∉ RR p) : Inv G E (upd RR (.slot d) R) (st.put d x) (a.put (some d) u) := by
 refine { hi with slots := ?_, objs := ?_, nodup := ?_, apart := ?_, own := ?_, tmps := ?_, defers := ?_ }
 ·intro s y hy
  simp only [St.put, look] at hy
  cases hb : Nat.beq d s with
  | true =>
   have := Nat.eq_of_beq_eq_true hb
   subst this
   rw [hb] at hy
   simp only [cond_true, Option.some.injEq] at hy
   subst hy
   rw [getD_put (by rw [hi.tmps]; exact hd)]
   simpa [upd] using hx
  | false =>
   have hne := Nat.ne_of_beq_eq_false hb
   rw [hb] at hy
   rw [getD_put_ne hne]
   have : upd RR (.slot d) R (.slot s) = RR (.slot s) := by simp [upd, Ne.symm hne]
   rw [this]
   exact hi.slots s y hy
 ·intro o ob ho
  have : upd RR (.slot d) R (.obj o) = RR (.obj o) := by simp [upd]
  rw [this]; exact hi.objs o ob ho
 ·intro p
  unfold upd
  split
  ·exact hn
  ·exact hi.nodup p
 ·intro p q hpq b hb
  unfold upd at hb ⊢
  split at hb
  ·rename_i hp
   subst hp
   rw [if_neg (Ne.symm hpq)]
   exact (hR b hb).2.2 q (Ne.symm hpq)
  ·split
   ·rename_i hp hq
    subst hq
    intro hb'
    exact (hR b hb').2.2 p hpq hb
   ·exact hi.apart p q hpq b hb
 ·intro p b hb
  unfold upd at hb
  split at hb
  ·exact ⟨(hR b hb).1, (hR b hb).2.1⟩
  ·exact hi.own p b hb
 ·simp [Act.put, hi.tmps]
 ·simp [Act.put, hi.defers]

theorem Inv.put0 (hi : Inv G E RR st a) {d : Nat} {x : X} {u : Value} (hd : d < G.fn.n) (hx : RX E x u []) : Inv G E (upd RR (.slot d) []) (st.put d x) (a.put (some d) u) :=
 hi.put hd hx List.nodup_nil (fun _ hb => by cases hb)

def Yields (P : Program) (N : Frm) (st : St) (o : Oper) (x : X) : Prop :=
 ∀ (G : Ctx) (E : Env) (RR : Own → List Nat) (a : Act), G.fn = N → Inv G E RR st a → ∃ u, (execOp a.eval o).run P E.w = .ok (.value u) E.w ∧ RX E x u []

theorem AOps.val {all : Array Oper} {rest : List Oper} {d : Nat} {op : Op} {ty : TypeId} {pos : String} {af : Array Edge} {x : X}
  (hy : Yields P N st ⟨some d, op, ty, pos, af, none⟩ x) (hd : d < N.n) (k : AOps P N all rest (st.put d x) Q) : AOps P N all (⟨some d, op, ty, pos, af, none⟩ :: rest) st Q := by
 intro G hn a w hh
 obtain ⟨E, RR, rfl, hi⟩ := hh
 obtain ⟨u, hr, hx⟩ := hy G E RR a hn hi
 refine wpList_plain rfl fun K hK => ?_
 simp only [Oper.wp, hr, Oper.upon_value]
 exact hK _ _ (k G hn _ _ ⟨E, _, rfl, hi.put0 (hn ▸ hd) hx⟩)

theorem AOps.split {all : Array Oper} {rest : List Oper} {d : Nat} {b : Bool} (hx : look st.slots d = some (.v (.bool b)))
  (ht : b = true → AOps P N all rest (st.put d (.v (.bool true))) Q) (hf : b = false → AOps P N all rest (st.put d (.v (.bool false))) Q) : AOps P N all rest st Q := by
 have : Le st (st.put d (.v (.bool b))) := ⟨SubL.cons hx (fun _ _ h => h), fun _ _ h => h⟩
 cases b
 ·exact (hf rfl).le this
 ·exact (ht rfl).le this

theorem AOps.guardRun {all : Array Oper} {rest : List Oper} {dst : Option Nat} {op : Op} {ty : TypeId} {pos : String} {af : Array Edge} {j d : Nat} {want : Bool}
  (hj : (all[j]?).bind (·.dst) = some d) (hd : d < N.n) (hx : look st.slots d = some (.v (.bool want)))
  (k : AOps P N all (⟨dst, op, ty, pos, af, none⟩ :: rest) st Q) : AOps P N all (⟨dst, op, ty, pos, af, some (j, want)⟩ :: rest) st Q := by
 intro G hn a w hh
 have hk := k G hn a w hh
 obtain ⟨E, RR, rfl, hi⟩ := hh
 have hs := hi.slots d _ hx
 simp only [RX] at hs
 have hsz : d < a.tmps.size := by rw [hi.tmps, hn]; exact hd
 have hv : a.tmps[d]? = some (.bool want) := by
  have := hs.1
  simp only [Array.getD, hsz, dif_pos] at this
  rw [Array.getElem?_eq_getElem hsz]
  exact congrArg some this
 have hw : Region.wanted ⟨dst, op, ty, pos, af, some (j, want)⟩ (yielded all a.tmps) = true := by
  simp [Region.wanted, yielded, hj, hv]
 unfold wpList at hk ⊢
 rw [if_pos hw]
 rw [if_pos (by simp [Region.wanted])] at hk
 exact hk

end
end Go.AW
/- Part of the abstract walk: the values of operations that leave memory as it is. -/
namespace Go.AW
open Go

section
variable {P : Program} {N : Frm} {st : St} {dst : Option Nat} {ty : TypeId} {pos : String} {af : Array Edge} {g : Option (Nat × Bool)}

theorem run_then {α β : Type} {s : Sem α} {f : α → Sem β} {w w' : World} {u : α} {r : Result β} (h : s.run P w = .ok u w') (h' : (f u).run P w' = r) : (s.bind f).run P w = r := by
 rw [show (s.bind f) = (s >>= f) from rfl, Sem.run_bind, h]; exact h'

theorem run_v {s : Sem Value} {w w' : World} {u : Value} (h : s.run P w = .ok u w') : (do let x ← s; pure (Next.value x) : Sem Next).run P w = .ok (.value u) w' :=
 run_then h rfl

theorem run_u {s : Sem Unit} {w w' : World} (h : s.run P w = .ok () w') : (do s; pure Next.skip : Sem Next).run P w = .ok .skip w' :=
 run_then h rfl

theorem Y.move {x : Operand} {y : X} (hx : opd st x = some y) (hf : y.free = true) : Yields P N st ⟨dst, .move x, ty, pos, af, g⟩ y := by
 intro G E RR a _ hi
 obtain ⟨R, h⟩ := hi.eval hx
 have := RX.free hf h
 subst this
 exact ⟨_, rfl, h⟩
theorem Y.assign {x : Operand} {y : X} (hx : opd st x = some y) (hf : y.free = true) : Yields P N st ⟨dst, .assign x, ty, pos, af, g⟩ y := by
 intro G E RR a _ hi
 obtain ⟨R, h⟩ := hi.eval hx
 have := RX.free hf h
 subst this
 exact ⟨_, rfl, h⟩

theorem Y.pick {c x y : Operand} {b : Bool} {z : X} (hc : opd st c = some (.v (.bool b))) (hz : opd st (if b then x else y) = some z) (hf : z.free = true) :
  Yields P N st ⟨dst, .pick c x y, ty, pos, af, g⟩ z := by
 intro G E RR a _ hi
 obtain ⟨R, h⟩ := hi.eval hz
 have := RX.free hf h
 subst this
 refine ⟨a.eval (if b then x else y), ?_, h⟩
 have hc' := hi.val hc
 simp only [execOp, hc']
 cases b <;> rfl

theorem Y.bin {op : BinOp} {t t' : TypeId} {x y : Operand} {u v r : Value} (hx : opd st x = some (.v u)) (hy : opd st y = some (.v v))
  (hr : ∀ w, (do eqGuard op t x y u v; binOp op t u v : Sem Value).run P w = .ok r w) : Yields P N st ⟨dst, .binOp op t x y t', ty, pos, af, g⟩ (.v r) := by
 intro G E RR a _ hi
 refine ⟨r, ?_, by simp [RX]⟩
 show (do let x ← (do eqGuard op t x y (a.eval x) (a.eval y); binOp op t (a.eval x) (a.eval y) : Sem Value); pure (Next.value x) : Sem Next).run P E.w = _
 rw [hi.val hx, hi.val hy]
 exact run_v (hr _)

section ints
variable {t t' : TypeId} {x y : Operand} {k : IntKind} {a b r : Int}
theorem Y.add (hx : opd st x = some (.v (.int k a))) (hy : opd st y = some (.v (.int k b))) (hr : k.wrap (a + b) = r) : Yields P N st ⟨dst, .binOp .add t x y t', ty, pos, af, g⟩ (.v (.int k r)) :=
 Y.bin hx hy fun w => by subst hr; simp [eqGuard, binOp, Op.intArith]
theorem Y.sub (hx : opd st x = some (.v (.int k a))) (hy : opd st y = some (.v (.int k b))) (hr : k.wrap (a - b) = r) : Yields P N st ⟨dst, .binOp .sub t x y t', ty, pos, af, g⟩ (.v (.int k r)) :=
 Y.bin hx hy fun w => by subst hr; simp [eqGuard, binOp, Op.intArith]
theorem Y.mul (hx : opd st x = some (.v (.int k a))) (hy : opd st y = some (.v (.int k b))) (hr : k.wrap (a * b) = r) : Yields P N st ⟨dst, .binOp .mul t x y t', ty, pos, af, g⟩ (.v (.int k r)) :=
 Y.bin hx hy fun w => by subst hr; simp [eqGuard, binOp, Op.intArith]
theorem Y.quo (hx : opd st x = some (.v (.int k a))) (hy : opd st y = some (.v (.int k b))) (h0 : b ≠ 0) (hr : k.wrap (a.tdiv b) = r) : Yields P N st ⟨dst, .binOp .quo t x y t', ty, pos, af, g⟩ (.v (.int k r)) :=
 Y.bin hx hy fun w => by subst hr; simp [eqGuard, binOp, Op.intDiv, h0]
theorem Y.rem (hx : opd st x = some (.v (.int k a))) (hy : opd st y = some (.v (.int k b))) (h0 : b ≠ 0) (hr : a.tmod b = r) : Yields P N st ⟨dst, .binOp .rem t x y t', ty, pos, af, g⟩ (.v (.int k r)) :=
 Y.bin hx hy fun w => by subst hr; simp [eqGuard, binOp, Op.intDiv, h0]
theorem Y.and (hx : opd st x = some (.v (.int k a))) (hy : opd st y = some (.v (.int k b))) (hr : k.wrap (BitVec.ofInt k.bits a &&& BitVec.ofInt k.bits b).toNat = r) : Yields P N st ⟨dst, .binOp .and t x y t', ty, pos, af, g⟩ (.v (.int k r)) :=
 Y.bin hx hy fun w => by subst hr; simp [eqGuard, binOp, Op.intBits]
theorem Y.shr {k' : IntKind} (hx : opd st x = some (.v (.int k a))) (hy : opd st y = some (.v (.int k' b))) (h0 : 0 ≤ b) (hr : a.fdiv (2 ^ (min b.toNat k.bits)) = r) : Yields P N st ⟨dst, .binOp .shr t x y t', ty, pos, af, g⟩ (.v (.int k r)) :=
 Y.bin hx hy fun w => by subst hr; simp [eqGuard, binOp, Op.shift, Int.not_lt.2 h0]
theorem Y.lss (hx : opd st x = some (.v (.int k a))) (hy : opd st y = some (.v (.int k b))) : Yields P N st ⟨dst, .binOp .lss t x y t', ty, pos, af, g⟩ (.v (.bool (decide (a < b)))) :=
 Y.bin hx hy fun w => by simp [eqGuard, binOp, Op.intCmp]
theorem Y.leq (hx : opd st x = some (.v (.int k a))) (hy : opd st y = some (.v (.int k b))) : Yields P N st ⟨dst, .binOp .leq t x y t', ty, pos, af, g⟩ (.v (.bool (decide (a ≤ b)))) :=
 Y.bin hx hy fun w => by simp [eqGuard, binOp, Op.intCmp]
theorem Y.gtr (hx : opd st x = some (.v (.int k a))) (hy : opd st y = some (.v (.int k b))) : Yields P N st ⟨dst, .binOp .gtr t x y t', ty, pos, af, g⟩ (.v (.bool (decide (b < a)))) :=
 Y.bin hx hy fun w => by simp [eqGuard, binOp, Op.intCmp]
theorem Y.geq (hx : opd st x = some (.v (.int k a))) (hy : opd st y = some (.v (.int k b))) : Yields P N st ⟨dst, .binOp .geq t x y t', ty, pos, af, g⟩ (.v (.bool (decide (b ≤ a)))) :=
 Y.bin hx hy fun w => by simp [eqGuard, binOp, Op.intCmp]
theorem Y.eql (hx : opd st x = some (.v (.int k a))) (hy : opd st y = some (.v (.int k b))) : Yields P N st ⟨dst, .binOp .eql t x y t', ty, pos, af, g⟩ (.v (.bool (decide (a = b)))) :=
 Y.bin hx hy fun w => by simp [eqGuard, binOp, Op.intCmp, BEq.beq]
theorem Y.neq (hx : opd st x = some (.v (.int k a))) (hy : opd st y = some (.v (.int k b))) : Yields P N st ⟨dst, .binOp .neq t x y t', ty, pos, af, g⟩ (.v (.bool (decide (a ≠ b)))) :=
 Y.bin hx hy fun w => by simp [eqGuard, binOp, Op.intCmp, bne, BEq.beq]
end ints

theorem run_equal_bool {t : TypeId} {a b : Bool} (ht : P.underlying t = some .bool) (w : World) : (Op.equal t (.bool a) (.bool b)).run P w = .ok (a == b) w := by
 show (Op.equalIn (9999 + 1) t (.bool a) (.bool b)).run P w = _
 generalize 9999 = d
 simp [Op.equalIn, run_underlying ht]

theorem Y.eqlB {t t' : TypeId} {x y : Operand} {a b : Bool} (ht : P.underlying t = some .bool) (hx : opd st x = some (.v (.bool a))) (hy : opd st y = some (.v (.bool b))) :
  Yields P N st ⟨dst, .binOp .eql t x y t', ty, pos, af, g⟩ (.v (.bool (a == b))) :=
 Y.bin hx hy fun w => by
  show (do let z ← Op.equal t (.bool a) (.bool b); pure (Value.bool z) : Sem Value).run P w = _
  exact run_then (run_equal_bool ht w) rfl
theorem Y.un {op : UnOp} {t : TypeId} {x : Operand} {u r : Value} (hx : opd st x = some (.v u)) (hr : ∀ w, (Op.unary op u).run P w = .ok r w) : Yields P N st ⟨dst, .unOp op t x, ty, pos, af, g⟩ (.v r) := by
 intro G E RR a _ hi
 refine ⟨r, ?_, by simp [RX]⟩
 show (do let x ← Op.unary op (a.eval x); pure (Next.value x) : Sem Next).run P E.w = _
 rw [hi.val hx]
 exact run_v (hr _)
theorem Y.not {t : TypeId} {x : Operand} {b : Bool} (hx : opd st x = some (.v (.bool b))) : Yields P N st ⟨dst, .unOp .not t x, ty, pos, af, g⟩ (.v (.bool (!b))) :=
 Y.un hx fun _ => rfl
theorem Y.conv {s d : TypeId} {x : Operand} {k k' : IntKind} {n r : Int} (hs : TY.isInt P s = some k') (hd : TY.isInt P d = some k) (hx : opd st x = some (.v (.int k' n))) (hr : k.wrap n = r) :
  Yields P N st ⟨dst, .convert s d x, ty, pos, af, g⟩ (.v (.int k r)) := by
 intro G E RR a _ hi
 refine ⟨.int k r, ?_, by simp [RX]⟩
 show (do let x ← convert s d (a.eval x); pure (Next.value x) : Sem Next).run P E.w = _
 rw [hi.val hx]
 refine run_v ?_
 have h1 : P.underlying s = some (.int k') := by unfold TY.isInt at hs; split at hs <;> simp_all
 have h2 : P.underlying d = some (.int k) := by unfold TY.isInt at hd; split at hd <;> simp_all
 simp [convert, run_underlying h1, run_underlying h2, Conv.intToInt, hr]

end
end Go.AW
/- Part of the abstract walk: reading memory and values. -/
namespace Go.AW
open Go

theorem cell_of_heap {w : World} {b i : Nat} {cs : Array Value} {ty : TypeId} {fr : Nat × Nat} (h : w.heap[b]? = some (.cells cs ty fr)) : w.cell? ⟨b, i, none⟩ = cs[i]? := by
 simp [World.cell?, h]

theorem add_mk (b off n : Nat) : (⟨b, off, none⟩ : Addr).add n = ⟨b, off + n, none⟩ := by
 unfold Addr.add
 split
 ·rename_i h; subst h; rfl
 ·rfl

section
variable {E : Env}

theorem RF.get : ∀ {row : List X} {b off k : Nat} {x : X}, RF E row b off → row[k]? = some x → ∃ u, E.φ b (off + k) = some u ∧ Single u ∧ x.nr = true ∧ RX E x u []
 | [], _, _, _, _, _, h => by simp at h
 | y :: r, b, off, 0, x, h, hx => by
  simp only [RF] at h
  simp only [List.getElem?_cons_zero, Option.some.injEq] at hx
  subst hx
  exact h.1
 | y :: r, b, off, k + 1, x, h, hx => by
  simp only [RF] at h
  obtain ⟨u, hu⟩ := RF.get (k := k) h.2 (by simpa using hx)
  exact ⟨u, by rw [show off + (k + 1) = off + 1 + k by omega]; exact hu⟩

theorem RF.drop : ∀ {row : List X} {b off : Nat} (k : Nat), RF E row b off → RF E (row.drop k) b (off + k)
 | [], _, _, _, _ => by simp [RF]
 | y :: r, b, off, 0, h => h
 | y :: r, b, off, k + 1, h => by
  simp only [RF] at h
  simp only [List.drop_succ_cons]
  rw [show off + (k + 1) = off + 1 + k by omega]
  exact RF.drop k h.2
theorem RF.take : ∀ {row : List X} {b off : Nat} (k : Nat), RF E row b off → RF E (row.take k) b off
 | [], _, _, _, _ => by simp [RF]
 | y :: r, b, off, 0, h => by simp [RF]
 | y :: r, b, off, k + 1, h => by
  simp only [RF, List.take_succ_cons] at h ⊢
  exact ⟨h.1, RF.take k h.2⟩

theorem RF.cells : ∀ {row : List X} {b off : Nat}, RF E row b off → ∃ cs : List Value, cs.length = row.length ∧ (∀ j v, cs[j]? = some v → E.φ b (off + j) = some v) ∧ RXs E row cs []
 | [], _, _, _ => ⟨[], rfl, by simp, by simp [RXs]⟩
 | y :: r, b, off, h => by
  simp only [RF] at h
  obtain ⟨⟨u, hu, hs, _, hx⟩, hr⟩ := h
  obtain ⟨cs, hl, hc, hxs⟩ := RF.cells hr
  refine ⟨u :: cs, by simp [hl], ?_, ?_⟩
  ·intro j v hv
   cases j with
   | zero => simp at hv; subst hv; exact hu
   | succ j => rw [show off + (j + 1) = off + 1 + j by omega]; exact hc j v (by simpa using hv)
  ·simp only [RXs]
   exact ⟨u, cs, [], [], rfl, hs, hx, hxs, rfl⟩

theorem RFr.get : ∀ {rows : List (List X)} {s b off i : Nat} {row : List X}, Uniform s rows → RFr E rows b off → rows[i]? = some row → RF E row b (off + i * s)
 | [], _, _, _, _, _, _, _, h => by simp at h
 | r :: rs, s, b, off, 0, row, hu, h, hr => by
  simp only [RFr] at h
  simp only [List.getElem?_cons_zero, Option.some.injEq] at hr
  subst hr
  simpa using h.1
 | r :: rs, s, b, off, i + 1, row, hu, h, hr => by
  simp only [RFr] at h
  have h1 := hu r (by simp)
  have := RFr.get (i := i) (s := s) (fun q hq => hu q (by simp [hq])) h.2 (by simpa using hr)
  rw [h1] at this
  rw [show off + (i + 1) * s = off + s + i * s by rw [Nat.add_mul]; omega]
  exact this

theorem RFr.drop : ∀ {rows : List (List X)} {s b off : Nat} (k : Nat), Uniform s rows → k ≤ rows.length → RFr E rows b off → RFr E (rows.drop k) b (off + k * s)
 | _, _, _, _, 0, _, _, h => by simpa using h
 | [], _, _, _, k + 1, _, hk, _ => by simp at hk
 | r :: rs, s, b, off, k + 1, hu, hk, h => by
  simp only [RFr] at h
  have h1 := hu r (by simp)
  rw [h1] at h
  simp only [List.drop_succ_cons]
  rw [show off + (k + 1) * s = off + s + k * s by rw [Nat.add_mul]; omega]
  exact RFr.drop k (fun q hq => hu q (by simp [hq])) (by simpa using hk) h.2
theorem RFr.take : ∀ {rows : List (List X)} {b off : Nat} (k : Nat), RFr E rows b off → RFr E (rows.take k) b off
 | [], _, _, _, _ => by simp [RFr]
 | _ :: _, _, _, 0, _ => by simp [RFr]
 | r :: rs, b, off, k + 1, h => by
  simp only [RFr, List.take_succ_cons] at h ⊢
  exact ⟨h.1, RFr.take k h.2⟩

theorem Uniform.drop {s : Nat} {rows : List (List X)} (k : Nat) (h : Uniform s rows) : Uniform s (rows.drop k) := fun r hr => h r (List.mem_of_mem_drop hr)
theorem Uniform.take {s : Nat} {rows : List (List X)} (k : Nat) (h : Uniform s rows) : Uniform s (rows.take k) := fun r hr => h r (List.mem_of_mem_take hr)

theorem RO.get : ∀ {xs : List X} {cs : Array Value} {off k : Nat} {R : List Nat} {x : X}, RO E xs cs off R → xs[k]? = some x →
  ∃ u R₁, cs[off + k]? = some u ∧ Single u ∧ RX E x u R₁ ∧ ∀ b ∈ R₁, b ∈ R
 | [], _, _, _, _, _, _, h => by simp at h
 | y :: r, cs, off, 0, R, x, h, hx => by
  simp only [RO] at h
  simp only [List.getElem?_cons_zero, Option.some.injEq] at hx
  subst hx
  obtain ⟨u, R₁, R₂, hu, hs, h1, _, rfl⟩ := h
  exact ⟨u, R₁, hu, hs, h1, fun b hb => mem_app_l hb⟩
 | y :: r, cs, off, k + 1, R, x, h, hx => by
  simp only [RO] at h
  obtain ⟨_, R₁, R₂, _, _, _, h2, rfl⟩ := h
  obtain ⟨u, R₃, hu, hs, h3, hsub⟩ := RO.get (k := k) h2 (by simpa using hx)
  exact ⟨u, R₃, by rw [show off + (k + 1) = off + 1 + k by omega]; exact hu, hs, h3, fun b hb => mem_app_r (hsub b hb)⟩

theorem RO.drop : ∀ {xs : List X} {cs : Array Value} {off : Nat} {R : List Nat} (k : Nat), RO E xs cs off R → ∃ R', RO E (xs.drop k) cs (off + k) R' ∧ ∀ b ∈ R', b ∈ R
 | [], cs, off, R, k, h => ⟨[], by simp [RO], by simp⟩
 | y :: r, cs, off, R, 0, h => ⟨R, h, fun _ h => h⟩
 | y :: r, cs, off, R, k + 1, h => by
  simp only [RO] at h
  obtain ⟨_, R₁, R₂, _, _, _, h2, rfl⟩ := h
  obtain ⟨R', h', hs⟩ := RO.drop k h2
  refine ⟨R', ?_, fun b hb => mem_app_r (hs b hb)⟩
  simp only [List.drop_succ_cons]
  rw [show off + (k + 1) = off + 1 + k by omega]; exact h'

theorem RO.take : ∀ {xs : List X} {cs : Array Value} {off : Nat} {R : List Nat} (k : Nat), RO E xs cs off R → ∃ R', RO E (xs.take k) cs off R' ∧ ∀ b ∈ R', b ∈ R
 | [], cs, off, R, k, h => ⟨[], by simp [RO], by simp⟩
 | y :: r, cs, off, R, 0, h => ⟨[], by simp [RO], by simp⟩
 | y :: r, cs, off, R, k + 1, h => by
  simp only [RO] at h
  obtain ⟨u, R₁, R₂, hu, hs, h1, h2, rfl⟩ := h
  obtain ⟨R', h', hs'⟩ := RO.take k h2
  refine ⟨R₁ ++ R', ?_, ?_⟩
  ·simp only [List.take_succ_cons, RO]
   exact ⟨u, R₁, R', hu, hs, h1, h', rfl⟩
  ·intro b hb
   rcases List.mem_append.1 hb with hb | hb
   ·exact mem_app_l hb
   ·exact mem_app_r (hs' b hb)

theorem RO.cells : ∀ {xs : List X} {cs : Array Value} {off : Nat} {R : List Nat}, RO E xs cs off R → ∃ vs : List Value, vs.length = xs.length ∧ (∀ j v, vs[j]? = some v → cs[off + j]? = some v) ∧ RXs E xs vs R
 | [], _, _, R, h => ⟨[], rfl, by simp, by simp only [RO] at h; simp [RXs, h]⟩
 | y :: r, cs, off, R, h => by
  simp only [RO] at h
  obtain ⟨u, R₁, R₂, hu, hs, h1, h2, rfl⟩ := h
  obtain ⟨vs, hl, hc, hxs⟩ := RO.cells h2
  refine ⟨u :: vs, by simp [hl], ?_, ?_⟩
  ·intro j v hv
   cases j with
   | zero => simp at hv; subst hv; exact hu
   | succ j => rw [show off + (j + 1) = off + 1 + j by omega]; exact hc j v (by simpa using hv)
  ·simp only [RXs]
   exact ⟨u, vs, R₁, R₂, rfl, hs, h1, hxs, rfl⟩

theorem ROr.get : ∀ {rows : List (List X)} {s : Nat} {cs : Array Value} {off i : Nat} {R : List Nat} {row : List X}, Uniform s rows → ROr E rows cs off R → rows[i]? = some row →
  ∃ R₁, X.nrs row = true ∧ RO E row cs (off + i * s) R₁ ∧ ∀ b ∈ R₁, b ∈ R
 | [], _, _, _, _, _, _, _, _, h => by simp at h
 | r :: rs, s, cs, off, 0, R, row, hu, h, hr => by
  simp only [ROr] at h
  simp only [List.getElem?_cons_zero, Option.some.injEq] at hr
  subst hr
  obtain ⟨R₁, R₂, hn, h1, _, rfl⟩ := h
  exact ⟨R₁, hn, by simpa using h1, fun b hb => mem_app_l hb⟩
 | r :: rs, s, cs, off, i + 1, R, row, hu, h, hr => by
  simp only [ROr] at h
  obtain ⟨R₁, R₂, hn, _, h2, rfl⟩ := h
  have h1 := hu r (by simp)
  obtain ⟨R₃, hn', h3, hs⟩ := ROr.get (i := i) (s := s) (fun q hq => hu q (by simp [hq])) h2 (by simpa using hr)
  rw [h1] at h3
  exact ⟨R₃, hn', by rw [show off + (i + 1) * s = off + s + i * s by rw [Nat.add_mul]; omega]; exact h3, fun b hb => mem_app_r (hs b hb)⟩

end

def rowAt (st : St) : X → Option (List X)
 | .fp row _ => some row
 | .ptr o s i _ => match look st.objs o with
  | some (.cells xs) => bif Nat.beq i 0 then some xs else none
  | some (.rows s' rs) => bif Nat.beq s s' then rs[i]? else none
  | _ => none
 | _ => none
def kAt : X → Nat
 | .fp _ k => k
 | .ptr _ _ _ k => k
 | _ => 0

section
variable {P : Program} {N : Frm} {G : Ctx} {E : Env} {RR : Own → List Nat} {st : St} {a : Act}

theorem Inv.behind (hi : Inv G E RR st a) {p : X} {c : Value} {R : List Nat} {row : List X} (hp : RX E p c R) (hr : rowAt st p = some row) :
  ∃ b off, c = .pointer (some ⟨b, off + kAt p, none⟩) ∧ ∀ k m, k + m ≤ row.length →
   ∃ vs : List Value, ∃ R', vs.length = m ∧ (∀ j v, vs[j]? = some v → E.w.cell? ⟨b, off + (k + j), none⟩ = some v) ∧ RXs E ((row.drop k).take m) vs R' := by
 cases p with
 | fp row' k' =>
  simp only [rowAt, Option.some.injEq] at hr
  subst hr
  simp only [RX] at hp
  obtain ⟨_, b, off, hc, hf⟩ := hp
  refine ⟨b, off, hc, fun k m hkm => ?_⟩
  obtain ⟨vs, hl, hv, hx⟩ := RF.cells (RF.take m (RF.drop k hf))
  refine ⟨vs, [], by rw [hl]; simp; omega, fun j v hj => ?_, hx⟩
  rw [← Nat.add_assoc]
  exact hi.frz _ _ _ (hv j v hj)
 | ptr o s i k' =>
  simp only [RX] at hp
  obtain ⟨_, B, hB, hc⟩ := hp
  simp only [rowAt] at hr
  split at hr
  ·rename_i xs ho
   have h0 := hi.objs o _ ho
   simp only [ROb] at h0
   obtain ⟨_, B', cs, ty, hB', hw, _, _, hRO, _⟩ := h0
   rw [hB] at hB'
   obtain rfl := Option.some.inj hB'
   cases hi0 : Nat.beq i 0 with
   | false => simp [hi0] at hr
   | true =>
    have := Nat.eq_of_beq_eq_true hi0
    subst this
    simp only [hi0, cond_true, Option.some.injEq] at hr
    subst hr
    refine ⟨B.b, B.off, by simpa [kAt] using hc, fun k m hkm => ?_⟩
    obtain ⟨R₁, h1, _⟩ := RO.drop k hRO
    obtain ⟨R₂, h2, _⟩ := RO.take m h1
    obtain ⟨vs, hl, hv, hx⟩ := RO.cells h2
    refine ⟨vs, R₂, by rw [hl]; simp; omega, fun j v hj => ?_, hx⟩
    rw [cell_of_heap hw, ← Nat.add_assoc]
    exact hv j v hj
  ·rename_i s' rs ho
   have h0 := hi.objs o _ ho
   simp only [ROb] at h0
   obtain ⟨hu, h0⟩ := h0
   cases hss : Nat.beq s s' with
   | false => simp [hss] at hr
   | true =>
    have := Nat.eq_of_beq_eq_true hss
    subst this
    simp only [hss, cond_true] at hr
    rcases h0 with ⟨_, h0, _⟩ | ⟨B', cs, ty, R', hB', hw, _, _, _, hRO, _⟩
    ·subst h0; simp at hr
    ·rw [hB] at hB'
     obtain rfl := Option.some.inj hB'
     obtain ⟨R₁, _, h1, _⟩ := ROr.get hu hRO hr
     refine ⟨B.b, B.off + i * s, by rw [hc]; simp [kAt, Nat.add_assoc], fun k m hkm => ?_⟩
     obtain ⟨R₂, h2, _⟩ := RO.drop k h1
     obtain ⟨R₃, h3, _⟩ := RO.take m h2
     obtain ⟨vs, hl, hv, hx⟩ := RO.cells h3
     refine ⟨vs, R₃, by rw [hl]; simp; omega, fun j v hj => ?_, hx⟩
     rw [cell_of_heap hw, ← Nat.add_assoc]
     exact hv j v hj
  ·cases hr
 | _ => simp [rowAt] at hr

end
end Go.AW
/- Part of the abstract walk: loads, addresses, lengths, parts. -/
namespace Go.AW
open Go

section
variable {P : Program} {N : Frm} {st : St} {dst : Option Nat} {ty : TypeId} {pos : String} {af : Array Edge} {g : Option (Nat × Bool)}

theorem TY.shape_none {t : TypeId} (h : TY.shape P t = some none) (w : World) : (isAgg t).run P w = .ok false w ∧ ∃ d, P.underlying t = some d := by
 unfold TY.shape at h
 cases hu : P.underlying t with
 | none => simp [hu] at h
 | some d =>
  refine ⟨?_, d, rfl⟩
  rw [hu] at h
  simp only [isAgg, Sem.run_bind, run_underlying hu, Result.andThen_ok]
  cases d <;> first | rfl | (cases hi : P.info? t <;> simp [hi] at h)

theorem TY.shape_some {t : TypeId} {m : Nat} (h : TY.shape P t = some (some m)) (w : World) : (isAgg t).run P w = .ok true w ∧ (sizeOf t).run P w = .ok m w := by
 unfold TY.shape at h
 cases hu : P.underlying t with
 | none => simp [hu] at h
 | some d =>
  cases hi : P.info? t with
  | none => rw [hu, hi] at h; cases d <;> simp at h
  | some i =>
   rw [hu, hi] at h
   have hs : (sizeOf t).run P w = .ok i.size w := by simp [sizeOf, typeInfo, hi]
   have ha : ∀ d', P.underlying t = some d' → (match d' with | .struct _ | .array _ _ => true | _ => false) = true → (isAgg t).run P w = .ok true w := by
    intro d' hd' hm
    simp only [isAgg, Sem.run_bind, run_underlying hd', Result.andThen_ok]
    cases d' <;> simp at hm <;> rfl
   cases d <;> simp at h <;> subst h <;> exact ⟨ha _ hu rfl, hs⟩

theorem getElem?_drop_take_one {α : Type} {l : List α} {k : Nat} {x : α} (h : l[k]? = some x) : (l.drop k).take 1 = [x] := by
 have hk : k < l.length := by
  rcases Nat.lt_or_ge k l.length with h' | h'
  ·exact h'
  ·simp [List.getElem?_eq_none h'] at h
 rw [List.drop_eq_getElem_cons hk]
 simp only [List.take_succ_cons, List.take_zero]
 rw [List.getElem?_eq_getElem hk] at h
 rw [Option.some.inj h]

theorem Y.load {t : TypeId} {x : Operand} {p y : X} {row : List X} (ht : TY.shape P t = some none) (hx : opd st x = some p) (hr : rowAt st p = some row) (hy : row[kAt p]? = some y) (hf : y.free = true) :
  Yields P N st ⟨dst, .load t x, ty, pos, af, g⟩ y := by
 intro G E RR a _ hi
 obtain ⟨R, hp⟩ := hi.eval hx
 obtain ⟨b, off, hc, hcells⟩ := hi.behind hp hr
 have hk : kAt p < row.length := by
  rcases Nat.lt_or_ge (kAt p) row.length with h' | h'
  ·exact h'
  ·simp [List.getElem?_eq_none h'] at hy
 obtain ⟨vs, R', hl, hv, hxs⟩ := hcells (kAt p) 1 om
 rw [getElem?_drop_take_one hy] at hxs
 simp only [RXs] at hxs
 obtain ⟨c, cs', R₁, R₂, hvs, _, h1, ⟨rfl, rfl⟩, rfl⟩ := hxs
 subst hvs
 have h0 := RX.free hf h1
 subst h0
 refine ⟨c, ?_, h1⟩
 show (do let z ← Instr.loadAt t (a.eval x); pure (Next.value z) : Sem Next).run P E.w = _
 rw [hc]
 refine run_v ?_
 have hcell := hv 0 c rfl
 simp only [Instr.loadAt, Instr.sureAddr, loadVar, Sem.run_bind, Sem.run_pure, Result.andThen_ok, (TY.shape_none ht E.w).1]
 simp only [Nat.add_zero] at hcell
 simp [hcell]

theorem Y.loadA {t : TypeId} {x : Operand} {p : X} {row : List X} {m : Nat} {ys : List X} (ht : TY.shape P t = some (some m)) (hx : opd st x = some p) (hr : rowAt st p = some row) (hm : kAt p + m ≤ row.length)
  (hys : (row.drop (kAt p)).take m = ys) (hf : X.frees ys = true) : Yields P N st ⟨dst, .load t x, ty, pos, af, g⟩ (.agg ys) := by
 intro G E RR a _ hi
 obtain ⟨R, hp⟩ := hi.eval hx
 obtain ⟨b, off, hc, hcells⟩ := hi.behind hp hr
 obtain ⟨vs, R', hl, hv, hxs⟩ := hcells (kAt p) m hm
 rw [hys] at hxs
 have h0 := RXs.free hf hxs
 subst h0
 refine ⟨.agg vs.toArray, ?_, by simp only [RX]; exact ⟨_, rfl, hxs⟩⟩
 show (do let z ← Instr.loadAt t (a.eval x); pure (Next.value z) : Sem Next).run P E.w = _
 rw [hc]
 refine run_v ?_
 obtain ⟨h1, h2⟩ := TY.shape_some ht E.w
 have h3 : (loadCells ⟨b, off + kAt p, none⟩ m).run P E.w = .ok vs.toArray E.w := by
  rw [← hl]
  exact run_loadCells_list (w := E.w) _ vs fun j v hj => by rw [add_mk, Nat.add_assoc]; exact hv j v hj
 simp only [Instr.loadAt, Instr.sureAddr, loadVar, Sem.run_bind, Sem.run_pure, Result.andThen_ok, h1, if_true, h2, h3]

theorem run_sizeOf {t : TypeId} {i : TypeInfo} (h : P.info? t = some i) (w : World) : (sizeOf t).run P w = .ok i.size w := by simp [sizeOf, typeInfo, h]

theorem TY.fld_run {t : TypeId} {f off : Nat} {ft : TypeId} (h : TY.fld P t f = some (off, ft)) (b o : Nat) (w : World) :
  (Instr.fieldAt t (.pointer (some ⟨b, o, none⟩)) f).run P w = .ok (.pointer (some ⟨b, o + off, none⟩)) w := by
 unfold TY.fld at h
 cases hu : P.underlying t with
 | none => simp [hu] at h
 | some d =>
  rw [hu] at h
  cases d with
  | struct fs =>
   simp only at h
   cases hf : fs[f]? with
   | none => simp [hf] at h
   | some fd =>
    rw [hf] at h
    simp only at h
    cases hi : P.info? fd.type with
    | none => simp [hi] at h
    | some i =>
     rw [hi] at h
     simp only at h
     cases hz : Nat.beq i.size 0 with
     | true => simp [hz] at h
     | false =>
      have hz' : i.size ≠ 0 := Nat.ne_of_beq_eq_false hz
      rw [hz] at h
      simp only [cond_false, Option.some.injEq, Prod.mk.injEq] at h
      simp only [Instr.fieldAt, Sem.run_bind, run_underlying hu, Result.andThen_ok, hf, Instr.sureAddr, Sem.run_pure, fieldPlace, run_sizeOf hi, hz', if_false, add_mk, h.1]
  | _ => simp at h

def X.on (n : Nat) : X → Option X
 | .fp row k => some (.fp row (k + n))
 | .ptr o s i k => some (.ptr o s i (k + n))
 | _ => none

theorem RX.on {E : Env} {p q : X} {n : Nat} {c : Value} {R : List Nat} (hq : p.on n = some q) (h : RX E p c R) : ∃ b off, c = .pointer (some ⟨b, off, none⟩) ∧ RX E q (.pointer (some ⟨b, off + n, none⟩)) [] := by
 cases p with
 | fp row k =>
  simp only [X.on, Option.some.injEq] at hq
  subst hq
  simp only [RX] at h ⊢
  obtain ⟨_, b, off, hc, hf⟩ := h
  exact ⟨b, _, hc, trivial, b, off, by rw [Nat.add_assoc], hf⟩
 | ptr o s i k =>
  simp only [X.on, Option.some.injEq] at hq
  subst hq
  simp only [RX] at h ⊢
  obtain ⟨_, B, hB, hc⟩ := h
  exact ⟨_, _, hc, trivial, B, hB, by simp only [Nat.add_assoc]⟩
 | _ => simp [X.on] at hq

theorem Y.fieldAddr {t : TypeId} {x : Operand} {p q : X} {f off : Nat} {ft : TypeId} (ht : TY.fld P t f = some (off, ft)) (hx : opd st x = some p) (hq : p.on off = some q) :
  Yields P N st ⟨dst, .fieldAddr t x f, ty, pos, af, g⟩ q := by
 intro G E RR a _ hi
 obtain ⟨R, hp⟩ := hi.eval hx
 obtain ⟨b, o, hc, h⟩ := hp.on hq
 refine ⟨_, ?_, h⟩
 show (do let z ← Instr.fieldAt t (a.eval x) f; pure (Next.value z) : Sem Next).run P E.w = _
 rw [hc]
 exact run_v (TY.fld_run ht b o E.w)

theorem TY.slice_spec {t e s by_ : Nat} (h : TY.slice P t = some (e, s, by_)) : P.underlying t = some (.slice e) ∧ ∃ i, P.info? e = some i ∧ i.size = s ∧ i.bytes = by_ := by
 unfold TY.slice at h
 split at h
 ·rename_i e' hu
  cases hi : P.info? e' with
  | none => simp [hi] at h
  | some i =>
   simp only [hi, Option.map_some, Option.some.injEq, Prod.mk.injEq] at h
   obtain ⟨rfl, h2, h3⟩ := h
   exact ⟨hu, i, hi, h2, h3⟩
 ·cases h

theorem TY.array_spec {t n e s : Nat} (h : TY.array P t = some (n, e, s)) : P.underlying t = some (.array n e) ∧ ∃ i, P.info? e = some i ∧ i.size = s := by
 unfold TY.array at h
 split at h
 ·rename_i n' e' hu
  cases hi : P.info? e' with
  | none => simp [hi] at h
  | some i =>
   simp only [hi, Option.map_some, Option.some.injEq, Prod.mk.injEq] at h
   obtain ⟨rfl, rfl, h3⟩ := h
   exact ⟨hu, i, hi, h3⟩
 ·cases h

theorem run_indexAt {t e s by_ : Nat} (ht : TY.slice P t = some (e, s, by_)) {b off len cap m : Nat} {k : IntKind} {n : Int} (hn : n = (m : Int)) (hm : m < len) (w : World) :
  (Instr.indexAt t (.slice (some ⟨b, off, none⟩) len cap) (.int k n)).run P w = .ok (.pointer (some ⟨b, off + m * s, none⟩)) w := by
 obtain ⟨hu, i, hi, hs, _⟩ := TY.slice_spec ht
 subst hn
 simp [Instr.indexAt, asIntOf, run_underlying hu, hm, run_sizeOf hi, hs, add_mk]

theorem Y.indexF {t e s by_ : Nat} {x ix : Operand} {rows : List (List X)} {row : List X} {k : IntKind} {n : Int} {m : Nat} (ht : TY.slice P t = some (e, s, by_)) (hx : opd st x = some (.fz s rows))
  (hix : opd st ix = some (.v (.int k n))) (hn : n = (m : Int)) (hr : rows[m]? = some row) : Yields P N st ⟨dst, .indexAddr t x ix, ty, pos, af, g⟩ (.fp row 0) := by
 intro G E RR a _ hi
 obtain ⟨R, hp⟩ := hi.eval hx
 have hm : m < rows.length := by
  rcases Nat.lt_or_ge m rows.length with h' | h'
  ·exact h'
  ·simp [List.getElem?_eq_none h'] at hr
 simp only [RX] at hp
 obtain ⟨_, hu, base, cap, hc, h⟩ := hp
 rcases h with ⟨h, _⟩ | ⟨b, off, rfl, hl, hf⟩
 ·subst h; simp at hr
 ·refine ⟨.pointer (some ⟨b, off + m * s, none⟩), ?_, ?_⟩
  ·show (do let z ← Instr.indexAt t (a.eval x) (a.eval ix); pure (Next.value z) : Sem Next).run P E.w = _
   rw [hc, hi.val hix]
   exact run_v (run_indexAt ht hn hm E.w)
  ·simp only [RX]
   exact ⟨trivial, b, off + m * s, rfl, RFr.get hu hf hr⟩

theorem Y.indexO {t e s by_ : Nat} {x ix : Operand} {o lo len : Nat} {k : IntKind} {n : Int} {m : Nat} (ht : TY.slice P t = some (e, s, by_)) (hx : opd st x = some (.slc o s lo len))
  (hix : opd st ix = some (.v (.int k n))) (hn : n = (m : Int)) (hm : m < len) : Yields P N st ⟨dst, .indexAddr t x ix, ty, pos, af, g⟩ (.ptr o s (lo + m) 0) := by
 intro G E RR a _ hi
 obtain ⟨R, hp⟩ := hi.eval hx
 simp only [RX] at hp
 obtain ⟨_, base, cap, hc, h⟩ := hp
 rcases h with ⟨_, _, h, _⟩ | ⟨B, hB, _, hl, hb⟩
 ·omega
 ·have hb' : base = some ⟨B.b, B.off + lo * s, none⟩ := hb.resolve_left om
  subst hb'
  refine ⟨.pointer (some ⟨B.b, B.off + lo * s + m * s, none⟩), ?_, ?_⟩
  ·show (do let z ← Instr.indexAt t (a.eval x) (a.eval ix); pure (Next.value z) : Sem Next).run P E.w = _
   rw [hc, hi.val hix]
   exact run_v (run_indexAt ht hn hm E.w)
  ·simp only [RX]
   exact ⟨trivial, B, hB, by rw [Nat.add_mul]; simp [Nat.add_assoc]⟩

theorem Y.indexP {t len e s : Nat} {x ix : Operand} {p q : X} {k : IntKind} {n : Int} {m : Nat} (ht : TY.array P t = some (len, e, s)) (hx : opd st x = some p)
  (hix : opd st ix = some (.v (.int k n))) (hn : n = (m : Int)) (hm : m < len) (hq : p.on (m * s) = some q) : Yields P N st ⟨dst, .indexAddr t x ix, ty, pos, af, g⟩ q := by
 intro G E RR a _ hi
 obtain ⟨R, hp⟩ := hi.eval hx
 obtain ⟨b, o, hc, h⟩ := hp.on hq
 refine ⟨_, ?_, h⟩
 show (do let z ← Instr.indexAt t (a.eval x) (a.eval ix); pure (Next.value z) : Sem Next).run P E.w = _
 rw [hc, hi.val hix]
 refine run_v ?_
 obtain ⟨hu, i, hinf, hs⟩ := TY.array_spec ht
 subst hn
 simp [Instr.indexAt, Instr.sureAddr, asIntOf, run_underlying hu, hm, run_sizeOf hinf, hs, add_mk]

theorem RXs.get {E : Env} : ∀ {xs : List X} {cs : List Value} {R : List Nat} {k : Nat} {x : X}, RXs E xs cs R → xs[k]? = some x → ∃ u R₁, cs[k]? = some u ∧ Single u ∧ RX E x u R₁
 | [], _, _, _, _, _, h => by simp at h
 | y :: r, cs, R, 0, x, h, hx => by
  simp only [RXs] at h
  simp only [List.getElem?_cons_zero, Option.some.injEq] at hx
  subst hx
  obtain ⟨c, cs', R₁, R₂, rfl, hs, h1, _, _⟩ := h
  exact ⟨c, R₁, rfl, hs, h1⟩
 | y :: r, cs, R, k + 1, x, h, hx => by
  simp only [RXs] at h
  obtain ⟨c, cs', R₁, R₂, rfl, _, _, h2, _⟩ := h
  obtain ⟨u, R₃, hu, hs, h3⟩ := RXs.get (k := k) h2 (by simpa using hx)
  exact ⟨u, R₃, by simpa using hu, hs, h3⟩

theorem RXs.length {E : Env} : ∀ {xs : List X} {cs : List Value} {R : List Nat}, RXs E xs cs R → cs.length = xs.length
 | [], _, _, h => by simp only [RXs] at h; rw [h.1]; rfl
 | x :: r, _, _, h => by
  simp only [RXs] at h
  obtain ⟨c, cs', R₁, R₂, rfl, _, _, h2, _⟩ := h
  simp [RXs.length h2]

theorem RXs.drop {E : Env} : ∀ {xs : List X} {cs : List Value} {R : List Nat} (k : Nat), RXs E xs cs R → ∃ R', RXs E (xs.drop k) (cs.drop k) R'
 | [], cs, R, k, h => by simp only [RXs] at h; exact ⟨[], by simp [RXs, h.1]⟩
 | y :: r, cs, R, 0, h => ⟨R, h⟩
 | y :: r, cs, R, k + 1, h => by
  simp only [RXs] at h
  obtain ⟨c, cs', R₁, R₂, rfl, _, _, h2, _⟩ := h
  simpa using RXs.drop k h2
theorem RXs.take {E : Env} : ∀ {xs : List X} {cs : List Value} {R : List Nat} (k : Nat), RXs E xs cs R → ∃ R', RXs E (xs.take k) (cs.take k) R'
 | [], cs, R, k, h => by simp only [RXs] at h; exact ⟨[], by simp [RXs, h.1]⟩
 | y :: r, cs, R, 0, h => ⟨[], by simp [RXs]⟩
 | y :: r, cs, R, k + 1, h => by
  simp only [RXs] at h
  obtain ⟨c, cs', R₁, R₂, rfl, hs, h1, h2, _⟩ := h
  obtain ⟨R', h'⟩ := RXs.take k h2
  exact ⟨R₁ ++ R', by simp only [List.take_succ_cons, RXs]; exact ⟨c, _, R₁, R', rfl, hs, h1, h', rfl⟩⟩

theorem run_part1 {t : TypeId} {cs : Array Value} {off : Nat} {u : Value} (ht : TY.shape P t = some none) (hu : cs[off]? = some u) (w : World) : (part t cs off).run P w = .ok u w := by
 simp only [part, Sem.run_bind, (TY.shape_none ht w).1, Result.andThen_ok, hu]; rfl
theorem TY.fld_spec {t : TypeId} {f off : Nat} {ft : TypeId} (h : TY.fld P t f = some (off, ft)) : ∃ fs fd, P.underlying t = some (.struct fs) ∧ fs[f]? = some fd ∧ fd.offset = off ∧ fd.type = ft := by
 unfold TY.fld at h
 split at h
 ·rename_i fs hu
  split at h
  ·rename_i fd hf
   split at h
   ·rename_i i hi
    cases hz : Nat.beq i.size 0 with
    | true => simp [hz] at h
    | false => rw [hz] at h; simp only [cond_false, Option.some.injEq, Prod.mk.injEq] at h; exact ⟨fs, fd, hu, hf, h.1, h.2⟩
   ·cases h
  ·cases h
 ·cases h

theorem Y.field {t : TypeId} {x : Operand} {xs : List X} {y : X} {f off : Nat} {ft : TypeId} (ht : TY.fld P t f = some (off, ft)) (hs : TY.shape P ft = some none) (hx : opd st x = some (.agg xs)) (hy : xs[off]? = some y) (hf : y.free = true) :
  Yields P N st ⟨dst, .field t x f, ty, pos, af, g⟩ y := by
 intro G E RR a _ hi
 obtain ⟨R, hp⟩ := hi.eval hx
 simp only [RX] at hp
 obtain ⟨cs, hc, hxs⟩ := hp
 obtain ⟨u, R₁, hu, _, h1⟩ := RXs.get hxs hy
 have h0 := RX.free hf h1
 subst h0
 refine ⟨u, ?_, h1⟩
 show (do let z ← Instr.field t (a.eval x) f; pure (Next.value z) : Sem Next).run P E.w = _
 rw [hc]
 refine run_v ?_
 obtain ⟨fs, fd, hun, hfd, ho, hty⟩ := TY.fld_spec ht
 have hu' : cs[off]? = some u := by simpa using hu
 simp only [Instr.field, Sem.run_bind, run_underlying hun, Result.andThen_ok, hfd, asAgg, Sem.run_pure, ho, hty]
 exact run_part1 hs hu' E.w

theorem Y.indexS {t : TypeId} {x ix : Operand} {b : ByteArray} {k : IntKind} {n : Int} {m : Nat} (ht : P.underlying t = some .string) (hx : opd st x = some (.v (.string b)))
  (hix : opd st ix = some (.v (.int k n))) (hn : n = (m : Int)) (hm : m < b.size) : Yields P N st ⟨dst, .index t x ix, ty, pos, af, g⟩ (.v (.int .u8 (b[m].toNat : Int))) := by
 intro G E RR a _ hi
 refine ⟨.int .u8 (b[m].toNat : Int), ?_, by simp [RX]⟩
 show (do let z ← Instr.index t (a.eval x) (a.eval ix); pure (Next.value z) : Sem Next).run P E.w = _
 rw [hi.val hx, hi.val hix]
 refine run_v ?_
 subst hn
 have h0 : (0 : Int) ≤ (m : Int) := by omega
 simp [Instr.index, asIntOf, run_underlying ht, h0, getElem?_pos b m hm]

end
end Go.AW
/- Part of the abstract walk: lengths, parts of slices, tuples, structs that are built. -/
namespace Go.AW
open Go

section
variable {P : Program} {N : Frm} {st : St} {dst : Option Nat} {ty : TypeId} {pos : String} {af : Array Edge} {g : Option (Nat × Bool)}

theorem run_callB {b : Builtin} {args : Array Operand} {ats : Array TypeId} {a : Act} {w w' : World} {r : Next}
  (h : (builtin b ats ty (args.map fun | .const _ => true | _ => false) (args.map a.eval)).run P w = .ok r w') :
  (execOp a.eval ⟨dst, .call ⟨.builtin b, args, ats⟩, ty, pos, af, g⟩).run P w = .ok r w' := h

def X.len : X → Option Nat
 | .fz _ rows => some rows.length
 | .uni _ rows => some rows.length
 | .slc _ _ _ n => some n
 | .v (.slice none n _) => some n
 | _ => none

theorem RX.len {E : Env} {x : X} {c : Value} {R : List Nat} {n : Nat} (hn : x.len = some n) (h : RX E x c R) : ∃ base cap, c = .slice base n cap := by
 cases x with
 | fz s rows =>
  simp only [X.len, Option.some.injEq] at hn; subst hn
  simp only [RX] at h
  obtain ⟨_, _, base, cap, hc, _⟩ := h
  exact ⟨base, cap, hc⟩
 | uni s rows =>
  simp only [X.len, Option.some.injEq] at hn; subst hn
  simp only [RX] at h
  obtain ⟨_, base, cap, hc, _⟩ := h
  exact ⟨base, cap, hc⟩
 | slc o s lo m =>
  simp only [X.len, Option.some.injEq] at hn; subst hn
  simp only [RX] at h
  obtain ⟨_, base, cap, hc, _⟩ := h
  exact ⟨base, cap, hc⟩
 | v u =>
  simp only [RX] at h
  cases u with
  | slice b m c' =>
   cases b with
   | none => simp only [X.len, Option.some.injEq] at hn; subst hn; exact ⟨none, c', h.1⟩
   | some b => simp [X.len] at hn
  | _ => simp [X.len] at hn
 | _ => simp [X.len] at hn

theorem Y.len {t e s by_ : Nat} {x : Operand} {y : X} {n : Nat} (ht : TY.slice P t = some (e, s, by_)) (hx : opd st x = some y) (hn : y.len = some n) :
  Yields P N st ⟨dst, .call ⟨.builtin .len, #[x], #[t]⟩, ty, pos, af, g⟩ (.v (.int .i64 (n : Int))) := by
 intro G E RR a _ hi
 obtain ⟨R, hp⟩ := hi.eval hx
 obtain ⟨base, cap, hc⟩ := hp.len hn
 refine ⟨.int .i64 (n : Int), run_callB ?_, by simp [RX]⟩
 obtain ⟨hu, _⟩ := TY.slice_spec ht
 simp [builtin, Builtin.len_, hc, run_underlying hu, goInt]

theorem Y.lenS {t : TypeId} {x : Operand} {b : ByteArray} (ht : P.underlying t = some .string) (hx : opd st x = some (.v (.string b))) :
  Yields P N st ⟨dst, .call ⟨.builtin .len, #[x], #[t]⟩, ty, pos, af, g⟩ (.v (.int .i64 (b.size : Int))) := by
 intro G E RR a _ hi
 refine ⟨.int .i64 (b.size : Int), run_callB ?_, by simp [RX]⟩
 have hc := hi.val hx
 simp [builtin, Builtin.len_, hc, run_underlying ht, goInt]

def bound (st : St) (d : Nat) : Option Operand → Option Nat → Prop
 | none, m => m = none ∨ m = some d
 | some x, some m => ∃ k, opd st x = some (.v (.int k (m : Int)))
 | some _, none => False

theorem run_sliceBound {k : IntKind} {m y : Nat} {code : BoundsCode} (h : m ≤ y) (w : World) : (Instr.sliceBound (.int k (m : Int)) y code).run P w = .ok m w := by
 have h1 : (0 : Int) ≤ (m : Int) ∧ (m : Int) ≤ (y : Int) := by omega
 simp only [Instr.sliceBound, asIntOf, Sem.run_bind, Sem.run_pure, Result.andThen_ok, h1, and_self, if_true, Int.toNat_natCast]

inductive Bd (st : St) : Option Operand → Nat → Nat → Prop where
 | none (d : Nat) : Bd st none d d
 | some {x : Operand} {k : IntKind} {m d : Nat} (h : opd st x = some (.v (.int k (m : Int)))) : Bd st (some x) d m

theorem run_sliceBounds {G : Ctx} {E : Env} {RR : Own → List Nat} {a : Act} (hi : Inv G E RR st a) {lo hi' : Option Operand} {len cap l h : Nat}
  (hl : Bd st lo 0 l) (hh : Bd st hi' len h) (h1 : l ≤ h) (h2 : h ≤ cap) (isS : Bool) (w : World) :
  (Instr.sliceBounds isS len cap (lo.map a.eval) (hi'.map a.eval) none).run P w = .ok (l, h, cap) w := by
 cases hl with
 | none =>
  cases hh with
  | none => simp [Instr.sliceBounds]
  | some hx => simp [Instr.sliceBounds, hi.val hx, run_sliceBound h2]
 | some hy =>
  cases hh with
  | none => simp [Instr.sliceBounds, hi.val hy, run_sliceBound h1]
  | some hx => simp [Instr.sliceBounds, hi.val hx, hi.val hy, run_sliceBound h1, run_sliceBound h2]

theorem Y.sliceO {t e s by_ : Nat} {x : Operand} {lo hi' : Option Operand} {o lo0 n l h : Nat} (ht : TY.slice P t = some (e, s, by_)) (hx : opd st x = some (.slc o s lo0 n))
  (hl : Bd st lo 0 l) (hh : Bd st hi' n h) (h1 : l ≤ h) (h2 : h ≤ n) : Yields P N st ⟨dst, .slice t x lo hi' none, ty, pos, af, g⟩ (.slc o s (lo0 + l) (h - l)) := by
 intro G E RR a _ hi
 obtain ⟨R, hp⟩ := hi.eval hx
 simp only [RX] at hp
 obtain ⟨_, base, cap, hc, hcase⟩ := hp
 obtain ⟨hun, i, hinf, hsz, _⟩ := TY.slice_spec ht
 have hcap : h ≤ cap := by
  rcases hcase with ⟨_, _, h', _⟩ | ⟨_, _, _, h', _⟩ <;> omega
 refine ⟨.slice (if cap = l then base else base.map (·.add (l * s))) (h - l) (cap - l), ?_, ?_⟩
 ·show (do let z ← Instr.sliceAt t (a.eval x) (lo.map a.eval) (hi'.map a.eval) none; pure (Next.value z) : Sem Next).run P E.w = _
  rw [hc]
  refine run_v ?_
  simp only [Instr.sliceAt, Sem.run_bind, run_underlying hun, Result.andThen_ok, Instr.slice, run_sliceBounds hi hl hh h1 hcap, run_sizeOf hinf, hsz]
  rfl
 ·simp only [RX]
  refine ⟨trivial, _, _, rfl, ?_⟩
  rcases hcase with ⟨hβ, hlo, hn, hcp⟩ | ⟨B, hβ, hlc, hn, hb⟩
  ·exact .inl ⟨hβ, om, om, om⟩
  ·refine .inr ⟨B, hβ, om, om, ?_⟩
   by_cases hcl : cap = l
   ·left; omega
   ·right
    have := hb.resolve_left om
    rw [if_neg hcl, this]
    simp only [Option.map_some, add_mk, Nat.add_mul, Nat.add_assoc]

theorem RXt.get {E : Env} : ∀ {xs : List X} {cs : List Value} {R : List Nat} {k : Nat} {x : X}, RXt E xs cs R → xs[k]? = some x → ∃ u R₁, cs[k]? = some u ∧ RX E x u R₁
 | [], _, _, _, _, _, h => by simp at h
 | y :: r, cs, R, 0, x, h, hx => by
  simp only [RXt] at h
  simp only [List.getElem?_cons_zero, Option.some.injEq] at hx
  subst hx
  obtain ⟨c, cs', R₁, R₂, rfl, h1, _, _⟩ := h
  exact ⟨c, R₁, rfl, h1⟩
 | y :: r, cs, R, k + 1, x, h, hx => by
  simp only [RXt] at h
  obtain ⟨c, cs', R₁, R₂, rfl, _, h2, _⟩ := h
  obtain ⟨u, R₃, hu, h3⟩ := RXt.get (k := k) h2 (by simpa using hx)
  exact ⟨u, R₃, by simpa using hu, h3⟩

theorem Y.extract {x : Operand} {xs : List X} {y : X} {k : Nat} (hx : opd st x = some (.tup xs)) (hy : xs[k]? = some y) (hf : y.free = true) : Yields P N st ⟨dst, .extract x k, ty, pos, af, g⟩ y := by
 intro G E RR a _ hi
 obtain ⟨R, hp⟩ := hi.eval hx
 simp only [RX] at hp
 obtain ⟨cs, hc, hxs⟩ := hp
 obtain ⟨u, R₁, hu, h1⟩ := RXt.get hxs hy
 have h0 := RX.free hf h1
 subst h0
 refine ⟨u, ?_, h1⟩
 show (do let z ← Instr.extract (a.eval x) k; pure (Next.value z) : Sem Next).run P E.w = _
 rw [hc]
 refine run_v ?_
 have hu' : cs[k]? = some u := by simpa using hu
 simp only [Instr.extract, hu']; rfl

theorem Y.nilCheck {x : Operand} {p q : X} (hx : opd st x = some p) (hq : p.on 0 = some q) : Yields P N st ⟨dst, .nilCheck x, ty, pos, af, g⟩ q := by
 intro G E RR a _ hi
 obtain ⟨R, hp⟩ := hi.eval hx
 obtain ⟨b, off, hc, h⟩ := hp.on hq
 refine ⟨_, ?_, h⟩
 simp only [execOp, hc]; rfl

def X.one : X → Bool
 | .v (.agg _) | .v (.tuple _) => false
 | .v _ | .fz .. | .uni .. | .ptr .. | .slc .. | .mref _ | .fp .. | .clo .. => true
 | .no | .agg _ | .tup _ => false

theorem RX.one {E : Env} {x : X} {c : Value} {R : List Nat} (ho : x.one = true) (h : RX E x c R) : Single c := by
 cases x with
 | v u =>
  simp only [RX] at h
  rw [h.1]
  cases u <;> first | trivial | (simp [X.one] at ho)
 | fz s rows => simp only [RX] at h; obtain ⟨_, _, _, _, rfl, _⟩ := h; trivial
 | uni s rows => simp only [RX] at h; obtain ⟨_, _, _, rfl, _⟩ := h; trivial
 | ptr o s i k => simp only [RX] at h; obtain ⟨_, _, _, rfl⟩ := h; trivial
 | slc o s lo n => simp only [RX] at h; obtain ⟨_, _, _, rfl, _⟩ := h; trivial
 | mref o => simp only [RX] at h; obtain ⟨_, _, _, rfl⟩ := h; trivial
 | fp row k => simp only [RX] at h; obtain ⟨_, _, _, rfl, _⟩ := h; trivial
 | clo fn f c => simp only [RX] at h; obtain ⟨_, _, _, rfl, _⟩ := h; trivial
 | _ => simp [X.one] at ho

def X.flat : X → Option (List X)
 | .agg xs => some xs
 | x => bif x.one then some [x] else none

theorem cells_single {c : Value} (h : Single c) : c.cells = #[c] := by
 cases c <;> first | rfl | exact h.elim

theorem RX.flat {E : Env} {x : X} {c : Value} {R : List Nat} {ys : List X} (hf : x.flat = some ys) (h : RX E x c R) : RXs E ys c.cells.toList R := by
 by_cases hx : ∃ xs, x = .agg xs
 ·obtain ⟨xs, rfl⟩ := hx
  simp only [X.flat, Option.some.injEq] at hf
  subst hf
  simp only [RX] at h
  obtain ⟨cs, rfl, h⟩ := h
  exact h
 ·have h1 : x.one = true ∧ ys = [x] := by
   unfold X.flat at hf
   split at hf
   ·exact absurd ⟨_, rfl⟩ hx
   ·cases ho : x.one with
    | false => simp [ho] at hf
    | true => simp [ho] at hf; exact ⟨rfl, hf.symm⟩
  obtain ⟨ho, rfl⟩ := h1
  have hs := h.one ho
  rw [cells_single hs]
  simp only [RXs]
  exact ⟨c, [], R, [], rfl, hs, h, ⟨rfl, rfl⟩, by simp⟩

end
end Go.AW
/- Part of the abstract walk: how what is known outlives a change of memory. -/
namespace Go.AW
open Go

theorem ROb.mono {E E' : Env} {o : Nat} {ob : Obj} {R : List Nat} (hE : E.On E' R) (ho : E'.β o = E.β o) (hm : ∀ xs, ob = .cells xs → ∀ q, X.ments q xs = true → E'.β q = E.β q) (h : ROb E o ob R) : ROb E' o ob R := by
 cases ob with
 | cells xs =>
  simp only [ROb] at h ⊢
  obtain ⟨hfr, B, cs, ty, hB, hw, hf, hl, hR, rfl⟩ := h
  have h2 := hE.2 B.b (by simp)
  exact ⟨hfr, B, cs, ty, ho.trans hB, h2.1.trans hw, h2.2 hf, hl, RO.mono xs cs _ [] (hE.sub (fun _ h => by cases h)) (hm xs rfl) hR, rfl⟩
 | rows s rs =>
  simp only [ROb] at h ⊢
  obtain ⟨hu, h⟩ := h
  refine ⟨hu, ?_⟩
  rcases h with ⟨h1, h2, h3⟩ | ⟨B, cs, ty, R', hB, hw, hf, hl, hc, hR, rfl⟩
  ·exact .inl ⟨ho.trans h1, h2, h3⟩
  ·have h2 := hE.2 B.b (by simp)
   exact .inr ⟨B, cs, ty, R', ho.trans hB, h2.1.trans hw, h2.2 hf, hl, hc, ROr.mono rs cs _ R' (hE.sub (fun _ h => by simp [h])) hR, rfl⟩
 | tab es =>
  simp only [ROb] at h ⊢
  obtain ⟨B, ents, clock, hB, hw, hf, he, rfl⟩ := h
  have h2 := hE.2 B.b (by simp)
  exact ⟨B, ents, clock, ho.trans hB, h2.1.trans hw, h2.2 hf, he, rfl⟩
 | gone => simpa [ROb] using h

structure Moves (G : Ctx) (E E' : Env) (T : Nat → Prop) : Prop where
 φ : E'.φ = E.φ
 free : ∀ b, T b → ∀ i, E.φ b i = none
 out : ∀ b, T b → ¬ G.K b
 same : ∀ b, b < E.w.heap.size → ¬ T b → E'.w.heap[b]? = E.w.heap[b]?
 size : E.w.heap.size ≤ E'.w.heap.size
 os : E'.w.os = E.w.os
 tape : E'.w.tape = E.w.tape
 output : E'.w.output = E.w.output

section
variable {G : Ctx} {E E' : Env} {RR : Own → List Nat} {st : St} {a : Act} {T : Nat → Prop}

theorem Moves.on (hm : Moves G E E' T) (hi : Inv G E RR st a) {p : Own} (hT : ∀ b ∈ RR p, ¬ T b) : E.On E' (RR p) :=
 ⟨fun b i v h => by rw [hm.φ]; exact h, fun b hb => ⟨hm.same b (hi.own p b hb).1 (hT b hb), fun h => by rw [hm.φ]; exact h⟩⟩

theorem Moves.frz (hm : Moves G E E' T) (hi : Inv G E RR st a) : ∀ b i v, E'.φ b i = some v → E'.w.cell? ⟨b, i, none⟩ = some v := by
 intro b i v h
 rw [hm.φ] at h
 have h0 := hi.frz b i v h
 have hlt := World.block_lt_of_cell? E.w _ h0
 have hT : ¬ T b := fun hT => by rw [hm.free b hT i] at h; cases h
 have := hm.same b hlt hT
 rw [World.cell?_of_block this]; exact h0

theorem Moves.keep (hm : Moves G E E' T) (hi : Inv G E RR st a) : ∀ b, G.K b → E'.w.heap[b]? = G.w0.heap[b]? := by
 intro b hK
 have hlt : b < E.w.heap.size := Nat.lt_of_lt_of_le (hi.small b hK) hi.size
 rw [hm.same b hlt (fun hT => hm.out b hT hK)]
 exact hi.keep b hK

theorem Moves.slot (hm : Moves G E E' T) (hi : Inv G E RR st a) {s : Nat} {x : X} (hx : look st.slots s = some x) (hT : ∀ b ∈ RR (.slot s), ¬ T b) (hβ : ∀ o, x.ment o = true → E'.β o = E.β o) :
  RX E' x (a.tmps.getD s undef) (RR (.slot s)) :=
 RX.mono x _ _ (hm.on hi hT) hβ (hi.slots s x hx)

theorem Moves.obj (hm : Moves G E E' T) (hi : Inv G E RR st a) {o : Nat} {ob : Obj} (hx : look st.objs o = some ob) (hT : ∀ b ∈ RR (.obj o), ¬ T b) (ho : E'.β o = E.β o)
  (hβ : ∀ xs, ob = .cells xs → ∀ q, X.ments q xs = true → E'.β q = E.β q) : ROb E' o ob (RR (.obj o)) :=
 ROb.mono (hm.on hi hT) ho hβ (hi.objs o ob hx)

theorem Moves.own (hm : Moves G E E' T) (hi : Inv G E RR st a) : ∀ p b, b ∈ RR p → b < E'.w.heap.size ∧ ¬ G.K b :=
 fun p b hb => ⟨Nat.lt_of_lt_of_le (hi.own p b hb).1 hm.size, (hi.own p b hb).2⟩

theorem Inv.moves (hi : Inv G E RR st a) (hm : Moves G E E' (fun _ => False)) (hβ : E'.β = E.β) : Inv G E' RR st a :=
 {hi with
  frz := hm.frz hi
  slots := fun s x hx => hm.slot hi hx (fun _ _ h => h) (fun o _ => by rw [hβ])
  objs := fun o ob ho => hm.obj hi ho (fun _ _ h => h) (by rw [hβ]) (fun _ _ _ _ => by rw [hβ])
  own := hm.own hi
  keep := hm.keep hi
  size := Nat.le_trans hi.size hm.size
  os := hm.os.trans hi.os
  tape := hm.tape.trans hi.tape
  output := hm.output.trans hi.output
  φ0 := fun b i v h => by rw [hm.φ]; exact hi.φ0 b i v h
  grow := fun b i v h => by rw [hm.φ] at h; exact hi.grow b i v h
  fixed := fun o h => by rw [hβ]; exact hi.fixed o h }

theorem Moves.alloc (G : Ctx) (E : Env) (o : Go.Obj) : Moves G E { E with w := E.w.alloc o } (fun _ => False) where
 φ := rfl
 free := fun _ h => h.elim
 out := fun _ h => h.elim
 same := fun b hb _ => by
  show (E.w.heap.push o)[b]? = _
  rw [Array.getElem?_push, if_neg om]
 size := by simp
 os := rfl
 tape := rfl
 output := rfl

theorem Moves.drew (G : Ctx) (E : Env) : Moves G E { E with w := E.w.drew } (fun _ => False) where
 φ := rfl
 free := fun _ h => h.elim
 out := fun _ h => h.elim
 same := fun _ _ _ => rfl
 size := Nat.le_refl _
 os := rfl
 tape := rfl
 output := rfl

theorem Moves.trans {E'' : Env} {T' : Nat → Prop} (h : Moves G E E' T) (h' : Moves G E' E'' T') (hsub : ∀ b, T' b → T b ∨ (E.w.heap.size ≤ b)) : Moves G E E'' T where
 φ := h'.φ.trans h.φ
 free := h.free
 out := h.out
 same := fun b hb hT => by
  have h1 := h.same b hb hT
  rw [← h1]
  refine h'.same b (Nat.lt_of_lt_of_le hb h.size) (fun hT' => ?_)
  rcases hsub b hT' with h2 | h2
  ·exact hT h2
  ·omega
 size := Nat.le_trans h.size h'.size
 os := h'.os.trans h.os
 tape := h'.tape.trans h.tape
 output := h'.output.trans h.output

theorem Moves.setRow (G : Ctx) (E : Env) (b : Nat) (cs : Array Value) (hf : ∀ i, E.φ b i = none) (hK : ¬ G.K b) : Moves G E { E with w := E.w.setRow b cs } (fun c => c = b) where
 φ := rfl
 free := fun c h => by subst h; exact hf
 out := fun c h => by subst h; exact hK
 same := fun c _ h => setRow_other E.w b c cs h
 size := by simp
 os := rfl
 tape := rfl
 output := rfl

theorem Inv.relabel (hi : Inv G E RR st a) {d : Nat} {x : X} {R : List Nat} (hx : RX E x (a.tmps.getD d undef) R) (hn : R.Nodup)
  (hR : ∀ b ∈ R, b < E.w.heap.size ∧ ¬ G.K b ∧ ∀ p, p ≠ .slot d → b ∉ RR p) : Inv G E (upd RR (.slot d) R) (st.put d x) a := by
 refine { hi with slots := ?_, objs := ?_, nodup := ?_, apart := ?_, own := ?_ }
 ·intro s y hy
  simp only [St.put, look] at hy
  cases hb : Nat.beq d s with
  | true =>
   have := Nat.eq_of_beq_eq_true hb
   subst this
   rw [hb] at hy
   simp only [cond_true, Option.some.injEq] at hy
   subst hy
   simpa [upd] using hx
  | false =>
   have hne := Nat.ne_of_beq_eq_false hb
   rw [hb] at hy
   have : upd RR (.slot d) R (.slot s) = RR (.slot s) := by simp [upd, Ne.symm hne]
   rw [this]
   exact hi.slots s y hy
 ·intro o ob ho
  have : upd RR (.slot d) R (.obj o) = RR (.obj o) := by simp [upd]
  rw [this]; exact hi.objs o ob ho
 ·intro p
  unfold upd
  split
  ·exact hn
  ·exact hi.nodup p
 ·intro p q hpq b hb
  unfold upd at hb ⊢
  split at hb
  ·rename_i hp
   subst hp
   rw [if_neg (Ne.symm hpq)]
   exact (hR b hb).2.2 q (Ne.symm hpq)
  ·split
   ·rename_i hp hq
    subst hq
    intro hb'
    exact (hR b hb').2.2 p hpq hb
   ·exact hi.apart p q hpq b hb
 ·intro p b hb
  unfold upd at hb
  split at hb
  ·exact ⟨(hR b hb).1, (hR b hb).2.1⟩
  ·exact hi.own p b hb

theorem Inv.no (hi : Inv G E RR st a) (d : Nat) : Inv G E (upd RR (.slot d) []) (st.put d .no) a :=
 hi.relabel (by simp [RX]) List.nodup_nil (fun _ h => by cases h)

def St.putO (st : St) (o : Nat) (ob : Obj) : St := { st with objs := (o, ob) :: st.objs }

theorem Inv.putO (hi : Inv G E RR st a) {o : Nat} {ob : Obj} {R : List Nat} (hx : ROb E o ob R) (hn : R.Nodup)
  (hR : ∀ b ∈ R, b < E.w.heap.size ∧ ¬ G.K b ∧ ∀ p, p ≠ .obj o → b ∉ RR p) : Inv G E (upd RR (.obj o) R) (st.putO o ob) a := by
 refine { hi with slots := ?_, objs := ?_, nodup := ?_, apart := ?_, own := ?_ }
 ·intro s y hy
  have : upd RR (.obj o) R (.slot s) = RR (.slot s) := by simp [upd]
  rw [this]; exact hi.slots s y hy
 ·intro q ob' ho
  simp only [St.putO, look] at ho
  cases hb : Nat.beq o q with
  | true =>
   have := Nat.eq_of_beq_eq_true hb
   subst this
   rw [hb] at ho
   simp only [cond_true, Option.some.injEq] at ho
   subst ho
   simpa [upd] using hx
  | false =>
   have hne := Nat.ne_of_beq_eq_false hb
   rw [hb] at ho
   have : upd RR (.obj o) R (.obj q) = RR (.obj q) := by simp [upd, Ne.symm hne]
   rw [this]
   exact hi.objs q ob' ho
 ·intro p
  unfold upd
  split
  ·exact hn
  ·exact hi.nodup p
 ·intro p q hpq b hb
  unfold upd at hb ⊢
  split at hb
  ·rename_i hp
   subst hp
   rw [if_neg (Ne.symm hpq)]
   exact (hR b hb).2.2 q (Ne.symm hpq)
  ·split
   ·rename_i hp hq
    subst hq
    intro hb'
    exact (hR b hb').2.2 p hpq hb
   ·exact hi.apart p q hpq b hb
 ·intro p b hb
  unfold upd at hb
  split at hb
  ·exact ⟨(hR b hb).1, (hR b hb).2.1⟩
  ·exact hi.own p b hb

end

def killX (o : Nat) (x : X) : X := bif x.ment o then .no else x
def killXs (o : Nat) (l : List (Nat × X)) : List (Nat × X) := l.map fun p => (p.1, killX o p.2)
def Obj.killC (o : Nat) : Obj → Obj
 | .cells xs => .cells (xs.map (killX o))
 | ob => ob
def killOs (o : Nat) (l : List (Nat × Obj)) : List (Nat × Obj) := l.map fun p => (p.1, p.2.killC o)
def St.kill (st : St) (o : Nat) : St := ⟨killXs o st.slots, killOs o st.objs⟩

theorem look_map {α β : Type} (f : α → β) : ∀ (l : List (Nat × α)) (s : Nat), look (l.map fun p => (p.1, f p.2)) s = (look l s).map f
 | [], _ => rfl
 | (t, x) :: r, s => by
  simp only [List.map_cons, look]
  cases Nat.beq t s with
  | true => rfl
  | false => exact look_map f r s

theorem killX_free (o : Nat) {x : X} (h : x.free = true) : (killX o x).free = true := by
 unfold killX
 cases x.ment o with
 | true => rfl
 | false => exact h

theorem frees_kill (o : Nat) : ∀ {xs : List X}, X.frees xs = true → X.frees (xs.map (killX o)) = true
 | [], _ => rfl
 | x :: r, h => by
  simp only [X.frees, Bool.and_eq_true] at h
  simp only [List.map_cons, X.frees, killX_free o h.1, frees_kill o h.2, Bool.and_self]

theorem RO.kill {E : Env} {o : Nat} : ∀ {xs : List X} {cs : Array Value} {off : Nat}, X.frees xs = true → RO E xs cs off [] → RO E (xs.map (killX o)) cs off []
 | [], _, _, _, h => h
 | x :: r, cs, off, hf, h => by
  simp only [RO] at h
  obtain ⟨u, R₁, R₂, hu, hs, h1, h2, hR⟩ := h
  simp only [X.frees, Bool.and_eq_true] at hf
  have h01 := RX.free hf.1 h1
  have h02 := RO.free hf.2 h2
  subst h01; subst h02
  have h3 := RO.kill (o := o) hf.2 h2
  simp only [List.map_cons, RO]
  refine ⟨u, [], [], hu, hs, ?_, h3, rfl⟩
  unfold killX
  cases x.ment o with
  | true => simp [RX]
  | false => exact h1

theorem ments_kill (o : Nat) : ∀ (xs : List X) (q : Nat), X.ments q (xs.map (killX o)) = true → q ≠ o ∧ X.ments q xs = true
 | [], _, h => by simp [X.ments] at h
 | x :: r, q, h => by
  simp only [List.map_cons, X.ments, Bool.or_eq_true] at h ⊢
  rcases h with h | h
  ·unfold killX at h
   cases hk : x.ment o with
   | true => simp [hk, X.ment] at h
   | false =>
    rw [hk] at h
    simp only [cond_false] at h
    exact ⟨fun hq => by (subst hq; rw [hk] at h; cases h), .inl h⟩
  ·exact ⟨(ments_kill o r q h).1, .inr (ments_kill o r q h).2⟩

section
variable {G : Ctx} {E E' : Env} {RR : Own → List Nat} {st : St} {a : Act} {T : Nat → Prop}

theorem Inv.mine (hi : Inv G E RR st a) {o b : Nat} (h : b ∈ RR (.obj o) ∨ E.w.heap.size ≤ b) : ∀ p, p ≠ .obj o → b ∉ RR p := by
 intro p hp hb
 rcases h with h | h
 ·exact hi.apart p _ hp b hb h
 ·have := (hi.own p b hb).1; omega

def reown (st : St) (RR : Own → List Nat) (o : Nat) (R : List Nat) : Own → List Nat
 | .obj q => if q = o then R else RR (.obj q)
 | .slot s => match look st.slots s with
  | some x => bif x.ment o then [] else RR (.slot s)
  | none => RR (.slot s)

theorem reown_slot (st : St) (RR : Own → List Nat) (o : Nat) (R : List Nat) (s : Nat) : reown st RR o R (.slot s) = [] ∨ reown st RR o R (.slot s) = RR (.slot s) := by
 cases hs : look st.slots s with
 | none => exact .inr (by simp [reown, hs])
 | some x => cases hk : x.ment o with
  | true => exact .inl (by simp [reown, hs, hk])
  | false => exact .inr (by simp [reown, hs, hk])

theorem Inv.reobj (hi : Inv G E RR st a) (hm : Moves G E E' T) {o : Nat} {ob : Obj} {R : List Nat} (hT : ∀ b, T b → b ∈ RR (.obj o)) (hβ : ∀ q, q ≠ o → E'.β q = E.β q) (hfix : G.fn.F.elem o = true → E'.β o = E.β o)
  (hx : ROb E' o ob R) (hn : R.Nodup) (hR : ∀ b ∈ R, b < E'.w.heap.size ∧ ¬ G.K b ∧ ∀ p, p ≠ .obj o → b ∉ RR p) :
  Inv G E' (reown st RR o R) ((st.kill o).putO o ob) a := by
 have hold : ∀ p, p ≠ .obj o → ∀ b ∈ RR p, ¬ T b := fun p hp b hb hTb => hi.apart p (.obj o) hp b hb (hT b hTb)
 have hsub : ∀ p, p ≠ .obj o → ∀ b ∈ reown st RR o R p, b ∈ RR p := by
  intro p hp b hb
  cases p with
  | obj q =>
   have : q ≠ o := fun e => hp (by rw [e])
   simpa [reown, this] using hb
  | slot s =>
   rcases reown_slot st RR o R s with h | h
   ·rw [h] at hb; cases hb
   ·rw [h] at hb; exact hb
 have hself : reown st RR o R (.obj o) = R := by simp [reown]
 have hnew : ∀ p, p ≠ .obj o → ∀ b ∈ RR p, b ∉ R := by
  intro p hp b hb hbR
  exact (hR b hbR).2.2 p hp hb
 have hφ0 : ∀ b i v, G.φ0 b i = some v → E'.φ b i = some v := fun b i v h => by rw [hm.φ]; exact hi.φ0 b i v h
 have hgrow : ∀ b i v, E'.φ b i = some v → G.φ0 b i = some v ∨ ¬ G.K b := fun b i v h => by rw [hm.φ] at h; exact hi.grow b i v h
 refine { hi with frz := hm.frz hi, slots := ?_, objs := ?_, nodup := ?_, apart := ?_, own := ?_, keep := hm.keep hi, size := Nat.le_trans hi.size hm.size, os := hm.os.trans hi.os, tape := hm.tape.trans hi.tape, output := hm.output.trans hi.output, φ0 := hφ0, grow := hgrow, fixed := ?_ }
 ·intro s y hy
  have hl : look (killXs o st.slots) s = some y := hy
  unfold killXs at hl
  rw [look_map (killX o)] at hl
  cases hs : look st.slots s with
  | none => simp [hs] at hl
  | some x =>
   rw [hs] at hl
   simp only [Option.map_some, Option.some.injEq] at hl
   subst hl
   cases hk : x.ment o with
   | true => simp [reown, hs, hk, killX, RX]
   | false =>
    have : reown st RR o R (.slot s) = RR (.slot s) := by simp [reown, hs, hk]
    rw [this]
    simp only [killX, hk, cond_false]
    exact hm.slot hi hs (hold _ (by simp)) (fun q hq => hβ q (fun e => by subst e; rw [hk] at hq; cases hq))
 ·intro q ob' ho
  simp only [St.putO, look] at ho
  cases hb : Nat.beq o q with
  | true =>
   have := Nat.eq_of_beq_eq_true hb
   subst this
   rw [hb] at ho
   simp only [cond_true, Option.some.injEq] at ho
   subst ho
   rw [hself]; exact hx
  | false =>
   have hne := Nat.ne_of_beq_eq_false hb
   rw [hb] at ho
   have hl : look (killOs o st.objs) q = some ob' := ho
   unfold killOs at hl
   rw [look_map (Obj.killC o)] at hl
   have hr : reown st RR o R (.obj q) = RR (.obj q) := by simp [reown, Ne.symm hne]
   rw [hr]
   cases hs : look st.objs q with
   | none => simp [hs] at hl
   | some ob0 =>
    rw [hs] at hl
    simp only [Option.map_some, Option.some.injEq] at hl
    subst hl
    have hobj := hi.objs q ob0 hs
    have hon := hm.on hi (p := .obj q) (hold _ (by simpa using Ne.symm hne))
    cases ob0 with
    | cells xs =>
     simp only [Obj.killC, ROb] at hobj ⊢
     obtain ⟨hfr, B, cs, ty, hB, hw, hf, hlen, hRO, hRR⟩ := hobj
     have h2 := hon.2 B.b (by rw [hRR]; simp)
     exact ⟨frees_kill o hfr, B, cs, ty, (hβ q (Ne.symm hne)).trans hB, h2.1.trans hw, h2.2 hf, by simpa using hlen,
      RO.mono _ cs _ [] (hon.sub (fun _ h => by cases h)) (fun p hp => hβ p (ments_kill o xs p hp).1) (RO.kill hfr hRO), hRR⟩
    | rows s rs => exact ROb.mono hon (hβ q (Ne.symm hne)) (fun xs h => by cases h) hobj
    | tab es => exact ROb.mono hon (hβ q (Ne.symm hne)) (fun xs h => by cases h) hobj
    | gone => simpa [ROb, Obj.killC] using hobj
 ·intro p
  by_cases hp : p = .obj o
  ·subst hp; rw [hself]; exact hn
  ·cases p with
   | obj q =>
    have : q ≠ o := fun e => hp (by rw [e])
    simpa [reown, this] using hi.nodup (.obj q)
   | slot s =>
    rcases reown_slot st RR o R s with h | h
    ·rw [h]; exact List.nodup_nil
    ·rw [h]; exact hi.nodup _
 ·intro p q hpq b hb hb'
  by_cases hp : p = .obj o
  ·subst hp
   rw [hself] at hb
   have hq : q ≠ .obj o := Ne.symm hpq
   exact hnew q hq b (hsub q hq b hb') hb
  ·by_cases hq : q = .obj o
   ·subst hq
    rw [hself] at hb'
    exact hnew p hp b (hsub p hp b hb) hb'
   ·exact hi.apart p q hpq b (hsub p hp b hb) (hsub q hq b hb')
 ·intro p b hb
  by_cases hp : p = .obj o
  ·subst hp
   rw [hself] at hb
   exact ⟨(hR b hb).1, (hR b hb).2.1⟩
  ·exact hm.own hi p b (hsub p hp b hb)
 ·intro q hq
  by_cases hqo : q = o
  ·subst hqo; rw [hfix hq]; exact hi.fixed q hq
  ·rw [hβ q hqo]; exact hi.fixed q hq

theorem Inv.inobj (hi : Inv G E RR st a) (hm : Moves G E E' T) {o : Nat} {ob : Obj} {R : List Nat} (hT : ∀ b, T b → b ∈ RR (.obj o)) (hβ : E'.β = E.β)
  (hx : ROb E' o ob R) (hn : R.Nodup) (hR : ∀ b ∈ R, b < E'.w.heap.size ∧ ¬ G.K b ∧ ∀ p, p ≠ .obj o → b ∉ RR p) :
  Inv G E' (upd RR (.obj o) R) (st.putO o ob) a := by
 have hold : ∀ p, p ≠ .obj o → ∀ b ∈ RR p, ¬ T b := fun p hp b hb hTb => hi.apart p (.obj o) hp b hb (hT b hTb)
 have hnew : ∀ p, p ≠ .obj o → ∀ b ∈ RR p, b ∉ R := by
  intro p hp b hb hbR
  exact (hR b hbR).2.2 p hp hb
 have hφ0 : ∀ b i v, G.φ0 b i = some v → E'.φ b i = some v := fun b i v h => by rw [hm.φ]; exact hi.φ0 b i v h
 have hgrow : ∀ b i v, E'.φ b i = some v → G.φ0 b i = some v ∨ ¬ G.K b := fun b i v h => by rw [hm.φ] at h; exact hi.grow b i v h
 refine { hi with frz := hm.frz hi, slots := ?_, objs := ?_, nodup := ?_, apart := ?_, own := ?_, keep := hm.keep hi, size := Nat.le_trans hi.size hm.size, os := hm.os.trans hi.os, tape := hm.tape.trans hi.tape, output := hm.output.trans hi.output, φ0 := hφ0, grow := hgrow, fixed := fun q hq => by rw [hβ]; exact hi.fixed q hq }
 ·intro s y hy
  have : upd RR (.obj o) R (.slot s) = RR (.slot s) := by simp [upd]
  rw [this]
  exact hm.slot hi hy (hold _ (by simp)) (fun q _ => by rw [hβ])
 ·intro q ob' ho
  simp only [St.putO, look] at ho
  cases hb : Nat.beq o q with
  | true =>
   have := Nat.eq_of_beq_eq_true hb
   subst this
   rw [hb] at ho
   simp only [cond_true, Option.some.injEq] at ho
   subst ho
   simpa [upd] using hx
  | false =>
   have hne := Nat.ne_of_beq_eq_false hb
   rw [hb] at ho
   have : upd RR (.obj o) R (.obj q) = RR (.obj q) := by simp [upd, Ne.symm hne]
   rw [this]
   exact hm.obj hi ho (hold _ (by simpa using Ne.symm hne)) (by rw [hβ]) (fun _ _ _ _ => by rw [hβ])
 ·intro p
  unfold upd
  split
  ·exact hn
  ·exact hi.nodup p
 ·intro p q hpq b hb hb'
  unfold upd at hb hb'
  split at hb
  ·rename_i hp
   subst hp
   rw [if_neg (Ne.symm hpq)] at hb'
   exact hnew q (Ne.symm hpq) b hb' hb
  ·rename_i hp
   split at hb'
   ·exact hnew p hp b hb hb'
   ·exact hi.apart p q hpq b hb hb'
 ·intro p b hb
  unfold upd at hb
  split at hb
  ·exact ⟨(hR b hb).1, (hR b hb).2.1⟩
  ·exact hm.own hi p b hb
end
end Go.AW
/- Part of the abstract walk: lists of owned cells, taken apart and joined. -/
namespace Go.AW
open Go

section
variable {E : Env}

theorem RO.ext : ∀ {xs : List X} {cs cs' : Array Value} {off : Nat} {R : List Nat}, (∀ j, j < xs.length → cs'[off + j]? = cs[off + j]?) → RO E xs cs off R → RO E xs cs' off R
 | [], _, _, _, _, _, h => by simpa [RO] using h
 | x :: r, cs, cs', off, R, he, h => by
  simp only [RO] at h ⊢
  obtain ⟨u, R₁, R₂, hu, hs, h1, h2, hR⟩ := h
  refine ⟨u, R₁, R₂, ?_, hs, h1, RO.ext (fun j hj => ?_) h2, hR⟩
  ·have := he 0 (by simp)
   rw [Nat.add_zero] at this
   rw [this]; exact hu
  ·have := he (j + 1) (by simp; omega)
   rw [show off + 1 + j = off + (j + 1) by omega]; exact this

theorem ROr.ext : ∀ {rs : List (List X)} {cs cs' : Array Value} {off : Nat} {R : List Nat}, (∀ j, j < rs.flatten.length → cs'[off + j]? = cs[off + j]?) → ROr E rs cs off R → ROr E rs cs' off R
 | [], _, _, _, _, _, h => by simpa [ROr] using h
 | x :: r, cs, cs', off, R, he, h => by
  simp only [ROr] at h ⊢
  obtain ⟨R₁, R₂, hn, h1, h2, hR⟩ := h
  refine ⟨R₁, R₂, hn, RO.ext (fun j hj => he j (by simp; omega)) h1, ROr.ext (fun j hj => ?_) h2, hR⟩
  have := he (x.length + j) (by simp at hj ⊢; omega)
  rw [Nat.add_assoc]; exact this

theorem RO.app : ∀ {xs ys : List X} {cs : Array Value} {off : Nat} {R₁ R₂ : List Nat}, RO E xs cs off R₁ → RO E ys cs (off + xs.length) R₂ → RO E (xs ++ ys) cs off (R₁ ++ R₂)
 | [], ys, cs, off, R₁, R₂, h, h' => by simp only [RO] at h; subst h; simpa using h'
 | x :: r, ys, cs, off, R₁, R₂, h, h' => by
  simp only [RO] at h
  obtain ⟨u, R₃, R₄, hu, hs, h1, h2, rfl⟩ := h
  simp only [List.cons_append, RO]
  refine ⟨u, R₃, R₄ ++ R₂, hu, hs, h1, RO.app h2 ?_, by simp⟩
  rw [show off + 1 + r.length = off + (x :: r).length by simp; omega]; exact h'

theorem RO.unapp : ∀ {xs ys : List X} {cs : Array Value} {off : Nat} {R : List Nat}, RO E (xs ++ ys) cs off R → ∃ R₁ R₂, RO E xs cs off R₁ ∧ RO E ys cs (off + xs.length) R₂ ∧ R = R₁ ++ R₂
 | [], ys, cs, off, R, h => ⟨[], R, by simp [RO], by simpa using h, rfl⟩
 | x :: r, ys, cs, off, R, h => by
  simp only [List.cons_append, RO] at h
  obtain ⟨u, R₃, R₄, hu, hs, h1, h2, rfl⟩ := h
  obtain ⟨R₁, R₂, h3, h4, rfl⟩ := RO.unapp h2
  refine ⟨R₃ ++ R₁, R₂, ?_, ?_, by simp⟩
  ·simp only [RO]; exact ⟨u, R₃, R₁, hu, hs, h1, h3, rfl⟩
  ·rw [show off + (x :: r).length = off + 1 + r.length by simp; omega]; exact h4

theorem ROr.app : ∀ {xs ys : List (List X)} {cs : Array Value} {off : Nat} {R₁ R₂ : List Nat}, ROr E xs cs off R₁ → ROr E ys cs (off + xs.flatten.length) R₂ → ROr E (xs ++ ys) cs off (R₁ ++ R₂)
 | [], ys, cs, off, R₁, R₂, h, h' => by simp only [ROr] at h; subst h; simpa using h'
 | x :: r, ys, cs, off, R₁, R₂, h, h' => by
  simp only [ROr] at h
  obtain ⟨R₃, R₄, hn, h1, h2, rfl⟩ := h
  simp only [List.cons_append, ROr]
  refine ⟨R₃, R₄ ++ R₂, hn, h1, ROr.app h2 ?_, by simp⟩
  rw [show off + x.length + r.flatten.length = off + (x :: r).flatten.length by simp; omega]; exact h'

theorem ROr.unapp : ∀ {xs ys : List (List X)} {cs : Array Value} {off : Nat} {R : List Nat}, ROr E (xs ++ ys) cs off R → ∃ R₁ R₂, ROr E xs cs off R₁ ∧ ROr E ys cs (off + xs.flatten.length) R₂ ∧ R = R₁ ++ R₂
 | [], ys, cs, off, R, h => ⟨[], R, by simp [ROr], by simpa using h, rfl⟩
 | x :: r, ys, cs, off, R, h => by
  simp only [List.cons_append, ROr] at h
  obtain ⟨R₃, R₄, hn, h1, h2, rfl⟩ := h
  obtain ⟨R₁, R₂, h3, h4, rfl⟩ := ROr.unapp h2
  refine ⟨R₃ ++ R₁, R₂, ?_, ?_, by simp⟩
  ·simp only [ROr]; exact ⟨R₃, R₁, hn, h1, h3, rfl⟩
  ·rw [show off + (x :: r).flatten.length = off + x.length + r.flatten.length by simp; omega]; exact h4

theorem RO.of : ∀ {xs : List X} {vs : List Value} {cs : Array Value} {off : Nat} {R : List Nat}, RXs E xs vs R → (∀ j v, vs[j]? = some v → cs[off + j]? = some v) → RO E xs cs off R
 | [], _, _, _, _, h, _ => by simp only [RXs] at h; simp [RO, h.2]
 | x :: r, vs, cs, off, R, h, hv => by
  simp only [RXs] at h
  obtain ⟨c, cs', R₁, R₂, rfl, hs, h1, h2, rfl⟩ := h
  simp only [RO]
  refine ⟨c, R₁, R₂, ?_, hs, h1, RO.of h2 (fun j v hj => ?_), rfl⟩
  ·simpa using hv 0 c rfl
  ·rw [show off + 1 + j = off + (j + 1) by omega]; exact hv (j + 1) v (by simpa using hj)

theorem length_flatten {s : Nat} : ∀ {rs : List (List X)}, Uniform s rs → rs.flatten.length = rs.length * s
 | [], _ => by simp
 | r :: rs, h => by
  have h1 := h r (by simp)
  have := length_flatten (rs := rs) (fun q hq => h q (by simp [hq]))
  simp only [List.flatten_cons, List.length_append, h1, this, List.length_cons, Nat.add_mul]
  omega

end

def putL {α : Type} (xs : List α) (k : Nat) (ys : List α) : List α := xs.take k ++ ys ++ xs.drop (k + ys.length)

theorem length_putL {α : Type} {xs ys : List α} {k : Nat} (h : k + ys.length ≤ xs.length) : (putL xs k ys).length = xs.length := by
 simp [putL]; omega

def putA (cs : Array Value) (k : Nat) (vs : List Value) : Array Value := (cs.toList.take k ++ vs ++ cs.toList.drop (k + vs.length)).toArray

theorem size_putA {cs : Array Value} {k : Nat} {vs : List Value} (h : k + vs.length ≤ cs.size) : (putA cs k vs).size = cs.size := by
 simp [putA]; omega

theorem putA_in {cs : Array Value} {k j : Nat} {vs : List Value} (h : k + vs.length ≤ cs.size) (hj : j < vs.length) : (putA cs k vs)[k + j]? = vs[j]? := by
 have hk : k ≤ cs.toList.length := by simp; omega
 simp only [putA, List.getElem?_toArray, List.append_assoc]
 rw [List.getElem?_append_right (by simp; omega)]
 have : k + j - (List.take k cs.toList).length = j := by simp; omega
 rw [this, List.getElem?_append_left hj]

theorem putA_out {cs : Array Value} {k j : Nat} {vs : List Value} (h : k + vs.length ≤ cs.size) (hj : j < k ∨ k + vs.length ≤ j) : (putA cs k vs)[j]? = cs[j]? := by
 have hk : k ≤ cs.toList.length := by simp; omega
 have hl : (List.take k cs.toList).length = k := by simp; omega
 simp only [putA, List.getElem?_toArray, List.append_assoc]
 rcases hj with hj | hj
 ·rw [List.getElem?_append_left om, List.getElem?_take_of_lt hj]; simp
 ·rw [List.getElem?_append_right om, List.getElem?_append_right om, hl, List.getElem?_drop]
  have : k + vs.length + (j - k - vs.length) = j := by omega
  rw [this]; simp

section
variable {E : Env}

theorem RO.put {xs ys : List X} {cs : Array Value} {off k : Nat} {R R₂ : List Nat} {vs : List Value} (h : RO E xs cs off R) (hk : k + ys.length ≤ xs.length) (hy : RXs E ys vs R₂) (hc : off + xs.length ≤ cs.size) :
  ∃ R₁, RO E (putL xs k ys) (putA cs (off + k) vs) off R₁ ∧ (∀ b ∈ R₁, b ∈ R ∨ b ∈ R₂) ∧ ((R ++ R₂).Nodup → R₁.Nodup) := by
 have hl := RXs.length hy
 have hfit : off + k + vs.length ≤ cs.size := by omega
 have h0 : xs = xs.take k ++ ((xs.drop k).take ys.length ++ xs.drop (k + ys.length)) := by
  conv => lhs; rw [← List.take_append_drop k xs, ← List.take_append_drop ys.length (xs.drop k), List.drop_drop]
 rw [h0] at h
 obtain ⟨Ra, Rb, h1, h2, rfl⟩ := RO.unapp h
 obtain ⟨Rc, Rd, h3, h4, rfl⟩ := RO.unapp h2
 have hlk : (xs.take k).length = k := by simp; omega
 have hlm : ((xs.drop k).take ys.length).length = ys.length := by simp; omega
 rw [hlk, hlm] at h4
 refine ⟨Ra ++ R₂ ++ Rd, ?_, ?_, ?_⟩
 ·unfold putL
  refine RO.app (RO.app (RO.ext (fun j hj => putA_out hfit (.inl om)) h1) ?_) ?_
  ·rw [hlk]
   refine RO.of hy fun j v hj => ?_
   have hjl : j < vs.length := by
    rcases Nat.lt_or_ge j vs.length with h' | h'
    ·exact h'
    ·simp [List.getElem?_eq_none h'] at hj
   rw [putA_in hfit hjl]; exact hj
  ·have : off + (List.take k xs ++ ys).length = off + k + ys.length := by simp; omega
   rw [this]
   exact RO.ext (fun j _ => putA_out hfit (.inr om)) h4
 ·intro b hb
  simp only [List.mem_append] at hb ⊢
  rcases hb with (hb | hb) | hb
  ·exact .inl (.inl hb)
  ·exact .inr hb
  ·exact .inl (.inr (.inr hb))
 ·intro hn
  simp only [List.nodup_append, List.mem_append] at hn ⊢
  obtain ⟨⟨ha, ⟨hc', hd, hcd⟩, hab⟩, h2', hx⟩ := hn
  refine ⟨⟨ha, h2', fun a ha' b hb => hx a (.inl ha') b hb⟩, hd, ?_⟩
  intro a ha' b hb
  rcases ha' with ha' | ha'
  ·exact hab a ha' b (.inr hb)
  ·intro e; subst e; exact hx a (.inr (.inr hb)) a ha' rfl

theorem ROr.set {rs : List (List X)} {row ys : List X} {cs : Array Value} {off s i k : Nat} {R R₂ : List Nat} {vs : List Value} (hu : Uniform s rs) (h : ROr E rs cs off R) (hr : rs[i]? = some row)
  (hk : k + ys.length ≤ row.length) (hy : RXs E ys vs R₂) (hn : X.nrs ys = true) (hc : off + rs.length * s ≤ cs.size) :
  ∃ R₁, ROr E (rs.set i (putL row k ys)) (putA cs (off + (i * s + k)) vs) off R₁ ∧ (∀ b ∈ R₁, b ∈ R ∨ b ∈ R₂) ∧ ((R ++ R₂).Nodup → R₁.Nodup) := by
 have hi : i < rs.length := by
  rcases Nat.lt_or_ge i rs.length with h' | h'
  ·exact h'
  ·simp [List.getElem?_eq_none h'] at hr
 have hl := RXs.length hy
 have hrow : row.length = s := hu row (List.mem_of_getElem? hr)
 have hri : rs[i] = row := by rw [List.getElem?_eq_getElem hi] at hr; exact Option.some.inj hr
 have h0 : rs = rs.take i ++ (row :: rs.drop (i + 1)) := by
  conv => lhs; rw [← List.take_append_drop i rs, List.drop_eq_getElem_cons hi, hri]
 have hset : rs.set i (putL row k ys) = rs.take i ++ (putL row k ys :: rs.drop (i + 1)) := by
  rw [List.set_eq_take_append_cons_drop, if_pos hi]
 rw [h0] at h
 obtain ⟨Ra, Rb, h1, h2, rfl⟩ := ROr.unapp h
 have hfl : (rs.take i).flatten.length = i * s := by
  rw [length_flatten (hu.take i), List.length_take, Nat.min_eq_left (Nat.le_of_lt hi)]
 rw [hfl] at h2
 simp only [ROr] at h2
 obtain ⟨Rc, Rd, hnr, h3, h4, rfl⟩ := h2
 have his : i * s + s ≤ rs.length * s := by
  have : (i + 1) * s ≤ rs.length * s := Nat.mul_le_mul_right s hi
  rw [Nat.add_mul] at this; omega
 have hfit : off + (i * s + k) + vs.length ≤ cs.size := by omega
 obtain ⟨Re, h5, hsub, hnd⟩ := RO.put h3 hk hy om
 rw [hset]
 refine ⟨Ra ++ (Re ++ Rd), ?_, ?_, ?_⟩
 ·refine ROr.app (ROr.ext (fun j hj => putA_out hfit (.inl om)) h1) ?_
  rw [hfl]
  simp only [ROr]
  have hlp : (putL row k ys).length = row.length := length_putL hk
  refine ⟨Re, Rd, ?_, ?_, ?_, rfl⟩
  ·have h7 : ∀ (xs ys : List X), X.nrs xs = true → X.nrs ys = true → X.nrs (xs ++ ys) = true := by
    intro xs
    induction xs with
    | nil => intro ys _ h; exact h
    | cons x r ih => intro ys hx hy; simp only [X.nrs, Bool.and_eq_true, List.cons_append] at hx ⊢; exact ⟨hx.1, ih ys hx.2 hy⟩
   have h8 : ∀ (xs : List X) (n : Nat), X.nrs xs = true → X.nrs (xs.take n) = true := by
    intro xs
    induction xs with
    | nil => intro n _; simp [X.nrs]
    | cons x r ih =>
     intro n hx
     cases n with
     | zero => simp [X.nrs]
     | succ n => simp only [X.nrs, Bool.and_eq_true, List.take_succ_cons] at hx ⊢; exact ⟨hx.1, ih n hx.2⟩
   have h9 : ∀ (xs : List X) (n : Nat), X.nrs xs = true → X.nrs (xs.drop n) = true := by
    intro xs
    induction xs with
    | nil => intro n _; simp [X.nrs]
    | cons x r ih =>
     intro n hx
     cases n with
     | zero => simpa using hx
     | succ n => simp only [X.nrs, Bool.and_eq_true, List.drop_succ_cons] at hx ⊢; exact ih n hx.2
   exact h7 _ _ (h7 _ _ (h8 _ _ hnr) hn) (h9 _ _ hnr)
  ·rw [Nat.add_assoc] at h5; exact h5
  ·rw [hlp]
   exact ROr.ext (fun j _ => putA_out hfit (.inr om)) h4
 ·intro b hb
  simp only [List.mem_append] at hb ⊢
  rcases hb with hb | hb | hb
  ·exact .inl (.inl hb)
  ·rcases hsub b hb with h' | h'
   ·exact .inl (.inr (.inl h'))
   ·exact .inr h'
  ·exact .inl (.inr (.inr hb))
 ·intro hnd'
  simp only [List.nodup_append, List.mem_append] at hnd' hnd ⊢
  obtain ⟨⟨ha, ⟨hc', hd, hcd⟩, hab⟩, h2', hx⟩ := hnd'
  have hRe := hnd ⟨hc', h2', fun a ha' b hb => hx a (.inr (.inl ha')) b hb⟩
  refine ⟨ha, ⟨hRe, hd, ?_⟩, ?_⟩
  ·intro a ha' b hb
   rcases hsub a ha' with h' | h'
   ·exact hcd a h' b hb
   ·intro e; subst e; exact hx a (.inr (.inr hb)) a h' rfl
  ·intro a ha' b hb
   rcases hb with hb | hb
   ·rcases hsub b hb with h' | h'
    ·exact hab a ha' b (.inl h')
    ·exact hx a (.inl ha') b h'
   ·exact hab a ha' b (.inr hb)

theorem Uniform.set {s i : Nat} {rs : List (List X)} {row : List X} (hu : Uniform s rs) (h : row.length = s) : Uniform s (rs.set i row) := by
 intro r hr
 rcases List.mem_or_eq_of_mem_set hr with h' | h'
 ·exact hu r h'
 ·rw [h']; exact h

end
end Go.AW
/- Part of the abstract walk: operations that make or write memory. -/
namespace Go.AW
open Go

def X.ones : List X → Bool
 | [] => true
 | x :: r => x.one && X.ones r

theorem frees_v : ∀ (z : List Value), X.frees (z.map X.v) = true
 | [] => rfl
 | _ :: r => by simp [X.frees, X.free, frees_v r]
theorem nrs_v : ∀ (z : List Value), X.nrs (z.map X.v) = true
 | [] => rfl
 | _ :: r => by simp [X.nrs, X.nr, nrs_v r]
theorem RXs_v {E : Env} : ∀ {z : List Value}, X.ones (z.map X.v) = true → RXs E (z.map X.v) z []
 | [], _ => by simp [RXs]
 | c :: r, h => by
  simp only [List.map_cons, X.ones, Bool.and_eq_true] at h
  simp only [List.map_cons, RXs]
  have hx : RX E (X.v c) c [] := by simp [RX]
  exact ⟨c, r, [], [], rfl, hx.one h.1, hx, RXs_v h.2, rfl⟩

theorem RXs.oneCell {E : Env} : ∀ {xs : List X} {vs : List Value} {R : List Nat}, RXs E xs vs R → ∀ v ∈ vs, v.oneCell' = true
 | [], _, _, h, v, hv => by simp only [RXs] at h; rw [h.1] at hv; cases hv
 | x :: r, _, _, h, v, hv => by
  simp only [RXs] at h
  obtain ⟨c, cs', R₁, R₂, rfl, hs, _, h2, _⟩ := h
  rcases List.mem_cons.1 hv with h' | h'
  ·subst h'; cases v <;> first | rfl | exact hs.elim
  ·exact RXs.oneCell h2 v h'

def Sh (N : Frm) (st st' : St) : Prop := ∀ G : Ctx, G.fn = N → ∀ a w, Holds G st a w → Holds G st' a w

section
variable {P : Program} {N : Frm} {st st' : St} {Q : Exit → St → Prop} {all : Array Oper} {rest : List Oper} {d : Nat} {ty : TypeId} {pos : String} {af : Array Edge}

theorem AOps.sh (h : Sh N st st') (k : AOps P N all rest st' Q) : AOps P N all rest st Q := fun G hn a w hh => k G hn a w (h G hn a w hh)
theorem AWp.sh {c : Code} (h : Sh N st st') (k : AWp P N c st' Q) : AWp P N c st Q := fun G hn a w hh => k G hn a w (h G hn a w hh)

theorem AOps.eff {op : Op} (h : ∀ (G : Ctx) (E : Env) (RR : Own → List Nat) (a : Act), G.fn = N → Inv G E RR st a →
   ∃ u E' RR', (execOp a.eval ⟨some d, op, ty, pos, af, none⟩).run P E.w = .ok (.value u) E'.w ∧ Inv G E' RR' st' (a.put (some d) u))
  (k : AOps P N all rest st' Q) : AOps P N all (⟨some d, op, ty, pos, af, none⟩ :: rest) st Q := by
 intro G hn a w hh
 obtain ⟨E, RR, rfl, hi⟩ := hh
 obtain ⟨u, E', RR', hr, hi'⟩ := h G E RR a hn hi
 refine wpList_plain rfl fun K hK => ?_
 simp only [Oper.wp, hr, Oper.upon_value]
 exact hK _ _ (k G hn _ _ ⟨E', RR', rfl, hi'⟩)

theorem AOps.eff0 {op : Op} (h : ∀ (G : Ctx) (E : Env) (RR : Own → List Nat) (a : Act), G.fn = N → Inv G E RR st a →
   ∃ E' RR', (execOp a.eval ⟨none, op, ty, pos, af, none⟩).run P E.w = .ok .skip E'.w ∧ Inv G E' RR' st' a)
  (k : AOps P N all rest st' Q) : AOps P N all (⟨none, op, ty, pos, af, none⟩ :: rest) st Q := by
 intro G hn a w hh
 obtain ⟨E, RR, rfl, hi⟩ := hh
 obtain ⟨E', RR', hr, hi'⟩ := h G E RR a hn hi
 refine wpList_plain rfl fun K hK => ?_
 simp only [Oper.wp, hr, Oper.upon_skip]
 exact hK _ _ (k G hn _ _ ⟨E', RR', rfl, hi'⟩)

theorem TY.zero_spec {t : TypeId} {z : List Value} (h : TY.zero P t = some z) : ∃ i z0, P.info? t = some i ∧ i.zero = some z0 ∧ z0.cells.toList = z := by
 unfold TY.zero at h
 cases hi : P.info? t with
 | none => simp [hi] at h
 | some i =>
  rw [hi] at h
  simp only [Option.bind_some] at h
  cases hz : i.zero with
  | none => simp [hz] at h
  | some z0 =>
   rw [hz] at h
   simp only [Option.map_some, Option.some.injEq] at h
   exact ⟨i, z0, rfl, hz, h⟩

def Env.withVar (E : Env) (o : Nat) (cs : Array Value) (t : TypeId) : Env :=
 {E with w := E.w.alloc (.cells cs t), β := fun q => if q = o then some ⟨E.w.heap.size, 0, 0⟩ else E.β q }

theorem heap_alloc (w : World) (o : Go.Obj) : (w.alloc o).heap[w.heap.size]? = some o := by
 show (w.heap.push o)[w.heap.size]? = _
 simp

theorem Inv.newVar {G : Ctx} {E : Env} {RR : Own → List Nat} {a : Act} (hi : Inv G E RR st a) {o : Nat} {ys : List X} {vs : List Value} {t : TypeId} (hF : G.fn.F.elem o = false) (hy : RXs E ys vs []) (hf : X.frees ys = true) (hm : X.ments o ys = false) :
  ∃ RR', Inv G (E.withVar o vs.toArray t) RR' ((st.kill o).putO o (.cells ys)) a := by
 refine ⟨_, hi.reobj (E' := E.withVar o vs.toArray t) (T := fun _ => False) (o := o) (R := [E.w.heap.size]) ?_ (fun _ h => h.elim) (fun q hq => by simp [Env.withVar, hq]) (fun h => by rw [hF] at h; cases h) ?_ (by simp) ?_⟩
 ·exact { Moves.alloc G E (.cells vs.toArray t) with φ := rfl }
 ·have hon : E.On (E.withVar o vs.toArray t) [] := ⟨fun _ _ _ h => h, fun _ h => by cases h⟩
  have hy' : RXs (E.withVar o vs.toArray t) ys vs [] := RXs.mono ys vs [] hon (fun q hq => by
   have : q ≠ o := fun e => by subst e; rw [hm] at hq; cases hq
   simp [Env.withVar, this]) hy
  simp only [ROb]
  refine ⟨hf, ⟨E.w.heap.size, 0, 0⟩, vs.toArray, t, by simp [Env.withVar], heap_alloc _ _, fun i => ?_, by simp [RXs.length hy], ?_, rfl⟩
  ·show E.φ E.w.heap.size i = none
   cases h : E.φ E.w.heap.size i with
   | none => rfl
   | some v => exact absurd (World.block_lt_of_cell? E.w _ (hi.frz _ _ _ h)) (by simp)
  ·exact RO.of hy' (fun j v hj => by simpa using hj)
 ·intro b hb
  simp only [List.mem_singleton] at hb
  subst hb
  refine ⟨by simp [Env.withVar], fun hK => ?_, hi.mine (.inr (Nat.le_refl _))⟩
  have := hi.small _ hK
  have := hi.size
  omega

theorem AOps.alloc {t : TypeId} {z : List Value} (o : Nat) (hz : TY.zero P t = some z) (h1 : X.ones (z.map X.v) = true) (hF : N.F.elem o = false) (hd : d < N.n)
  (k : AOps P N all rest (((st.kill o).putO o (.cells (z.map X.v))).put d (.ptr o 0 0 0)) Q) : AOps P N all (⟨some d, .alloc t, ty, pos, af, none⟩ :: rest) st Q := by
 refine AOps.eff (fun G E RR a hn hi => ?_) k
 have hm : ∀ z : List Value, X.ments o (z.map X.v) = false := by
  intro z
  induction z with
  | nil => rfl
  | cons c r ih => simp [X.ments, X.ment, ih]
 obtain ⟨RR', hi'⟩ := hi.newVar (o := o) (t := t) (by rw [hn]; exact hF) (RXs_v h1) (frees_v z) (hm z)
 refine ⟨.pointer (some ⟨E.w.heap.size, 0, none⟩), _, _, ?_, hi'.put0 (x := .ptr o 0 0 0) (by rw [hn]; exact hd) ?_⟩
 ·obtain ⟨i, z0, hi0, hz0, hzz⟩ := TY.zero_spec hz
  show (do let x ← Instr.alloc t true (.tuple #[]); pure (Next.value x) : Sem Next).run P E.w = _
  refine run_v ?_
  have hzz' : z0.cells = z.toArray := by rw [← hzz]
  simp [Instr.alloc, zeroValue, typeInfo, hi0, hz0, Go.newVar, newRow, Env.withVar, hzz']
 ·simp only [RX]
  exact ⟨trivial, ⟨E.w.heap.size, 0, 0⟩, by simp [Env.withVar], by simp⟩

theorem AOps.box {t : TypeId} {x : Operand} {y : X} {ys : List X} (o : Nat) (hx : opd st x = some y) (hy : y.flat = some ys) (hf : X.frees ys = true) (hm : X.ments o ys = false) (hF : N.F.elem o = false) (hd : d < N.n)
  (k : AOps P N all rest (((st.kill o).putO o (.cells ys)).put d (.ptr o 0 0 0)) Q) : AOps P N all (⟨some d, .box t x, ty, pos, af, none⟩ :: rest) st Q := by
 refine AOps.eff (fun G E RR a hn hi => ?_) k
 obtain ⟨R, hxv⟩ := hi.eval hx
 have hfl := hxv.flat hy
 have h0 := RXs.free hf hfl
 subst h0
 obtain ⟨RR', hi'⟩ := hi.newVar (o := o) (t := t) (by rw [hn]; exact hF) hfl hf hm
 refine ⟨.pointer (some ⟨E.w.heap.size, 0, none⟩), _, _, ?_, hi'.put0 (x := .ptr o 0 0 0) (by rw [hn]; exact hd) ?_⟩
 ·show (do let z ← Instr.box t (a.eval x); pure (Next.value z) : Sem Next).run P E.w = _
  refine run_v ?_
  simp [Instr.box, Go.newVar, newRow, Env.withVar]
 ·simp only [RX]
  exact ⟨trivial, ⟨E.w.heap.size, 0, 0⟩, by simp [Env.withVar], by simp⟩

end
end Go.AW
/- Part of the abstract walk: structs, arrays and slices that are built. -/
namespace Go.AW
open Go

section
variable {E : Env}

theorem RXs.app : ∀ {xs ys : List X} {cs ds : List Value} {R₁ R₂ : List Nat}, RXs E xs cs R₁ → RXs E ys ds R₂ → RXs E (xs ++ ys) (cs ++ ds) (R₁ ++ R₂)
 | [], _, _, _, _, _, h, h' => by simp only [RXs] at h; obtain ⟨rfl, rfl⟩ := h; simpa using h'
 | x :: r, ys, cs, ds, R₁, R₂, h, h' => by
  simp only [RXs] at h
  obtain ⟨c, cs', R₃, R₄, rfl, hs, h1, h2, rfl⟩ := h
  simp only [List.cons_append, RXs]
  exact ⟨c, cs' ++ ds, R₃, R₄ ++ R₂, rfl, hs, h1, RXs.app h2 h', by simp⟩

theorem RXs.take0 {xs : List X} {cs : List Value} (k : Nat) (h : RXs E xs cs []) : RXs E (xs.take k) (cs.take k) [] := by
 induction xs generalizing cs k with
 | nil => simp only [RXs] at h; simp [RXs, h.1]
 | cons x r ih =>
  simp only [RXs] at h
  obtain ⟨c, cs', R₁, R₂, rfl, hs, h1, h2, hR⟩ := h
  have hR' := List.append_eq_nil_iff.1 hR.symm
  obtain ⟨rfl, rfl⟩ := hR'
  cases k with
  | zero => simp [RXs]
  | succ k => simp only [List.take_succ_cons, RXs]; exact ⟨c, _, [], [], rfl, hs, h1, ih k h2, rfl⟩

theorem RXs.drop0 {xs : List X} {cs : List Value} (k : Nat) (h : RXs E xs cs []) : RXs E (xs.drop k) (cs.drop k) [] := by
 induction xs generalizing cs k with
 | nil => simp only [RXs] at h; simp [RXs, h.1]
 | cons x r ih =>
  have h' := h
  simp only [RXs] at h
  obtain ⟨c, cs', R₁, R₂, rfl, hs, h1, h2, hR⟩ := h
  have hR' := List.append_eq_nil_iff.1 hR.symm
  obtain ⟨rfl, rfl⟩ := hR'
  cases k with
  | zero => exact h'
  | succ k => simp only [List.drop_succ_cons]; exact ih k h2

theorem RXs.put0 {xs ys : List X} {cs vs : List Value} {k : Nat} (h : RXs E xs cs []) (h' : RXs E ys vs []) : RXs E (putL xs k ys) (putL cs k vs) [] := by
 unfold putL
 rw [← RXs.length h']
 have := RXs.app (RXs.app (RXs.take0 k h) h') (RXs.drop0 (k + vs.length) h)
 simpa using this
end

def fillX (place : Nat → Option (Nat × Nat)) (cells : List X) : List (Nat × X) → Option (List X)
 | [] => some cells
 | (i, x) :: rest =>
  match place i, x.flat with
  | some (off, size), some ys => bif Nat.beq ys.length size && Nat.ble (off + size) cells.length then fillX place (putL cells off ys) rest else none
  | _, _ => none

def partsX (st : St) : List (Nat × Operand) → Option (List (Nat × X))
 | [] => some []
 | (i, x) :: r => match opd st x, partsX st r with
  | some y, some l => bif y.free then some ((i, y) :: l) else none
  | _, _ => none

theorem foldl_get (off : Nat) : ∀ (l : List Value) (k : Nat) (cs : Array Value), ((l.zipIdx k).foldl (fun cs (p : Value × Nat) => cs.setIfInBounds (off + p.2) p.1) cs).size = cs.size ∧
  ∀ j, ((l.zipIdx k).foldl (fun cs (p : Value × Nat) => cs.setIfInBounds (off + p.2) p.1) cs)[j]? = if off + k ≤ j ∧ j < off + k + l.length ∧ j < cs.size then l[j - off - k]? else cs[j]?
 | [], k, cs => by
  refine ⟨rfl, fun j => ?_⟩
  rw [if_neg (by simp; omega)]
  rfl
 | v :: r, k, cs => by
  obtain ⟨h1, h2⟩ := foldl_get off r (k + 1) (cs.setIfInBounds (off + k) v)
  simp only [List.zipIdx_cons, List.foldl_cons]
  refine ⟨by rw [h1]; simp, fun j => ?_⟩
  rw [h2 j]
  simp only [Array.size_setIfInBounds, List.length_cons]
  by_cases hj : off + (k + 1) ≤ j ∧ j < off + (k + 1) + r.length ∧ j < cs.size
  ·rw [if_pos hj, if_pos om, show j - off - k = (j - off - (k + 1)) + 1 by omega]
   simp
  ·rw [if_neg hj]
   by_cases hjk : j = off + k
   ·subst hjk
    by_cases hlt : off + k < cs.size
    ·rw [if_pos om, show off + k - off - k = 0 by omega]
     simp [Array.getElem?_setIfInBounds_self_of_lt hlt]
    ·rw [if_neg om]
     simp [hlt]
   ·rw [if_neg om, Array.getElem?_setIfInBounds_ne om]

theorem foldl_putL (off : Nat) (v cs : Array Value) (h : off + v.size ≤ cs.size) : (v.zipIdx.foldl (fun cs (p : Value × Nat) => cs.setIfInBounds (off + p.2) p.1) cs).toList = putL cs.toList off v.toList := by
 have hf : v.zipIdx.foldl (fun cs (p : Value × Nat) => cs.setIfInBounds (off + p.2) p.1) cs = (v.toList.zipIdx 0).foldl (fun cs (p : Value × Nat) => cs.setIfInBounds (off + p.2) p.1) cs := by
  rw [← Array.foldl_toList, Array.toList_zipIdx]
 rw [hf]
 obtain ⟨h1, h2⟩ := foldl_get off v.toList 0 cs
 apply List.ext_getElem?
 intro j
 rw [Array.getElem?_toList, h2 j]
 have hvl : v.toList.length = v.size := by simp
 simp only [Nat.add_zero, Nat.sub_zero, hvl, putL, List.append_assoc]
 have hl : (List.take off cs.toList).length = off := by simp; omega
 by_cases hj : j < off
 ·rw [if_neg om, List.getElem?_append_left om, List.getElem?_take_of_lt hj]; simp
 ·by_cases hj2 : j < off + v.size
  ·rw [if_pos om, List.getElem?_append_right om, hl, List.getElem?_append_left om]
  ·rw [if_neg om, List.getElem?_append_right om, List.getElem?_append_right om, hl, List.getElem?_drop]
   have : off + v.size + (j - off - v.toList.length) = j := by omega
   rw [this]; simp

section
variable {P : Program} {N : Frm} {G : Ctx} {E : Env} {RR : Own → List Nat} {st : St} {a : Act}

theorem fill_spec (hi : Inv G E RR st a) (place : Nat → Option (Nat × Nat)) : ∀ (parts : List (Nat × Operand)) (xs : List X) (cs : Array Value) (pxs : List (Nat × X)) (ys : List X), RXs E xs cs.toList [] → partsX st parts = some pxs →
  fillX place xs pxs = some ys → ∃ cs', Instr.fill place cs (parts.map fun p => (p.1, a.eval p.2)) = some cs' ∧ RXs E ys cs'.toList []
 | [], xs, cs, pxs, ys, h, hp, hf => by
  simp only [partsX, Option.some.injEq] at hp
  subst hp
  simp only [fillX, Option.some.injEq] at hf
  subst hf
  exact ⟨cs, rfl, h⟩
 | (i, x) :: r, xs, cs, pxs, ys, h, hp, hf => by
  simp only [partsX] at hp
  cases hx : opd st x with
  | none => simp [hx] at hp
  | some y =>
   cases hr : partsX st r with
   | none => simp [hx, hr] at hp
   | some l =>
    rw [hx, hr] at hp
    simp only at hp
    cases hfree : y.free with
    | false => simp [hfree] at hp
    | true =>
     rw [hfree] at hp
     simp only [cond_true, Option.some.injEq] at hp
     subst hp
     simp only [fillX] at hf
     cases hpl : place i with
     | none => simp [hpl] at hf
     | some os =>
      obtain ⟨off, size⟩ := os
      cases hfl : y.flat with
      | none => simp [hpl, hfl] at hf
      | some zs =>
       rw [hpl, hfl] at hf
       simp only at hf
       cases hb : Nat.beq zs.length size && Nat.ble (off + size) xs.length with
       | false => simp [hb] at hf
       | true =>
        rw [hb] at hf
        simp only [cond_true] at hf
        simp only [Bool.and_eq_true] at hb
        have hsz : zs.length = size := Nat.eq_of_beq_eq_true hb.1
        have hle : off + size ≤ xs.length := Nat.le_of_ble_eq_true hb.2
        obtain ⟨R, hv⟩ := hi.eval hx
        have h0 := RX.free hfree hv
        subst h0
        have hfv := hv.flat hfl
        have hcl : (a.eval x).cells.size = size := by have := RXs.length hfv; simp at this; omega
        have hcs : cs.size = xs.length := by have := RXs.length h; simpa using this
        have hput := RXs.put0 (k := off) h hfv
        have hfold := foldl_putL off (a.eval x).cells cs om
        obtain ⟨cs', hcs', hys⟩ := fill_spec hi place r (putL xs off zs) ((a.eval x).cells.zipIdx.foldl (fun cs (p : Value × Nat) => cs.setIfInBounds (off + p.2) p.1) cs) l ys (by rw [hfold]; exact hput) hr hf
        refine ⟨cs', ?_, hys⟩
        simp only [List.map_cons, Instr.fill, hpl, hcl]
        rw [if_neg (by simp; omega)]
        exact hcs'

def TY.places (P : Program) (t : TypeId) : Option (List (Nat × Nat)) :=
 match P.underlying t with
 | some (.struct fs) => fs.toList.mapM fun f => (P.info? f.type).map fun i => (f.offset, i.size)
 | _ => none

theorem mapM_places {fs : List Field} {pl : List (Nat × Nat)} (h : (fs.mapM fun f => (P.info? f.type).map fun i => (f.offset, i.size)) = some pl) (w : World) :
  (fs.mapM fun f => (do pure (f.offset, ← sizeOf f.type) : Sem (Nat × Nat))).run P w = .ok pl w := by
 induction fs generalizing pl with
 | nil => simp at h; subst h; rfl
 | cons f r ih =>
  rw [List.mapM_cons] at h
  cases hf : P.info? f.type with
  | none => simp [hf] at h
  | some i =>
   rw [hf] at h
   cases hr : (r.mapM fun f => (P.info? f.type).map fun i => (f.offset, i.size)) with
   | none => simp [hr] at h
   | some l =>
    rw [hr] at h
    simp at h
    subst h
    rw [List.mapM_cons]
    simp only [Sem.run_bind, run_sizeOf hf, Result.andThen_ok, Sem.run_pure, ih hr]

theorem Y.build {dst : Option Nat} {ty : TypeId} {pos : String} {af : Array Edge} {g : Option (Nat × Bool)} {t : TypeId} {parts : Array (Nat × Operand)} {pl : List (Nat × Nat)} {z : List Value} {pxs : List (Nat × X)} {ys : List X}
  (hp : TY.places P t = some pl) (hz : TY.zero P t = some z) (h1 : X.ones (z.map X.v) = true) (hx : partsX st parts.toList = some pxs) (hf : fillX (pl[·]?) (z.map X.v) pxs = some ys) :
  Yields P N st ⟨dst, .build t parts, ty, pos, af, g⟩ (.agg ys) := by
 intro G E RR a _ hi
 obtain ⟨i, z0, hi0, hz0, hzz⟩ := TY.zero_spec hz
 have hzz' : z0.cells = z.toArray := by rw [← hzz]
 have hxs : RXs E (z.map X.v) z0.cells.toList [] := by rw [hzz]; exact RXs_v h1
 obtain ⟨cs', hcs', hys⟩ := fill_spec hi (pl[·]?) parts.toList _ z0.cells pxs ys hxs hx hf
 refine ⟨.agg cs', ?_, by simp only [RX]; exact ⟨cs', rfl, hys⟩⟩
 show (do let v ← Instr.build t (parts.map fun (i, x) => (i, a.eval x)); Pure.pure (Next.value v) : Sem Next).run P E.w = _
 refine run_v ?_
 unfold TY.places at hp
 cases hu : P.underlying t with
 | none => simp [hu] at hp
 | some d =>
  cases d with
  | struct fs =>
   rw [hu] at hp
   simp only at hp
   have hm := mapM_places hp E.w
   have hm' : (fs.mapM fun f => (do Pure.pure (f.offset, ← sizeOf f.type) : Sem (Nat × Nat))).run P E.w = .ok pl.toArray E.w := by
    rw [Array.mapM_eq_mapM_toList]
    simp only [Sem.run_map, hm]
    rfl
   have hpl : (fun (i : Nat) => pl.toArray[i]?) = fun i => pl[i]? := by funext i; simp
   have hpt : (parts.map fun (i, x) => (i, a.eval x)).toList = parts.toList.map fun p => (p.1, a.eval p.2) := by simp
   simp only [Instr.build, Sem.run_bind, zeroValue, typeInfo, run_program, hi0, hz0, Result.andThen_ok, Sem.run_pure, run_underlying hu, hm', hpl, hpt, hcs']
  | _ => simp [hu] at hp

end
end Go.AW
/- Part of the abstract walk: arrays by value, slices that are made. -/
namespace Go.AW
open Go

section
variable {P : Program} {N : Frm} {st : St} {Q : Exit → St → Prop} {all : Array Oper} {rest : List Oper} {d : Nat} {ty : TypeId} {pos : String} {af : Array Edge}

theorem ROr.of_all {E : Env} {s : Nat} {cs : Array Value} : ∀ {rs : List (List X)} {off : Nat}, Uniform s rs →
  (∀ i row, rs[i]? = some row → X.nrs row = true ∧ RO E row cs (off + i * s) []) → ROr E rs cs off []
 | [], _, _, _ => by simp [ROr]
 | r :: rs, off, hu, h => by
  simp only [ROr]
  have h0 := h 0 r rfl
  refine ⟨[], [], h0.1, by simpa using h0.2, ?_, rfl⟩
  rw [hu r (by simp)]
  refine ROr.of_all (fun q hq => hu q (by simp [hq])) fun i row hr => ?_
  have := h (i + 1) row (by simpa using hr)
  rw [show off + s + i * s = off + (i + 1) * s by rw [Nat.add_mul]; omega]
  exact this

theorem RXs.toRO {E : Env} {xs : List X} {vs : List Value} {cs : Array Value} {off : Nat} {R : List Nat} (h : RXs E xs vs R) (hv : ∀ j, j < xs.length → cs[off + j]? = vs[j]?) : RO E xs cs off R :=
 RO.of h fun j v hj => by
  have hjl : j < xs.length := by
   rw [← RXs.length h]
   rcases Nat.lt_or_ge j vs.length with h' | h'
   ·exact h'
   ·simp [List.getElem?_eq_none h'] at hj
  rw [hv j hjl]; exact hj

theorem Inv.newRow {G : Ctx} {E : Env} {RR : Own → List Nat} {a : Act} (hi : Inv G E RR st a) {cs : Array Value} {e : TypeId} {s cap : Nat} {rows : List (List X)} (hu : Uniform s rows) (hl : rows.length ≤ cap) (hc : cap * s ≤ cs.size)
  (hr : ROr { E with w := E.w.alloc (.cells cs e) } rows cs 0 []) (hd : d < G.fn.n) :
  ∃ RR', Inv G { E with w := E.w.alloc (.cells cs e) } RR' (st.put d (.uni s rows)) (a.put (some d) (.slice (some ⟨E.w.heap.size, 0, none⟩) rows.length cap)) := by
 have hi' := hi.moves (Moves.alloc G E (.cells cs e)) rfl
 refine ⟨_, hi'.put (R := [E.w.heap.size]) hd ?_ (by simp) ?_⟩
 ·simp only [RX]
  refine ⟨hu, _, _, rfl, .inr ⟨E.w.heap.size, 0, cs, e, [], rfl, heap_alloc _ _, hl, om, fun i => ?_, hr, rfl⟩⟩
  show E.φ E.w.heap.size i = none
  cases h : E.φ E.w.heap.size i with
  | none => rfl
  | some v => exact absurd (World.block_lt_of_cell? E.w _ (hi.frz _ _ _ h)) (by simp)
 ·intro b hb
  simp only [List.mem_singleton] at hb
  subst hb
  refine ⟨by simp, fun hK => ?_, fun p _ hb => ?_⟩
  ·have := hi.small _ hK
   have := hi.size
   omega
  ·exact absurd (hi.own p _ hb).1 (by simp)

theorem mod_of {i k s : Nat} (hk : k < s) : (i * s + k) % s = k := by
 rw [Nat.mul_comm, Nat.mul_add_mod, Nat.mod_eq_of_lt hk]

theorem AOps.makeSlice {t e s by_ n : Nat} {l c : Operand} {k k' : IntKind} {z : List Value} (ht : TY.slice P t = some (e, s, by_)) (hz : TY.zero P e = some z) (hzl : z.length = s) (h1 : X.ones (z.map X.v) = true)
  (hl : opd st l = some (.v (.int k (n : Int)))) (hc : opd st c = some (.v (.int k' (n : Int)))) (hb : by_ * n ≤ 281474976710656) (h63 : n ≤ 9223372036854775807) (hd : d < N.n)
  (kk : AOps P N all rest (st.put d (.uni s (List.replicate n (z.map X.v)))) Q) : AOps P N all (⟨some d, .makeSlice t l c, ty, pos, af, none⟩ :: rest) st Q := by
 refine AOps.eff (fun G E RR a hn hi => ?_) kk
 obtain ⟨hu, i, hinf, hs, hby⟩ := TY.slice_spec ht
 obtain ⟨i', z0, hi0, hz0, hzz⟩ := TY.zero_spec hz
 rw [hinf] at hi0
 obtain rfl := Option.some.inj hi0
 have hzz' : z0.cells = z.toArray := by rw [← hzz]
 have hrun := run_make (P := P) E.w t e i z0 hu hinf hz0 k k' (n : Int) (n : Int) om om (by rw [hby]; have := Int.ofNat_le.2 hb; rw [Int.natCast_mul] at this; exact this) om
 simp only [Int.toNat_natCast, hs, hzz'] at hrun
 have hsz := size_madeCells z.toArray (n * s)
 have hU : Uniform s (List.replicate n (z.map X.v)) := by
  intro r hr
  rw [(List.mem_replicate.1 hr).2]; simpa using hzl
 obtain ⟨RR', hi'⟩ := hi.newRow (cs := madeCells z.toArray (n * s)) (e := e) (s := s) (cap := n) (d := d) hU (Nat.le_of_eq List.length_replicate) (by rw [hsz]; exact Nat.le_refl _) (by
  refine ROr.of_all hU fun j row hr => ?_
  have hj : j < n := by
   rcases Nat.lt_or_ge j n with h' | h'
   ·exact h'
   ·rw [List.getElem?_eq_none (by rw [List.length_replicate]; exact h')] at hr; cases hr
  have : row = z.map X.v := by
   have := List.mem_of_getElem? hr
   exact (List.mem_replicate.1 this).2
  subst this
  refine ⟨nrs_v z, RXs.toRO (RXs_v h1) fun q hq => ?_⟩
  have hq' : q < s := by simpa [hzl] using hq
  have hlt : j * s + q < n * s := by
   have : (j + 1) * s ≤ n * s := Nat.mul_le_mul_right s hj
   rw [Nat.add_mul] at this; omega
  have hqz : q < z.length := by omega
  simp only [Nat.zero_add, madeCells]
  rw [Array.getElem?_map, Array.getElem?_range, if_pos hlt]
  simp only [Option.map_some, List.size_toArray, hzl, mod_of hq']
  rw [List.getElem?_eq_getElem hqz]
  simp [hqz]) (by rw [hn]; exact hd)
 simp only [List.length_replicate] at hi'
 refine ⟨_, _, _, ?_, hi'⟩
 show (do let v ← Instr.makeSlice t (a.eval l) (a.eval c); Pure.pure (Next.value v) : Sem Next).run P E.w = _
 rw [hi.val hl, hi.val hc]
 exact run_v hrun

theorem AOps.buildSlice {t e s by_ len : Nat} {parts : Array (Nat × Operand)} {z : List Value} {pxs : List (Nat × X)} {flat : List X} (rows : List (List X)) (ht : TY.slice P t = some (e, s, by_)) (hz : TY.zero P e = some z) (hzl : Nat.beq z.length s = true)
  (h1 : X.ones (z.map X.v) = true) (hx : partsX st parts.toList = some pxs) (hf : fillX (fun i => some (i * s, s)) ((List.replicate len (z.map X.v)).flatten) pxs = some flat) (hr : rows.flatten = flat) (hU : Uniform s rows) (hlen : rows.length = len)
  (hnr : X.nrs flat = true) (h24 : Nat.ble (len * s) 16777216 = true) (hd : d < N.n)
  (kk : AOps P N all rest (st.put d (.uni s rows)) Q) : AOps P N all (⟨some d, .buildSlice t len parts, ty, pos, af, none⟩ :: rest) st Q := by
 refine AOps.eff (fun G E RR a hn hi => ?_) kk
 obtain ⟨hu, i, hinf, hs, hby⟩ := TY.slice_spec ht
 obtain ⟨i', z0, hi0, hz0, hzz⟩ := TY.zero_spec hz
 rw [hinf] at hi0
 obtain rfl := Option.some.inj hi0
 have hzz' : z0.cells = z.toArray := by rw [← hzz]
 have hzl' : z.length = s := Nat.eq_of_beq_eq_true hzl
 let z1 : Array Value := (Array.range (len * s)).map fun i => z.toArray[i % z.toArray.size]!
 have hz1 : z1.toList = (List.replicate len z).flatten := by
  apply List.ext_getElem?
  intro j
  have hlf : ((List.replicate len z).flatten).length = len * s := by simp [hzl']
  by_cases hj : j < len * s
  ·have hs0 : 0 < s := by
    rcases Nat.eq_zero_or_pos s with h' | h'
    ·subst h'; simp at hj
    ·exact h'
   have hq : j % s < s := Nat.mod_lt _ hs0
   have hdv : j / s < len := by rw [Nat.div_lt_iff_lt_mul hs0]; exact hj
   have h2 : ((List.replicate len z).flatten)[j]? = z[j % s]? := by
    have : ∀ (n j : Nat), j < n * s → ((List.replicate n z).flatten)[j]? = z[j % s]? := by
     intro n
     induction n with
     | zero => intro j hj; simp at hj
     | succ n ih =>
      intro j hj
      rw [List.replicate_succ, List.flatten_cons]
      by_cases hjs : j < s
      ·rw [List.getElem?_append_left om, Nat.mod_eq_of_lt hjs]
      ·rw [List.getElem?_append_right om, hzl', ih (j - s) (by rw [Nat.add_mul] at hj; omega)]
       rw [Nat.mod_eq_sub_mod (by omega : j ≥ s)]
    exact this len j hj
   rw [h2]
   have hqz : j % s < z.length := by omega
   have hz2 : z[j % s]? = some z[j % s] := List.getElem?_eq_getElem hqz
   simp [z1, hj, hzl', hz2]
  ·have e1 : ((List.replicate len z).flatten)[j]? = none := List.getElem?_eq_none (by rw [hlf]; omega)
   have e2 : z1.toList[j]? = none := List.getElem?_eq_none (by rw [Array.length_toList]; simp only [z1, Array.size_map, Array.size_range]; omega)
   rw [e1, e2]
 have hzx : RXs E ((List.replicate len (z.map X.v)).flatten) z1.toList [] := by
  rw [hz1]
  clear hf hz1 z1 hlen h24
  induction len with
  | zero => simp [RXs]
  | succ n ih => rw [List.replicate_succ, List.flatten_cons, List.replicate_succ, List.flatten_cons]; exact RXs.app (RXs_v h1) ih
 obtain ⟨cs', hcs', hys⟩ := fill_spec hi (fun i => some (i * s, s)) parts.toList _ z1 pxs flat hzx hx hf
 have hfl : flat.length = len * s := by rw [← hr, length_flatten hU, hlen]
 have hcsz : cs'.size = len * s := by have := RXs.length hys; simp at this; omega
 obtain ⟨RR', hi'⟩ := hi.newRow (cs := cs') (e := e) (s := s) (cap := len) (d := d) hU om om (by
  have hys' : RXs { E with w := E.w.alloc (.cells cs' e) } flat cs'.toList [] := RXs.mono (E := E) _ _ _ ⟨fun _ _ _ h => h, fun _ h => by cases h⟩ (fun _ _ => rfl) hys
  have hall : RO { E with w := E.w.alloc (.cells cs' e) } flat cs' 0 [] := RO.of hys' fun j v hj => by simpa using hj
  rw [← hr] at hall hnr
  clear hr hcs' hys hys' hfl hf hlen
  have key : ∀ (rs : List (List X)) (off : Nat), X.nrs rs.flatten = true → RO { E with w := E.w.alloc (.cells cs' e) } rs.flatten cs' off [] → ROr { E with w := E.w.alloc (.cells cs' e) } rs cs' off [] := by
   intro rs
   induction rs with
   | nil => intro off _ _; simp [ROr]
   | cons r rs ih =>
    intro off hn h
    rw [List.flatten_cons] at h hn
    obtain ⟨R₁, R₂, h1, h2, hR⟩ := RO.unapp h
    have hR' := List.append_eq_nil_iff.1 hR.symm
    obtain ⟨rfl, rfl⟩ := hR'
    have hsp : ∀ (xs ys : List X), X.nrs (xs ++ ys) = true → X.nrs xs = true ∧ X.nrs ys = true := by
     intro xs
     induction xs with
     | nil => intro ys h; exact ⟨rfl, h⟩
     | cons x r ih => intro ys h; simp only [List.cons_append, X.nrs, Bool.and_eq_true] at h ⊢; exact ⟨⟨h.1, (ih ys h.2).1⟩, (ih ys h.2).2⟩
    obtain ⟨hn1, hn2⟩ := hsp _ _ hn
    simp only [ROr]
    exact ⟨[], [], hn1, h1, ih _ hn2 h2, rfl⟩
  exact key rows 0 hnr hall) (by rw [hn]; exact hd)
 rw [hlen] at hi'
 refine ⟨_, _, _, ?_, hi'⟩
 show (do let v ← Instr.buildSlice t len (parts.map fun (i, x) => (i, a.eval x)); Pure.pure (Next.value v) : Sem Next).run P E.w = _
 refine run_v ?_
 have hpt : (parts.map fun (i, x) => (i, a.eval x)).toList = parts.toList.map fun p => (p.1, a.eval p.2) := by simp
 have hbig : ¬ (len * s > 2 ^ 24) := by have := Nat.le_of_ble_eq_true h24; simp; omega
 by_cases h0 : len * s = 0
 ·have hz10 : z1 = (Array.range (len * s)).map (fun i => (#[] : Array Value)[i % (#[] : Array Value).size]!) := by simp [z1, h0]
  have hb0 : ¬ ((0 : Nat) > 2 ^ 24) := by decide
  rw [hz10, h0] at hcs'
  simp only [Instr.buildSlice, Sem.run_bind, run_underlying hu, Result.andThen_ok, run_sizeOf hinf, hs, h0, hb0, if_false, if_true, Sem.run_pure, hpt, hcs', Go.newRow, run_newObj_alloc]
 ·simp only [z1] at hcs'
  simp only [Instr.buildSlice, Sem.run_bind, run_underlying hu, Result.andThen_ok, run_sizeOf hinf, hs, hbig, if_false, h0, zeroValue, typeInfo, run_program, hinf, hz0, Sem.run_pure, hzz', hpt, hcs', Go.newRow, run_newObj_alloc]

end
end Go.AW
/- Part of the abstract walk: stores, and what moves between slots and objects. -/
namespace Go.AW
open Go

def TY.size (P : Program) (t : TypeId) : Option Nat := (P.info? t).map (·.size)

section
variable {P : Program} {N : Frm} {st : St} {Q : Exit → St → Prop} {all : Array Oper} {rest : List Oper} {d : Nat} {ty : TypeId} {pos : String} {af : Array Edge}

theorem run_storeAt {t : TypeId} {m b off : Nat} {v : Value} {cs : Array Value} {tb : TypeId} {w : World} (ht : TY.size P t = some m) (hm : v.cells.size = m) (hw : w.heap[b]? = some (.cells cs tb (0, 0))) (hfit : off + m ≤ cs.size)
  (h1 : ∀ u ∈ v.cells.toList, u.oneCell' = true) : (Instr.storeAt t (.pointer (some ⟨b, off, none⟩)) v).run P w = .ok () (w.setRow b (putA cs off v.cells.toList)) := by
 unfold TY.size at ht
 cases hi : P.info? t with
 | none => simp [hi] at ht
 | some i =>
  rw [hi] at ht
  simp only [Option.map_some, Option.some.injEq] at ht
  have hst := run_storeCells_at P b off tb v.cells.toList 0 cs w hw (by simp; omega) h1
  simp only [Nat.add_zero] at hst
  simp only [Instr.storeAt, Instr.sureAddr, storeVar, Sem.run_bind, Sem.run_pure, Result.andThen_ok, run_sizeOf hi, ht, hm, ne_eq, not_true_eq_false, if_false]
  exact hst

theorem Inv.blk {G : Ctx} {E : Env} {RR : Own → List Nat} {a : Act} (hi : Inv G E RR st a) {p : Own} {b : Nat} (h : b ∈ RR p) : ¬ G.K b := (hi.own p b h).2

theorem AOps.storeC {t : TypeId} {x y : Operand} {o s k m : Nat} {v : X} {ys xs : List X} (ht : TY.size P t = some m) (hx : opd st x = some (.ptr o s 0 k)) (hy : opd st y = some v) (hfl : v.flat = some ys) (hf : X.frees ys = true) (hm : ys.length = m)
  (ho : look st.objs o = some (.cells xs)) (hk : k + m ≤ xs.length) (hfx : X.frees (putL xs k ys) = true) (kk : AOps P N all rest (st.putO o (.cells (putL xs k ys))) Q) :
  AOps P N all (⟨none, .store t x y, ty, pos, af, none⟩ :: rest) st Q := by
 refine AOps.eff0 (fun G E RR a hn hi => ?_) kk
 obtain ⟨R, hv⟩ := hi.eval hy
 have hfv := hv.flat hfl
 have h0 := RXs.free hf hfv
 subst h0
 obtain ⟨R', hp⟩ := hi.eval hx
 simp only [RX] at hp
 obtain ⟨_, B, hB, hc⟩ := hp
 simp only [Nat.zero_mul, Nat.zero_add] at hc
 have hob := hi.objs o _ ho
 simp only [ROb] at hob
 obtain ⟨hfr, B', cs, tb, hB', hw, hφ, hlen, hRO, hRR⟩ := hob
 rw [hB] at hB'
 obtain rfl := Option.some.inj hB'
 have hlv := RXs.length hfv
 have hsz : (a.eval y).cells.size = m := by simp at hlv; omega
 have hrun := run_storeAt (P := P) (off := B.off + k) ht hsz hw om (RXs.oneCell hfv)
 have hbm : B.b ∈ RR (.obj o) := by rw [hRR]; simp
 have hmv := Moves.setRow G E B.b (putA cs (B.off + k) (a.eval y).cells.toList) hφ (hi.blk hbm)
 have hon : E.On { E with w := E.w.setRow B.b (putA cs (B.off + k) (a.eval y).cells.toList) } [] := ⟨fun _ _ _ h => h, fun _ h => by cases h⟩
 have hfv' := RXs.mono _ _ _ hon (fun _ _ => rfl) hfv
 have hRO' := RO.mono _ _ _ _ hon (fun _ _ => rfl) hRO
 obtain ⟨R₁, hput, hsub, _⟩ := RO.put (k := k) hRO' om hfv' om
 have hR₁ : R₁ = [] := by
  cases R₁ with
  | nil => rfl
  | cons b r => rcases hsub b (by simp) with h | h <;> cases h
 subst hR₁
 refine ⟨_, _, ?_, hi.inobj (E' := { E with w := E.w.setRow B.b (putA cs (B.off + k) (a.eval y).cells.toList) }) hmv (o := o) (R := [B.b]) (fun b h => by subst h; exact hbm) rfl ?_ (by simp) ?_⟩
 ·show (do Instr.storeAt t (a.eval x) (a.eval y); Pure.pure Next.skip : Sem Next).run P E.w = _
  rw [hc]
  exact run_u hrun
 ·simp only [ROb]
  have hl2 : (putL xs k ys).length = xs.length := length_putL om
  exact ⟨hfx, B, _, tb, hB, setRow_heap E.w B.b cs _ tb _ hw, hφ, by rw [hl2, size_putA (by simp at hlv ⊢; omega)]; exact hlen, hput, rfl⟩
 ·intro b hb
  simp only [List.mem_singleton] at hb
  subst hb
  exact ⟨by simpa using (hi.own _ _ hbm).1, hi.blk hbm, hi.mine (.inl hbm)⟩

theorem AOps.storeR {t : TypeId} {x y : Operand} {o s i k m : Nat} {v : X} {ys row : List X} {rs : List (List X)} (ht : TY.size P t = some m) (hx : opd st x = some (.ptr o s i k)) (hy : opd st y = some v) (hfl : v.flat = some ys) (hf : X.frees ys = true)
  (hn : X.nrs ys = true) (hm : ys.length = m) (ho : look st.objs o = some (.rows s rs)) (hr : rs[i]? = some row) (hk : k + m ≤ row.length) (kk : AOps P N all rest (st.putO o (.rows s (rs.set i (putL row k ys)))) Q) :
  AOps P N all (⟨none, .store t x y, ty, pos, af, none⟩ :: rest) st Q := by
 refine AOps.eff0 (fun G E RR a hfn hi => ?_) kk
 obtain ⟨R, hv⟩ := hi.eval hy
 have hfv := hv.flat hfl
 have h0 := RXs.free hf hfv
 subst h0
 obtain ⟨R', hp⟩ := hi.eval hx
 simp only [RX] at hp
 obtain ⟨_, B, hB, hc⟩ := hp
 have hob := hi.objs o _ ho
 have hnd := hi.nodup (.obj o)
 simp only [ROb] at hob
 obtain ⟨hu, hob⟩ := hob
 rcases hob with ⟨_, h, _⟩ | ⟨B', cs, tb, R', hB', hw, hφ, hcap, hlen, hRO, hRR⟩
 ·subst h; simp at hr
 rw [hB] at hB'
 obtain rfl := Option.some.inj hB'
 have hlv := RXs.length hfv
 have hsz : (a.eval y).cells.size = m := by simp at hlv; omega
 have hrl : rs.length * s ≤ B.cap * s := Nat.mul_le_mul_right s hcap
 have hil : i < rs.length := by
  rcases Nat.lt_or_ge i rs.length with h' | h'
  ·exact h'
  ·simp [List.getElem?_eq_none h'] at hr
 have hrow : row.length = s := hu row (List.mem_of_getElem? hr)
 have his : i * s + s ≤ rs.length * s := by
  have : (i + 1) * s ≤ rs.length * s := Nat.mul_le_mul_right s hil
  rw [Nat.add_mul] at this; omega
 have hrun := run_storeAt (P := P) (off := B.off + (i * s + k)) ht hsz hw om (RXs.oneCell hfv)
 have hbm : B.b ∈ RR (.obj o) := by rw [hRR]; simp
 have hmv := Moves.setRow G E B.b (putA cs (B.off + (i * s + k)) (a.eval y).cells.toList) hφ (hi.blk hbm)
 rw [hRR] at hnd
 have hnd' := List.nodup_cons.1 hnd
 have hon : E.On { E with w := E.w.setRow B.b (putA cs (B.off + (i * s + k)) (a.eval y).cells.toList) } R' :=
  ⟨fun _ _ _ h => h, fun b hb => ⟨setRow_other E.w B.b b _ (fun e => hnd'.1 (by rw [← e]; exact hb)), fun h => h⟩⟩
 have hfv' := RXs.mono _ _ _ (hon.sub (fun _ h => by cases h)) (fun _ _ => rfl) hfv
 have hRO' := ROr.mono _ _ _ _ hon hRO
 obtain ⟨R₁, hput, hsub, hnodup⟩ := ROr.set (i := i) (k := k) hu hRO' hr om hfv' hn om
 have hsub' : ∀ b ∈ R₁, b ∈ R' := fun b hb => (hsub b hb).resolve_right (fun h => by cases h)
 refine ⟨_, _, ?_, hi.inobj (E' := { E with w := E.w.setRow B.b (putA cs (B.off + (i * s + k)) (a.eval y).cells.toList) }) hmv (o := o) (R := B.b :: R₁) (fun b h => by subst h; exact hbm) rfl ?_ ?_ ?_⟩
 ·show (do Instr.storeAt t (a.eval x) (a.eval y); Pure.pure Next.skip : Sem Next).run P E.w = _
  rw [hc]
  exact run_u hrun
 ·simp only [ROb]
  refine ⟨hu.set (by rw [length_putL om]; exact hrow), .inr ⟨B, _, tb, R₁, hB, setRow_heap E.w B.b cs _ tb _ hw, hφ, by simpa using hcap, by rw [size_putA (by simp at hlv ⊢; omega)]; exact hlen, hput, rfl⟩⟩
 ·exact List.nodup_cons.2 ⟨fun h => hnd'.1 (hsub' _ h), hnodup (by simpa using hnd'.2)⟩
 ·intro b hb
  have hb' : b ∈ RR (.obj o) := by
   rw [hRR]
   rcases List.mem_cons.1 hb with h | h
   ·simp [h]
   ·exact List.mem_cons.2 (.inr (hsub' b h))
  exact ⟨by simpa using (hi.own _ _ hb').1, hi.blk hb', hi.mine (.inl hb')⟩

theorem AOps.storeU {t : TypeId} {x : Operand} {o s i k ys' tv : Nat} {rows row : List (List X)} {rw' : List X} {rs : List (List X)} (ht : TY.size P t = some 1) (hx : opd st x = some (.ptr o s i k)) (hy : look st.slots tv = some (.uni ys' rows)) (_h : row = row)
  (ho : look st.objs o = some (.rows s rs)) (hr : rs[i]? = some rw') (hk : k + 1 ≤ rw'.length) (kk : AOps P N all rest ((st.put tv .no).putO o (.rows s (rs.set i (putL rw' k [.uni ys' rows])))) Q) :
  AOps P N all (⟨none, .store t x (.tmp tv), ty, pos, af, none⟩ :: rest) st Q := by
 refine AOps.eff0 (fun G E RR a hfn hi => ?_) kk
 have hv := hi.slots tv _ hy
 have hfv : RXs E [X.uni ys' rows] (a.eval (.tmp tv)).cells.toList (RR (.slot tv)) := hv.flat rfl
 obtain ⟨R', hp⟩ := hi.eval hx
 simp only [RX] at hp
 obtain ⟨_, B, hB, hc⟩ := hp
 have hob := hi.objs o _ ho
 have hnd := hi.nodup (.obj o)
 simp only [ROb] at hob
 obtain ⟨hu, hob⟩ := hob
 rcases hob with ⟨_, h, _⟩ | ⟨B', cs, tb, R', hB', hw, hφ, hcap, hlen, hRO, hRR⟩
 ·subst h; simp at hr
 rw [hB] at hB'
 obtain rfl := Option.some.inj hB'
 have hlv := RXs.length hfv
 have hsz : (a.eval (.tmp tv)).cells.size = 1 := by simpa using hlv
 have hrl : rs.length * s ≤ B.cap * s := Nat.mul_le_mul_right s hcap
 have hil : i < rs.length := by
  rcases Nat.lt_or_ge i rs.length with h' | h'
  ·exact h'
  ·simp [List.getElem?_eq_none h'] at hr
 have hrow : rw'.length = s := hu rw' (List.mem_of_getElem? hr)
 have his : i * s + s ≤ rs.length * s := by
  have : (i + 1) * s ≤ rs.length * s := Nat.mul_le_mul_right s hil
  rw [Nat.add_mul] at this; omega
 have hrun := run_storeAt (P := P) (off := B.off + (i * s + k)) ht hsz hw om (RXs.oneCell hfv)
 have hbm : B.b ∈ RR (.obj o) := by rw [hRR]; simp
 have hmv := Moves.setRow G E B.b (putA cs (B.off + (i * s + k)) (a.eval (.tmp tv)).cells.toList) hφ (hi.blk hbm)
 rw [hRR] at hnd
 have hnd' := List.nodup_cons.1 hnd
 have hslot : ∀ b ∈ RR (.slot tv), b ∉ RR (.obj o) := fun b hb hb' => hi.apart _ _ (by simp) b hb hb'
 have hon : ∀ R'', (∀ b ∈ R'', b ≠ B.b) → E.On { E with w := E.w.setRow B.b (putA cs (B.off + (i * s + k)) (a.eval (.tmp tv)).cells.toList) } R'' :=
  fun R'' h => ⟨fun _ _ _ h => h, fun b hb => ⟨setRow_other E.w B.b b _ (h b hb), fun h => h⟩⟩
 have hfv' := RXs.mono _ _ _ (hon (RR (.slot tv)) (fun b hb e => hslot b hb (by rw [e]; exact hbm))) (fun _ _ => rfl) hfv
 have hRO' := ROr.mono _ _ _ _ (hon R' (fun b hb e => hnd'.1 (by rw [← e]; exact hb))) hRO
 obtain ⟨R₁, hput, hsub, hnodup⟩ := ROr.set (i := i) (k := k) hu hRO' hr (by simpa using hk) hfv' rfl om
 have hi2 := hi.no tv
 have hlist : (R' ++ RR (.slot tv)).Nodup := by
  rw [List.nodup_append]
  refine ⟨hnd'.2, hi.nodup _, fun x hx y hy e => hslot y hy ?_⟩
  rw [← e, hRR]; exact List.mem_cons.2 (.inr hx)
 have hro : upd RR (.slot tv) [] (.obj o) = RR (.obj o) := by simp [upd]
 refine ⟨_, _, ?_, hi2.inobj (E' := { E with w := E.w.setRow B.b (putA cs (B.off + (i * s + k)) (a.eval (.tmp tv)).cells.toList) }) hmv (o := o) (R := B.b :: R₁) (fun b h => by subst h; rw [hro]; exact hbm) rfl ?_ ?_ ?_⟩
 ·show (do Instr.storeAt t (a.eval x) (a.eval (.tmp tv)); Pure.pure Next.skip : Sem Next).run P E.w = _
  rw [hc]
  exact run_u hrun
 ·simp only [ROb]
  refine ⟨hu.set (by rw [length_putL (by simpa using hk)]; exact hrow), .inr ⟨B, _, tb, R₁, hB, setRow_heap E.w B.b cs _ tb _ hw, hφ, by simpa using hcap, by rw [size_putA (by simp at hlv ⊢; omega)]; exact hlen, hput, rfl⟩⟩
 ·refine List.nodup_cons.2 ⟨fun h => ?_, hnodup hlist⟩
  rcases hsub _ h with h' | h'
  ·exact hnd'.1 h'
  ·exact hslot _ h' hbm
 ·intro b hb
  have hcase : b ∈ RR (.obj o) ∨ b ∈ RR (.slot tv) := by
   rw [hRR]
   rcases List.mem_cons.1 hb with h | h
   ·exact .inl (by simp [h])
   ·rcases hsub b h with h' | h'
    ·exact .inl (List.mem_cons.2 (.inr h'))
    ·exact .inr h'
  have howns : b < E.w.heap.size ∧ ¬ G.K b := by rcases hcase with h | h <;> exact hi.own _ _ h
  refine ⟨by simpa using howns.1, howns.2, fun p hp hbp => ?_⟩
  have hbp' : p ≠ .slot tv ∧ b ∈ RR p := by
   unfold upd at hbp
   split at hbp
   ·cases hbp
   ·rename_i h; exact ⟨h, hbp⟩
  rcases hcase with h | h
  ·exact hi.apart _ _ hp b hbp'.2 h
  ·exact hi.apart _ _ hbp'.1 b hbp'.2 h

theorem Sh.adopt {s : Nat} {rows : List (List X)} (o : Nat) (hx : look st.slots d = some (.uni s rows)) (hF : N.F.elem o = false) : Sh N st (((st.kill o).putO o (.rows s rows)).put d (.slc o s 0 rows.length)) := by
 intro G hn a w hh
 obtain ⟨E, RR, rfl, hi⟩ := hh
 have hv := hi.slots d _ hx
 have hnd := hi.nodup (.slot d)
 simp only [RX] at hv
 obtain ⟨hu, base, cap, hc, hcase⟩ := hv
 have hi2 := hi.no d
 have hkill : ∀ (E' : Env) (RR' : Own → List Nat), Inv G E' RR' (((st.put d .no).kill o).putO o (.rows s rows)) a → (∃ R, R = [] ∧ RX E' (.slc o s 0 rows.length) (a.tmps.getD d undef) R) →
   Holds G (((st.kill o).putO o (.rows s rows)).put d (.slc o s 0 rows.length)) a E'.w := by
  intro E' RR' h3 ⟨R, hR, hx'⟩
  subst hR
  have h4 := h3.relabel (d := d) hx' List.nodup_nil (fun _ h => by cases h)
  refine ⟨E', upd RR' (.slot d) [], rfl, ?_⟩
  refine { h4 with slots := fun q y hy => h4.slots q y ?_, objs := fun q y hy => h4.objs q y hy }
  simp only [St.put, St.putO, St.kill, killXs, List.map_cons, look] at hy ⊢
  cases hb : Nat.beq d q with
  | true => rw [hb] at hy; simpa using hy
  | false => rw [hb] at hy; simpa using hy
 have hβ : ∀ (bk : Option Blk), Moves G E { E with β := fun q => if q = o then bk else E.β q } (fun _ => False) := fun _ =>
  ⟨rfl, fun _ h => h.elim, fun _ h => h.elim, fun _ _ _ => rfl, Nat.le_refl _, rfl, rfl, rfl⟩
 rcases hcase with ⟨h1, h2, h3⟩ | ⟨b, off, cs, ty, R', hb, hw, hl, ho, hφ, hRO, hRR⟩
 ·have h4 := hi2.reobj (hβ none) (o := o) (ob := .rows s rows) (R := []) (fun _ h => h.elim) (fun q hq => by simp [hq]) (fun h => by rw [hn, hF] at h; cases h)
   (by simp only [ROb]; exact ⟨hu, .inl ⟨by simp, h1, trivial⟩⟩) List.nodup_nil (fun _ h => by cases h)
  refine hkill { E with β := fun q => if q = o then none else E.β q } _ h4 ⟨[], rfl, ?_⟩
  simp only [RX]
  exact ⟨trivial, base, cap, hc, .inl ⟨by simp, trivial, by simp [h1], h2⟩⟩
 ·rw [hRR] at hnd
  have hnd' := List.nodup_cons.1 hnd
  have hon : E.On { E with β := fun q => if q = o then some ⟨b, off, cap⟩ else E.β q } R' := ⟨fun _ _ _ h => h, fun _ _ => ⟨rfl, fun h => h⟩⟩
  have h4 := hi2.reobj (hβ (some ⟨b, off, cap⟩)) (o := o) (ob := .rows s rows) (R := b :: R') (fun _ h => h.elim) (fun q hq => by simp [hq]) (fun h => by rw [hn, hF] at h; cases h)
   (by simp only [ROb]; exact ⟨hu, .inr ⟨⟨b, off, cap⟩, cs, ty, R', by simp, hw, hφ, hl, ho, ROr.mono _ _ _ _ hon hRO, rfl⟩⟩) hnd
   (fun c hc' => by
    have hm : c ∈ RR (.slot d) := by rw [hRR]; exact hc'
    refine ⟨(hi.own _ _ hm).1, (hi.own _ _ hm).2, fun p hp hcp => ?_⟩
    unfold upd at hcp
    split at hcp
    ·cases hcp
    ·rename_i h; exact hi.apart _ _ h c hcp hm)
  refine hkill { E with β := fun q => if q = o then some ⟨b, off, cap⟩ else E.β q } _ h4 ⟨[], rfl, ?_⟩
  simp only [RX]
  exact ⟨trivial, base, cap, hc, .inr ⟨⟨b, off, cap⟩, by simp, by simp, hl, .inr (by simpa using hb)⟩⟩

theorem Sh.detach {s o n : Nat} {rows : List (List X)} (hx : look st.slots d = some (.slc o s 0 n)) (ho : look st.objs o = some (.rows s rows)) (hl : n = rows.length) (hF : N.F.elem o = false) :
  Sh N st (((st.kill o).putO o (.rows 0 [])).put d (.uni s rows)) := by
 intro G hn a w hh
 obtain ⟨E, RR, rfl, hi⟩ := hh
 subst hl
 have hv := hi.slots d _ hx
 have hob := hi.objs o _ ho
 have hnd := hi.nodup (.obj o)
 simp only [RX] at hv
 obtain ⟨_, base, cap, hc, hcase⟩ := hv
 simp only [ROb] at hob
 obtain ⟨hu, hob⟩ := hob
 have hβ : Moves G E { E with β := fun q => if q = o then none else E.β q } (fun _ => False) :=
  ⟨rfl, fun _ h => h.elim, fun _ h => h.elim, fun _ _ _ => rfl, Nat.le_refl _, rfl, rfl, rfl⟩
 have h4 := hi.reobj hβ (o := o) (ob := .rows 0 []) (R := []) (fun _ h => h.elim) (fun q hq => by simp [hq]) (fun h => by rw [hn, hF] at h; cases h)
  (by simp only [ROb]; exact ⟨fun _ h => (by cases h), .inl ⟨by simp, trivial, trivial⟩⟩) List.nodup_nil (fun _ h => by cases h)
 have hgone : ∀ c ∈ RR (.obj o), c < E.w.heap.size ∧ ¬ G.K c ∧ ∀ p, p ≠ .slot d → c ∉ reown st RR o [] p := by
  intro c hc'
  refine ⟨(hi.own _ _ hc').1, (hi.own _ _ hc').2, fun p _ hcp => ?_⟩
  cases p with
  | obj q =>
   by_cases hq : q = o
   ·subst hq; simp [reown] at hcp
   ·have : c ∈ RR (.obj q) := by simpa [reown, hq] using hcp
    exact hi.apart (.obj q) (.obj o) (by simpa using hq) c this hc'
  | slot q =>
   rcases reown_slot st RR o [] q with h | h
   ·rw [h] at hcp; cases hcp
   ·rw [h] at hcp; exact hi.apart (.slot q) (.obj o) (by simp) c hcp hc'
 have hRX : ∃ R, RX { E with β := fun q => if q = o then none else E.β q } (.uni s rows) (a.tmps.getD d undef) R ∧ R.Nodup ∧ ∀ b ∈ R, b ∈ RR (.obj o) := by
  simp only [RX]
  rcases hob with ⟨h1, h2, h3⟩ | ⟨B, cs, ty, R', hB, hw, hφ, hcap, hsz, hRO, hRR⟩
  ·rcases hcase with ⟨_, _, _, h5⟩ | ⟨B, hB, _⟩
   ·exact ⟨[], ⟨hu, base, cap, hc, .inl ⟨h2, h5, rfl⟩⟩, List.nodup_nil, fun _ h => by cases h⟩
   ·rw [h1] at hB; cases hB
  ·rcases hcase with ⟨h1, _⟩ | ⟨B', hB', hlo, hn', hb⟩
   ·rw [hB] at h1; cases h1
   ·rw [hB] at hB'
    obtain rfl := Option.some.inj hB'
    have hon : E.On { E with β := fun q => if q = o then none else E.β q } R' := ⟨fun _ _ _ h => h, fun _ _ => ⟨rfl, fun h => h⟩⟩
    rcases hb with hb | hb
    ·refine ⟨[], ⟨hu, base, cap, hc, .inl ⟨List.eq_nil_of_length_eq_zero om, hb, rfl⟩⟩, List.nodup_nil, fun _ h => by cases h⟩
    ·refine ⟨RR (.obj o), ⟨hu, base, cap, hc, .inr ⟨B.b, B.off, cs, ty, R', by simpa using hb, hw, om, by rw [show cap = B.cap by omega]; exact hsz, hφ, ROr.mono _ _ _ _ hon hRO, hRR⟩⟩, hnd, fun _ h => h⟩
 obtain ⟨R, hR1, hR2, hR3⟩ := hRX
 exact ⟨{ E with β := fun q => if q = o then none else E.β q }, _, rfl, h4.relabel hR1 hR2 (fun c hc => hgone c (hR3 c hc))⟩

end
end Go.AW
/- Part of the abstract walk: append. -/
namespace Go.AW
open Go

structure Src (E : Env) (s : Nat) (new : List (List X)) (c : Value) (R : List Nat) : Prop where
 ex : ∃ base cap, ∃ vs : List Value, c = .slice (some base) new.length cap ∧ vs.length = new.length * s ∧ (∀ j v, vs[j]? = some v → E.w.cell? (base.add j) = some v) ∧ (∀ v ∈ vs, v.oneCell' = true) ∧
  ∀ (E' : Env) (cs : Array Value) (off : Nat), E.On E' R → (∀ j, j < vs.length → cs[off + j]? = vs[j]?) → ROr E' new cs off R
 uni : Uniform s new

theorem ROr.vals {E : Env} : ∀ {rs : List (List X)} {cs : Array Value} {off : Nat} {R : List Nat}, ROr E rs cs off R → ∃ vs : List Value, vs.length = rs.flatten.length ∧ (∀ j v, vs[j]? = some v → cs[off + j]? = some v) ∧ (∀ v ∈ vs, v.oneCell' = true)
 | [], _, _, _, _ => ⟨[], rfl, by simp, by simp⟩
 | r :: rs, cs, off, R, h => by
  simp only [ROr] at h
  obtain ⟨R₁, R₂, _, h1, h2, _⟩ := h
  obtain ⟨vs, hl, hv, hx⟩ := RO.cells h1
  obtain ⟨vs', hl', hv', ho'⟩ := ROr.vals h2
  refine ⟨vs ++ vs', by simp [hl, hl'], ?_, ?_⟩
  ·intro j v hj
   by_cases hjl : j < vs.length
   ·rw [List.getElem?_append_left hjl] at hj; exact hv j v hj
   ·rw [List.getElem?_append_right om] at hj
    have := hv' _ v hj
    rw [show off + j = off + r.length + (j - vs.length) by omega]; exact this
  ·intro v hv2
   rcases List.mem_append.1 hv2 with h' | h'
   ·exact RXs.oneCell hx v h'
   ·exact ho' v h'

theorem RFr.vals {E : Env} : ∀ {rs : List (List X)} {b off : Nat}, RFr E rs b off → ∃ vs : List Value, vs.length = rs.flatten.length ∧ (∀ j v, vs[j]? = some v → E.φ b (off + j) = some v) ∧ (∀ v ∈ vs, v.oneCell' = true) ∧
   ∀ (E' : Env) (cs : Array Value) (o : Nat), E.On E' [] → (∀ j, j < vs.length → cs[o + j]? = vs[j]?) → ROr E' rs cs o []
 | [], _, _, _ => ⟨[], rfl, by simp, by simp, fun _ _ _ _ _ => by simp [ROr]⟩
 | r :: rs, b, off, h => by
  simp only [RFr] at h
  obtain ⟨vs, hl, hv, hx⟩ := RF.cells h.1
  obtain ⟨vs', hl', hv', ho', hr'⟩ := RFr.vals h.2
  have hnr : ∀ (row : List X) (b off : Nat), RF E row b off → X.nrs row = true := by
   intro row
   induction row with
   | nil => intro _ _ _; rfl
   | cons x t ih =>
    intro b off h
    simp only [RF] at h
    obtain ⟨⟨_, _, _, hn, _⟩, h2⟩ := h
    simp only [X.nrs, hn, ih b _ h2, Bool.and_self]
  refine ⟨vs ++ vs', by simp [hl, hl'], ?_, ?_, ?_⟩
  ·intro j v hj
   by_cases hjl : j < vs.length
   ·rw [List.getElem?_append_left hjl] at hj; exact hv j v hj
   ·rw [List.getElem?_append_right om] at hj
    have := hv' _ v hj
    rw [show off + j = off + r.length + (j - vs.length) by omega]; exact this
  ·intro v hv2
   rcases List.mem_append.1 hv2 with h' | h'
   ·exact RXs.oneCell hx v h'
   ·exact ho' v h'
  ·intro E' cs o hE hcs
   simp only [ROr]
   refine ⟨[], [], hnr r b off h.1, ?_, ?_, rfl⟩
   ·refine RXs.toRO (RXs.mono _ _ _ hE (fun q hq => by rw [X.ments_of_nrs (hnr r b off h.1)] at hq; cases hq) hx) fun j hj => ?_
    rw [hcs j (by simp; omega), List.getElem?_append_left om]
   ·refine hr' E' cs _ hE fun j hj => ?_
    have := hcs (vs.length + j) (by simp; omega)
    rw [List.getElem?_append_right om] at this
    rw [← hl, Nat.add_assoc, this]
    congr 1
    omega

section
variable {P : Program} {N : Frm} {G : Ctx} {E : Env} {RR : Own → List Nat} {st : St} {a : Act}

theorem Src.ofUni {s : Nat} {new : List (List X)} {c : Value} {R : List Nat} (h : RX E (.uni s new) c R) (hne : 0 < new.length) : ∃ R', Src E s new c R' ∧ (∀ b ∈ R', b ∈ R) ∧ (R.Nodup → R'.Nodup) := by
 simp only [RX] at h
 obtain ⟨hu, base, cap, hc, h⟩ := h
 rcases h with ⟨h1, _⟩ | ⟨b, off, cs, ty, R', hb, hw, hl, ho, hφ, hRO, hR⟩
 ·subst h1; simp at hne
 obtain ⟨vs, hvl, hv, hone⟩ := ROr.vals hRO
 refine ⟨R', ⟨⟨⟨b, off, none⟩, cap, vs, by rw [hc, hb], by rw [hvl, length_flatten hu], fun j v hj => by rw [add_mk, cell_of_heap hw]; exact hv j v hj, hone, ?_⟩, hu⟩, fun c hc => by rw [hR]; simp [hc], fun h => by rw [hR] at h; exact (List.nodup_cons.1 h).2⟩
 intro E' cs' off' hE hcs
 have h1 := ROr.mono _ _ _ _ hE hRO
 -- move the cells from off to off'
 have key : ∀ (rs : List (List X)) (o1 o2 : Nat) (R : List Nat), (∀ j, j < rs.flatten.length → cs'[o2 + j]? = cs[o1 + j]?) → ROr E' rs cs o1 R → ROr E' rs cs' o2 R := by
  have key0 : ∀ (xs : List X) (o1 o2 : Nat) (R : List Nat), (∀ j, j < xs.length → cs'[o2 + j]? = cs[o1 + j]?) → RO E' xs cs o1 R → RO E' xs cs' o2 R := by
   intro xs
   induction xs with
   | nil => intro _ _ _ _ h; simpa [RO] using h
   | cons x r ih =>
    intro o1 o2 R he h
    simp only [RO] at h ⊢
    obtain ⟨u, R₁, R₂, hu, hs, h1, h2, hR⟩ := h
    refine ⟨u, R₁, R₂, ?_, hs, h1, ih _ _ _ (fun j hj => ?_) h2, hR⟩
    ·have := he 0 (by simp)
     simp only [Nat.add_zero] at this
     rw [this]; exact hu
    ·have := he (j + 1) (by simp; omega)
     rw [show o2 + 1 + j = o2 + (j + 1) by omega, show o1 + 1 + j = o1 + (j + 1) by omega]; exact this
  intro rs
  induction rs with
  | nil => intro _ _ _ _ h; simpa [ROr] using h
  | cons x r ih =>
   intro o1 o2 R he h
   simp only [ROr] at h ⊢
   obtain ⟨R₁, R₂, hn, h1, h2, hR⟩ := h
   refine ⟨R₁, R₂, hn, key0 _ _ _ _ (fun j hj => he j (by simp; omega)) h1, ih _ _ _ (fun j hj => ?_) h2, hR⟩
   have := he (x.length + j) (by simp at hj ⊢; omega)
   rw [Nat.add_assoc, Nat.add_assoc]; exact this
 refine key new off off' R' (fun j hj => ?_) h1
 rw [hcs j om]
 have hjl : j < vs.length := by omega
 rw [List.getElem?_eq_getElem hjl]
 exact (hv j _ (List.getElem?_eq_getElem hjl)).symm

theorem Src.ofFz (hi : Inv G E RR st a) {s : Nat} {new : List (List X)} {c : Value} {R : List Nat} (h : RX E (.fz s new) c R) (hne : 0 < new.length) : Src E s new c [] := by
 simp only [RX] at h
 obtain ⟨_, hu, base, cap, hc, h⟩ := h
 rcases h with ⟨h1, _⟩ | ⟨b, off, hb, hl, hf⟩
 ·subst h1; simp at hne
 obtain ⟨vs, hvl, hv, hone, hr⟩ := RFr.vals hf
 exact ⟨⟨⟨b, off, none⟩, cap, vs, by rw [hc, hb], by rw [hvl, length_flatten hu], fun j v hj => by rw [add_mk]; exact hi.frz _ _ _ (hv j v hj), hone, hr⟩, hu⟩

theorem run_append_pos {t e s by_ n cap m ty : Nat} {base : Option Addr} {b2 : Addr} {c2 : Nat} {olds news z : List Value} (ht : TY.slice P t = some (e, s, by_)) (hz : TY.zero P e = some z) (hzl : z.length = s) (hm : 0 < m)
  (hol : olds.length = n * s) (hold : ∀ j v, olds[j]? = some v → ∃ b off, base = some ⟨b, off, none⟩ ∧ E.w.cell? ⟨b, off + j, none⟩ = some v) (hn0 : base = none → n = 0 ∧ cap = 0)
  (hnl : news.length = m * s) (hnew : ∀ j v, news[j]? = some v → E.w.cell? (b2.add j) = some v) (hone : ∀ v ∈ news, v.oneCell' = true) (hb46 : (n + m) * by_ ≤ 140737488355328) (h62 : n + m ≤ 4611686018427387904)
  (hroom : n + m ≤ cap → ∃ b off cs tb, base = some ⟨b, off, none⟩ ∧ E.w.heap[b]? = some (.cells cs tb (0, 0)) ∧ off + cap * s ≤ cs.size) :
  (∃ b off cs tb, base = some ⟨b, off, none⟩ ∧ E.w.heap[b]? = some (.cells cs tb (0, 0)) ∧ n + m ≤ cap ∧ off + cap * s ≤ cs.size ∧
   (Builtin.append_ #[t, t] ty #[.slice base n cap, .slice (some b2) m c2]).run P E.w = .ok (.slice base (n + m) cap) (E.w.setRow b (putA cs (off + n * s) news))) ∨
  (∃ cap' rest, n + m ≤ cap' ∧ rest.size = (cap' - (n + m)) * s ∧
   (Builtin.append_ #[t, t] ty #[.slice base n cap, .slice (some b2) m c2]).run P E.w = .ok (.slice (some ⟨E.w.heap.size, 0, none⟩) (n + m) cap') (E.w.drew.alloc (.cells ((olds ++ news).toArray ++ rest) e))) := by
 obtain ⟨hu, i, hinf, hs, hby⟩ := TY.slice_spec ht
 obtain ⟨i', z0, hi0, hz0, hzz⟩ := TY.zero_spec hz
 rw [hinf] at hi0
 obtain rfl := Option.some.inj hi0
 have hz0l : z0.cells.size = s := by
  have : z0.cells.toList.length = z.length := by rw [hzz]
  simpa [hzl] using this
 by_cases hr : n + m ≤ cap
 ·obtain ⟨b, off, cs, tb, hb, hw, hsz⟩ := hroom hr
  refine .inl ⟨b, off, cs, tb, hb, hw, hr, hsz, ?_⟩
  have hms : (n + m) * s ≤ cap * s := Nat.mul_le_mul_right s hr
  rw [Nat.add_mul] at hms
  have hf := run_firstCells_some (P := P) E.w i.size m b2 m c2 news (by rw [hs]; exact hnl) hnew
  have hst := run_storeCells_at P b (off + n * s) tb news 0 cs E.w hw om hone
  simp only [Nat.add_zero] at hst
  subst hb
  rw [hs] at hf
  simp [Builtin.append_, run_underlying hu, sizeOf, typeInfo, hinf, Builtin.lenOf, hr, hf, add_mk, hs, hst, putA]
 ·refine .inr ?_
  have hfit : Builtin.nextslicecap (n + m) cap * i.bytes ≤ 281474976710656 := growslice_fits om (by rw [hby]; omega)
  have hzs : ∀ k, (Builtin.zeroCells z0.cells k).size = k * s := fun k => by rw [size_zeroCells, hz0l]
  cases hbase : base with
  | none =>
   obtain ⟨rfl, rfl⟩ := hn0 hbase
   have holds : olds = [] := List.eq_nil_of_length_eq_zero (by simpa using hol)
   subst holds
   refine ⟨grownCap E.w m 0 e, _, by have := grownCap_ge E.w m 0 e; omega, hzs _, ?_⟩
   have := run_append_nil (P := P) E.w t ty e i z0 hu hinf hz0 b2 m c2 news (by rw [hs]; exact hnl) hnew hm om (by
    have : m * by_ ≤ 140737488355328 := by simpa using hb46
    rw [hby]; omega)
   simpa using this
  | some bb =>
   have hold' : ∀ j v, olds[j]? = some v → E.w.cell? (bb.add j) = some v := by
    intro j v hj
    obtain ⟨b, off, hb, hc⟩ := hold j v hj
    rw [hbase] at hb
    obtain rfl := Option.some.inj hb
    rw [add_mk]; exact hc
   refine ⟨grownCap E.w (n + m) cap e, _, grownCap_ge E.w (n + m) cap e, hzs _, ?_⟩
   have := run_append_grow (P := P) E.w t ty e i z0 hu hinf hz0 bb n cap olds (by rw [hs]; exact hol) hold' b2 m c2 news (by rw [hs]; exact hnl) hnew om om hfit
   rw [this]
   simp

theorem ROr.window {E : Env} {rs : List (List X)} {cs : Array Value} {off s lo n : Nat} {R : List Nat} (hu : Uniform s rs) (h : ROr E rs cs off R) (hl : lo + n ≤ rs.length) :
  ∃ R', ROr E ((rs.drop lo).take n) cs (off + lo * s) R' ∧ (∀ b ∈ R', b ∈ R) ∧ (R.Nodup → R'.Nodup) := by
 have h0 : rs = rs.take lo ++ ((rs.drop lo).take n ++ rs.drop (lo + n)) := by
  conv => lhs; rw [← List.take_append_drop lo rs, ← List.take_append_drop n (rs.drop lo), List.drop_drop]
 rw [h0] at h
 obtain ⟨R₁, R₂, h1, h2, rfl⟩ := ROr.unapp h
 obtain ⟨R₃, R₄, h3, h4, rfl⟩ := ROr.unapp h2
 rw [length_flatten (hu.take lo), List.length_take, Nat.min_eq_left om] at h3
 refine ⟨R₃, h3, fun b hb => by simp [hb], fun hn => ?_⟩
 have := (List.nodup_append.1 hn).2.1
 exact (List.nodup_append.1 this).1

theorem Inv.append (hi : Inv G E RR st a) {t e s by_ ty : Nat} {z : List Value} {o lo n : Nat} {rs new : List (List X)} {c c2 : Value} {R2 : List Nat} (ht : TY.slice P t = some (e, s, by_)) (hz : TY.zero P e = some z) (hzl : z.length = s)
  (hx : RX E (.slc o s lo n) c []) (ho : look st.objs o = some (.rows s rs)) (hln : lo + n ≤ rs.length) (hsrc : Src E s new c2 R2) (hm : 0 < new.length) (hR2 : R2.Nodup) (hown : ∀ b ∈ R2, b < E.w.heap.size ∧ ¬ G.K b ∧ ∀ p, b ∉ RR p)
  (hb46 : (n + new.length) * by_ ≤ 140737488355328) (h62 : n + new.length ≤ 4611686018427387904) (hF : G.fn.F.elem o = false) :
  ∃ u E' RR', (Builtin.append_ #[t, t] ty #[c, c2]).run P E.w = .ok u E'.w ∧ Inv G E' RR' ((st.kill o).putO o (.rows s (((rs.drop lo).take n) ++ new))) a ∧ RX E' (.slc o s 0 (n + new.length)) u [] := by
 have hob := hi.objs o _ ho
 have hnd := hi.nodup (.obj o)
 simp only [RX] at hx
 obtain ⟨_, base, cap, rfl, hcase⟩ := hx
 simp only [ROb] at hob
 obtain ⟨hu, hob⟩ := hob
 obtain ⟨⟨b2, cap2, news, rfl, hnl, hnew, hone, hlay⟩, hun⟩ := hsrc
 have hwl : ((rs.drop lo).take n).length = n := by simp; omega
 have hU : Uniform s (((rs.drop lo).take n) ++ new) := by
  intro r hr
  rcases List.mem_append.1 hr with h | h
  ·exact (hu.drop lo).take n r h
  ·exact hun r h
 have hR2b : ∀ b ∈ R2, b ∉ RR (.obj o) := fun b hb => (hown b hb).2.2 _
 -- the old cells, as values, and what lies in them
 have hold : ∃ (olds : List Value) (R1 : List Nat), olds.length = n * s ∧ (∀ j v, olds[j]? = some v → ∃ b off, base = some ⟨b, off, none⟩ ∧ E.w.cell? ⟨b, off + j, none⟩ = some v) ∧ (∀ b ∈ R1, b ∈ RR (.obj o)) ∧ R1.Nodup ∧
   (base = none → n = 0 ∧ cap = 0) ∧
   (∀ (E' : Env) (cs' : Array Value) (off' : Nat), E.On E' R1 → (∀ j, j < olds.length → cs'[off' + j]? = olds[j]?) → ROr E' ((rs.drop lo).take n) cs' off' R1) ∧
   (n + new.length ≤ cap → ∃ B cs tb, E.β o = some B ∧ base = some ⟨B.b, B.off + lo * s, none⟩ ∧ E.w.heap[B.b]? = some (.cells cs tb (0, 0)) ∧ B.off + lo * s + cap * s ≤ cs.size ∧ (∀ i, E.φ B.b i = none) ∧ B.b ∈ RR (.obj o) ∧ B.b ∉ R1) := by
  by_cases hcap0 : cap = 0
  ·have hn0 : n = 0 := by rcases hcase with ⟨_, _, h, _⟩ | ⟨_, _, _, h, _⟩ <;> omega
   subst hn0
   refine ⟨[], [], by simp, by simp, by simp, List.nodup_nil, fun _ => ⟨rfl, hcap0⟩, fun _ _ _ _ _ => by simp [ROr], fun h => by omega⟩
  ·rcases hcase with ⟨_, _, _, h⟩ | ⟨B, hB, hlc, hn', hb⟩
   ·exact absurd h hcap0
   have hb' := hb.resolve_left hcap0
   rcases hob with ⟨h1, _⟩ | ⟨B', cs, tb, R', hB', hw, hφ, hcp, hsz, hRO, hRR⟩
   ·rw [hB] at h1; cases h1
   rw [hB] at hB'
   obtain rfl := Option.some.inj hB'
   rw [hRR] at hnd
   obtain ⟨hnin, hnd'⟩ := List.nodup_cons.1 hnd
   obtain ⟨R1, hwin, hsub, hnd1⟩ := ROr.window hu hRO hln
   obtain ⟨olds, hol, hov, _⟩ := ROr.vals hwin
   rw [length_flatten ((hu.drop lo).take n), hwl] at hol
   refine ⟨olds, R1, hol, fun j v hj => ⟨B.b, B.off + lo * s, hb', by rw [cell_of_heap hw]; exact hov j v hj⟩, fun b hb => by rw [hRR]; simp [hsub b hb], hnd1 hnd', (fun h => by rw [hb'] at h; cases h), ?_, ?_⟩
   ·intro E' cs' off' hE hcs
    have h1 := ROr.mono _ _ _ _ hE hwin
    have key : ∀ (rs : List (List X)) (o1 o2 : Nat) (R : List Nat), (∀ j, j < rs.flatten.length → cs'[o2 + j]? = cs[o1 + j]?) → ROr E' rs cs o1 R → ROr E' rs cs' o2 R := by
     have key0 : ∀ (xs : List X) (o1 o2 : Nat) (R : List Nat), (∀ j, j < xs.length → cs'[o2 + j]? = cs[o1 + j]?) → RO E' xs cs o1 R → RO E' xs cs' o2 R := by
      intro xs
      induction xs with
      | nil => intro _ _ _ _ h; simpa [RO] using h
      | cons x r ih =>
       intro o1 o2 R he h
       simp only [RO] at h ⊢
       obtain ⟨u, R₁, R₂, hu, hs, h1, h2, hR⟩ := h
       refine ⟨u, R₁, R₂, ?_, hs, h1, ih _ _ _ (fun j hj => ?_) h2, hR⟩
       ·have := he 0 (by simp)
        simp only [Nat.add_zero] at this
        rw [this]; exact hu
       ·have := he (j + 1) (by simp; omega)
        rw [show o2 + 1 + j = o2 + (j + 1) by omega, show o1 + 1 + j = o1 + (j + 1) by omega]; exact this
     intro rs
     induction rs with
     | nil => intro _ _ _ _ h; simpa [ROr] using h
     | cons x r ih =>
      intro o1 o2 R he h
      simp only [ROr] at h ⊢
      obtain ⟨R₁, R₂, hn, h1, h2, hR⟩ := h
      refine ⟨R₁, R₂, hn, key0 _ _ _ _ (fun j hj => he j (by simp; omega)) h1, ih _ _ _ (fun j hj => ?_) h2, hR⟩
      have := he (x.length + j) (by simp at hj ⊢; omega)
      rw [Nat.add_assoc, Nat.add_assoc]; exact this
    refine key _ (B.off + lo * s) off' R1 (fun j hj => ?_) h1
    have hjl : j < olds.length := by
     rw [length_flatten ((hu.drop lo).take n), hwl] at hj
     omega
    rw [hcs j hjl, List.getElem?_eq_getElem hjl]
    exact (hov j _ (List.getElem?_eq_getElem hjl)).symm
   ·intro _
    refine ⟨B, cs, tb, hB, hb', hw, ?_, hφ, by rw [hRR]; simp, fun h => hnin (hsub _ h)⟩
    have : B.cap = lo + cap := hlc.symm
    rw [this, Nat.add_mul] at hsz
    omega
 obtain ⟨olds, R1, hol, hov, hR1, hR1n, hn0, hlay1, hroom⟩ := hold
 have hnodup : (R1 ++ R2).Nodup := by
  rw [List.nodup_append]
  exact ⟨hR1n, hR2, fun x hx y hy e => hR2b y hy (by rw [← e]; exact hR1 x hx)⟩
 rcases run_append_pos (P := P) (E := E) (ty := ty) ht hz hzl hm hol hov hn0 hnl hnew hone hb46 h62 (fun h => by
   obtain ⟨B, cs, tb, _, h2, h3, h4, _⟩ := hroom h
   exact ⟨B.b, B.off + lo * s, cs, tb, h2, h3, h4⟩) with ⟨b, off, cs, tb, hbase, hw, hfit, hsz, hrun⟩ | ⟨cap', rest, hcap', hrest, hrun⟩
 ·-- in place
  obtain ⟨B, cs1, tb1, hB, hbase', hw', hsz', hφ, hbm, hbR1⟩ := hroom hfit
  rw [hbase] at hbase'
  simp only [Option.some.injEq, Addr.mk.injEq, and_true] at hbase'
  obtain ⟨rfl, rfl⟩ := hbase'
  rw [hw] at hw'
  simp only [Option.some.injEq, Go.Obj.cells.injEq] at hw'
  obtain ⟨rfl, rfl, _⟩ := hw'
  have hms : (n + new.length) * s ≤ cap * s := Nat.mul_le_mul_right s hfit
  rw [Nat.add_mul] at hms
  have hpf : B.off + lo * s + n * s + news.length ≤ cs.size := by omega
  let E' : Env := { E with w := E.w.setRow B.b (putA cs (B.off + lo * s + n * s) news), β := fun q => if q = o then some ⟨B.b, B.off + lo * s, cap⟩ else E.β q }
  have hbR2 : B.b ∉ R2 := fun h => hR2b _ h hbm
  have hon : ∀ R'', (∀ b ∈ R'', b ≠ B.b) → E.On E' R'' := fun R'' h => ⟨fun _ _ _ h => h, fun b hb => ⟨setRow_other E.w B.b b _ (h b hb), fun h => h⟩⟩
  have hmv : Moves G E E' (fun c => c = B.b) := { Moves.setRow G E B.b (putA cs (B.off + lo * s + n * s) news) hφ (hi.blk hbm) with φ := rfl }
  have hrows : ROr E' (((rs.drop lo).take n) ++ new) (putA cs (B.off + lo * s + n * s) news) (B.off + lo * s) (R1 ++ R2) := by
   refine ROr.app (hlay1 E' _ _ (hon R1 (fun b hb e => hbR1 (by rw [← e]; exact hb))) fun j hj => ?_) ?_
   ·rw [putA_out hpf (.inl om)]
    have := hov j _ (List.getElem?_eq_getElem hj)
    obtain ⟨b, off, hb, hc⟩ := this
    rw [hbase] at hb
    simp only [Option.some.injEq, Addr.mk.injEq, and_true] at hb
    obtain ⟨rfl, rfl⟩ := hb
    rw [cell_of_heap hw] at hc
    rw [hc, List.getElem?_eq_getElem hj]
   ·rw [length_flatten ((hu.drop lo).take n), hwl]
    exact hlay E' _ _ (hon R2 (fun b hb e => hbR2 (by rw [← e]; exact hb))) fun j hj => putA_in hpf hj
  refine ⟨_, E', _, hrun, hi.reobj hmv (o := o) (R := B.b :: (R1 ++ R2)) (fun b h => by subst h; exact hbm) (fun q hq => by simp [E', hq]) (fun h => by rw [hF] at h; cases h) ?_ ?_ ?_, ?_⟩
  ·simp only [ROb]
   refine ⟨hU, .inr ⟨⟨B.b, B.off + lo * s, cap⟩, _, tb, R1 ++ R2, by simp [E'], setRow_heap E.w B.b cs _ tb _ hw, hφ, by simp [hwl]; omega, by rw [size_putA hpf]; exact hsz, hrows, rfl⟩⟩
  ·refine List.nodup_cons.2 ⟨fun h => ?_, hnodup⟩
   rcases List.mem_append.1 h with h | h
   ·exact hbR1 h
   ·exact hbR2 h
  ·intro b hb
   have hs : E'.w.heap.size = E.w.heap.size := by simp [E']
   rw [hs]
   rcases List.mem_cons.1 hb with h | h
   ·subst h; exact ⟨(hi.own _ _ hbm).1, hi.blk hbm, hi.mine (.inl hbm)⟩
   ·rcases List.mem_append.1 h with h | h
    ·exact ⟨(hi.own _ _ (hR1 b h)).1, hi.blk (hR1 b h), hi.mine (.inl (hR1 b h))⟩
    ·exact ⟨(hown b h).1, (hown b h).2.1, fun p _ => (hown b h).2.2 p⟩
  ·simp only [RX]
   exact ⟨trivial, _, cap, rfl, .inr ⟨⟨B.b, B.off + lo * s, cap⟩, by simp [E'], by simp, om, .inr (by simpa using hbase)⟩⟩
 ·-- in a new block
  let E' : Env := { E with w := E.w.drew.alloc (.cells ((olds ++ news).toArray ++ rest) e), β := fun q => if q = o then some ⟨E.w.heap.size, 0, cap'⟩ else E.β q }
  have hmv : Moves G E E' (fun _ => False) := by
   have h1 := (Moves.drew G E).trans (Moves.alloc G { E with w := E.w.drew } (.cells ((olds ++ news).toArray ++ rest) e)) (fun _ h => h.elim)
   exact { h1 with φ := rfl }
  have hon : ∀ R'', (∀ b ∈ R'', b < E.w.heap.size) → E.On E' R'' := fun R'' h => ⟨fun _ _ _ h => h, fun b hb => ⟨hmv.same b (h b hb) (fun h => h), fun h => h⟩⟩
  have hin : ∀ j, j < (olds ++ news).length → ((olds ++ news).toArray ++ rest)[0 + j]? = (olds ++ news)[j]? := by
   intro j hj
   rw [Nat.zero_add, Array.getElem?_append_left (by simpa using hj)]
   simp
  have hsz : ((olds ++ news).toArray ++ rest).size = cap' * s := by
   simp [hrest, hol, hnl]
   have : cap' * s = (n + new.length) * s + (cap' - (n + new.length)) * s := by rw [← Nat.add_mul]; congr 1; omega
   rw [this, Nat.add_mul]
  have hrows : ROr E' (((rs.drop lo).take n) ++ new) ((olds ++ news).toArray ++ rest) 0 (R1 ++ R2) := by
   refine ROr.app (hlay1 E' _ _ (hon R1 (fun b hb => (hi.own _ _ (hR1 b hb)).1)) fun j hj => ?_) ?_
   ·rw [hin j (by simp; omega), List.getElem?_append_left hj]
   ·rw [length_flatten ((hu.drop lo).take n), hwl]
    refine hlay E' _ _ (hon R2 (fun b hb => (hown b hb).1)) fun j hj => ?_
    have := hin (olds.length + j) (by simp; omega)
    rw [List.getElem?_append_right om] at this
    rw [show 0 + n * s + j = 0 + (olds.length + j) by omega, this]
    congr 1; omega
  have hnewb : E.w.heap.size ∉ R1 ++ R2 := by
   intro h
   rcases List.mem_append.1 h with h | h
   ·have := (hi.own _ _ (hR1 _ h)).1; omega
   ·have := (hown _ h).1; omega
  have hs' : E'.w.heap.size = E.w.heap.size + 1 := by simp [E']
  refine ⟨_, E', _, hrun, hi.reobj hmv (o := o) (R := E.w.heap.size :: (R1 ++ R2)) (fun _ h => h.elim) (fun q hq => by simp [E', hq]) (fun h => by rw [hF] at h; cases h) ?_ ?_ ?_, ?_⟩
  ·simp only [ROb]
   refine ⟨hU, .inr ⟨⟨E.w.heap.size, 0, cap'⟩, _, e, R1 ++ R2, by simp [E'], ?_, fun i => ?_, by simp [hwl]; omega, by rw [hsz]; simp, hrows, rfl⟩⟩
   ·have := heap_alloc E.w.drew (.cells ((olds ++ news).toArray ++ rest) e)
    exact this
   ·show E.φ E.w.heap.size i = none
    cases h : E.φ E.w.heap.size i with
    | none => rfl
    | some v => exact absurd (World.block_lt_of_cell? E.w _ (hi.frz _ _ _ h)) (by simp)
  ·exact List.nodup_cons.2 ⟨hnewb, hnodup⟩
  ·intro b hb
   rw [hs']
   rcases List.mem_cons.1 hb with h | h
   ·subst h
    refine ⟨om, fun hK => ?_, hi.mine (.inr (Nat.le_refl _))⟩
    have := hi.small _ hK
    have := hi.size
    omega
   ·rcases List.mem_append.1 h with h | h
    ·exact ⟨by have := (hi.own _ _ (hR1 b h)).1; omega, hi.blk (hR1 b h), hi.mine (.inl (hR1 b h))⟩
    ·exact ⟨by have := (hown b h).1; omega, (hown b h).2.1, fun p _ => (hown b h).2.2 p⟩
  ·simp only [RX]
   exact ⟨trivial, _, cap', rfl, .inr ⟨⟨E.w.heap.size, 0, cap'⟩, by simp [E'], by simp, om, .inr (by simp)⟩⟩

end
end Go.AW
/- Part of the abstract walk: the rules for append. -/
namespace Go.AW
open Go

section
variable {P : Program} {N : Frm} {G : Ctx} {E : Env} {RR : Own → List Nat} {st : St} {a : Act}

theorem Inv.trim (hi : Inv G E RR st a) {o s lo n : Nat} {rs : List (List X)} {c : Value} (hx : RX E (.slc o s lo n) c []) (ho : look st.objs o = some (.rows s rs)) (hln : lo + n ≤ rs.length) (hF : G.fn.F.elem o = false) :
  ∃ E' RR', E'.w = E.w ∧ Inv G E' RR' ((st.kill o).putO o (.rows s ((rs.drop lo).take n))) a ∧ RX E' (.slc o s 0 n) c [] := by
 have hob := hi.objs o _ ho
 have hnd := hi.nodup (.obj o)
 simp only [RX] at hx
 obtain ⟨_, base, cap, rfl, hcase⟩ := hx
 simp only [ROb] at hob
 obtain ⟨hu, hob⟩ := hob
 have hβ : ∀ (bk : Option Blk), Moves G E { E with β := fun q => if q = o then bk else E.β q } (fun _ => False) := fun _ =>
  ⟨rfl, fun _ h => h.elim, fun _ h => h.elim, fun _ _ _ => rfl, Nat.le_refl _, rfl, rfl, rfl⟩
 have hwl : ((rs.drop lo).take n).length = n := by simp; omega
 by_cases hcap0 : cap = 0
 ·have hn0 : n = 0 := by rcases hcase with ⟨_, _, h, _⟩ | ⟨_, _, _, h, _⟩ <;> omega
  subst hn0
  refine ⟨{ E with β := fun q => if q = o then none else E.β q }, _, rfl, hi.reobj (hβ none) (o := o) (R := []) (fun _ h => h.elim) (fun q hq => by simp [hq]) (fun h => by rw [hF] at h; cases h) ?_ List.nodup_nil (fun _ h => by cases h), ?_⟩
  ·simp only [ROb]; exact ⟨fun _ h => (by simp at h), .inl ⟨by simp, by simp, trivial⟩⟩
  ·simp only [RX]; exact ⟨trivial, base, cap, rfl, .inl ⟨by simp, trivial, trivial, hcap0⟩⟩
 ·rcases hcase with ⟨_, _, _, h⟩ | ⟨B, hB, hlc, hn', hb⟩
  ·exact absurd h hcap0
  have hb' := hb.resolve_left hcap0
  rcases hob with ⟨h1, _⟩ | ⟨B', cs, tb, R', hB', hw, hφ, hcp, hsz, hRO, hRR⟩
  ·rw [hB] at h1; cases h1
  rw [hB] at hB'
  obtain rfl := Option.some.inj hB'
  rw [hRR] at hnd
  obtain ⟨hnin, hnd'⟩ := List.nodup_cons.1 hnd
  obtain ⟨R1, hwin, hsub, hnd1⟩ := ROr.window hu hRO hln
  have hon : E.On { E with β := fun q => if q = o then some ⟨B.b, B.off + lo * s, cap⟩ else E.β q } R1 := ⟨fun _ _ _ h => h, fun _ _ => ⟨rfl, fun h => h⟩⟩
  refine ⟨{ E with β := fun q => if q = o then some ⟨B.b, B.off + lo * s, cap⟩ else E.β q }, _, rfl, hi.reobj (hβ (some ⟨B.b, B.off + lo * s, cap⟩)) (o := o) (R := B.b :: R1) (fun _ h => h.elim) (fun q hq => by simp [hq]) (fun h => by rw [hF] at h; cases h) ?_ (List.nodup_cons.2 ⟨fun h => hnin (hsub _ h), hnd1 hnd'⟩) ?_, ?_⟩
  ·simp only [ROb]
   refine ⟨(hu.drop lo).take n, .inr ⟨⟨B.b, B.off + lo * s, cap⟩, cs, tb, R1, by simp, hw, hφ, by simp [hwl]; omega, ?_, ROr.mono _ _ _ _ hon hwin, rfl⟩⟩
   have : B.cap = lo + cap := hlc.symm
   rw [this, Nat.add_mul] at hsz
   simp only; omega
  ·intro b hb2
   have hm : b ∈ RR (.obj o) := by
    rw [hRR]
    rcases List.mem_cons.1 hb2 with h | h
    ·simp [h]
    ·simp [hsub b h]
   exact ⟨(hi.own _ _ hm).1, hi.blk hm, hi.mine (.inl hm)⟩
  ·simp only [RX]
   exact ⟨trivial, base, cap, rfl, .inr ⟨⟨B.b, B.off + lo * s, cap⟩, by simp, by simp, hn', .inr (by simpa using hb')⟩⟩

theorem Sh.trim {d o s lo n : Nat} {rs : List (List X)} (hx : look st.slots d = some (.slc o s lo n)) (ho : look st.objs o = some (.rows s rs)) (hln : lo + n ≤ rs.length) (hF : N.F.elem o = false) :
  Sh N st (((st.kill o).putO o (.rows s ((rs.drop lo).take n))).put d (.slc o s 0 n)) := by
 intro G hn a w hh
 obtain ⟨E, RR, rfl, hi⟩ := hh
 have hv := hi.slots d _ hx
 have h0 : RR (.slot d) = [] := RX.free (x := .slc o s lo n) rfl hv
 rw [h0] at hv
 obtain ⟨E', RR', hw, h1, h2⟩ := hi.trim hv ho hln (by rw [hn]; exact hF)
 exact ⟨E', _, hw, h1.relabel h2 List.nodup_nil (fun _ h => by cases h)⟩

theorem Inv.nil (hi : Inv G E RR st a) (o s : Nat) (hF : G.fn.F.elem o = false) : ∃ E' RR', E'.w = E.w ∧ Inv G E' RR' ((st.kill o).putO o (.rows s [])) a ∧ RX E' (.slc o s 0 0) (.slice none 0 0) [] := by
 have hβ : Moves G E { E with β := fun q => if q = o then none else E.β q } (fun _ => False) :=
  ⟨rfl, fun _ h => h.elim, fun _ h => h.elim, fun _ _ _ => rfl, Nat.le_refl _, rfl, rfl, rfl⟩
 refine ⟨{ E with β := fun q => if q = o then none else E.β q }, _, rfl, hi.reobj hβ (o := o) (R := []) (fun _ h => h.elim) (fun q hq => by simp [hq]) (fun h => by rw [hF] at h; cases h) ?_ List.nodup_nil (fun _ h => by cases h), ?_⟩
 ·simp only [ROb]; exact ⟨fun _ h => (by cases h), .inl ⟨by simp, trivial, trivial⟩⟩
 ·simp only [RX]; exact ⟨trivial, none, 0, rfl, .inl ⟨by simp, by trivial, by trivial, by trivial⟩⟩

theorem Sh.nil {d : Nat} (o s : Nat) (hx : look st.slots d = some (.v (.slice none 0 0))) (hF : N.F.elem o = false) : Sh N st (((st.kill o).putO o (.rows s [])).put d (.slc o s 0 0)) := by
 intro G hn a w hh
 obtain ⟨E, RR, rfl, hi⟩ := hh
 have hv := hi.slots d _ hx
 simp only [RX] at hv
 obtain ⟨E', RR', hw, h1, h2⟩ := hi.nil o s (by rw [hn]; exact hF)
 refine ⟨E', _, hw, h1.relabel (d := d) (by rw [hv.1]; exact h2) List.nodup_nil (fun _ h => by cases h)⟩

theorem Sh.nilU {d : Nat} (s : Nat) (hx : look st.slots d = some (.v (.slice none 0 0))) : Sh N st (st.put d (.uni s [])) := by
 intro G hn a w hh
 obtain ⟨E, RR, rfl, hi⟩ := hh
 have hv := hi.slots d _ hx
 simp only [RX] at hv
 refine ⟨E, _, rfl, hi.relabel (d := d) (R := []) ?_ List.nodup_nil (fun _ h => by cases h)⟩
 rw [hv.1]
 simp only [RX]
 exact ⟨fun _ h => (by cases h), none, 0, rfl, .inl ⟨by trivial, by trivial, by trivial⟩⟩

theorem run_append_none {t e s by_ ty n cap : Nat} {base b2 : Option Addr} {c2 : Nat} (ht : TY.slice P t = some (e, s, by_)) (hc : n ≤ cap) (w : World) :
  (Builtin.append_ #[t, t] ty #[.slice base n cap, .slice b2 0 c2]).run P w = .ok (.slice base n cap) w := by
 obtain ⟨hu, i, hinf, hs, hby⟩ := TY.slice_spec ht
 have h0 : ∀ a : Addr, (storeCells a []).run P w = .ok () w := fun _ => rfl
 cases b2 with
 | none =>
  cases base with
  | none => simp [Builtin.append_, run_underlying hu, sizeOf, typeInfo, hinf, Builtin.lenOf, hc, Builtin.firstCells]
  | some b => simp [Builtin.append_, run_underlying hu, sizeOf, typeInfo, hinf, Builtin.lenOf, hc, Builtin.firstCells, h0]
 | some b' =>
  have hl : ∀ a : Addr, (loadCells a 0).run P w = .ok #[] w := fun _ => rfl
  cases base with
  | none => simp [Builtin.append_, run_underlying hu, sizeOf, typeInfo, hinf, Builtin.lenOf, hc, Builtin.firstCells, hl]
  | some b => simp [Builtin.append_, run_underlying hu, sizeOf, typeInfo, hinf, Builtin.lenOf, hc, Builtin.firstCells, h0, hl]

variable {Q : Exit → St → Prop} {all : Array Oper} {rest : List Oper} {d : Nat} {ty : TypeId} {pos : String} {af : Array Edge}

theorem run_appendCall {x y : Operand} {t : Nat} {w w' : World} {u : Value} (h : (Builtin.append_ #[t, t] ty #[a.eval x, a.eval y]).run P w = .ok u w') :
  (execOp a.eval ⟨some d, .call ⟨.builtin .append, #[x, y], #[t, t]⟩, ty, pos, af, none⟩).run P w = .ok (.value u) w' := by
 refine run_callB (g := none) ?_
 have e : (#[x, y] : Array Operand).map a.eval = #[a.eval x, a.eval y] := by simp
 rw [e]
 exact run_v h

theorem AOps.append {t e s by_ tv : Nat} {z : List Value} {x : Operand} {o lo n : Nat} {rs new : List (List X)} (ht : TY.slice P t = some (e, s, by_)) (hz : TY.zero P e = some z) (hzl : Nat.beq z.length s = true)
  (hy : look st.slots tv = some (.uni s new)) (hx : opd (st.put tv .no) x = some (.slc o s lo n)) (ho : look st.objs o = some (.rows s rs)) (hln : lo + n ≤ rs.length)
  (hb46 : (n + new.length) * by_ ≤ 140737488355328) (h62 : n + new.length ≤ 4611686018427387904) (hF : N.F.elem o = false) (hd : d < N.n)
  (k : AOps P N all rest (((((st.put tv .no).kill o).putO o (.rows s (((rs.drop lo).take n) ++ new)))).put d (.slc o s 0 (n + new.length))) Q) :
  AOps P N all (⟨some d, .call ⟨.builtin .append, #[x, .tmp tv], #[t, t]⟩, ty, pos, af, none⟩ :: rest) st Q := by
 refine AOps.eff (fun G E RR a hn hi => ?_) k
 have hv := hi.slots tv _ hy
 have hi2 := hi.no tv
 obtain ⟨R, hxv⟩ := hi2.eval hx
 have h0 : R = [] := RX.free (x := .slc o s lo n) rfl hxv
 subst h0
 have hF' : G.fn.F.elem o = false := by rw [hn]; exact hF
 by_cases hm : 0 < new.length
 ·obtain ⟨R2, hsrc, hsub, hnd⟩ := Src.ofUni hv hm
  obtain ⟨u, E', RR', hrun, h1, h2⟩ := hi2.append (ty := ty) ht hz (Nat.eq_of_beq_eq_true hzl) hxv ho hln hsrc hm (hnd (hi.nodup _)) (fun b hb => by
   have hb' := hsub b hb
   refine ⟨(hi.own _ _ hb').1, (hi.own _ _ hb').2, fun p hp => ?_⟩
   unfold upd at hp
   split at hp
   ·cases hp
   ·rename_i h; exact hi.apart _ _ h b hp hb') hb46 h62 hF'
  exact ⟨u, E', _, run_appendCall hrun, h1.put0 (by rw [hn]; exact hd) h2⟩
 ·have hnew : new = [] := List.eq_nil_of_length_eq_zero om
  subst hnew
  obtain ⟨E', RR', hw, h1, h2⟩ := hi2.trim hxv ho hln hF'
  simp only [List.append_nil, List.length_nil, Nat.add_zero]
  refine ⟨a.eval x, E', _, ?_, h1.put0 (by rw [hn]; exact hd) h2⟩
  rw [hw]
  refine run_appendCall ?_
  simp only [RX] at hxv hv
  obtain ⟨_, base, cap, hc, hcase⟩ := hxv
  obtain ⟨_, b2, c2, hc2, _⟩ := hv
  have hc2' : a.eval (.tmp tv) = .slice b2 0 c2 := hc2
  rw [hc, hc2']
  exact run_append_none ht (by rcases hcase with ⟨_, _, h3, h4⟩ | ⟨_, _, _, h3, _⟩ <;> omega) E.w

theorem AOps.appendF {t e s by_ : Nat} {z : List Value} {x y : Operand} {o lo n : Nat} {rs new : List (List X)} (ht : TY.slice P t = some (e, s, by_)) (hz : TY.zero P e = some z) (hzl : Nat.beq z.length s = true)
  (hy : opd st y = some (.fz s new)) (hx : opd st x = some (.slc o s lo n)) (ho : look st.objs o = some (.rows s rs)) (hln : lo + n ≤ rs.length)
  (hb46 : (n + new.length) * by_ ≤ 140737488355328) (h62 : n + new.length ≤ 4611686018427387904) (hF : N.F.elem o = false) (hd : d < N.n)
  (k : AOps P N all rest ((((st.kill o).putO o (.rows s (((rs.drop lo).take n) ++ new)))).put d (.slc o s 0 (n + new.length))) Q) :
  AOps P N all (⟨some d, .call ⟨.builtin .append, #[x, y], #[t, t]⟩, ty, pos, af, none⟩ :: rest) st Q := by
 refine AOps.eff (fun G E RR a hn hi => ?_) k
 obtain ⟨R', hv⟩ := hi.eval hy
 obtain ⟨R, hxv⟩ := hi.eval hx
 have h0 : R = [] := RX.free (x := .slc o s lo n) rfl hxv
 subst h0
 have hF' : G.fn.F.elem o = false := by rw [hn]; exact hF
 by_cases hm : 0 < new.length
 ·have hsrc := Src.ofFz hi hv hm
  obtain ⟨u, E', RR', hrun, h1, h2⟩ := hi.append (ty := ty) ht hz (Nat.eq_of_beq_eq_true hzl) hxv ho hln hsrc hm List.nodup_nil (fun _ h => by cases h) hb46 h62 hF'
  exact ⟨u, E', _, run_appendCall hrun, h1.put0 (by rw [hn]; exact hd) h2⟩
 ·have hnew : new = [] := List.eq_nil_of_length_eq_zero om
  subst hnew
  obtain ⟨E', RR', hw, h1, h2⟩ := hi.trim hxv ho hln hF'
  simp only [List.append_nil, List.length_nil, Nat.add_zero]
  refine ⟨a.eval x, E', _, ?_, h1.put0 (by rw [hn]; exact hd) h2⟩
  rw [hw]
  refine run_appendCall ?_
  simp only [RX] at hxv hv
  obtain ⟨_, base, cap, hc, hcase⟩ := hxv
  obtain ⟨_, _, b2, c2, hc2, _⟩ := hv
  rw [hc, hc2]
  exact run_append_none ht (by rcases hcase with ⟨_, _, h3, h4⟩ | ⟨_, _, _, h3, _⟩ <;> omega) E.w

end
end Go.AW
