/- Part of the abstract walk: values as trees, objects by name, and what they say of the model's values and memory. -/
import Derived.WalkKit
set_option linter.unusedSimpArgs false
set_option linter.unusedVariables false
set_option linter.unusedSectionVars false
namespace Go.AW
open Go
theorem om {p : Prop} (h : p := by omega) : p := h
theorem aq {p : Prop} (h : p := by kernel_rfl) : p := h
theorem ae {p : Prop} (h : p := by decide) : p := h
theorem cj {p : Prop} (h : p := by assumption) : p := h
theorem Rz {p : Prop} (h : p := by (simp only [List.length_append, List.length_cons, List.length_nil]; omega)) : p := h
theorem gF {p : Prop} (h : p := by first | rfl | simp_all) : p := h
theorem b5 {p : Prop} (h : p := by first | rfl | omega) : p := h
theorem bw {p : Prop} (h : p := by first | omega | simp [-List.getD_eq_getElem?_getD] <;> omega) : p := h
theorem ou {p : Prop} (h : p := by first | omega | (simp [-List.getD_eq_getElem?_getD]; done) | (simp [-List.getD_eq_getElem?_getD]; omega)) : p := h

inductive X where
 | v (u : Value)
 | no
 | fz (s : Nat) (rows : List (List X))
 | ep (s : Nat) (rows : List (List X))
 | ptr (o s i k : Nat)
 | aY (o s lo n : Nat)
 | mref (o : Nat)
 | fp (row : List X) (k : Nat)
 | agg (xs : List X)
 | tup (xs : List X)
 | gl (fn : Fn) (first kC : List X)

mutual
def X.nr : X → Bool
 | .v _ | .no | .fz .. | .ep .. | .fp .. => true
 | .ptr .. | .aY .. | .mref _ => false
 | .agg xs => X.gk xs
 | .tup xs => X.gk xs
 | .gl _ a b => X.gk a && X.gk b
def X.gk : List X → Bool
 | [] => true
 | x :: r => x.nr && X.gk r
end

mutual
def X.dL (o : Nat) : X → Bool
 | .v _ | .no | .fz .. | .ep .. | .fp .. => false
 | .ptr p .. => Nat.beq p o
 | .aY p .. => Nat.beq p o
 | .mref p => Nat.beq p o
 | .agg xs => X.cC o xs
 | .tup xs => X.cC o xs
 | .gl _ a b => X.cC o a || X.cC o b
def X.cC (o : Nat) : List X → Bool
 | [] => false
 | x :: r => x.dL o || X.cC o r
end

mutual
def X.free : X → Bool
 | .v _ | .no | .fz .. | .ptr .. | .aY .. | .mref _ | .fp .. | .gl .. => true
 | .ep .. => false
 | .agg xs => X.bC xs
 | .tup xs => X.bC xs
def X.bC : List X → Bool
 | [] => true
 | x :: r => x.free && X.bC r
end

structure y7 where
 b : Nat
 off : Nat
 cap : Nat

abbrev Fz := Nat → Nat → Option Value

structure Env where
 φ : Fz
 β : Nat → Option y7
 w : World

def jg : Value → Prop
 | .agg _ | .tuple _ => False
 | _ => True

def cu (s : Nat) (rows : List (List X)) : Prop := ∀ r ∈ rows, r.length = s

mutual
def RX (E : Env) : X → Value → List Nat → Prop
 | .v u, c, R => c = u ∧ R = []
 | .no, _, R => R = []
 | .fz s rows, c, R => R = [] ∧ cu s rows ∧ ∃ base cap, c = .slice base rows.length cap ∧
   ((rows = [] ∧ cap = 0) ∨ ∃ b off, base = some ⟨b, off, none⟩ ∧ rows.length ≤ cap ∧ jE E rows b off)
 | .ep s rows, c, R => cu s rows ∧ ∃ base cap, c = .slice base rows.length cap ∧
   ((rows = [] ∧ cap = 0 ∧ R = []) ∨ ∃ b off cs ty R', base = some ⟨b, off, none⟩ ∧ E.w.heap[b]? = some (.cells cs ty (0, 0)) ∧
    rows.length ≤ cap ∧ off + cap * s ≤ cs.size ∧ (∀ i, E.φ b i = none) ∧ cD E rows cs off R' ∧ R = b :: R')
 | .ptr o s i k, c, R => R = [] ∧ ∃ B, E.β o = some B ∧ c = .pointer (some ⟨B.b, B.off + (i * s + k), none⟩)
 | .aY o s lo n, c, R => R = [] ∧ ∃ base cap, c = .slice base n cap ∧
   ((E.β o = none ∧ lo = 0 ∧ n = 0 ∧ cap = 0) ∨ ∃ B, E.β o = some B ∧ lo + cap = B.cap ∧ n ≤ cap ∧ (cap = 0 ∨ base = some ⟨B.b, B.off + lo * s, none⟩))
 | .mref o, c, R => R = [] ∧ ∃ B, E.β o = some B ∧ c = .map (some B.b)
 | .fp row k, c, R => R = [] ∧ ∃ b off, c = .pointer (some ⟨b, off + k, none⟩) ∧ RF E row b off
 | .agg xs, c, R => ∃ cs, c = .agg cs ∧ bz E xs cs.toList R
 | .tup xs, c, R => ∃ cs, c = .tuple cs ∧ dZ E xs cs.toList R
 | .gl fn first kC, c, R => R = [] ∧ ∃ f cc, c = .func fn f cc ∧ dZ E first f.toList [] ∧ dZ E kC cc.toList []
def bz (E : Env) : List X → List Value → List Nat → Prop
 | [], cs, R => cs = [] ∧ R = []
 | x :: r, cs, R => ∃ c dg R₁ R₂, cs = c :: dg ∧ jg c ∧ RX E x c R₁ ∧ bz E r dg R₂ ∧ R = R₁ ++ R₂
def dZ (E : Env) : List X → List Value → List Nat → Prop
 | [], cs, R => cs = [] ∧ R = []
 | x :: r, cs, R => ∃ c dg R₁ R₂, cs = c :: dg ∧ RX E x c R₁ ∧ dZ E r dg R₂ ∧ R = R₁ ++ R₂
def RF (E : Env) : List X → Nat → Nat → Prop
 | [], _, _ => True
 | x :: r, b, off => (∃ u, E.φ b off = some u ∧ jg u ∧ x.nr = true ∧ RX E x u []) ∧ RF E r b (off + 1)
def jE (E : Env) : List (List X) → Nat → Nat → Prop
 | [], _, _ => True
 | r :: rs, b, off => RF E r b off ∧ jE E rs b (off + r.length)
def RO (E : Env) : List X → Array Value → Nat → List Nat → Prop
 | [], _, _, R => R = []
 | x :: r, cs, off, R => ∃ u R₁ R₂, cs[off]? = some u ∧ jg u ∧ RX E x u R₁ ∧ RO E r cs (off + 1) R₂ ∧ R = R₁ ++ R₂
def cD (E : Env) : List (List X) → Array Value → Nat → List Nat → Prop
 | [], _, _, R => R = []
 | r :: rs, cs, off, R => ∃ R₁ R₂, X.gk r = true ∧ RO E r cs off R₁ ∧ cD E rs cs (off + r.length) R₂ ∧ R = R₁ ++ R₂
end

inductive Obj where
 | cells (xs : List X)
 | rows (s : Nat) (rs : List (List X))
 | uQ (es : List (Value × Value))
 | gone

end Go.AW
/- Part of the abstract walk: what holds of a value goes on holding while its own blocks stay as they are. -/
namespace Go.AW
open Go

theorem cG {α} {a : α} {l r : List α} (h : a ∈ l) : a ∈ l ++ r := List.mem_append.2 (.inl h)
theorem cw {α} {a : α} {l r : List α} (h : a ∈ r) : a ∈ l ++ r := List.mem_append.2 (.inr h)

def Env.On (E E' : Env) (R : List Nat) : Prop :=
 (∀ b i v, E.φ b i = some v → E'.φ b i = some v) ∧ ∀ b ∈ R, E'.w.heap[b]? = E.w.heap[b]? ∧ ((∀ i, E.φ b i = none) → ∀ i, E'.φ b i = none)

theorem Env.On.sub {E E' : Env} {R R' : List Nat} (h : E.On E' R) (hs : ∀ b ∈ R', b ∈ R) : E.On E' R' := ⟨h.1, fun b hb => h.2 b (hs b hb)⟩

mutual
theorem X.nM : ∀ {x : X}, x.nr = true → ∀ o, x.dL o = false
 | .v _, _, _ | .no, _, _ | .fz .., _, _ | .ep .., _, _ | .fp .., _, _ => rfl
 | .agg xs, h, o => X.fi (xs := xs) h o
 | .tup xs, h, o => X.fi (xs := xs) h o
 | .gl _ a b, h, o => by
  simp only [X.nr, Bool.and_eq_true] at h
  simp only [X.dL, X.fi h.1 o, X.fi h.2 o, Bool.or_self]
theorem X.fi : ∀ {xs : List X}, X.gk xs = true → ∀ o, X.cC o xs = false
 | [], _, _ => rfl
 | x :: r, h, o => by
  simp only [X.gk, Bool.and_eq_true] at h
  simp only [X.cC, X.nM h.1 o, X.fi h.2 o, Bool.or_self]
end

mutual
theorem RX.mono {E E' : Env} : ∀ (x : X) (c : Value) (R : List Nat), E.On E' R → (∀ o, x.dL o = true → E'.β o = E.β o) → RX E x c R → RX E' x c R
 | .v u, c, R, _, _, h => by simpa [RX] using h
 | .no, c, R, _, _, h => by simpa [RX] using h
 | .fz s rows, c, R, hE, _, h => by
  simp only [RX] at h ⊢
  obtain ⟨hR, hu, base, cap, hc, hh⟩ := h
  refine ⟨hR, hu, base, cap, hc, ?_⟩
  rcases hh with hh | ⟨b, off, hb, hl, hf⟩
  ·exact .inl hh
  ·exact .inr ⟨b, off, hb, hl, jE.mono rows b off (hE.sub (by simp)) hf⟩
 | .ep s rows, c, R, hE, _, h => by
  simp only [RX] at h ⊢
  obtain ⟨hu, base, cap, hc, hh⟩ := h
  refine ⟨hu, base, cap, hc, ?_⟩
  rcases hh with hh | ⟨b, off, cs, ty, R', hb, hw, hl, ho, hf, hr, hR⟩
  ·exact .inl hh
  ·subst hR
   have h2 := hE.2 b (by simp)
   exact .inr ⟨b, off, cs, ty, R', hb, h2.1.trans hw, hl, ho, h2.2 hf, cD.mono rows cs off R' (hE.sub (fun _ h => by simp [h])) hr, rfl⟩
 | .ptr o s i k, c, R, _, hβ, h => by
  simp only [RX] at h ⊢
  rw [hβ o (by simp [X.dL])]; exact h
 | .aY o s lo n, c, R, _, hβ, h => by
  simp only [RX] at h ⊢
  rw [hβ o (by simp [X.dL])]; exact h
 | .mref o, c, R, _, hβ, h => by
  simp only [RX] at h ⊢
  rw [hβ o (by simp [X.dL])]; exact h
 | .fp row k, c, R, hE, _, h => by
  simp only [RX] at h ⊢
  obtain ⟨hR, b, off, hc, hf⟩ := h
  exact ⟨hR, b, off, hc, RF.mono row b off (hE.sub (by simp)) hf⟩
 | .agg xs, c, R, hE, hβ, h => by
  simp only [RX] at h ⊢
  obtain ⟨cs, hc, hs⟩ := h
  exact ⟨cs, hc, bz.mono xs _ R hE (fun o ho => hβ o (by simp [X.dL, ho])) hs⟩
 | .tup xs, c, R, hE, hβ, h => by
  simp only [RX] at h ⊢
  obtain ⟨cs, hc, hs⟩ := h
  exact ⟨cs, hc, dZ.mono xs _ R hE (fun o ho => hβ o (by simp [X.dL, ho])) hs⟩
 | .gl fn a b, c, R, hE, hβ, h => by
  simp only [RX] at h ⊢
  obtain ⟨hR, f, cc, hc, h1, h2⟩ := h
  exact ⟨hR, f, cc, hc, dZ.mono a _ [] (hE.sub (by simp)) (fun o ho => hβ o (by simp [X.dL, ho])) h1, dZ.mono b _ [] (hE.sub (by simp)) (fun o ho => hβ o (by simp [X.dL, ho])) h2⟩
theorem bz.mono {E E' : Env} : ∀ (xs : List X) (cs : List Value) (R : List Nat), E.On E' R → (∀ o, X.cC o xs = true → E'.β o = E.β o) → bz E xs cs R → bz E' xs cs R
 | [], _, _, _, _, h => by simpa [bz] using h
 | x :: r, cs, R, hE, hβ, h => by
  simp only [bz] at h ⊢
  obtain ⟨c, dg, R₁, R₂, hc, hs, h1, h2, hR⟩ := h
  subst hR
  exact ⟨c, dg, R₁, R₂, hc, hs, RX.mono x c R₁ (hE.sub (fun _ h => cG h)) (fun o ho => hβ o (by simp [X.cC, ho])) h1,
   bz.mono r dg R₂ (hE.sub (fun _ h => cw h)) (fun o ho => hβ o (by simp [X.cC, ho])) h2, rfl⟩
theorem dZ.mono {E E' : Env} : ∀ (xs : List X) (cs : List Value) (R : List Nat), E.On E' R → (∀ o, X.cC o xs = true → E'.β o = E.β o) → dZ E xs cs R → dZ E' xs cs R
 | [], _, _, _, _, h => by simpa [dZ] using h
 | x :: r, cs, R, hE, hβ, h => by
  simp only [dZ] at h ⊢
  obtain ⟨c, dg, R₁, R₂, hc, h1, h2, hR⟩ := h
  subst hR
  exact ⟨c, dg, R₁, R₂, hc, RX.mono x c R₁ (hE.sub (fun _ h => cG h)) (fun o ho => hβ o (by simp [X.cC, ho])) h1,
   dZ.mono r dg R₂ (hE.sub (fun _ h => cw h)) (fun o ho => hβ o (by simp [X.cC, ho])) h2, rfl⟩
theorem RF.mono {E E' : Env} : ∀ (xs : List X) (b off : Nat), E.On E' [] → RF E xs b off → RF E' xs b off
 | [], _, _, _, _ => by simp [RF]
 | x :: r, b, off, hE, h => by
  simp only [RF] at h ⊢
  obtain ⟨⟨u, hu, hs, hn, hx⟩, hr⟩ := h
  exact ⟨⟨u, hE.1 _ _ _ hu, hs, hn, RX.mono x u [] hE (fun o ho => by rw [X.nM hn] at ho; cases ho) hx⟩, RF.mono r b (off + 1) hE hr⟩
theorem jE.mono {E E' : Env} : ∀ (rs : List (List X)) (b off : Nat), E.On E' [] → jE E rs b off → jE E' rs b off
 | [], _, _, _, _ => by simp [jE]
 | r :: rs, b, off, hE, h => by
  simp only [jE] at h ⊢
  exact ⟨RF.mono r b off hE h.1, jE.mono rs b _ hE h.2⟩
theorem RO.mono {E E' : Env} : ∀ (xs : List X) (cs : Array Value) (off : Nat) (R : List Nat), E.On E' R → (∀ o, X.cC o xs = true → E'.β o = E.β o) → RO E xs cs off R → RO E' xs cs off R
 | [], _, _, _, _, _, h => by simpa [RO] using h
 | x :: r, cs, off, R, hE, hβ, h => by
  simp only [RO] at h ⊢
  obtain ⟨u, R₁, R₂, hu, hs, h1, h2, hR⟩ := h
  subst hR
  exact ⟨u, R₁, R₂, hu, hs, RX.mono x u R₁ (hE.sub (fun _ h => cG h)) (fun o ho => hβ o (by simp [X.cC, ho])) h1,
   RO.mono r cs (off + 1) R₂ (hE.sub (fun _ h => cw h)) (fun o ho => hβ o (by simp [X.cC, ho])) h2, rfl⟩
theorem cD.mono {E E' : Env} : ∀ (rs : List (List X)) (cs : Array Value) (off : Nat) (R : List Nat), E.On E' R → cD E rs cs off R → cD E' rs cs off R
 | [], _, _, _, _, h => by simpa [cD] using h
 | r :: rs, cs, off, R, hE, h => by
  simp only [cD] at h ⊢
  obtain ⟨R₁, R₂, hn, h1, h2, hR⟩ := h
  subst hR
  exact ⟨R₁, R₂, hn, RO.mono r cs off R₁ (hE.sub (fun _ h => cG h)) (fun o ho => by rw [X.fi hn] at ho; cases ho) h1,
   cD.mono rs cs _ R₂ (hE.sub (fun _ h => cw h)) h2, rfl⟩
end

end Go.AW
/- Part of the abstract walk: states, what they say of a machine, and the rules for control. -/
namespace Go.AW
open Go

def look {α : Type} : List (Nat × α) → Nat → Option α
 | [], _ => none
 | (t, x) :: r, s => bif Nat.beq t s then some x else look r s

structure St where
 a9 : List (Nat × X)
 aA : List (Nat × Obj)

def dA (E : Env) (o : Nat) : Obj → List Nat → Prop
 | .cells xs, R => X.bC xs = true ∧ ∃ B cs ty, E.β o = some B ∧ E.w.heap[B.b]? = some (.cells cs ty (0, 0)) ∧ (∀ i, E.φ B.b i = none) ∧ B.off + xs.length ≤ cs.size ∧ RO E xs cs B.off [] ∧ R = [B.b]
 | .rows s rs, R => cu s rs ∧ ((E.β o = none ∧ rs = [] ∧ R = []) ∨ ∃ B cs ty R', E.β o = some B ∧ E.w.heap[B.b]? = some (.cells cs ty (0, 0)) ∧ (∀ i, E.φ B.b i = none) ∧
   rs.length ≤ B.cap ∧ B.off + B.cap * s ≤ cs.size ∧ cD E rs cs B.off R' ∧ R = B.b :: R')
 | .uQ es, R => ∃ B pc clock, E.β o = some B ∧ E.w.heap[B.b]? = some (.map pc clock) ∧ (∀ i, E.φ B.b i = none) ∧ pc.toList.map (fun e => (e.key, e.val)) = es ∧ R = [B.b]
 | .gone, R => R = []

inductive Own where
 | slot (s : Nat)
 | obj (o : Nat)
 deriving DecidableEq

structure eC where
 n : Nat
 F : List Nat

structure Ctx where
 K : Nat → Prop
 w0 : World
 φ0 : Fz
 β0 : Nat → Option y7
 fn : eC
 ds : List Deferred

structure Inv (G : Ctx) (E : Env) (RR : Own → List Nat) (st : St) (a : Act) : Prop where
 ku : ∀ b i v, E.φ b i = some v → E.w.cell? ⟨b, i, none⟩ = some v
 a9 : ∀ s x, look st.a9 s = some x → RX E x (a.tmps.getD s undef) (RR (.slot s))
 aA : ∀ o ob, look st.aA o = some ob → dA E o ob (RR (.obj o))
 nodup : ∀ p, (RR p).Nodup
 apart : ∀ p q, p ≠ q → ∀ b ∈ RR p, b ∉ RR q
 own : ∀ p b, b ∈ RR p → b < E.w.heap.size ∧ ¬ G.K b
 ai : ∀ b, G.K b → E.w.heap[b]? = G.w0.heap[b]?
 size : G.w0.heap.size ≤ E.w.heap.size
 small : ∀ b, G.K b → b < G.w0.heap.size
 os : E.w.os = G.w0.os
 tape : E.w.tape = G.w0.tape
 output : E.w.output = G.w0.output
 φ0 : ∀ b i v, G.φ0 b i = some v → E.φ b i = some v
 grow : ∀ b i v, E.φ b i = some v → G.φ0 b i = some v ∨ ¬ G.K b
 fixed : ∀ o, G.fn.F.elem o = true → E.β o = G.β0 o
 tmps : a.tmps.size = G.fn.n
 defers : a.defers = G.ds

def ct (G : Ctx) (st : St) (a : Act) (w : World) : Prop := ∃ E RR, E.w = w ∧ Inv G E RR st a

def mq (G : Ctx) (Q : Exit → St → Prop) (e : Exit) (a : Act) (w : World) : Prop := ∃ st, ct G st a w ∧ Q e st

def dn (P : Program) (N : eC) (c : Code) (st : St) (Q : Exit → St → Prop) : Prop :=
 ∀ G : Ctx, G.fn = N → ∀ a w, ct G st a w → c.wp P (mq G Q) a w

def aL (P : Program) (N : eC) (all : Array Oper) (rest : List Oper) (st : St) (Q : Exit → St → Prop) : Prop :=
 ∀ G : Ctx, G.fn = N → ∀ a w, ct G st a w → wpList P all (mq G Q) rest a w

def g0 (K : St → Prop) (Q : Exit → St → Prop) : Exit → St → Prop
 | .normal, st => K st
 | e, st => Q e st

def nq (id : Nat) (Q : Exit → St → Prop) : Exit → St → Prop
 | .exit id', st => bif Nat.beq id' id then Q .normal st else Q (.exit id') st
 | e, st => Q e st

def bR (st : St) : Operand → Option X
 | .tmp t => look st.a9 t
 | .const v => some (.v v)
 | .func f => some (.v (.func (.func f) #[] #[]))
 | .global _ => none

def Le (st aR : St) : Prop :=
 (∀ s x, look aR.a9 s = some x → look st.a9 s = some x) ∧ (∀ o x, look aR.aA o = some x → look st.aA o = some x)

theorem Le.refl (st : St) : Le st st := ⟨fun _ _ h => h, fun _ _ h => h⟩

theorem Le.holds {G : Ctx} {st aR : St} {a : Act} {w : World} (h : Le st aR) (hh : ct G st a w) : ct G aR a w := by
 obtain ⟨E, RR, hw, hi⟩ := hh
 exact ⟨E, RR, hw, { hi with a9 := fun s x hx => hi.a9 s x (h.1 s x hx), aA := fun o x hx => hi.aA o x (h.2 o x hx) }⟩

def eD {α : Type} (l l' : List (Nat × α)) : Prop := ∀ s x, look l' s = some x → look l s = some x
theorem eD.nil {α : Type} {l : List (Nat × α)} : eD l [] := fun _ _ h => by cases h
theorem eD.cons {α : Type} {l l' : List (Nat × α)} {s : Nat} {x : α} (h : look l s = some x) (hr : eD l l') : eD l ((s, x) :: l') := by
 intro t y hy
 unfold look at hy
 cases hb : Nat.beq s t with
 | true => rw [hb] at hy; simp at hy; subst hy; rw [Nat.eq_of_beq_eq_true hb] at h; exact h
 | false => rw [hb] at hy; exact hr t y hy
theorem Le.mk {st : St} {sl : List (Nat × X)} {ob : List (Nat × Obj)} (h : eD st.a9 sl) (h' : eD st.aA ob) : Le st ⟨sl, ob⟩ := ⟨h, h'⟩

section control
variable {P : Program} {N : eC} {st aR : St} {Q Q' : Exit → St → Prop}

theorem mq.mono {G : Ctx} {e : Exit} {a : Act} {w : World} (h : ∀ st, Q e st → Q' e st) (hp : mq G Q e a w) : mq G Q' e a w :=
 let ⟨st, hh, hq⟩ := hp; ⟨st, hh, h st hq⟩

theorem dn.mono {c : Code} (h : dn P N c st Q) (hq : ∀ e st, Q e st → Q' e st) : dn P N c st Q' :=
 fun G hn a w hh => wp_mono (h G hn a w hh) fun e _ _ hp => mq.mono (hq e) hp

theorem dn.le {c : Code} (hl : Le st aR) (h : dn P N c aR Q) : dn P N c st Q :=
 fun G hn a w hh => h G hn a w (hl.holds hh)

theorem aL.le {all : Array Oper} {rest : List Oper} (hl : Le st aR) (h : aL P N all rest aR Q) : aL P N all rest st Q :=
 fun G hn a w hh => h G hn a w (hl.holds hh)

theorem dn.skip (h : Q .normal st) : dn P N .skip st Q := fun _ _ _ _ hh => wp_skip ⟨st, hh, h⟩
theorem dn.exit {id : Nat} (h : Q (.exit id) st) : dn P N (.exit id) st Q := fun _ _ _ _ hh => wp_exit ⟨st, hh, h⟩
theorem dn.ret (h : Q .ret st) : dn P N .ret st Q := fun _ _ _ _ hh => wp_ret ⟨st, hh, h⟩

theorem dn.seq {x y : Code} (h : dn P N x st (g0 (fun aR => dn P N y aR Q) Q)) : dn P N (.seq x y) st Q := by
 intro G hn a w hh
 refine wp_seq (wp_mono (h G hn a w hh) ?_)
 rintro e a' w' ⟨aR, gy, hq⟩
 cases e <;> first | exact hq G hn a' w' gy | exact ⟨aR, gy, hq⟩

theorem dn.block {id : Nat} {c : Code} (h : dn P N c st (nq id Q)) : dn P N (.block id c) st Q := by
 intro G hn a w hh
 refine wp_block (wp_mono (h G hn a w hh) ?_)
 rintro e a' w' ⟨aR, gy, hq⟩
 cases e with
 | exit id' =>
  simp only [nq] at hq
  simp only [Exit.inBlock]
  cases hb : Nat.beq id' id with
  | true =>
   rw [hb] at hq
   rw [if_pos (Nat.eq_of_beq_eq_true hb)]
   exact ⟨aR, gy, hq⟩
  | false =>
   rw [hb] at hq
   rw [if_neg (Nat.ne_of_beq_eq_false hb)]
   exact ⟨aR, gy, hq⟩
 | _ => exact ⟨aR, gy, hq⟩

theorem Inv.eval {G : Ctx} {E : Env} {RR : Own → List Nat} {a : Act} (hi : Inv G E RR st a) {o : Operand} {x : X} (h : bR st o = some x) : ∃ R, RX E x (a.eval o) R := by
 cases o with
 | tmp t => exact ⟨_, hi.a9 t x h⟩
 | const v => simp only [bR, Option.some.injEq] at h; subst h; exact ⟨[], by simp [RX, Act.eval]⟩
 | func f => simp only [bR, Option.some.injEq] at h; subst h; exact ⟨[], by simp [RX, Act.eval]⟩
 | global g => cases h

theorem Inv.val {G : Ctx} {E : Env} {RR : Own → List Nat} {a : Act} (hi : Inv G E RR st a) {o : Operand} {u : Value} (h : bR st o = some (.v u)) : a.eval o = u := by
 obtain ⟨R, hR⟩ := hi.eval h
 simp only [RX] at hR
 exact hR.1

theorem dn.cond {c : Operand} {x y : Code} {b : Bool} (hc : bR st c = some (.v (.bool b))) (ht : b = true → dn P N x st Q) (hf : b = false → dn P N y st Q) :
  dn P N (.cond c x y) st Q := by
 intro G hn a w hh
 obtain ⟨E, RR, rfl, hi⟩ := hh
 exact wp_cond_split (hi.val hc) (fun h => ht h G hn a E.w ⟨E, RR, rfl, hi⟩) (fun h => hf h G hn a E.w ⟨E, RR, rfl, hi⟩)

theorem qz {c : Code} {ι : Type} {R : Exit → Act → World → Prop} (J : ι → Act → World → Prop) (μ : ι → Nat)
  (round : ∀ i a w, J i a w → c.wp P (Exit.then (fun a' w' => ∃ j, J j a' w' ∧ μ j < μ i) R) a w) {i : ι} {a : Act} {w : World} (h₀ : J i a w) : (Code.loop c).wp P R a w := by
 intro b k cs
 have key : ∀ n i a w, μ i = n → J i a w →
   ∃ e a' w', R e a' w' ∧ Arrives P (lone (b.at a (.code c :: .inLoop c :: k)) cs w) b k cs e a' w' := by
  intro n
  induction n using Nat.strongRecOn with
  | _ n ih =>
   intro i a w hn hI
   obtain ⟨e, a₁, w₁, hq, ox⟩ := round i a w hI b (.inLoop c :: k) cs
   cases e with
   | normal =>
    obtain ⟨j, Pc, iv⟩ := hq
    obtain ⟨e₂, a₂, w₂, Pd, GO⟩ := ih (μ j) (hn ▸ iv) j a₁ w₁ rfl Pc
    exact ⟨e₂, a₂, w₂, Pd, .of_steps (Steps.trans ox (.one step_inLoop)) GO⟩
   | exit id => exact ⟨_, a₁, w₁, hq, .pass (x := .inLoop c) rfl (fun _ _ => .inl (by simp)) ox⟩
   | goto l => exact ⟨_, a₁, w₁, hq, .pass (x := .inLoop c) rfl (fun _ _ => .inl (by simp)) ox⟩
   | ret => exact ⟨_, a₁, w₁, hq, .pass (x := .inLoop c) rfl (fun _ _ => .inl (by simp)) ox⟩
   | panic ch => exact ⟨_, a₁, w₁, hq, .pass (x := .inLoop c) rfl (fun _ _ => .inl (by simp)) ox⟩
   | outgrown => exact ⟨_, a₁, w₁, hq, .pass (x := .inLoop c) rfl (fun _ _ => .inl (by simp)) ox⟩
 obtain ⟨e, a', w', hq, ox⟩ := key _ i a w rfl h₀
 exact ⟨e, a', w', hq, .of_steps (.one step_loop) ox⟩

theorem dn.loop {ι : Type} {c : Code} (S : ι → St) (I : ι → Prop) (μ : ι → Nat) (i : ι) (hi : I i) (hs : Le st (S i))
  (round : ∀ i, I i → dn P N c (S i) (g0 (fun aR => ∃ j, I j ∧ μ j < μ i ∧ Le aR (S j)) Q)) : dn P N (.loop c) st Q := by
 intro G hn a w hh
 refine qz (fun i a w => I i ∧ ct G (S i) a w) μ ?_ ⟨hi, hs.holds hh⟩
 rintro i a w ⟨hI, hh⟩
 refine wp_mono (round i hI G hn a w hh) ?_
 rintro e a' w' ⟨aR, gy, hq⟩
 cases e with
 | normal => obtain ⟨j, hj, iv, hle⟩ := hq; exact ⟨j, ⟨hj, hle.holds gy⟩, iv⟩
 | _ => exact ⟨aR, gy, hq⟩

theorem dn.region {id : Nat} {l : List Oper} (h : aL P N l.toArray l st Q) : dn P N (.region id l.toArray false) st Q :=
 fun G hn a w hh => wp_region_lit (h G hn a w hh)

theorem aL.nil {all : Array Oper} (h : Q .normal st) : aL P N all [] st Q := fun _ _ _ _ hh => ⟨st, hh, h⟩

end control
end Go.AW
/- Part of the abstract walk: operations that leave memory as it is. -/
namespace Go.AW
open Go

def TY.shape (P : Program) (t : TypeId) : Option (Option Nat) :=
 match P.underlying t, P.info? t with
 | some (.struct _), some i => some (some i.size)
 | some (.array _ _), some i => some (some i.size)
 | some _, some _ => some none
 | _, _ => none
def TY.slice (P : Program) (t : TypeId) : Option (Nat × Nat × Nat) :=
 match P.underlying t with
 | some (.slice e) => (P.info? e).map fun i => (e, i.size, i.bytes)
 | _ => none
def TY.array (P : Program) (t : TypeId) : Option (Nat × Nat × Nat) :=
 match P.underlying t with
 | some (.array n e) => (P.info? e).map fun i => (n, e, i.size)
 | _ => none
def TY.jq (P : Program) (t : TypeId) (f : Nat) : Option (Nat × TypeId) :=
 match P.underlying t with
 | some (.struct fs) => match fs[f]? with
  | some fd => match P.info? fd.type with
   | some i => bif Nat.beq i.size 0 then none else some (fd.offset, fd.type)
   | none => none
  | none => none
 | _ => none
def TY.zero (P : Program) (t : TypeId) : Option (List Value) := (P.info? t).bind fun i => i.zero.map (·.cells.toList)
def TY.isInt (P : Program) (t : TypeId) : Option IntKind := match P.underlying t with | some (.int k) => some k | _ => none

def St.put (st : St) (d : Nat) (x : X) : St := { st with a9 := (d, x) :: st.a9 }

mutual
theorem RX.free {E : Env} : ∀ {x : X} {c : Value} {R : List Nat}, x.free = true → RX E x c R → R = []
 | .v _, _, _, _, h => by simp only [RX] at h; exact h.2
 | .no, _, _, _, h => by simpa [RX] using h
 | .fz .., _, _, _, h => by simp only [RX] at h; exact h.1
 | .ptr .., _, _, _, h => by simp only [RX] at h; exact h.1
 | .aY .., _, _, _, h => by simp only [RX] at h; exact h.1
 | .mref _, _, _, _, h => by simp only [RX] at h; exact h.1
 | .fp .., _, _, _, h => by simp only [RX] at h; exact h.1
 | .gl .., _, _, _, h => by simp only [RX] at h; exact h.1
 | .ep .., _, _, hf, _ => by simp [X.free] at hf
 | .agg xs, _, _, hf, h => by
  simp only [RX] at h
  obtain ⟨_, _, h⟩ := h
  exact bz.free (xs := xs) hf h
 | .tup xs, _, _, hf, h => by
  simp only [RX] at h
  obtain ⟨_, _, h⟩ := h
  exact dZ.free (xs := xs) hf h
theorem bz.free {E : Env} : ∀ {xs : List X} {cs : List Value} {R : List Nat}, X.bC xs = true → bz E xs cs R → R = []
 | [], _, _, _, h => by simp only [bz] at h; exact h.2
 | x :: r, _, _, hf, h => by
  simp only [bz] at h
  obtain ⟨c, dg, R₁, R₂, _, _, h1, h2, hR⟩ := h
  simp only [X.bC, Bool.and_eq_true] at hf
  rw [hR, RX.free hf.1 h1, bz.free hf.2 h2]; rfl
theorem dZ.free {E : Env} : ∀ {xs : List X} {cs : List Value} {R : List Nat}, X.bC xs = true → dZ E xs cs R → R = []
 | [], _, _, _, h => by simp only [dZ] at h; exact h.2
 | x :: r, _, _, hf, h => by
  simp only [dZ] at h
  obtain ⟨c, dg, R₁, R₂, _, h1, h2, hR⟩ := h
  simp only [X.bC, Bool.and_eq_true] at hf
  rw [hR, RX.free hf.1 h1, dZ.free hf.2 h2]; rfl
end

theorem RO.free {E : Env} : ∀ {xs : List X} {cs : Array Value} {off : Nat} {R : List Nat}, X.bC xs = true → RO E xs cs off R → R = []
 | [], _, _, _, _, h => by simpa [RO] using h
 | x :: r, _, _, _, hf, h => by
  simp only [RO] at h
  obtain ⟨c, R₁, R₂, _, _, h1, h2, hR⟩ := h
  simp only [X.bC, Bool.and_eq_true] at hf
  rw [hR, RX.free hf.1 h1, RO.free hf.2 h2]; rfl

def fm (RR : Own → List Nat) (p : Own) (R : List Nat) : Own → List Nat := fun q => if q = p then R else RR q

theorem yK {a : Act} {d : Nat} {u : Value} (hd : d < a.tmps.size) : (a.put (some d) u).tmps.getD d undef = u := by
 simp [Act.put, Array.getD, hd]
theorem tL {a : Act} {d s : Nat} {u : Value} (h : d ≠ s) : (a.put (some d) u).tmps.getD s undef = a.tmps.getD s undef := by
 simp only [Act.put, Array.getD_eq_getD_getElem?, Array.getElem?_setIfInBounds_ne h]

section
variable {P : Program} {N : eC} {G : Ctx} {E : Env} {RR : Own → List Nat} {st : St} {a : Act} {Q : Exit → St → Prop}

theorem Inv.put (hi : Inv G E RR st a) {d : Nat} {x : X} {u : Value} {R : List Nat} (hd : d < G.fn.n) (hx : RX E x u R) (hn : R.Nodup)
  (hR : ∀ b ∈ R, b < E.w.heap.size ∧ ¬ G.K b ∧ ∀ p, p ≠ .slot d → b ∉ RR p) : Inv G E (fm RR (.slot d) R) (st.put d x) (a.put (some d) u) := by
 refine { hi with a9 := ?_, aA := ?_, nodup := ?_, apart := ?_, own := ?_, tmps := ?_, defers := ?_ }
 ·intro s y hy
  simp only [St.put, look] at hy
  cases hb : Nat.beq d s with
  | true =>
   have := Nat.eq_of_beq_eq_true hb
   subst this
   rw [hb] at hy
   simp only [cond_true, Option.some.injEq] at hy
   subst hy
   rw [yK (by rw [hi.tmps]; exact hd)]
   simpa [fm] using hx
  | false =>
   have e7 := Nat.ne_of_beq_eq_false hb
   rw [hb] at hy
   rw [tL e7]
   have : fm RR (.slot d) R (.slot s) = RR (.slot s) := by simp [fm, Ne.symm e7]
   rw [this]
   exact hi.a9 s y hy
 ·intro o ob ho
  have : fm RR (.slot d) R (.obj o) = RR (.obj o) := by simp [fm]
  rw [this]; exact hi.aA o ob ho
 ·intro p
  unfold fm
  split
  ·exact hn
  ·exact hi.nodup p
 ·intro p q kQ b hb
  unfold fm at hb ⊢
  split at hb
  ·rename_i hp
   subst hp
   rw [if_neg (Ne.symm kQ)]
   exact (hR b hb).2.2 q (Ne.symm kQ)
  ·split
   ·rename_i hp hq
    subst hq
    intro fV
    exact (hR b fV).2.2 p kQ hb
   ·exact hi.apart p q kQ b hb
 ·intro p b hb
  unfold fm at hb
  split at hb
  ·exact ⟨(hR b hb).1, (hR b hb).2.1⟩
  ·exact hi.own p b hb
 ·simp [Act.put, hi.tmps]
 ·simp [Act.put, hi.defers]

theorem Inv.gd (hi : Inv G E RR st a) {d : Nat} {x : X} {u : Value} (hd : d < G.fn.n) (hx : RX E x u []) : Inv G E (fm RR (.slot d) []) (st.put d x) (a.put (some d) u) :=
 hi.put hd hx List.nodup_nil (fun _ hb => by cases hb)

def Yields (P : Program) (N : eC) (st : St) (o : Oper) (x : X) : Prop :=
 ∀ (G : Ctx) (E : Env) (RR : Own → List Nat) (a : Act), G.fn = N → Inv G E RR st a → ∃ u, (execOp a.eval o).run P E.w = .ok (.value u) E.w ∧ RX E x u []

theorem aL.val {all : Array Oper} {rest : List Oper} {d : Nat} {op : Op} {ty : TypeId} {pos : String} {af : Array Edge} {x : X}
  (hy : Yields P N st ⟨some d, op, ty, pos, af, none⟩ x) (hd : d < N.n) (k : aL P N all rest (st.put d x) Q) : aL P N all (⟨some d, op, ty, pos, af, none⟩ :: rest) st Q := by
 intro G hn a w hh
 obtain ⟨E, RR, rfl, hi⟩ := hh
 obtain ⟨u, hr, hx⟩ := hy G E RR a hn hi
 refine wpList_plain rfl fun K hK => ?_
 simp only [Oper.wp, hr, Oper.upon_value]
 exact hK _ _ (k G hn _ _ ⟨E, _, rfl, hi.gd (hn ▸ hd) hx⟩)

theorem aL.split {all : Array Oper} {rest : List Oper} {d : Nat} {b : Bool} (hx : look st.a9 d = some (.v (.bool b)))
  (ht : b = true → aL P N all rest (st.put d (.v (.bool true))) Q) (hf : b = false → aL P N all rest (st.put d (.v (.bool false))) Q) : aL P N all rest st Q := by
 have : Le st (st.put d (.v (.bool b))) := ⟨eD.cons hx (fun _ _ h => h), fun _ _ h => h⟩
 cases b
 ·exact (hf rfl).le this
 ·exact (ht rfl).le this

theorem aL.aO {all : Array Oper} {rest : List Oper} {dst : Option Nat} {op : Op} {ty : TypeId} {pos : String} {af : Array Edge} {j d : Nat} {want : Bool}
  (hj : (all[j]?).bind (·.dst) = some d) (hd : d < N.n) (hx : look st.a9 d = some (.v (.bool want)))
  (k : aL P N all (⟨dst, op, ty, pos, af, none⟩ :: rest) st Q) : aL P N all (⟨dst, op, ty, pos, af, some (j, want)⟩ :: rest) st Q := by
 intro G hn a w hh
 have hk := k G hn a w hh
 obtain ⟨E, RR, rfl, hi⟩ := hh
 have hs := hi.a9 d _ hx
 simp only [RX] at hs
 have fe : d < a.tmps.size := by rw [hi.tmps, hn]; exact hd
 have hv : a.tmps[d]? = some (.bool want) := by
  have := hs.1
  simp only [Array.getD, fe, dif_pos] at this
  rw [Array.getElem?_eq_getElem fe]
  exact congrArg some this
 have hw : Region.wanted ⟨dst, op, ty, pos, af, some (j, want)⟩ (yielded all a.tmps) = true := by
  simp [Region.wanted, yielded, hj, hv]
 unfold wpList at hk ⊢
 rw [if_pos hw]
 rw [if_pos (by simp [Region.wanted])] at hk
 exact hk

end
end Go.AW
/- Part of the abstract walk: the values of operations that leave memory as it is. -/
namespace Go.AW
open Go

section
variable {P : Program} {N : eC} {st : St} {dst : Option Nat} {ty : TypeId} {pos : String} {af : Array Edge} {g : Option (Nat × Bool)}

theorem iR {α β : Type} {s : Sem α} {f : α → Sem β} {w w' : World} {u : α} {r : Result β} (h : s.run P w = .ok u w') (h' : (f u).run P w' = r) : (s.bind f).run P w = r := by
 rw [show (s.bind f) = (s >>= f) from rfl, Sem.run_bind, h]; exact h'

theorem dI {s : Sem Value} {w w' : World} {u : Value} (h : s.run P w = .ok u w') : (do let x ← s; pure (Next.value x) : Sem Next).run P w = .ok (.value u) w' :=
 iR h rfl

theorem yL {s : Sem Unit} {w w' : World} (h : s.run P w = .ok () w') : (do s; pure Next.skip : Sem Next).run P w = .ok .skip w' :=
 iR h rfl

theorem Y.move {x : Operand} {y : X} (hx : bR st x = some y) (hf : y.free = true) : Yields P N st ⟨dst, .move x, ty, pos, af, g⟩ y := by
 intro G E RR a _ hi
 obtain ⟨R, h⟩ := hi.eval hx
 have := RX.free hf h
 subst this
 exact ⟨_, rfl, h⟩
theorem Y.assign {x : Operand} {y : X} (hx : bR st x = some y) (hf : y.free = true) : Yields P N st ⟨dst, .assign x, ty, pos, af, g⟩ y := by
 intro G E RR a _ hi
 obtain ⟨R, h⟩ := hi.eval hx
 have := RX.free hf h
 subst this
 exact ⟨_, rfl, h⟩

theorem Y.pick {c x y : Operand} {b : Bool} {z : X} (hc : bR st c = some (.v (.bool b))) (hz : bR st (if b then x else y) = some z) (hf : z.free = true) :
  Yields P N st ⟨dst, .pick c x y, ty, pos, af, g⟩ z := by
 intro G E RR a _ hi
 obtain ⟨R, h⟩ := hi.eval hz
 have := RX.free hf h
 subst this
 refine ⟨a.eval (if b then x else y), ?_, h⟩
 have nN := hi.val hc
 simp only [execOp, nN]
 cases b <;> rfl

theorem Y.bin {op : BinOp} {t t' : TypeId} {x y : Operand} {u v r : Value} (hx : bR st x = some (.v u)) (hy : bR st y = some (.v v))
  (hr : ∀ w, (do eqGuard op t x y u v; binOp op t u v : Sem Value).run P w = .ok r w) : Yields P N st ⟨dst, .binOp op t x y t', ty, pos, af, g⟩ (.v r) := by
 intro G E RR a _ hi
 refine ⟨r, ?_, by simp [RX]⟩
 show (do let x ← (do eqGuard op t x y (a.eval x) (a.eval y); binOp op t (a.eval x) (a.eval y) : Sem Value); pure (Next.value x) : Sem Next).run P E.w = _
 rw [hi.val hx, hi.val hy]
 exact dI (hr _)

section ints
variable {t t' : TypeId} {x y : Operand} {k : IntKind} {a b r : Int}
theorem Y.add (hx : bR st x = some (.v (.int k a))) (hy : bR st y = some (.v (.int k b))) (hr : k.wrap (a + b) = r) : Yields P N st ⟨dst, .binOp .add t x y t', ty, pos, af, g⟩ (.v (.int k r)) :=
 Y.bin hx hy fun w => by subst hr; simp [eqGuard, binOp, Op.intArith]
theorem Y.sub (hx : bR st x = some (.v (.int k a))) (hy : bR st y = some (.v (.int k b))) (hr : k.wrap (a - b) = r) : Yields P N st ⟨dst, .binOp .sub t x y t', ty, pos, af, g⟩ (.v (.int k r)) :=
 Y.bin hx hy fun w => by subst hr; simp [eqGuard, binOp, Op.intArith]
theorem Y.mul (hx : bR st x = some (.v (.int k a))) (hy : bR st y = some (.v (.int k b))) (hr : k.wrap (a * b) = r) : Yields P N st ⟨dst, .binOp .mul t x y t', ty, pos, af, g⟩ (.v (.int k r)) :=
 Y.bin hx hy fun w => by subst hr; simp [eqGuard, binOp, Op.intArith]
theorem Y.quo (hx : bR st x = some (.v (.int k a))) (hy : bR st y = some (.v (.int k b))) (h0 : b ≠ 0) (hr : k.wrap (a.tdiv b) = r) : Yields P N st ⟨dst, .binOp .quo t x y t', ty, pos, af, g⟩ (.v (.int k r)) :=
 Y.bin hx hy fun w => by subst hr; simp [eqGuard, binOp, Op.intDiv, h0]
theorem Y.rem (hx : bR st x = some (.v (.int k a))) (hy : bR st y = some (.v (.int k b))) (h0 : b ≠ 0) (hr : a.tmod b = r) : Yields P N st ⟨dst, .binOp .rem t x y t', ty, pos, af, g⟩ (.v (.int k r)) :=
 Y.bin hx hy fun w => by subst hr; simp [eqGuard, binOp, Op.intDiv, h0]
theorem Y.and (hx : bR st x = some (.v (.int k a))) (hy : bR st y = some (.v (.int k b))) (hr : k.wrap (BitVec.ofInt k.bits a &&& BitVec.ofInt k.bits b).toNat = r) : Yields P N st ⟨dst, .binOp .and t x y t', ty, pos, af, g⟩ (.v (.int k r)) :=
 Y.bin hx hy fun w => by subst hr; simp [eqGuard, binOp, Op.intBits]
theorem Y.shr {k' : IntKind} (hx : bR st x = some (.v (.int k a))) (hy : bR st y = some (.v (.int k' b))) (h0 : 0 ≤ b) (hr : a.fdiv (2 ^ (min b.toNat k.bits)) = r) : Yields P N st ⟨dst, .binOp .shr t x y t', ty, pos, af, g⟩ (.v (.int k r)) :=
 Y.bin hx hy fun w => by subst hr; simp [eqGuard, binOp, Op.shift, Int.not_lt.2 h0]
theorem Y.lss (hx : bR st x = some (.v (.int k a))) (hy : bR st y = some (.v (.int k b))) : Yields P N st ⟨dst, .binOp .lss t x y t', ty, pos, af, g⟩ (.v (.bool (decide (a < b)))) :=
 Y.bin hx hy fun w => by simp [eqGuard, binOp, Op.intCmp]
theorem Y.leq (hx : bR st x = some (.v (.int k a))) (hy : bR st y = some (.v (.int k b))) : Yields P N st ⟨dst, .binOp .leq t x y t', ty, pos, af, g⟩ (.v (.bool (decide (a ≤ b)))) :=
 Y.bin hx hy fun w => by simp [eqGuard, binOp, Op.intCmp]
theorem Y.gtr (hx : bR st x = some (.v (.int k a))) (hy : bR st y = some (.v (.int k b))) : Yields P N st ⟨dst, .binOp .gtr t x y t', ty, pos, af, g⟩ (.v (.bool (decide (b < a)))) :=
 Y.bin hx hy fun w => by simp [eqGuard, binOp, Op.intCmp]
theorem Y.geq (hx : bR st x = some (.v (.int k a))) (hy : bR st y = some (.v (.int k b))) : Yields P N st ⟨dst, .binOp .geq t x y t', ty, pos, af, g⟩ (.v (.bool (decide (b ≤ a)))) :=
 Y.bin hx hy fun w => by simp [eqGuard, binOp, Op.intCmp]
theorem Y.eql (hx : bR st x = some (.v (.int k a))) (hy : bR st y = some (.v (.int k b))) : Yields P N st ⟨dst, .binOp .eql t x y t', ty, pos, af, g⟩ (.v (.bool (decide (a = b)))) :=
 Y.bin hx hy fun w => by simp [eqGuard, binOp, Op.intCmp, BEq.beq]
theorem Y.neq (hx : bR st x = some (.v (.int k a))) (hy : bR st y = some (.v (.int k b))) : Yields P N st ⟨dst, .binOp .neq t x y t', ty, pos, af, g⟩ (.v (.bool (decide (a ≠ b)))) :=
 Y.bin hx hy fun w => by simp [eqGuard, binOp, Op.intCmp, bne, BEq.beq]
end ints

theorem run_equal_bool {t : TypeId} {a b : Bool} (ht : P.underlying t = some .bool) (w : World) : (Op.equal t (.bool a) (.bool b)).run P w = .ok (a == b) w := by
 show (Op.equalIn (9999 + 1) t (.bool a) (.bool b)).run P w = _
 generalize 9999 = d
 simp [Op.equalIn, run_underlying ht]

theorem Y.Ku {t t' : TypeId} {x y : Operand} {a b : Bool} (ht : P.underlying t = some .bool) (hx : bR st x = some (.v (.bool a))) (hy : bR st y = some (.v (.bool b))) :
  Yields P N st ⟨dst, .binOp .eql t x y t', ty, pos, af, g⟩ (.v (.bool (a == b))) :=
 Y.bin hx hy fun w => by
  show (do let z ← Op.equal t (.bool a) (.bool b); pure (Value.bool z) : Sem Value).run P w = _
  exact iR (run_equal_bool ht w) rfl
theorem Y.un {op : UnOp} {t : TypeId} {x : Operand} {u r : Value} (hx : bR st x = some (.v u)) (hr : ∀ w, (Op.unary op u).run P w = .ok r w) : Yields P N st ⟨dst, .unOp op t x, ty, pos, af, g⟩ (.v r) := by
 intro G E RR a _ hi
 refine ⟨r, ?_, by simp [RX]⟩
 show (do let x ← Op.unary op (a.eval x); pure (Next.value x) : Sem Next).run P E.w = _
 rw [hi.val hx]
 exact dI (hr _)
theorem Y.not {t : TypeId} {x : Operand} {b : Bool} (hx : bR st x = some (.v (.bool b))) : Yields P N st ⟨dst, .unOp .not t x, ty, pos, af, g⟩ (.v (.bool (!b))) :=
 Y.un hx fun _ => rfl
theorem Y.conv {s d : TypeId} {x : Operand} {k k' : IntKind} {n r : Int} (hs : TY.isInt P s = some k') (hd : TY.isInt P d = some k) (hx : bR st x = some (.v (.int k' n))) (hr : k.wrap n = r) :
  Yields P N st ⟨dst, .convert s d x, ty, pos, af, g⟩ (.v (.int k r)) := by
 intro G E RR a _ hi
 refine ⟨.int k r, ?_, by simp [RX]⟩
 show (do let x ← convert s d (a.eval x); pure (Next.value x) : Sem Next).run P E.w = _
 rw [hi.val hx]
 refine dI ?_
 have h1 : P.underlying s = some (.int k') := by unfold TY.isInt at hs; split at hs <;> simp_all
 have h2 : P.underlying d = some (.int k) := by unfold TY.isInt at hd; split at hd <;> simp_all
 simp [convert, run_underlying h1, run_underlying h2, Conv.intToInt, hr]

end
end Go.AW
/- Part of the abstract walk: reading memory and values. -/
namespace Go.AW
open Go

theorem dk {w : World} {b i : Nat} {cs : Array Value} {ty : TypeId} {fr : Nat × Nat} (h : w.heap[b]? = some (.cells cs ty fr)) : w.cell? ⟨b, i, none⟩ = cs[i]? := by
 simp [World.cell?, h]

theorem gS (b off n : Nat) : (⟨b, off, none⟩ : Addr).add n = ⟨b, off + n, none⟩ := by
 unfold Addr.add
 split
 ·rename_i h; subst h; rfl
 ·rfl

section
variable {E : Env}

theorem RF.get : ∀ {row : List X} {b off k : Nat} {x : X}, RF E row b off → row[k]? = some x → ∃ u, E.φ b (off + k) = some u ∧ jg u ∧ x.nr = true ∧ RX E x u []
 | [], _, _, _, _, _, h => by simp at h
 | y :: r, b, off, 0, x, h, hx => by
  simp only [RF] at h
  simp only [List.getElem?_cons_zero, Option.some.injEq] at hx
  subst hx
  exact h.1
 | y :: r, b, off, k + 1, x, h, hx => by
  simp only [RF] at h
  obtain ⟨u, hu⟩ := RF.get (k := k) h.2 (by simpa using hx)
  exact ⟨u, by rw [show off + (k + 1) = off + 1 + k by omega]; exact hu⟩

theorem RF.drop : ∀ {row : List X} {b off : Nat} (k : Nat), RF E row b off → RF E (row.drop k) b (off + k)
 | [], _, _, _, _ => by simp [RF]
 | y :: r, b, off, 0, h => h
 | y :: r, b, off, k + 1, h => by
  simp only [RF] at h
  simp only [List.drop_succ_cons]
  rw [show off + (k + 1) = off + 1 + k by omega]
  exact RF.drop k h.2
theorem RF.take : ∀ {row : List X} {b off : Nat} (k : Nat), RF E row b off → RF E (row.take k) b off
 | [], _, _, _, _ => by simp [RF]
 | y :: r, b, off, 0, h => by simp [RF]
 | y :: r, b, off, k + 1, h => by
  simp only [RF, List.take_succ_cons] at h ⊢
  exact ⟨h.1, RF.take k h.2⟩

theorem RF.cells : ∀ {row : List X} {b off : Nat}, RF E row b off → ∃ cs : List Value, cs.length = row.length ∧ (∀ j v, cs[j]? = some v → E.φ b (off + j) = some v) ∧ bz E row cs []
 | [], _, _, _ => ⟨[], rfl, by simp, by simp [bz]⟩
 | y :: r, b, off, h => by
  simp only [RF] at h
  obtain ⟨⟨u, hu, hs, _, hx⟩, hr⟩ := h
  obtain ⟨cs, hl, hc, fh⟩ := RF.cells hr
  refine ⟨u :: cs, by simp [hl], ?_, ?_⟩
  ·intro j v hv
   cases j with
   | zero => simp at hv; subst hv; exact hu
   | succ j => rw [show off + (j + 1) = off + 1 + j by omega]; exact hc j v (by simpa using hv)
  ·simp only [bz]
   exact ⟨u, cs, [], [], rfl, hs, hx, fh, rfl⟩

theorem jE.get : ∀ {rows : List (List X)} {s b off i : Nat} {row : List X}, cu s rows → jE E rows b off → rows[i]? = some row → RF E row b (off + i * s)
 | [], _, _, _, _, _, _, _, h => by simp at h
 | r :: rs, s, b, off, 0, row, hu, h, hr => by
  simp only [jE] at h
  simp only [List.getElem?_cons_zero, Option.some.injEq] at hr
  subst hr
  simpa using h.1
 | r :: rs, s, b, off, i + 1, row, hu, h, hr => by
  simp only [jE] at h
  have h1 := hu r (by simp)
  have := jE.get (i := i) (s := s) (fun q hq => hu q (by simp [hq])) h.2 (by simpa using hr)
  rw [h1] at this
  rw [show off + (i + 1) * s = off + s + i * s by rw [Nat.add_mul]; omega]
  exact this

theorem jE.drop : ∀ {rows : List (List X)} {s b off : Nat} (k : Nat), cu s rows → k ≤ rows.length → jE E rows b off → jE E (rows.drop k) b (off + k * s)
 | _, _, _, _, 0, _, _, h => by simpa using h
 | [], _, _, _, k + 1, _, hk, _ => by simp at hk
 | r :: rs, s, b, off, k + 1, hu, hk, h => by
  simp only [jE] at h
  have h1 := hu r (by simp)
  rw [h1] at h
  simp only [List.drop_succ_cons]
  rw [show off + (k + 1) * s = off + s + k * s by rw [Nat.add_mul]; omega]
  exact jE.drop k (fun q hq => hu q (by simp [hq])) (by simpa using hk) h.2
theorem jE.take : ∀ {rows : List (List X)} {b off : Nat} (k : Nat), jE E rows b off → jE E (rows.take k) b off
 | [], _, _, _, _ => by simp [jE]
 | _ :: _, _, _, 0, _ => by simp [jE]
 | r :: rs, b, off, k + 1, h => by
  simp only [jE, List.take_succ_cons] at h ⊢
  exact ⟨h.1, jE.take k h.2⟩

theorem cu.drop {s : Nat} {rows : List (List X)} (k : Nat) (h : cu s rows) : cu s (rows.drop k) := fun r hr => h r (List.mem_of_mem_drop hr)
theorem cu.take {s : Nat} {rows : List (List X)} (k : Nat) (h : cu s rows) : cu s (rows.take k) := fun r hr => h r (List.mem_of_mem_take hr)

theorem RO.get : ∀ {xs : List X} {cs : Array Value} {off k : Nat} {R : List Nat} {x : X}, RO E xs cs off R → xs[k]? = some x →
  ∃ u R₁, cs[off + k]? = some u ∧ jg u ∧ RX E x u R₁ ∧ ∀ b ∈ R₁, b ∈ R
 | [], _, _, _, _, _, _, h => by simp at h
 | y :: r, cs, off, 0, R, x, h, hx => by
  simp only [RO] at h
  simp only [List.getElem?_cons_zero, Option.some.injEq] at hx
  subst hx
  obtain ⟨u, R₁, R₂, hu, hs, h1, _, rfl⟩ := h
  exact ⟨u, R₁, hu, hs, h1, fun b hb => cG hb⟩
 | y :: r, cs, off, k + 1, R, x, h, hx => by
  simp only [RO] at h
  obtain ⟨_, R₁, R₂, _, _, _, h2, rfl⟩ := h
  obtain ⟨u, R₃, hu, hs, h3, dv⟩ := RO.get (k := k) h2 (by simpa using hx)
  exact ⟨u, R₃, by rw [show off + (k + 1) = off + 1 + k by omega]; exact hu, hs, h3, fun b hb => cw (dv b hb)⟩

theorem RO.drop : ∀ {xs : List X} {cs : Array Value} {off : Nat} {R : List Nat} (k : Nat), RO E xs cs off R → ∃ R', RO E (xs.drop k) cs (off + k) R' ∧ ∀ b ∈ R', b ∈ R
 | [], cs, off, R, k, h => ⟨[], by simp [RO], by simp⟩
 | y :: r, cs, off, R, 0, h => ⟨R, h, fun _ h => h⟩
 | y :: r, cs, off, R, k + 1, h => by
  simp only [RO] at h
  obtain ⟨_, R₁, R₂, _, _, _, h2, rfl⟩ := h
  obtain ⟨R', h', hs⟩ := RO.drop k h2
  refine ⟨R', ?_, fun b hb => cw (hs b hb)⟩
  simp only [List.drop_succ_cons]
  rw [show off + (k + 1) = off + 1 + k by omega]; exact h'

theorem RO.take : ∀ {xs : List X} {cs : Array Value} {off : Nat} {R : List Nat} (k : Nat), RO E xs cs off R → ∃ R', RO E (xs.take k) cs off R' ∧ ∀ b ∈ R', b ∈ R
 | [], cs, off, R, k, h => ⟨[], by simp [RO], by simp⟩
 | y :: r, cs, off, R, 0, h => ⟨[], by simp [RO], by simp⟩
 | y :: r, cs, off, R, k + 1, h => by
  simp only [RO] at h
  obtain ⟨u, R₁, R₂, hu, hs, h1, h2, rfl⟩ := h
  obtain ⟨R', h', Kv⟩ := RO.take k h2
  refine ⟨R₁ ++ R', ?_, ?_⟩
  ·simp only [List.take_succ_cons, RO]
   exact ⟨u, R₁, R', hu, hs, h1, h', rfl⟩
  ·intro b hb
   rcases List.mem_append.1 hb with hb | hb
   ·exact cG hb
   ·exact cw (Kv b hb)

theorem RO.cells : ∀ {xs : List X} {cs : Array Value} {off : Nat} {R : List Nat}, RO E xs cs off R → ∃ vs : List Value, vs.length = xs.length ∧ (∀ j v, vs[j]? = some v → cs[off + j]? = some v) ∧ bz E xs vs R
 | [], _, _, R, h => ⟨[], rfl, by simp, by simp only [RO] at h; simp [bz, h]⟩
 | y :: r, cs, off, R, h => by
  simp only [RO] at h
  obtain ⟨u, R₁, R₂, hu, hs, h1, h2, rfl⟩ := h
  obtain ⟨vs, hl, hc, fh⟩ := RO.cells h2
  refine ⟨u :: vs, by simp [hl], ?_, ?_⟩
  ·intro j v hv
   cases j with
   | zero => simp at hv; subst hv; exact hu
   | succ j => rw [show off + (j + 1) = off + 1 + j by omega]; exact hc j v (by simpa using hv)
  ·simp only [bz]
   exact ⟨u, vs, R₁, R₂, rfl, hs, h1, fh, rfl⟩

theorem cD.get : ∀ {rows : List (List X)} {s : Nat} {cs : Array Value} {off i : Nat} {R : List Nat} {row : List X}, cu s rows → cD E rows cs off R → rows[i]? = some row →
  ∃ R₁, X.gk row = true ∧ RO E row cs (off + i * s) R₁ ∧ ∀ b ∈ R₁, b ∈ R
 | [], _, _, _, _, _, _, _, _, h => by simp at h
 | r :: rs, s, cs, off, 0, R, row, hu, h, hr => by
  simp only [cD] at h
  simp only [List.getElem?_cons_zero, Option.some.injEq] at hr
  subst hr
  obtain ⟨R₁, R₂, hn, h1, _, rfl⟩ := h
  exact ⟨R₁, hn, by simpa using h1, fun b hb => cG hb⟩
 | r :: rs, s, cs, off, i + 1, R, row, hu, h, hr => by
  simp only [cD] at h
  obtain ⟨R₁, R₂, hn, _, h2, rfl⟩ := h
  have h1 := hu r (by simp)
  obtain ⟨R₃, pN, h3, hs⟩ := cD.get (i := i) (s := s) (fun q hq => hu q (by simp [hq])) h2 (by simpa using hr)
  rw [h1] at h3
  exact ⟨R₃, pN, by rw [show off + (i + 1) * s = off + s + i * s by rw [Nat.add_mul]; omega]; exact h3, fun b hb => cw (hs b hb)⟩

end

def rowAt (st : St) : X → Option (List X)
 | .fp row _ => some row
 | .ptr o s i _ => match look st.aA o with
  | some (.cells xs) => bif Nat.beq i 0 then some xs else none
  | some (.rows s' rs) => bif Nat.beq s s' then rs[i]? else none
  | _ => none
 | _ => none
def ko : X → Nat
 | .fp _ k => k
 | .ptr _ _ _ k => k
 | _ => 0

section
variable {P : Program} {N : eC} {G : Ctx} {E : Env} {RR : Own → List Nat} {st : St} {a : Act}

theorem Inv.behind (hi : Inv G E RR st a) {p : X} {c : Value} {R : List Nat} {row : List X} (hp : RX E p c R) (hr : rowAt st p = some row) :
  ∃ b off, c = .pointer (some ⟨b, off + ko p, none⟩) ∧ ∀ k m, k + m ≤ row.length →
   ∃ vs : List Value, ∃ R', vs.length = m ∧ (∀ j v, vs[j]? = some v → E.w.cell? ⟨b, off + (k + j), none⟩ = some v) ∧ bz E ((row.drop k).take m) vs R' := by
 cases p with
 | fp row' k' =>
  simp only [rowAt, Option.some.injEq] at hr
  subst hr
  simp only [RX] at hp
  obtain ⟨_, b, off, hc, hf⟩ := hp
  refine ⟨b, off, hc, fun k m tG => ?_⟩
  obtain ⟨vs, hl, hv, hx⟩ := RF.cells (RF.take m (RF.drop k hf))
  refine ⟨vs, [], by rw [hl]; simp; omega, fun j v hj => ?_, hx⟩
  rw [← Nat.add_assoc]
  exact hi.ku _ _ _ (hv j v hj)
 | ptr o s i k' =>
  simp only [RX] at hp
  obtain ⟨_, B, hB, hc⟩ := hp
  simp only [rowAt] at hr
  split at hr
  ·rename_i xs ho
   have h0 := hi.aA o _ ho
   simp only [dA] at h0
   obtain ⟨_, B', cs, ty, gT, hw, _, _, jh, _⟩ := h0
   rw [hB] at gT
   obtain rfl := Option.some.inj gT
   cases oy : Nat.beq i 0 with
   | false => simp [oy] at hr
   | true =>
    have := Nat.eq_of_beq_eq_true oy
    subst this
    simp only [oy, cond_true, Option.some.injEq] at hr
    subst hr
    refine ⟨B.b, B.off, by simpa [ko] using hc, fun k m tG => ?_⟩
    obtain ⟨R₁, h1, _⟩ := RO.drop k jh
    obtain ⟨R₂, h2, _⟩ := RO.take m h1
    obtain ⟨vs, hl, hv, hx⟩ := RO.cells h2
    refine ⟨vs, R₂, by rw [hl]; simp; omega, fun j v hj => ?_, hx⟩
    rw [dk hw, ← Nat.add_assoc]
    exact hv j v hj
  ·rename_i s' rs ho
   have h0 := hi.aA o _ ho
   simp only [dA] at h0
   obtain ⟨hu, h0⟩ := h0
   cases DE : Nat.beq s s' with
   | false => simp [DE] at hr
   | true =>
    have := Nat.eq_of_beq_eq_true DE
    subst this
    simp only [DE, cond_true] at hr
    rcases h0 with ⟨_, h0, _⟩ | ⟨B', cs, ty, R', gT, hw, _, _, _, jh, _⟩
    ·subst h0; simp at hr
    ·rw [hB] at gT
     obtain rfl := Option.some.inj gT
     obtain ⟨R₁, _, h1, _⟩ := cD.get hu jh hr
     refine ⟨B.b, B.off + i * s, by rw [hc]; simp [ko, Nat.add_assoc], fun k m tG => ?_⟩
     obtain ⟨R₂, h2, _⟩ := RO.drop k h1
     obtain ⟨R₃, h3, _⟩ := RO.take m h2
     obtain ⟨vs, hl, hv, hx⟩ := RO.cells h3
     refine ⟨vs, R₃, by rw [hl]; simp; omega, fun j v hj => ?_, hx⟩
     rw [dk hw, ← Nat.add_assoc]
     exact hv j v hj
  ·cases hr
 | _ => simp [rowAt] at hr

end
end Go.AW
/- Part of the abstract walk: loads, addresses, lengths, parts. -/
namespace Go.AW
open Go

section
variable {P : Program} {N : eC} {st : St} {dst : Option Nat} {ty : TypeId} {pos : String} {af : Array Edge} {g : Option (Nat × Bool)}

theorem TY.g5 {t : TypeId} (h : TY.shape P t = some none) (w : World) : (isAgg t).run P w = .ok false w ∧ ∃ d, P.underlying t = some d := by
 unfold TY.shape at h
 cases hu : P.underlying t with
 | none => simp [hu] at h
 | some d =>
  refine ⟨?_, d, rfl⟩
  rw [hu] at h
  simp only [isAgg, Sem.run_bind, run_underlying hu, Result.andThen_ok]
  cases d <;> first | rfl | (cases hi : P.info? t <;> simp [hi] at h)

theorem TY.l6 {t : TypeId} {m : Nat} (h : TY.shape P t = some (some m)) (w : World) : (isAgg t).run P w = .ok true w ∧ (sizeOf t).run P w = .ok m w := by
 unfold TY.shape at h
 cases hu : P.underlying t with
 | none => simp [hu] at h
 | some d =>
  cases hi : P.info? t with
  | none => rw [hu, hi] at h; cases d <;> simp at h
  | some i =>
   rw [hu, hi] at h
   have hs : (sizeOf t).run P w = .ok i.size w := by simp [sizeOf, typeInfo, hi]
   have ha : ∀ d', P.underlying t = some d' → (match d' with | .struct _ | .array _ _ => true | _ => false) = true → (isAgg t).run P w = .ok true w := by
    intro d' Pe hm
    simp only [isAgg, Sem.run_bind, run_underlying Pe, Result.andThen_ok]
    cases d' <;> simp at hm <;> rfl
   cases d <;> simp at h <;> subst h <;> exact ⟨ha _ hu rfl, hs⟩

theorem getElem?_drop_take_one {α : Type} {l : List α} {k : Nat} {x : α} (h : l[k]? = some x) : (l.drop k).take 1 = [x] := by
 have hk : k < l.length := by
  rcases Nat.lt_or_ge k l.length with h' | h'
  ·exact h'
  ·simp [List.getElem?_eq_none h'] at h
 rw [List.drop_eq_getElem_cons hk]
 simp only [List.take_succ_cons, List.take_zero]
 rw [List.getElem?_eq_getElem hk] at h
 rw [Option.some.inj h]

theorem Y.load {t : TypeId} {x : Operand} {p y : X} {row : List X} (ht : TY.shape P t = some none) (hx : bR st x = some p) (hr : rowAt st p = some row) (hy : row[ko p]? = some y) (hf : y.free = true) :
  Yields P N st ⟨dst, .load t x, ty, pos, af, g⟩ y := by
 intro G E RR a _ hi
 obtain ⟨R, hp⟩ := hi.eval hx
 obtain ⟨b, off, hc, gf⟩ := hi.behind hp hr
 have hk : ko p < row.length := by
  rcases Nat.lt_or_ge (ko p) row.length with h' | h'
  ·exact h'
  ·simp [List.getElem?_eq_none h'] at hy
 obtain ⟨vs, R', hl, hv, fh⟩ := gf (ko p) 1 om
 rw [getElem?_drop_take_one hy] at fh
 simp only [bz] at fh
 obtain ⟨c, dg, R₁, R₂, Bl, _, h1, ⟨rfl, rfl⟩, rfl⟩ := fh
 subst Bl
 have h0 := RX.free hf h1
 subst h0
 refine ⟨c, ?_, h1⟩
 show (do let z ← Instr.loadAt t (a.eval x); pure (Next.value z) : Sem Next).run P E.w = _
 rw [hc]
 refine dI ?_
 have fE := hv 0 c rfl
 simp only [Instr.loadAt, Instr.sureAddr, loadVar, Sem.run_bind, Sem.run_pure, Result.andThen_ok, (TY.g5 ht E.w).1]
 simp only [Nat.add_zero] at fE
 simp [fE]

theorem Y.aM {t : TypeId} {x : Operand} {p : X} {row : List X} {m : Nat} {ys : List X} (ht : TY.shape P t = some (some m)) (hx : bR st x = some p) (hr : rowAt st p = some row) (hm : ko p + m ≤ row.length)
  (tM : (row.drop (ko p)).take m = ys) (hf : X.bC ys = true) : Yields P N st ⟨dst, .load t x, ty, pos, af, g⟩ (.agg ys) := by
 intro G E RR a _ hi
 obtain ⟨R, hp⟩ := hi.eval hx
 obtain ⟨b, off, hc, gf⟩ := hi.behind hp hr
 obtain ⟨vs, R', hl, hv, fh⟩ := gf (ko p) m hm
 rw [tM] at fh
 have h0 := bz.free hf fh
 subst h0
 refine ⟨.agg vs.toArray, ?_, by simp only [RX]; exact ⟨_, rfl, fh⟩⟩
 show (do let z ← Instr.loadAt t (a.eval x); pure (Next.value z) : Sem Next).run P E.w = _
 rw [hc]
 refine dI ?_
 obtain ⟨h1, h2⟩ := TY.l6 ht E.w
 have h3 : (loadCells ⟨b, off + ko p, none⟩ m).run P E.w = .ok vs.toArray E.w := by
  rw [← hl]
  exact run_loadCells_list (w := E.w) _ vs fun j v hj => by rw [gS, Nat.add_assoc]; exact hv j v hj
 simp only [Instr.loadAt, Instr.sureAddr, loadVar, Sem.run_bind, Sem.run_pure, Result.andThen_ok, h1, if_true, h2, h3]

theorem run_sizeOf {t : TypeId} {i : TypeInfo} (h : P.info? t = some i) (w : World) : (sizeOf t).run P w = .ok i.size w := by simp [sizeOf, typeInfo, h]

theorem TY.wC {t : TypeId} {f off : Nat} {ft : TypeId} (h : TY.jq P t f = some (off, ft)) (b o : Nat) (w : World) :
  (Instr.fieldAt t (.pointer (some ⟨b, o, none⟩)) f).run P w = .ok (.pointer (some ⟨b, o + off, none⟩)) w := by
 unfold TY.jq at h
 cases hu : P.underlying t with
 | none => simp [hu] at h
 | some d =>
  rw [hu] at h
  cases d with
  | struct fs =>
   simp only at h
   cases hf : fs[f]? with
   | none => simp [hf] at h
   | some fd =>
    rw [hf] at h
    simp only at h
    cases hi : P.info? fd.type with
    | none => simp [hi] at h
    | some i =>
     rw [hi] at h
     simp only at h
     cases hz : Nat.beq i.size 0 with
     | true => simp [hz] at h
     | false =>
      have Pf : i.size ≠ 0 := Nat.ne_of_beq_eq_false hz
      rw [hz] at h
      simp only [cond_false, Option.some.injEq, Prod.mk.injEq] at h
      simp only [Instr.fieldAt, Sem.run_bind, run_underlying hu, Result.andThen_ok, hf, Instr.sureAddr, Sem.run_pure, fieldPlace, run_sizeOf hi, Pf, if_false, gS, h.1]
  | _ => simp at h

def X.on (n : Nat) : X → Option X
 | .fp row k => some (.fp row (k + n))
 | .ptr o s i k => some (.ptr o s i (k + n))
 | _ => none

theorem RX.on {E : Env} {p q : X} {n : Nat} {c : Value} {R : List Nat} (hq : p.on n = some q) (h : RX E p c R) : ∃ b off, c = .pointer (some ⟨b, off, none⟩) ∧ RX E q (.pointer (some ⟨b, off + n, none⟩)) [] := by
 cases p with
 | fp row k =>
  simp only [X.on, Option.some.injEq] at hq
  subst hq
  simp only [RX] at h ⊢
  obtain ⟨_, b, off, hc, hf⟩ := h
  exact ⟨b, _, hc, trivial, b, off, by rw [Nat.add_assoc], hf⟩
 | ptr o s i k =>
  simp only [X.on, Option.some.injEq] at hq
  subst hq
  simp only [RX] at h ⊢
  obtain ⟨_, B, hB, hc⟩ := h
  exact ⟨_, _, hc, trivial, B, hB, by simp only [Nat.add_assoc]⟩
 | _ => simp [X.on] at hq

theorem Y.fieldAddr {t : TypeId} {x : Operand} {p q : X} {f off : Nat} {ft : TypeId} (ht : TY.jq P t f = some (off, ft)) (hx : bR st x = some p) (hq : p.on off = some q) :
  Yields P N st ⟨dst, .fieldAddr t x f, ty, pos, af, g⟩ q := by
 intro G E RR a _ hi
 obtain ⟨R, hp⟩ := hi.eval hx
 obtain ⟨b, o, hc, h⟩ := hp.on hq
 refine ⟨_, ?_, h⟩
 show (do let z ← Instr.fieldAt t (a.eval x) f; pure (Next.value z) : Sem Next).run P E.w = _
 rw [hc]
 exact dI (TY.wC ht b o E.w)

theorem TY.et {t e s cZ : Nat} (h : TY.slice P t = some (e, s, cZ)) : P.underlying t = some (.slice e) ∧ ∃ i, P.info? e = some i ∧ i.size = s ∧ i.bytes = cZ := by
 unfold TY.slice at h
 split at h
 ·rename_i e' hu
  cases hi : P.info? e' with
  | none => simp [hi] at h
  | some i =>
   simp only [hi, Option.map_some, Option.some.injEq, Prod.mk.injEq] at h
   obtain ⟨rfl, h2, h3⟩ := h
   exact ⟨hu, i, hi, h2, h3⟩
 ·cases h

theorem TY.q2 {t n e s : Nat} (h : TY.array P t = some (n, e, s)) : P.underlying t = some (.array n e) ∧ ∃ i, P.info? e = some i ∧ i.size = s := by
 unfold TY.array at h
 split at h
 ·rename_i n' e' hu
  cases hi : P.info? e' with
  | none => simp [hi] at h
  | some i =>
   simp only [hi, Option.map_some, Option.some.injEq, Prod.mk.injEq] at h
   obtain ⟨rfl, rfl, h3⟩ := h
   exact ⟨hu, i, hi, h3⟩
 ·cases h

theorem kv {t e s cZ : Nat} (ht : TY.slice P t = some (e, s, cZ)) {b off len cap m : Nat} {k : IntKind} {n : Int} (hn : n = (m : Int)) (hm : m < len) (w : World) :
  (Instr.indexAt t (.slice (some ⟨b, off, none⟩) len cap) (.int k n)).run P w = .ok (.pointer (some ⟨b, off + m * s, none⟩)) w := by
 obtain ⟨hu, i, hi, hs, _⟩ := TY.et ht
 subst hn
 simp [Instr.indexAt, asIntOf, run_underlying hu, hm, run_sizeOf hi, hs, gS]

theorem Y.aK {t e s cZ : Nat} {x ix : Operand} {rows : List (List X)} {row : List X} {k : IntKind} {n : Int} {m : Nat} (ht : TY.slice P t = some (e, s, cZ)) (hx : bR st x = some (.fz s rows))
  (va : bR st ix = some (.v (.int k n))) (hn : n = (m : Int)) (hr : rows[m]? = some row) : Yields P N st ⟨dst, .indexAddr t x ix, ty, pos, af, g⟩ (.fp row 0) := by
 intro G E RR a _ hi
 obtain ⟨R, hp⟩ := hi.eval hx
 have hm : m < rows.length := by
  rcases Nat.lt_or_ge m rows.length with h' | h'
  ·exact h'
  ·simp [List.getElem?_eq_none h'] at hr
 simp only [RX] at hp
 obtain ⟨_, hu, base, cap, hc, h⟩ := hp
 rcases h with ⟨h, _⟩ | ⟨b, off, rfl, hl, hf⟩
 ·subst h; simp at hr
 ·refine ⟨.pointer (some ⟨b, off + m * s, none⟩), ?_, ?_⟩
  ·show (do let z ← Instr.indexAt t (a.eval x) (a.eval ix); pure (Next.value z) : Sem Next).run P E.w = _
   rw [hc, hi.val va]
   exact dI (kv ht hn hm E.w)
  ·simp only [RX]
   exact ⟨trivial, b, off + m * s, rfl, jE.get hu hf hr⟩

theorem Y.bc {t e s cZ : Nat} {x ix : Operand} {o lo len : Nat} {k : IntKind} {n : Int} {m : Nat} (ht : TY.slice P t = some (e, s, cZ)) (hx : bR st x = some (.aY o s lo len))
  (va : bR st ix = some (.v (.int k n))) (hn : n = (m : Int)) (hm : m < len) : Yields P N st ⟨dst, .indexAddr t x ix, ty, pos, af, g⟩ (.ptr o s (lo + m) 0) := by
 intro G E RR a _ hi
 obtain ⟨R, hp⟩ := hi.eval hx
 simp only [RX] at hp
 obtain ⟨_, base, cap, hc, h⟩ := hp
 rcases h with ⟨_, _, h, _⟩ | ⟨B, hB, _, hl, hb⟩
 ·omega
 ·have fV : base = some ⟨B.b, B.off + lo * s, none⟩ := hb.resolve_left om
  subst fV
  refine ⟨.pointer (some ⟨B.b, B.off + lo * s + m * s, none⟩), ?_, ?_⟩
  ·show (do let z ← Instr.indexAt t (a.eval x) (a.eval ix); pure (Next.value z) : Sem Next).run P E.w = _
   rw [hc, hi.val va]
   exact dI (kv ht hn hm E.w)
  ·simp only [RX]
   exact ⟨trivial, B, hB, by rw [Nat.add_mul]; simp [Nat.add_assoc]⟩

theorem Y.gg {t len e s : Nat} {x ix : Operand} {p q : X} {k : IntKind} {n : Int} {m : Nat} (ht : TY.array P t = some (len, e, s)) (hx : bR st x = some p)
  (va : bR st ix = some (.v (.int k n))) (hn : n = (m : Int)) (hm : m < len) (hq : p.on (m * s) = some q) : Yields P N st ⟨dst, .indexAddr t x ix, ty, pos, af, g⟩ q := by
 intro G E RR a _ hi
 obtain ⟨R, hp⟩ := hi.eval hx
 obtain ⟨b, o, hc, h⟩ := hp.on hq
 refine ⟨_, ?_, h⟩
 show (do let z ← Instr.indexAt t (a.eval x) (a.eval ix); pure (Next.value z) : Sem Next).run P E.w = _
 rw [hc, hi.val va]
 refine dI ?_
 obtain ⟨hu, i, ij, hs⟩ := TY.q2 ht
 subst hn
 simp [Instr.indexAt, Instr.sureAddr, asIntOf, run_underlying hu, hm, run_sizeOf ij, hs, gS]

theorem bz.get {E : Env} : ∀ {xs : List X} {cs : List Value} {R : List Nat} {k : Nat} {x : X}, bz E xs cs R → xs[k]? = some x → ∃ u R₁, cs[k]? = some u ∧ jg u ∧ RX E x u R₁
 | [], _, _, _, _, _, h => by simp at h
 | y :: r, cs, R, 0, x, h, hx => by
  simp only [bz] at h
  simp only [List.getElem?_cons_zero, Option.some.injEq] at hx
  subst hx
  obtain ⟨c, dg, R₁, R₂, rfl, hs, h1, _, _⟩ := h
  exact ⟨c, R₁, rfl, hs, h1⟩
 | y :: r, cs, R, k + 1, x, h, hx => by
  simp only [bz] at h
  obtain ⟨c, dg, R₁, R₂, rfl, _, _, h2, _⟩ := h
  obtain ⟨u, R₃, hu, hs, h3⟩ := bz.get (k := k) h2 (by simpa using hx)
  exact ⟨u, R₃, by simpa using hu, hs, h3⟩

theorem bz.length {E : Env} : ∀ {xs : List X} {cs : List Value} {R : List Nat}, bz E xs cs R → cs.length = xs.length
 | [], _, _, h => by simp only [bz] at h; rw [h.1]; rfl
 | x :: r, _, _, h => by
  simp only [bz] at h
  obtain ⟨c, dg, R₁, R₂, rfl, _, _, h2, _⟩ := h
  simp [bz.length h2]

theorem bz.drop {E : Env} : ∀ {xs : List X} {cs : List Value} {R : List Nat} (k : Nat), bz E xs cs R → ∃ R', bz E (xs.drop k) (cs.drop k) R'
 | [], cs, R, k, h => by simp only [bz] at h; exact ⟨[], by simp [bz, h.1]⟩
 | y :: r, cs, R, 0, h => ⟨R, h⟩
 | y :: r, cs, R, k + 1, h => by
  simp only [bz] at h
  obtain ⟨c, dg, R₁, R₂, rfl, _, _, h2, _⟩ := h
  simpa using bz.drop k h2
theorem bz.take {E : Env} : ∀ {xs : List X} {cs : List Value} {R : List Nat} (k : Nat), bz E xs cs R → ∃ R', bz E (xs.take k) (cs.take k) R'
 | [], cs, R, k, h => by simp only [bz] at h; exact ⟨[], by simp [bz, h.1]⟩
 | y :: r, cs, R, 0, h => ⟨[], by simp [bz]⟩
 | y :: r, cs, R, k + 1, h => by
  simp only [bz] at h
  obtain ⟨c, dg, R₁, R₂, rfl, hs, h1, h2, _⟩ := h
  obtain ⟨R', h'⟩ := bz.take k h2
  exact ⟨R₁ ++ R', by simp only [List.take_succ_cons, bz]; exact ⟨c, _, R₁, R', rfl, hs, h1, h', rfl⟩⟩

theorem xt {t : TypeId} {cs : Array Value} {off : Nat} {u : Value} (ht : TY.shape P t = some none) (hu : cs[off]? = some u) (w : World) : (part t cs off).run P w = .ok u w := by
 simp only [part, Sem.run_bind, (TY.g5 ht w).1, Result.andThen_ok, hu]; rfl
theorem TY.yM {t : TypeId} {f off : Nat} {ft : TypeId} (h : TY.jq P t f = some (off, ft)) : ∃ fs fd, P.underlying t = some (.struct fs) ∧ fs[f]? = some fd ∧ fd.offset = off ∧ fd.type = ft := by
 unfold TY.jq at h
 split at h
 ·rename_i fs hu
  split at h
  ·rename_i fd hf
   split at h
   ·rename_i i hi
    cases hz : Nat.beq i.size 0 with
    | true => simp [hz] at h
    | false => rw [hz] at h; simp only [cond_false, Option.some.injEq, Prod.mk.injEq] at h; exact ⟨fs, fd, hu, hf, h.1, h.2⟩
   ·cases h
  ·cases h
 ·cases h

theorem Y.field {t : TypeId} {x : Operand} {xs : List X} {y : X} {f off : Nat} {ft : TypeId} (ht : TY.jq P t f = some (off, ft)) (hs : TY.shape P ft = some none) (hx : bR st x = some (.agg xs)) (hy : xs[off]? = some y) (hf : y.free = true) :
  Yields P N st ⟨dst, .field t x f, ty, pos, af, g⟩ y := by
 intro G E RR a _ hi
 obtain ⟨R, hp⟩ := hi.eval hx
 simp only [RX] at hp
 obtain ⟨cs, hc, fh⟩ := hp
 obtain ⟨u, R₁, hu, _, h1⟩ := bz.get fh hy
 have h0 := RX.free hf h1
 subst h0
 refine ⟨u, ?_, h1⟩
 show (do let z ← Instr.field t (a.eval x) f; pure (Next.value z) : Sem Next).run P E.w = _
 rw [hc]
 refine dI ?_
 obtain ⟨fs, fd, y8, Pg, ho, Ph⟩ := TY.yM ht
 have xu : cs[off]? = some u := by simpa using hu
 simp only [Instr.field, Sem.run_bind, run_underlying y8, Result.andThen_ok, Pg, asAgg, Sem.run_pure, ho, Ph]
 exact xt hs xu E.w

theorem Y.DF {t : TypeId} {x ix : Operand} {b : ByteArray} {k : IntKind} {n : Int} {m : Nat} (ht : P.underlying t = some .string) (hx : bR st x = some (.v (.string b)))
  (va : bR st ix = some (.v (.int k n))) (hn : n = (m : Int)) (hm : m < b.size) : Yields P N st ⟨dst, .index t x ix, ty, pos, af, g⟩ (.v (.int .u8 (b[m].toNat : Int))) := by
 intro G E RR a _ hi
 refine ⟨.int .u8 (b[m].toNat : Int), ?_, by simp [RX]⟩
 show (do let z ← Instr.index t (a.eval x) (a.eval ix); pure (Next.value z) : Sem Next).run P E.w = _
 rw [hi.val hx, hi.val va]
 refine dI ?_
 subst hn
 have h0 : (0 : Int) ≤ (m : Int) := by omega
 simp [Instr.index, asIntOf, run_underlying ht, h0, getElem?_pos b m hm]

end
end Go.AW
/- Part of the abstract walk: lengths, parts of slices, tuples, structs that are built. -/
namespace Go.AW
open Go

section
variable {P : Program} {N : eC} {st : St} {dst : Option Nat} {ty : TypeId} {pos : String} {af : Array Edge} {g : Option (Nat × Bool)}

theorem gG {b : Builtin} {args : Array Operand} {mA : Array TypeId} {a : Act} {w w' : World} {r : Next}
  (h : (builtin b mA ty (args.map fun | .const _ => true | _ => false) (args.map a.eval)).run P w = .ok r w') :
  (execOp a.eval ⟨dst, .call ⟨.builtin b, args, mA⟩, ty, pos, af, g⟩).run P w = .ok r w' := h

def X.len : X → Option Nat
 | .fz _ rows => some rows.length
 | .ep _ rows => some rows.length
 | .aY _ _ _ n => some n
 | .v (.slice none n _) => some n
 | _ => none

theorem RX.len {E : Env} {x : X} {c : Value} {R : List Nat} {n : Nat} (hn : x.len = some n) (h : RX E x c R) : ∃ base cap, c = .slice base n cap := by
 cases x with
 | fz s rows =>
  simp only [X.len, Option.some.injEq] at hn; subst hn
  simp only [RX] at h
  obtain ⟨_, _, base, cap, hc, _⟩ := h
  exact ⟨base, cap, hc⟩
 | ep s rows =>
  simp only [X.len, Option.some.injEq] at hn; subst hn
  simp only [RX] at h
  obtain ⟨_, base, cap, hc, _⟩ := h
  exact ⟨base, cap, hc⟩
 | aY o s lo m =>
  simp only [X.len, Option.some.injEq] at hn; subst hn
  simp only [RX] at h
  obtain ⟨_, base, cap, hc, _⟩ := h
  exact ⟨base, cap, hc⟩
 | v u =>
  simp only [RX] at h
  cases u with
  | slice b m c' =>
   cases b with
   | none => simp only [X.len, Option.some.injEq] at hn; subst hn; exact ⟨none, c', h.1⟩
   | some b => simp [X.len] at hn
  | _ => simp [X.len] at hn
 | _ => simp [X.len] at hn

theorem Y.len {t e s cZ : Nat} {x : Operand} {y : X} {n : Nat} (ht : TY.slice P t = some (e, s, cZ)) (hx : bR st x = some y) (hn : y.len = some n) :
  Yields P N st ⟨dst, .call ⟨.builtin .len, #[x], #[t]⟩, ty, pos, af, g⟩ (.v (.int .i64 (n : Int))) := by
 intro G E RR a _ hi
 obtain ⟨R, hp⟩ := hi.eval hx
 obtain ⟨base, cap, hc⟩ := hp.len hn
 refine ⟨.int .i64 (n : Int), gG ?_, by simp [RX]⟩
 obtain ⟨hu, _⟩ := TY.et ht
 simp [builtin, Builtin.len_, hc, run_underlying hu, goInt]

theorem Y.GP {t : TypeId} {x : Operand} {b : ByteArray} (ht : P.underlying t = some .string) (hx : bR st x = some (.v (.string b))) :
  Yields P N st ⟨dst, .call ⟨.builtin .len, #[x], #[t]⟩, ty, pos, af, g⟩ (.v (.int .i64 (b.size : Int))) := by
 intro G E RR a _ hi
 refine ⟨.int .i64 (b.size : Int), gG ?_, by simp [RX]⟩
 have hc := hi.val hx
 simp [builtin, Builtin.len_, hc, run_underlying ht, goInt]

def bound (st : St) (d : Nat) : Option Operand → Option Nat → Prop
 | none, m => m = none ∨ m = some d
 | some x, some m => ∃ k, bR st x = some (.v (.int k (m : Int)))
 | some _, none => False

theorem run_sliceBound {k : IntKind} {m y : Nat} {code : BoundsCode} (h : m ≤ y) (w : World) : (Instr.sliceBound (.int k (m : Int)) y code).run P w = .ok m w := by
 have h1 : (0 : Int) ≤ (m : Int) ∧ (m : Int) ≤ (y : Int) := by omega
 simp only [Instr.sliceBound, asIntOf, Sem.run_bind, Sem.run_pure, Result.andThen_ok, h1, and_self, if_true, Int.toNat_natCast]

inductive Bd (st : St) : Option Operand → Nat → Nat → Prop where
 | none (d : Nat) : Bd st none d d
 | some {x : Operand} {k : IntKind} {m d : Nat} (h : bR st x = some (.v (.int k (m : Int)))) : Bd st (some x) d m

theorem lW {G : Ctx} {E : Env} {RR : Own → List Nat} {a : Act} (hi : Inv G E RR st a) {lo gQ : Option Operand} {len cap l h : Nat}
  (hl : Bd st lo 0 l) (hh : Bd st gQ len h) (h1 : l ≤ h) (h2 : h ≤ cap) (Pj : Bool) (w : World) :
  (Instr.sliceBounds Pj len cap (lo.map a.eval) (gQ.map a.eval) none).run P w = .ok (l, h, cap) w := by
 cases hl with
 | none =>
  cases hh with
  | none => simp [Instr.sliceBounds]
  | some hx => simp [Instr.sliceBounds, hi.val hx, run_sliceBound h2]
 | some hy =>
  cases hh with
  | none => simp [Instr.sliceBounds, hi.val hy, run_sliceBound h1]
  | some hx => simp [Instr.sliceBounds, hi.val hx, hi.val hy, run_sliceBound h1, run_sliceBound h2]

theorem Y.yN {t e s cZ : Nat} {x : Operand} {lo gQ : Option Operand} {o NZ n l h : Nat} (ht : TY.slice P t = some (e, s, cZ)) (hx : bR st x = some (.aY o s NZ n))
  (hl : Bd st lo 0 l) (hh : Bd st gQ n h) (h1 : l ≤ h) (h2 : h ≤ n) : Yields P N st ⟨dst, .slice t x lo gQ none, ty, pos, af, g⟩ (.aY o s (NZ + l) (h - l)) := by
 intro G E RR a _ hi
 obtain ⟨R, hp⟩ := hi.eval hx
 simp only [RX] at hp
 obtain ⟨_, base, cap, hc, dw⟩ := hp
 obtain ⟨y8, i, ij, fe, _⟩ := TY.et ht
 have nO : h ≤ cap := by
  rcases dw with ⟨_, _, h', _⟩ | ⟨_, _, _, h', _⟩ <;> omega
 refine ⟨.slice (if cap = l then base else base.map (·.add (l * s))) (h - l) (cap - l), ?_, ?_⟩
 ·show (do let z ← Instr.sliceAt t (a.eval x) (lo.map a.eval) (gQ.map a.eval) none; pure (Next.value z) : Sem Next).run P E.w = _
  rw [hc]
  refine dI ?_
  simp only [Instr.sliceAt, Sem.run_bind, run_underlying y8, Result.andThen_ok, Instr.slice, lW hi hl hh h1 nO, run_sizeOf ij, fe]
  rfl
 ·simp only [RX]
  refine ⟨trivial, _, _, rfl, ?_⟩
  rcases dw with ⟨hβ, y9, hn, m9⟩ | ⟨B, hβ, GQ, hn, hb⟩
  ·exact .inl ⟨hβ, om, om, om⟩
  ·refine .inr ⟨B, hβ, om, om, ?_⟩
   by_cases Bm : cap = l
   ·left; omega
   ·right
    have := hb.resolve_left om
    rw [if_neg Bm, this]
    simp only [Option.map_some, gS, Nat.add_mul, Nat.add_assoc]

theorem dZ.get {E : Env} : ∀ {xs : List X} {cs : List Value} {R : List Nat} {k : Nat} {x : X}, dZ E xs cs R → xs[k]? = some x → ∃ u R₁, cs[k]? = some u ∧ RX E x u R₁
 | [], _, _, _, _, _, h => by simp at h
 | y :: r, cs, R, 0, x, h, hx => by
  simp only [dZ] at h
  simp only [List.getElem?_cons_zero, Option.some.injEq] at hx
  subst hx
  obtain ⟨c, dg, R₁, R₂, rfl, h1, _, _⟩ := h
  exact ⟨c, R₁, rfl, h1⟩
 | y :: r, cs, R, k + 1, x, h, hx => by
  simp only [dZ] at h
  obtain ⟨c, dg, R₁, R₂, rfl, _, h2, _⟩ := h
  obtain ⟨u, R₃, hu, h3⟩ := dZ.get (k := k) h2 (by simpa using hx)
  exact ⟨u, R₃, by simpa using hu, h3⟩

theorem Y.extract {x : Operand} {xs : List X} {y : X} {k : Nat} (hx : bR st x = some (.tup xs)) (hy : xs[k]? = some y) (hf : y.free = true) : Yields P N st ⟨dst, .extract x k, ty, pos, af, g⟩ y := by
 intro G E RR a _ hi
 obtain ⟨R, hp⟩ := hi.eval hx
 simp only [RX] at hp
 obtain ⟨cs, hc, fh⟩ := hp
 obtain ⟨u, R₁, hu, h1⟩ := dZ.get fh hy
 have h0 := RX.free hf h1
 subst h0
 refine ⟨u, ?_, h1⟩
 show (do let z ← Instr.extract (a.eval x) k; pure (Next.value z) : Sem Next).run P E.w = _
 rw [hc]
 refine dI ?_
 have xu : cs[k]? = some u := by simpa using hu
 simp only [Instr.extract, xu]; rfl

theorem Y.nilCheck {x : Operand} {p q : X} (hx : bR st x = some p) (hq : p.on 0 = some q) : Yields P N st ⟨dst, .nilCheck x, ty, pos, af, g⟩ q := by
 intro G E RR a _ hi
 obtain ⟨R, hp⟩ := hi.eval hx
 obtain ⟨b, off, hc, h⟩ := hp.on hq
 refine ⟨_, ?_, h⟩
 simp only [execOp, hc]; rfl

def X.one : X → Bool
 | .v (.agg _) | .v (.tuple _) => false
 | .v _ | .fz .. | .ep .. | .ptr .. | .aY .. | .mref _ | .fp .. | .gl .. => true
 | .no | .agg _ | .tup _ => false

theorem RX.one {E : Env} {x : X} {c : Value} {R : List Nat} (ho : x.one = true) (h : RX E x c R) : jg c := by
 cases x with
 | v u =>
  simp only [RX] at h
  rw [h.1]
  cases u <;> first | trivial | (simp [X.one] at ho)
 | fz s rows => simp only [RX] at h; obtain ⟨_, _, _, _, rfl, _⟩ := h; trivial
 | ep s rows => simp only [RX] at h; obtain ⟨_, _, _, rfl, _⟩ := h; trivial
 | ptr o s i k => simp only [RX] at h; obtain ⟨_, _, _, rfl⟩ := h; trivial
 | aY o s lo n => simp only [RX] at h; obtain ⟨_, _, _, rfl, _⟩ := h; trivial
 | mref o => simp only [RX] at h; obtain ⟨_, _, _, rfl⟩ := h; trivial
 | fp row k => simp only [RX] at h; obtain ⟨_, _, _, rfl, _⟩ := h; trivial
 | gl fn f c => simp only [RX] at h; obtain ⟨_, _, _, rfl, _⟩ := h; trivial
 | _ => simp [X.one] at ho

def X.flat : X → Option (List X)
 | .agg xs => some xs
 | x => bif x.one then some [x] else none

theorem sH {c : Value} (h : jg c) : c.cells = #[c] := by
 cases c <;> first | rfl | exact h.elim

theorem RX.flat {E : Env} {x : X} {c : Value} {R : List Nat} {ys : List X} (hf : x.flat = some ys) (h : RX E x c R) : bz E ys c.cells.toList R := by
 by_cases hx : ∃ xs, x = .agg xs
 ·obtain ⟨xs, rfl⟩ := hx
  simp only [X.flat, Option.some.injEq] at hf
  subst hf
  simp only [RX] at h
  obtain ⟨cs, rfl, h⟩ := h
  exact h
 ·have h1 : x.one = true ∧ ys = [x] := by
   unfold X.flat at hf
   split at hf
   ·exact absurd ⟨_, rfl⟩ hx
   ·cases ho : x.one with
    | false => simp [ho] at hf
    | true => simp [ho] at hf; exact ⟨rfl, hf.symm⟩
  obtain ⟨ho, rfl⟩ := h1
  have hs := h.one ho
  rw [sH hs]
  simp only [bz]
  exact ⟨c, [], R, [], rfl, hs, h, ⟨rfl, rfl⟩, by simp⟩

end
end Go.AW
/- Part of the abstract walk: how what is known outlives a change of memory. -/
namespace Go.AW
open Go

theorem dA.mono {E E' : Env} {o : Nat} {ob : Obj} {R : List Nat} (hE : E.On E' R) (ho : E'.β o = E.β o) (hm : ∀ xs, ob = .cells xs → ∀ q, X.cC q xs = true → E'.β q = E.β q) (h : dA E o ob R) : dA E' o ob R := by
 cases ob with
 | cells xs =>
  simp only [dA] at h ⊢
  obtain ⟨qo, B, cs, ty, hB, hw, hf, hl, hR, rfl⟩ := h
  have h2 := hE.2 B.b (by simp)
  exact ⟨qo, B, cs, ty, ho.trans hB, h2.1.trans hw, h2.2 hf, hl, RO.mono xs cs _ [] (hE.sub (fun _ h => by cases h)) (hm xs rfl) hR, rfl⟩
 | rows s rs =>
  simp only [dA] at h ⊢
  obtain ⟨hu, h⟩ := h
  refine ⟨hu, ?_⟩
  rcases h with ⟨h1, h2, h3⟩ | ⟨B, cs, ty, R', hB, hw, hf, hl, hc, hR, rfl⟩
  ·exact .inl ⟨ho.trans h1, h2, h3⟩
  ·have h2 := hE.2 B.b (by simp)
   exact .inr ⟨B, cs, ty, R', ho.trans hB, h2.1.trans hw, h2.2 hf, hl, hc, cD.mono rs cs _ R' (hE.sub (fun _ h => by simp [h])) hR, rfl⟩
 | uQ es =>
  simp only [dA] at h ⊢
  obtain ⟨B, pc, clock, hB, hw, hf, he, rfl⟩ := h
  have h2 := hE.2 B.b (by simp)
  exact ⟨B, pc, clock, ho.trans hB, h2.1.trans hw, h2.2 hf, he, rfl⟩
 | gone => simpa [dA] using h

structure cW (G : Ctx) (E E' : Env) (T : Nat → Prop) : Prop where
 φ : E'.φ = E.φ
 free : ∀ b, T b → ∀ i, E.φ b i = none
 out : ∀ b, T b → ¬ G.K b
 same : ∀ b, b < E.w.heap.size → ¬ T b → E'.w.heap[b]? = E.w.heap[b]?
 size : E.w.heap.size ≤ E'.w.heap.size
 os : E'.w.os = E.w.os
 tape : E'.w.tape = E.w.tape
 output : E'.w.output = E.w.output

section
variable {G : Ctx} {E E' : Env} {RR : Own → List Nat} {st : St} {a : Act} {T : Nat → Prop}

theorem cW.on (hm : cW G E E' T) (hi : Inv G E RR st a) {p : Own} (hT : ∀ b ∈ RR p, ¬ T b) : E.On E' (RR p) :=
 ⟨fun b i v h => by rw [hm.φ]; exact h, fun b hb => ⟨hm.same b (hi.own p b hb).1 (hT b hb), fun h => by rw [hm.φ]; exact h⟩⟩

theorem cW.ku (hm : cW G E E' T) (hi : Inv G E RR st a) : ∀ b i v, E'.φ b i = some v → E'.w.cell? ⟨b, i, none⟩ = some v := by
 intro b i v h
 rw [hm.φ] at h
 have h0 := hi.ku b i v h
 have iv := World.block_lt_of_cell? E.w _ h0
 have hT : ¬ T b := fun hT => by rw [hm.free b hT i] at h; cases h
 have := hm.same b iv hT
 rw [World.cell?_of_block this]; exact h0

theorem cW.ai (hm : cW G E E' T) (hi : Inv G E RR st a) : ∀ b, G.K b → E'.w.heap[b]? = G.w0.heap[b]? := by
 intro b hK
 have iv : b < E.w.heap.size := Nat.lt_of_lt_of_le (hi.small b hK) hi.size
 rw [hm.same b iv (fun hT => hm.out b hT hK)]
 exact hi.ai b hK

theorem cW.slot (hm : cW G E E' T) (hi : Inv G E RR st a) {s : Nat} {x : X} (hx : look st.a9 s = some x) (hT : ∀ b ∈ RR (.slot s), ¬ T b) (hβ : ∀ o, x.dL o = true → E'.β o = E.β o) :
  RX E' x (a.tmps.getD s undef) (RR (.slot s)) :=
 RX.mono x _ _ (hm.on hi hT) hβ (hi.a9 s x hx)

theorem cW.obj (hm : cW G E E' T) (hi : Inv G E RR st a) {o : Nat} {ob : Obj} (hx : look st.aA o = some ob) (hT : ∀ b ∈ RR (.obj o), ¬ T b) (ho : E'.β o = E.β o)
  (hβ : ∀ xs, ob = .cells xs → ∀ q, X.cC q xs = true → E'.β q = E.β q) : dA E' o ob (RR (.obj o)) :=
 dA.mono (hm.on hi hT) ho hβ (hi.aA o ob hx)

theorem cW.own (hm : cW G E E' T) (hi : Inv G E RR st a) : ∀ p b, b ∈ RR p → b < E'.w.heap.size ∧ ¬ G.K b :=
 fun p b hb => ⟨Nat.lt_of_lt_of_le (hi.own p b hb).1 hm.size, (hi.own p b hb).2⟩

theorem Inv.wD (hi : Inv G E RR st a) (hm : cW G E E' (fun _ => False)) (hβ : E'.β = E.β) : Inv G E' RR st a :=
 {hi with
  ku := hm.ku hi
  a9 := fun s x hx => hm.slot hi hx (fun _ _ h => h) (fun o _ => by rw [hβ])
  aA := fun o ob ho => hm.obj hi ho (fun _ _ h => h) (by rw [hβ]) (fun _ _ _ _ => by rw [hβ])
  own := hm.own hi
  ai := hm.ai hi
  size := Nat.le_trans hi.size hm.size
  os := hm.os.trans hi.os
  tape := hm.tape.trans hi.tape
  output := hm.output.trans hi.output
  φ0 := fun b i v h => by rw [hm.φ]; exact hi.φ0 b i v h
  grow := fun b i v h => by rw [hm.φ] at h; exact hi.grow b i v h
  fixed := fun o h => by rw [hβ]; exact hi.fixed o h }

theorem cW.alloc (G : Ctx) (E : Env) (o : Go.Obj) : cW G E { E with w := E.w.alloc o } (fun _ => False) where
 φ := rfl
 free := fun _ h => h.elim
 out := fun _ h => h.elim
 same := fun b hb _ => by
  show (E.w.heap.push o)[b]? = _
  rw [Array.getElem?_push, if_neg om]
 size := by simp
 os := rfl
 tape := rfl
 output := rfl

theorem cW.drew (G : Ctx) (E : Env) : cW G E { E with w := E.w.drew } (fun _ => False) where
 φ := rfl
 free := fun _ h => h.elim
 out := fun _ h => h.elim
 same := fun _ _ _ => rfl
 size := Nat.le_refl _
 os := rfl
 tape := rfl
 output := rfl

theorem cW.trans {kx : Env} {T' : Nat → Prop} (h : cW G E E' T) (h' : cW G E' kx T') (dv : ∀ b, T' b → T b ∨ (E.w.heap.size ≤ b)) : cW G E kx T where
 φ := h'.φ.trans h.φ
 free := h.free
 out := h.out
 same := fun b hb hT => by
  have h1 := h.same b hb hT
  rw [← h1]
  refine h'.same b (Nat.lt_of_lt_of_le hb h.size) (fun Pk => ?_)
  rcases dv b Pk with h2 | h2
  ·exact hT h2
  ·omega
 size := Nat.le_trans h.size h'.size
 os := h'.os.trans h.os
 tape := h'.tape.trans h.tape
 output := h'.output.trans h.output

theorem cW.setRow (G : Ctx) (E : Env) (b : Nat) (cs : Array Value) (hf : ∀ i, E.φ b i = none) (hK : ¬ G.K b) : cW G E { E with w := E.w.setRow b cs } (fun c => c = b) where
 φ := rfl
 free := fun c h => by subst h; exact hf
 out := fun c h => by subst h; exact hK
 same := fun c _ h => setRow_other E.w b c cs h
 size := by simp
 os := rfl
 tape := rfl
 output := rfl

theorem Inv.relabel (hi : Inv G E RR st a) {d : Nat} {x : X} {R : List Nat} (hx : RX E x (a.tmps.getD d undef) R) (hn : R.Nodup)
  (hR : ∀ b ∈ R, b < E.w.heap.size ∧ ¬ G.K b ∧ ∀ p, p ≠ .slot d → b ∉ RR p) : Inv G E (fm RR (.slot d) R) (st.put d x) a := by
 refine { hi with a9 := ?_, aA := ?_, nodup := ?_, apart := ?_, own := ?_ }
 ·intro s y hy
  simp only [St.put, look] at hy
  cases hb : Nat.beq d s with
  | true =>
   have := Nat.eq_of_beq_eq_true hb
   subst this
   rw [hb] at hy
   simp only [cond_true, Option.some.injEq] at hy
   subst hy
   simpa [fm] using hx
  | false =>
   have e7 := Nat.ne_of_beq_eq_false hb
   rw [hb] at hy
   have : fm RR (.slot d) R (.slot s) = RR (.slot s) := by simp [fm, Ne.symm e7]
   rw [this]
   exact hi.a9 s y hy
 ·intro o ob ho
  have : fm RR (.slot d) R (.obj o) = RR (.obj o) := by simp [fm]
  rw [this]; exact hi.aA o ob ho
 ·intro p
  unfold fm
  split
  ·exact hn
  ·exact hi.nodup p
 ·intro p q kQ b hb
  unfold fm at hb ⊢
  split at hb
  ·rename_i hp
   subst hp
   rw [if_neg (Ne.symm kQ)]
   exact (hR b hb).2.2 q (Ne.symm kQ)
  ·split
   ·rename_i hp hq
    subst hq
    intro fV
    exact (hR b fV).2.2 p kQ hb
   ·exact hi.apart p q kQ b hb
 ·intro p b hb
  unfold fm at hb
  split at hb
  ·exact ⟨(hR b hb).1, (hR b hb).2.1⟩
  ·exact hi.own p b hb

theorem Inv.no (hi : Inv G E RR st a) (d : Nat) : Inv G E (fm RR (.slot d) []) (st.put d .no) a :=
 hi.relabel (by simp [RX]) List.nodup_nil (fun _ h => by cases h)

def St.ea (st : St) (o : Nat) (ob : Obj) : St := { st with aA := (o, ob) :: st.aA }

theorem Inv.ea (hi : Inv G E RR st a) {o : Nat} {ob : Obj} {R : List Nat} (hx : dA E o ob R) (hn : R.Nodup)
  (hR : ∀ b ∈ R, b < E.w.heap.size ∧ ¬ G.K b ∧ ∀ p, p ≠ .obj o → b ∉ RR p) : Inv G E (fm RR (.obj o) R) (st.ea o ob) a := by
 refine { hi with a9 := ?_, aA := ?_, nodup := ?_, apart := ?_, own := ?_ }
 ·intro s y hy
  have : fm RR (.obj o) R (.slot s) = RR (.slot s) := by simp [fm]
  rw [this]; exact hi.a9 s y hy
 ·intro q uR ho
  simp only [St.ea, look] at ho
  cases hb : Nat.beq o q with
  | true =>
   have := Nat.eq_of_beq_eq_true hb
   subst this
   rw [hb] at ho
   simp only [cond_true, Option.some.injEq] at ho
   subst ho
   simpa [fm] using hx
  | false =>
   have e7 := Nat.ne_of_beq_eq_false hb
   rw [hb] at ho
   have : fm RR (.obj o) R (.obj q) = RR (.obj q) := by simp [fm, Ne.symm e7]
   rw [this]
   exact hi.aA q uR ho
 ·intro p
  unfold fm
  split
  ·exact hn
  ·exact hi.nodup p
 ·intro p q kQ b hb
  unfold fm at hb ⊢
  split at hb
  ·rename_i hp
   subst hp
   rw [if_neg (Ne.symm kQ)]
   exact (hR b hb).2.2 q (Ne.symm kQ)
  ·split
   ·rename_i hp hq
    subst hq
    intro fV
    exact (hR b fV).2.2 p kQ hb
   ·exact hi.apart p q kQ b hb
 ·intro p b hb
  unfold fm at hb
  split at hb
  ·exact ⟨(hR b hb).1, (hR b hb).2.1⟩
  ·exact hi.own p b hb

end

def lX (o : Nat) (x : X) : X := bif x.dL o then .no else x
def q3 (o : Nat) (l : List (Nat × X)) : List (Nat × X) := l.map fun p => (p.1, lX o p.2)
def Obj.wE (o : Nat) : Obj → Obj
 | .cells xs => .cells (xs.map (lX o))
 | ob => ob
def vb (o : Nat) (l : List (Nat × Obj)) : List (Nat × Obj) := l.map fun p => (p.1, p.2.wE o)
def St.kill (st : St) (o : Nat) : St := ⟨q3 o st.a9, vb o st.aA⟩

theorem mC {α β : Type} (f : α → β) : ∀ (l : List (Nat × α)) (s : Nat), look (l.map fun p => (p.1, f p.2)) s = (look l s).map f
 | [], _ => rfl
 | (t, x) :: r, s => by
  simp only [List.map_cons, look]
  cases Nat.beq t s with
  | true => rfl
  | false => exact mC f r s

theorem vc (o : Nat) {x : X} (h : x.free = true) : (lX o x).free = true := by
 unfold lX
 cases x.dL o with
 | true => rfl
 | false => exact h

theorem q4 (o : Nat) : ∀ {xs : List X}, X.bC xs = true → X.bC (xs.map (lX o)) = true
 | [], _ => rfl
 | x :: r, h => by
  simp only [X.bC, Bool.and_eq_true] at h
  simp only [List.map_cons, X.bC, vc o h.1, q4 o h.2, Bool.and_self]

theorem RO.kill {E : Env} {o : Nat} : ∀ {xs : List X} {cs : Array Value} {off : Nat}, X.bC xs = true → RO E xs cs off [] → RO E (xs.map (lX o)) cs off []
 | [], _, _, _, h => h
 | x :: r, cs, off, hf, h => by
  simp only [RO] at h
  obtain ⟨u, R₁, R₂, hu, hs, h1, h2, hR⟩ := h
  simp only [X.bC, Bool.and_eq_true] at hf
  have Kw := RX.free hf.1 h1
  have Kx := RO.free hf.2 h2
  subst Kw; subst Kx
  have h3 := RO.kill (o := o) hf.2 h2
  simp only [List.map_cons, RO]
  refine ⟨u, [], [], hu, hs, ?_, h3, rfl⟩
  unfold lX
  cases x.dL o with
  | true => simp [RX]
  | false => exact h1

theorem nP (o : Nat) : ∀ (xs : List X) (q : Nat), X.cC q (xs.map (lX o)) = true → q ≠ o ∧ X.cC q xs = true
 | [], _, h => by simp [X.cC] at h
 | x :: r, q, h => by
  simp only [List.map_cons, X.cC, Bool.or_eq_true] at h ⊢
  rcases h with h | h
  ·unfold lX at h
   cases hk : x.dL o with
   | true => simp [hk, X.dL] at h
   | false =>
    rw [hk] at h
    simp only [cond_false] at h
    exact ⟨fun hq => by (subst hq; rw [hk] at h; cases h), .inl h⟩
  ·exact ⟨(nP o r q h).1, .inr (nP o r q h).2⟩

section
variable {G : Ctx} {E E' : Env} {RR : Own → List Nat} {st : St} {a : Act} {T : Nat → Prop}

theorem Inv.tN (hi : Inv G E RR st a) {o b : Nat} (h : b ∈ RR (.obj o) ∨ E.w.heap.size ≤ b) : ∀ p, p ≠ .obj o → b ∉ RR p := by
 intro p hp hb
 rcases h with h | h
 ·exact hi.apart p _ hp b hb h
 ·have := (hi.own p b hb).1; omega

def eO (st : St) (RR : Own → List Nat) (o : Nat) (R : List Nat) : Own → List Nat
 | .obj q => if q = o then R else RR (.obj q)
 | .slot s => match look st.a9 s with
  | some x => bif x.dL o then [] else RR (.slot s)
  | none => RR (.slot s)

theorem g6 (st : St) (RR : Own → List Nat) (o : Nat) (R : List Nat) (s : Nat) : eO st RR o R (.slot s) = [] ∨ eO st RR o R (.slot s) = RR (.slot s) := by
 cases hs : look st.a9 s with
 | none => exact .inr (by simp [eO, hs])
 | some x => cases hk : x.dL o with
  | true => exact .inl (by simp [eO, hs, hk])
  | false => exact .inr (by simp [eO, hs, hk])

theorem Inv.kR (hi : Inv G E RR st a) (hm : cW G E E' T) {o : Nat} {ob : Obj} {R : List Nat} (hT : ∀ b, T b → b ∈ RR (.obj o)) (hβ : ∀ q, q ≠ o → E'.β q = E.β q) (Ky : G.fn.F.elem o = true → E'.β o = E.β o)
  (hx : dA E' o ob R) (hn : R.Nodup) (hR : ∀ b ∈ R, b < E'.w.heap.size ∧ ¬ G.K b ∧ ∀ p, p ≠ .obj o → b ∉ RR p) :
  Inv G E' (eO st RR o R) ((st.kill o).ea o ob) a := by
 have hold : ∀ p, p ≠ .obj o → ∀ b ∈ RR p, ¬ T b := fun p hp b hb Bn => hi.apart p (.obj o) hp b hb (hT b Bn)
 have dv : ∀ p, p ≠ .obj o → ∀ b ∈ eO st RR o R p, b ∈ RR p := by
  intro p hp b hb
  cases p with
  | obj q =>
   have : q ≠ o := fun e => hp (by rw [e])
   simpa [eO, this] using hb
  | slot s =>
   rcases g6 st RR o R s with h | h
   ·rw [h] at hb; cases hb
   ·rw [h] at hb; exact hb
 have tO : eO st RR o R (.obj o) = R := by simp [eO]
 have mD : ∀ p, p ≠ .obj o → ∀ b ∈ RR p, b ∉ R := by
  intro p hp b hb DG
  exact (hR b DG).2.2 p hp hb
 have Kz : ∀ b i v, G.φ0 b i = some v → E'.φ b i = some v := fun b i v h => by rw [hm.φ]; exact hi.φ0 b i v h
 have yO : ∀ b i v, E'.φ b i = some v → G.φ0 b i = some v ∨ ¬ G.K b := fun b i v h => by rw [hm.φ] at h; exact hi.grow b i v h
 refine { hi with ku := hm.ku hi, a9 := ?_, aA := ?_, nodup := ?_, apart := ?_, own := ?_, ai := hm.ai hi, size := Nat.le_trans hi.size hm.size, os := hm.os.trans hi.os, tape := hm.tape.trans hi.tape, output := hm.output.trans hi.output, φ0 := Kz, grow := yO, fixed := ?_ }
 ·intro s y hy
  have hl : look (q3 o st.a9) s = some y := hy
  unfold q3 at hl
  rw [mC (lX o)] at hl
  cases hs : look st.a9 s with
  | none => simp [hs] at hl
  | some x =>
   rw [hs] at hl
   simp only [Option.map_some, Option.some.injEq] at hl
   subst hl
   cases hk : x.dL o with
   | true => simp [eO, hs, hk, lX, RX]
   | false =>
    have : eO st RR o R (.slot s) = RR (.slot s) := by simp [eO, hs, hk]
    rw [this]
    simp only [lX, hk, cond_false]
    exact hm.slot hi hs (hold _ (by simp)) (fun q hq => hβ q (fun e => by subst e; rw [hk] at hq; cases hq))
 ·intro q uR ho
  simp only [St.ea, look] at ho
  cases hb : Nat.beq o q with
  | true =>
   have := Nat.eq_of_beq_eq_true hb
   subst this
   rw [hb] at ho
   simp only [cond_true, Option.some.injEq] at ho
   subst ho
   rw [tO]; exact hx
  | false =>
   have e7 := Nat.ne_of_beq_eq_false hb
   rw [hb] at ho
   have hl : look (vb o st.aA) q = some uR := ho
   unfold vb at hl
   rw [mC (Obj.wE o)] at hl
   have hr : eO st RR o R (.obj q) = RR (.obj q) := by simp [eO, Ne.symm e7]
   rw [hr]
   cases hs : look st.aA q with
   | none => simp [hs] at hl
   | some GR =>
    rw [hs] at hl
    simp only [Option.map_some, Option.some.injEq] at hl
    subst hl
    have kS := hi.aA q GR hs
    have ga := hm.on hi (p := .obj q) (hold _ (by simpa using Ne.symm e7))
    cases GR with
    | cells xs =>
     simp only [Obj.wE, dA] at kS ⊢
     obtain ⟨qo, B, cs, ty, hB, hw, hf, hlen, jh, gN⟩ := kS
     have h2 := ga.2 B.b (by rw [gN]; simp)
     exact ⟨q4 o qo, B, cs, ty, (hβ q (Ne.symm e7)).trans hB, h2.1.trans hw, h2.2 hf, by simpa using hlen,
      RO.mono _ cs _ [] (ga.sub (fun _ h => by cases h)) (fun p hp => hβ p (nP o xs p hp).1) (RO.kill qo jh), gN⟩
    | rows s rs => exact dA.mono ga (hβ q (Ne.symm e7)) (fun xs h => by cases h) kS
    | uQ es => exact dA.mono ga (hβ q (Ne.symm e7)) (fun xs h => by cases h) kS
    | gone => simpa [dA, Obj.wE] using kS
 ·intro p
  by_cases hp : p = .obj o
  ·subst hp; rw [tO]; exact hn
  ·cases p with
   | obj q =>
    have : q ≠ o := fun e => hp (by rw [e])
    simpa [eO, this] using hi.nodup (.obj q)
   | slot s =>
    rcases g6 st RR o R s with h | h
    ·rw [h]; exact List.nodup_nil
    ·rw [h]; exact hi.nodup _
 ·intro p q kQ b hb fV
  by_cases hp : p = .obj o
  ·subst hp
   rw [tO] at hb
   have hq : q ≠ .obj o := Ne.symm kQ
   exact mD q hq b (dv q hq b fV) hb
  ·by_cases hq : q = .obj o
   ·subst hq
    rw [tO] at fV
    exact mD p hp b (dv p hp b hb) fV
   ·exact hi.apart p q kQ b (dv p hp b hb) (dv q hq b fV)
 ·intro p b hb
  by_cases hp : p = .obj o
  ·subst hp
   rw [tO] at hb
   exact ⟨(hR b hb).1, (hR b hb).2.1⟩
  ·exact hm.own hi p b (dv p hp b hb)
 ·intro q hq
  by_cases Oa : q = o
  ·subst Oa; rw [Ky hq]; exact hi.fixed q hq
  ·rw [hβ q Oa]; exact hi.fixed q hq

theorem Inv.yP (hi : Inv G E RR st a) (hm : cW G E E' T) {o : Nat} {ob : Obj} {R : List Nat} (hT : ∀ b, T b → b ∈ RR (.obj o)) (hβ : E'.β = E.β)
  (hx : dA E' o ob R) (hn : R.Nodup) (hR : ∀ b ∈ R, b < E'.w.heap.size ∧ ¬ G.K b ∧ ∀ p, p ≠ .obj o → b ∉ RR p) :
  Inv G E' (fm RR (.obj o) R) (st.ea o ob) a := by
 have hold : ∀ p, p ≠ .obj o → ∀ b ∈ RR p, ¬ T b := fun p hp b hb Bn => hi.apart p (.obj o) hp b hb (hT b Bn)
 have mD : ∀ p, p ≠ .obj o → ∀ b ∈ RR p, b ∉ R := by
  intro p hp b hb DG
  exact (hR b DG).2.2 p hp hb
 have Kz : ∀ b i v, G.φ0 b i = some v → E'.φ b i = some v := fun b i v h => by rw [hm.φ]; exact hi.φ0 b i v h
 have yO : ∀ b i v, E'.φ b i = some v → G.φ0 b i = some v ∨ ¬ G.K b := fun b i v h => by rw [hm.φ] at h; exact hi.grow b i v h
 refine { hi with ku := hm.ku hi, a9 := ?_, aA := ?_, nodup := ?_, apart := ?_, own := ?_, ai := hm.ai hi, size := Nat.le_trans hi.size hm.size, os := hm.os.trans hi.os, tape := hm.tape.trans hi.tape, output := hm.output.trans hi.output, φ0 := Kz, grow := yO, fixed := fun q hq => by rw [hβ]; exact hi.fixed q hq }
 ·intro s y hy
  have : fm RR (.obj o) R (.slot s) = RR (.slot s) := by simp [fm]
  rw [this]
  exact hm.slot hi hy (hold _ (by simp)) (fun q _ => by rw [hβ])
 ·intro q uR ho
  simp only [St.ea, look] at ho
  cases hb : Nat.beq o q with
  | true =>
   have := Nat.eq_of_beq_eq_true hb
   subst this
   rw [hb] at ho
   simp only [cond_true, Option.some.injEq] at ho
   subst ho
   simpa [fm] using hx
  | false =>
   have e7 := Nat.ne_of_beq_eq_false hb
   rw [hb] at ho
   have : fm RR (.obj o) R (.obj q) = RR (.obj q) := by simp [fm, Ne.symm e7]
   rw [this]
   exact hm.obj hi ho (hold _ (by simpa using Ne.symm e7)) (by rw [hβ]) (fun _ _ _ _ => by rw [hβ])
 ·intro p
  unfold fm
  split
  ·exact hn
  ·exact hi.nodup p
 ·intro p q kQ b hb fV
  unfold fm at hb fV
  split at hb
  ·rename_i hp
   subst hp
   rw [if_neg (Ne.symm kQ)] at fV
   exact mD q (Ne.symm kQ) b fV hb
  ·rename_i hp
   split at fV
   ·exact mD p hp b hb fV
   ·exact hi.apart p q kQ b hb fV
 ·intro p b hb
  unfold fm at hb
  split at hb
  ·exact ⟨(hR b hb).1, (hR b hb).2.1⟩
  ·exact hm.own hi p b hb
end
end Go.AW
/- Part of the abstract walk: lists of owned cells, taken apart and joined. -/
namespace Go.AW
open Go

section
variable {E : Env}

theorem RO.ext : ∀ {xs : List X} {cs dg : Array Value} {off : Nat} {R : List Nat}, (∀ j, j < xs.length → dg[off + j]? = cs[off + j]?) → RO E xs cs off R → RO E xs dg off R
 | [], _, _, _, _, _, h => by simpa [RO] using h
 | x :: r, cs, dg, off, R, he, h => by
  simp only [RO] at h ⊢
  obtain ⟨u, R₁, R₂, hu, hs, h1, h2, hR⟩ := h
  refine ⟨u, R₁, R₂, ?_, hs, h1, RO.ext (fun j hj => ?_) h2, hR⟩
  ·have := he 0 (by simp)
   rw [Nat.add_zero] at this
   rw [this]; exact hu
  ·have := he (j + 1) (by simp; omega)
   rw [show off + 1 + j = off + (j + 1) by omega]; exact this

theorem cD.ext : ∀ {rs : List (List X)} {cs dg : Array Value} {off : Nat} {R : List Nat}, (∀ j, j < rs.flatten.length → dg[off + j]? = cs[off + j]?) → cD E rs cs off R → cD E rs dg off R
 | [], _, _, _, _, _, h => by simpa [cD] using h
 | x :: r, cs, dg, off, R, he, h => by
  simp only [cD] at h ⊢
  obtain ⟨R₁, R₂, hn, h1, h2, hR⟩ := h
  refine ⟨R₁, R₂, hn, RO.ext (fun j hj => he j (by simp; omega)) h1, cD.ext (fun j hj => ?_) h2, hR⟩
  have := he (x.length + j) (by simp at hj ⊢; omega)
  rw [Nat.add_assoc]; exact this

theorem RO.app : ∀ {xs ys : List X} {cs : Array Value} {off : Nat} {R₁ R₂ : List Nat}, RO E xs cs off R₁ → RO E ys cs (off + xs.length) R₂ → RO E (xs ++ ys) cs off (R₁ ++ R₂)
 | [], ys, cs, off, R₁, R₂, h, h' => by simp only [RO] at h; subst h; simpa using h'
 | x :: r, ys, cs, off, R₁, R₂, h, h' => by
  simp only [RO] at h
  obtain ⟨u, R₃, R₄, hu, hs, h1, h2, rfl⟩ := h
  simp only [List.cons_append, RO]
  refine ⟨u, R₃, R₄ ++ R₂, hu, hs, h1, RO.app h2 ?_, by simp⟩
  rw [show off + 1 + r.length = off + (x :: r).length by simp; omega]; exact h'

theorem RO.oz : ∀ {xs ys : List X} {cs : Array Value} {off : Nat} {R : List Nat}, RO E (xs ++ ys) cs off R → ∃ R₁ R₂, RO E xs cs off R₁ ∧ RO E ys cs (off + xs.length) R₂ ∧ R = R₁ ++ R₂
 | [], ys, cs, off, R, h => ⟨[], R, by simp [RO], by simpa using h, rfl⟩
 | x :: r, ys, cs, off, R, h => by
  simp only [List.cons_append, RO] at h
  obtain ⟨u, R₃, R₄, hu, hs, h1, h2, rfl⟩ := h
  obtain ⟨R₁, R₂, h3, h4, rfl⟩ := RO.oz h2
  refine ⟨R₃ ++ R₁, R₂, ?_, ?_, by simp⟩
  ·simp only [RO]; exact ⟨u, R₃, R₁, hu, hs, h1, h3, rfl⟩
  ·rw [show off + (x :: r).length = off + 1 + r.length by simp; omega]; exact h4

theorem cD.app : ∀ {xs ys : List (List X)} {cs : Array Value} {off : Nat} {R₁ R₂ : List Nat}, cD E xs cs off R₁ → cD E ys cs (off + xs.flatten.length) R₂ → cD E (xs ++ ys) cs off (R₁ ++ R₂)
 | [], ys, cs, off, R₁, R₂, h, h' => by simp only [cD] at h; subst h; simpa using h'
 | x :: r, ys, cs, off, R₁, R₂, h, h' => by
  simp only [cD] at h
  obtain ⟨R₃, R₄, hn, h1, h2, rfl⟩ := h
  simp only [List.cons_append, cD]
  refine ⟨R₃, R₄ ++ R₂, hn, h1, cD.app h2 ?_, by simp⟩
  rw [show off + x.length + r.flatten.length = off + (x :: r).flatten.length by simp; omega]; exact h'

theorem cD.oz : ∀ {xs ys : List (List X)} {cs : Array Value} {off : Nat} {R : List Nat}, cD E (xs ++ ys) cs off R → ∃ R₁ R₂, cD E xs cs off R₁ ∧ cD E ys cs (off + xs.flatten.length) R₂ ∧ R = R₁ ++ R₂
 | [], ys, cs, off, R, h => ⟨[], R, by simp [cD], by simpa using h, rfl⟩
 | x :: r, ys, cs, off, R, h => by
  simp only [List.cons_append, cD] at h
  obtain ⟨R₃, R₄, hn, h1, h2, rfl⟩ := h
  obtain ⟨R₁, R₂, h3, h4, rfl⟩ := cD.oz h2
  refine ⟨R₃ ++ R₁, R₂, ?_, ?_, by simp⟩
  ·simp only [cD]; exact ⟨R₃, R₁, hn, h1, h3, rfl⟩
  ·rw [show off + (x :: r).flatten.length = off + x.length + r.flatten.length by simp; omega]; exact h4

theorem RO.of : ∀ {xs : List X} {vs : List Value} {cs : Array Value} {off : Nat} {R : List Nat}, bz E xs vs R → (∀ j v, vs[j]? = some v → cs[off + j]? = some v) → RO E xs cs off R
 | [], _, _, _, _, h, _ => by simp only [bz] at h; simp [RO, h.2]
 | x :: r, vs, cs, off, R, h, hv => by
  simp only [bz] at h
  obtain ⟨c, dg, R₁, R₂, rfl, hs, h1, h2, rfl⟩ := h
  simp only [RO]
  refine ⟨c, R₁, R₂, ?_, hs, h1, RO.of h2 (fun j v hj => ?_), rfl⟩
  ·simpa using hv 0 c rfl
  ·rw [show off + 1 + j = off + (j + 1) by omega]; exact hv (j + 1) v (by simpa using hj)

theorem length_flatten {s : Nat} : ∀ {rs : List (List X)}, cu s rs → rs.flatten.length = rs.length * s
 | [], _ => by simp
 | r :: rs, h => by
  have h1 := h r (by simp)
  have := length_flatten (rs := rs) (fun q hq => h q (by simp [hq]))
  simp only [List.flatten_cons, List.length_append, h1, this, List.length_cons, Nat.add_mul]
  omega

end

def jw {α : Type} (xs : List α) (k : Nat) (ys : List α) : List α := xs.take k ++ ys ++ xs.drop (k + ys.length)

theorem ky {α : Type} {xs ys : List α} {k : Nat} (h : k + ys.length ≤ xs.length) : (jw xs k ys).length = xs.length := by
 simp [jw]; omega

def jF (cs : Array Value) (k : Nat) (vs : List Value) : Array Value := (cs.toList.take k ++ vs ++ cs.toList.drop (k + vs.length)).toArray

theorem nt {cs : Array Value} {k : Nat} {vs : List Value} (h : k + vs.length ≤ cs.size) : (jF cs k vs).size = cs.size := by
 simp [jF]; omega

theorem wF {cs : Array Value} {k j : Nat} {vs : List Value} (h : k + vs.length ≤ cs.size) (hj : j < vs.length) : (jF cs k vs)[k + j]? = vs[j]? := by
 have hk : k ≤ cs.toList.length := by simp; omega
 simp only [jF, List.getElem?_toArray, List.append_assoc]
 rw [List.getElem?_append_right (by simp; omega)]
 have : k + j - (List.take k cs.toList).length = j := by simp; omega
 rw [this, List.getElem?_append_left hj]

theorem mE {cs : Array Value} {k j : Nat} {vs : List Value} (h : k + vs.length ≤ cs.size) (hj : j < k ∨ k + vs.length ≤ j) : (jF cs k vs)[j]? = cs[j]? := by
 have hk : k ≤ cs.toList.length := by simp; omega
 have hl : (List.take k cs.toList).length = k := by simp; omega
 simp only [jF, List.getElem?_toArray, List.append_assoc]
 rcases hj with hj | hj
 ·rw [List.getElem?_append_left om, List.getElem?_take_of_lt hj]; simp
 ·rw [List.getElem?_append_right om, List.getElem?_append_right om, hl, List.getElem?_drop]
  have : k + vs.length + (j - k - vs.length) = j := by omega
  rw [this]; simp

section
variable {E : Env}

theorem RO.put {xs ys : List X} {cs : Array Value} {off k : Nat} {R R₂ : List Nat} {vs : List Value} (h : RO E xs cs off R) (hk : k + ys.length ≤ xs.length) (hy : bz E ys vs R₂) (hc : off + xs.length ≤ cs.size) :
  ∃ R₁, RO E (jw xs k ys) (jF cs (off + k) vs) off R₁ ∧ (∀ b ∈ R₁, b ∈ R ∨ b ∈ R₂) ∧ ((R ++ R₂).Nodup → R₁.Nodup) := by
 have hl := bz.length hy
 have qe : off + k + vs.length ≤ cs.size := by omega
 have h0 : xs = xs.take k ++ ((xs.drop k).take ys.length ++ xs.drop (k + ys.length)) := by
  conv => lhs; rw [← List.take_append_drop k xs, ← List.take_append_drop ys.length (xs.drop k), List.drop_drop]
 rw [h0] at h
 obtain ⟨Ra, Rb, h1, h2, rfl⟩ := RO.oz h
 obtain ⟨Rc, Rd, h3, h4, rfl⟩ := RO.oz h2
 have Ob : (xs.take k).length = k := by simp; omega
 have Pm : ((xs.drop k).take ys.length).length = ys.length := by simp; omega
 rw [Ob, Pm] at h4
 refine ⟨Ra ++ R₂ ++ Rd, ?_, ?_, ?_⟩
 ·unfold jw
  refine RO.app (RO.app (RO.ext (fun j hj => mE qe (.inl om)) h1) ?_) ?_
  ·rw [Ob]
   refine RO.of hy fun j v hj => ?_
   have pO : j < vs.length := by
    rcases Nat.lt_or_ge j vs.length with h' | h'
    ·exact h'
    ·simp [List.getElem?_eq_none h'] at hj
   rw [wF qe pO]; exact hj
  ·have : off + (List.take k xs ++ ys).length = off + k + ys.length := by simp; omega
   rw [this]
   exact RO.ext (fun j _ => mE qe (.inr om)) h4
 ·intro b hb
  simp only [List.mem_append] at hb ⊢
  rcases hb with (hb | hb) | hb
  ·exact .inl (.inl hb)
  ·exact .inr hb
  ·exact .inl (.inr (.inr hb))
 ·intro hn
  simp only [List.nodup_append, List.mem_append] at hn ⊢
  obtain ⟨⟨ha, ⟨nN, hd, DH⟩, DI⟩, K0, hx⟩ := hn
  refine ⟨⟨ha, K0, fun a vd b hb => hx a (.inl vd) b hb⟩, hd, ?_⟩
  intro a vd b hb
  rcases vd with vd | vd
  ·exact DI a vd b (.inr hb)
  ·intro e; subst e; exact hx a (.inr (.inr hb)) a vd rfl

theorem cD.set {rs : List (List X)} {row ys : List X} {cs : Array Value} {off s i k : Nat} {R R₂ : List Nat} {vs : List Value} (hu : cu s rs) (h : cD E rs cs off R) (hr : rs[i]? = some row)
  (hk : k + ys.length ≤ row.length) (hy : bz E ys vs R₂) (hn : X.gk ys = true) (hc : off + rs.length * s ≤ cs.size) :
  ∃ R₁, cD E (rs.set i (jw row k ys)) (jF cs (off + (i * s + k)) vs) off R₁ ∧ (∀ b ∈ R₁, b ∈ R ∨ b ∈ R₂) ∧ ((R ++ R₂).Nodup → R₁.Nodup) := by
 have hi : i < rs.length := by
  rcases Nat.lt_or_ge i rs.length with h' | h'
  ·exact h'
  ·simp [List.getElem?_eq_none h'] at hr
 have hl := bz.length hy
 have pd : row.length = s := hu row (List.mem_of_getElem? hr)
 have Pn : rs[i] = row := by rw [List.getElem?_eq_getElem hi] at hr; exact Option.some.inj hr
 have h0 : rs = rs.take i ++ (row :: rs.drop (i + 1)) := by
  conv => lhs; rw [← List.take_append_drop i rs, List.drop_eq_getElem_cons hi, Pn]
 have sI : rs.set i (jw row k ys) = rs.take i ++ (jw row k ys :: rs.drop (i + 1)) := by
  rw [List.set_eq_take_append_cons_drop, if_pos hi]
 rw [h0] at h
 obtain ⟨Ra, Rb, h1, h2, rfl⟩ := cD.oz h
 have sJ : (rs.take i).flatten.length = i * s := by
  rw [length_flatten (hu.take i), List.length_take, Nat.min_eq_left (Nat.le_of_lt hi)]
 rw [sJ] at h2
 simp only [cD] at h2
 obtain ⟨Rc, Rd, rE, h3, h4, rfl⟩ := h2
 have JK : i * s + s ≤ rs.length * s := by
  have : (i + 1) * s ≤ rs.length * s := Nat.mul_le_mul_right s hi
  rw [Nat.add_mul] at this; omega
 have qe : off + (i * s + k) + vs.length ≤ cs.size := by omega
 obtain ⟨Re, h5, dv, iw⟩ := RO.put h3 hk hy om
 rw [sI]
 refine ⟨Ra ++ (Re ++ Rd), ?_, ?_, ?_⟩
 ·refine cD.app (cD.ext (fun j hj => mE qe (.inl om)) h1) ?_
  rw [sJ]
  simp only [cD]
  have Po : (jw row k ys).length = row.length := ky hk
  refine ⟨Re, Rd, ?_, ?_, ?_, rfl⟩
  ·have h7 : ∀ (xs ys : List X), X.gk xs = true → X.gk ys = true → X.gk (xs ++ ys) = true := by
    intro xs
    induction xs with
    | nil => intro ys _ h; exact h
    | cons x r ih => intro ys hx hy; simp only [X.gk, Bool.and_eq_true, List.cons_append] at hx ⊢; exact ⟨hx.1, ih ys hx.2 hy⟩
   have h8 : ∀ (xs : List X) (n : Nat), X.gk xs = true → X.gk (xs.take n) = true := by
    intro xs
    induction xs with
    | nil => intro n _; simp [X.gk]
    | cons x r ih =>
     intro n hx
     cases n with
     | zero => simp [X.gk]
     | succ n => simp only [X.gk, Bool.and_eq_true, List.take_succ_cons] at hx ⊢; exact ⟨hx.1, ih n hx.2⟩
   have h9 : ∀ (xs : List X) (n : Nat), X.gk xs = true → X.gk (xs.drop n) = true := by
    intro xs
    induction xs with
    | nil => intro n _; simp [X.gk]
    | cons x r ih =>
     intro n hx
     cases n with
     | zero => simpa using hx
     | succ n => simp only [X.gk, Bool.and_eq_true, List.drop_succ_cons] at hx ⊢; exact ih n hx.2
   exact h7 _ _ (h7 _ _ (h8 _ _ rE) hn) (h9 _ _ rE)
  ·rw [Nat.add_assoc] at h5; exact h5
  ·rw [Po]
   exact cD.ext (fun j _ => mE qe (.inr om)) h4
 ·intro b hb
  simp only [List.mem_append] at hb ⊢
  rcases hb with hb | hb | hb
  ·exact .inl (.inl hb)
  ·rcases dv b hb with h' | h'
   ·exact .inl (.inr (.inl h'))
   ·exact .inr h'
  ·exact .inl (.inr (.inr hb))
 ·intro mF
  simp only [List.nodup_append, List.mem_append] at mF iw ⊢
  obtain ⟨⟨ha, ⟨nN, hd, DH⟩, DI⟩, K0, hx⟩ := mF
  have Pp := iw ⟨nN, K0, fun a vd b hb => hx a (.inr (.inl vd)) b hb⟩
  refine ⟨ha, ⟨Pp, hd, ?_⟩, ?_⟩
  ·intro a vd b hb
   rcases dv a vd with h' | h'
   ·exact DH a h' b hb
   ·intro e; subst e; exact hx a (.inr (.inr hb)) a h' rfl
  ·intro a vd b hb
   rcases hb with hb | hb
   ·rcases dv b hb with h' | h'
    ·exact DI a vd b (.inl h')
    ·exact hx a (.inl vd) b h'
   ·exact DI a vd b (.inr hb)

theorem cu.set {s i : Nat} {rs : List (List X)} {row : List X} (hu : cu s rs) (h : row.length = s) : cu s (rs.set i row) := by
 intro r hr
 rcases List.mem_or_eq_of_mem_set hr with h' | h'
 ·exact hu r h'
 ·rw [h']; exact h

end
end Go.AW
/- Part of the abstract walk: operations that make or write memory. -/
namespace Go.AW
open Go

def X.rH : List X → Bool
 | [] => true
 | x :: r => x.one && X.rH r

theorem wG : ∀ (z : List Value), X.bC (z.map X.v) = true
 | [] => rfl
 | _ :: r => by simp [X.bC, X.free, wG r]
theorem yQ : ∀ (z : List Value), X.gk (z.map X.v) = true
 | [] => rfl
 | _ :: r => by simp [X.gk, X.nr, yQ r]
theorem rW {E : Env} : ∀ {z : List Value}, X.rH (z.map X.v) = true → bz E (z.map X.v) z []
 | [], _ => by simp [bz]
 | c :: r, h => by
  simp only [List.map_cons, X.rH, Bool.and_eq_true] at h
  simp only [List.map_cons, bz]
  have hx : RX E (X.v c) c [] := by simp [RX]
  exact ⟨c, r, [], [], rfl, hx.one h.1, hx, rW h.2, rfl⟩

theorem bz.nu {E : Env} : ∀ {xs : List X} {vs : List Value} {R : List Nat}, bz E xs vs R → ∀ v ∈ vs, v.oneCell' = true
 | [], _, _, h, v, hv => by simp only [bz] at h; rw [h.1] at hv; cases hv
 | x :: r, _, _, h, v, hv => by
  simp only [bz] at h
  obtain ⟨c, dg, R₁, R₂, rfl, hs, _, h2, _⟩ := h
  rcases List.mem_cons.1 hv with h' | h'
  ·subst h'; cases v <;> first | rfl | exact hs.elim
  ·exact bz.nu h2 v h'

def Sh (N : eC) (st aR : St) : Prop := ∀ G : Ctx, G.fn = N → ∀ a w, ct G st a w → ct G aR a w

section
variable {P : Program} {N : eC} {st aR : St} {Q : Exit → St → Prop} {all : Array Oper} {rest : List Oper} {d : Nat} {ty : TypeId} {pos : String} {af : Array Edge}

theorem aL.sh (h : Sh N st aR) (k : aL P N all rest aR Q) : aL P N all rest st Q := fun G hn a w hh => k G hn a w (h G hn a w hh)
theorem dn.sh {c : Code} (h : Sh N st aR) (k : dn P N c aR Q) : dn P N c st Q := fun G hn a w hh => k G hn a w (h G hn a w hh)

theorem aL.yR {op : Op} (h : ∀ (G : Ctx) (E : Env) (RR : Own → List Nat) (a : Act), G.fn = N → Inv G E RR st a →
   ∃ u E' eU, (execOp a.eval ⟨some d, op, ty, pos, af, none⟩).run P E.w = .ok (.value u) E'.w ∧ Inv G E' eU aR (a.put (some d) u))
  (k : aL P N all rest aR Q) : aL P N all (⟨some d, op, ty, pos, af, none⟩ :: rest) st Q := by
 intro G hn a w hh
 obtain ⟨E, RR, rfl, hi⟩ := hh
 obtain ⟨u, E', eU, hr, gQ⟩ := h G E RR a hn hi
 refine wpList_plain rfl fun K hK => ?_
 simp only [Oper.wp, hr, Oper.upon_value]
 exact hK _ _ (k G hn _ _ ⟨E', eU, rfl, gQ⟩)

theorem aL.DJ {op : Op} (h : ∀ (G : Ctx) (E : Env) (RR : Own → List Nat) (a : Act), G.fn = N → Inv G E RR st a →
   ∃ E' eU, (execOp a.eval ⟨none, op, ty, pos, af, none⟩).run P E.w = .ok .skip E'.w ∧ Inv G E' eU aR a)
  (k : aL P N all rest aR Q) : aL P N all (⟨none, op, ty, pos, af, none⟩ :: rest) st Q := by
 intro G hn a w hh
 obtain ⟨E, RR, rfl, hi⟩ := hh
 obtain ⟨E', eU, hr, gQ⟩ := h G E RR a hn hi
 refine wpList_plain rfl fun K hK => ?_
 simp only [Oper.wp, hr, Oper.upon_skip]
 exact hK _ _ (k G hn _ _ ⟨E', eU, rfl, gQ⟩)

theorem TY.j6 {t : TypeId} {z : List Value} (h : TY.zero P t = some z) : ∃ i z0, P.info? t = some i ∧ i.zero = some z0 ∧ z0.cells.toList = z := by
 unfold TY.zero at h
 cases hi : P.info? t with
 | none => simp [hi] at h
 | some i =>
  rw [hi] at h
  simp only [Option.bind_some] at h
  cases hz : i.zero with
  | none => simp [hz] at h
  | some z0 =>
   rw [hz] at h
   simp only [Option.map_some, Option.some.injEq] at h
   exact ⟨i, z0, rfl, hz, h⟩

def Env.withVar (E : Env) (o : Nat) (cs : Array Value) (t : TypeId) : Env :=
 {E with w := E.w.alloc (.cells cs t), β := fun q => if q = o then some ⟨E.w.heap.size, 0, 0⟩ else E.β q }

theorem heap_alloc (w : World) (o : Go.Obj) : (w.alloc o).heap[w.heap.size]? = some o := by
 show (w.heap.push o)[w.heap.size]? = _
 simp

theorem Inv.newVar {G : Ctx} {E : Env} {RR : Own → List Nat} {a : Act} (hi : Inv G E RR st a) {o : Nat} {ys : List X} {vs : List Value} {t : TypeId} (hF : G.fn.F.elem o = false) (hy : bz E ys vs []) (hf : X.bC ys = true) (hm : X.cC o ys = false) :
  ∃ eU, Inv G (E.withVar o vs.toArray t) eU ((st.kill o).ea o (.cells ys)) a := by
 refine ⟨_, hi.kR (E' := E.withVar o vs.toArray t) (T := fun _ => False) (o := o) (R := [E.w.heap.size]) ?_ (fun _ h => h.elim) (fun q hq => by simp [Env.withVar, hq]) (fun h => by rw [hF] at h; cases h) ?_ (by simp) ?_⟩
 ·exact { cW.alloc G E (.cells vs.toArray t) with φ := rfl }
 ·have ga : E.On (E.withVar o vs.toArray t) [] := ⟨fun _ _ _ h => h, fun _ h => by cases h⟩
  have AP : bz (E.withVar o vs.toArray t) ys vs [] := bz.mono ys vs [] ga (fun q hq => by
   have : q ≠ o := fun e => by subst e; rw [hm] at hq; cases hq
   simp [Env.withVar, this]) hy
  simp only [dA]
  refine ⟨hf, ⟨E.w.heap.size, 0, 0⟩, vs.toArray, t, by simp [Env.withVar], heap_alloc _ _, fun i => ?_, by simp [bz.length hy], ?_, rfl⟩
  ·show E.φ E.w.heap.size i = none
   cases h : E.φ E.w.heap.size i with
   | none => rfl
   | some v => exact absurd (World.block_lt_of_cell? E.w _ (hi.ku _ _ _ h)) (by simp)
  ·exact RO.of AP (fun j v hj => by simpa using hj)
 ·intro b hb
  simp only [List.mem_singleton] at hb
  subst hb
  refine ⟨by simp [Env.withVar], fun hK => ?_, hi.tN (.inr (Nat.le_refl _))⟩
  have := hi.small _ hK
  have := hi.size
  omega

theorem aL.alloc {t : TypeId} {z : List Value} (o : Nat) (hz : TY.zero P t = some z) (h1 : X.rH (z.map X.v) = true) (hF : N.F.elem o = false) (hd : d < N.n)
  (k : aL P N all rest (((st.kill o).ea o (.cells (z.map X.v))).put d (.ptr o 0 0 0)) Q) : aL P N all (⟨some d, .alloc t, ty, pos, af, none⟩ :: rest) st Q := by
 refine aL.yR (fun G E RR a hn hi => ?_) k
 have hm : ∀ z : List Value, X.cC o (z.map X.v) = false := by
  intro z
  induction z with
  | nil => rfl
  | cons c r ih => simp [X.cC, X.dL, ih]
 obtain ⟨eU, gQ⟩ := hi.newVar (o := o) (t := t) (by rw [hn]; exact hF) (rW h1) (wG z) (hm z)
 refine ⟨.pointer (some ⟨E.w.heap.size, 0, none⟩), _, _, ?_, gQ.gd (x := .ptr o 0 0 0) (by rw [hn]; exact hd) ?_⟩
 ·obtain ⟨i, z0, oy, yA, yB⟩ := TY.j6 hz
  show (do let x ← Instr.alloc t true (.tuple #[]); pure (Next.value x) : Sem Next).run P E.w = _
  refine dI ?_
  have tP : z0.cells = z.toArray := by rw [← yB]
  simp [Instr.alloc, zeroValue, typeInfo, oy, yA, Go.newVar, newRow, Env.withVar, tP]
 ·simp only [RX]
  exact ⟨trivial, ⟨E.w.heap.size, 0, 0⟩, by simp [Env.withVar], by simp⟩

theorem aL.box {t : TypeId} {x : Operand} {y : X} {ys : List X} (o : Nat) (hx : bR st x = some y) (hy : y.flat = some ys) (hf : X.bC ys = true) (hm : X.cC o ys = false) (hF : N.F.elem o = false) (hd : d < N.n)
  (k : aL P N all rest (((st.kill o).ea o (.cells ys)).put d (.ptr o 0 0 0)) Q) : aL P N all (⟨some d, .box t x, ty, pos, af, none⟩ :: rest) st Q := by
 refine aL.yR (fun G E RR a hn hi => ?_) k
 obtain ⟨R, xv⟩ := hi.eval hx
 have sJ := xv.flat hy
 have h0 := bz.free hf sJ
 subst h0
 obtain ⟨eU, gQ⟩ := hi.newVar (o := o) (t := t) (by rw [hn]; exact hF) sJ hf hm
 refine ⟨.pointer (some ⟨E.w.heap.size, 0, none⟩), _, _, ?_, gQ.gd (x := .ptr o 0 0 0) (by rw [hn]; exact hd) ?_⟩
 ·show (do let z ← Instr.box t (a.eval x); pure (Next.value z) : Sem Next).run P E.w = _
  refine dI ?_
  simp [Instr.box, Go.newVar, newRow, Env.withVar]
 ·simp only [RX]
  exact ⟨trivial, ⟨E.w.heap.size, 0, 0⟩, by simp [Env.withVar], by simp⟩

end
end Go.AW
/- Part of the abstract walk: structs, arrays and slices that are built. -/
namespace Go.AW
open Go

section
variable {E : Env}

theorem bz.app : ∀ {xs ys : List X} {cs ds : List Value} {R₁ R₂ : List Nat}, bz E xs cs R₁ → bz E ys ds R₂ → bz E (xs ++ ys) (cs ++ ds) (R₁ ++ R₂)
 | [], _, _, _, _, _, h, h' => by simp only [bz] at h; obtain ⟨rfl, rfl⟩ := h; simpa using h'
 | x :: r, ys, cs, ds, R₁, R₂, h, h' => by
  simp only [bz] at h
  obtain ⟨c, dg, R₃, R₄, rfl, hs, h1, h2, rfl⟩ := h
  simp only [List.cons_append, bz]
  exact ⟨c, dg ++ ds, R₃, R₄ ++ R₂, rfl, hs, h1, bz.app h2 h', by simp⟩

theorem bz.GS {xs : List X} {cs : List Value} (k : Nat) (h : bz E xs cs []) : bz E (xs.take k) (cs.take k) [] := by
 induction xs generalizing cs k with
 | nil => simp only [bz] at h; simp [bz, h.1]
 | cons x r ih =>
  simp only [bz] at h
  obtain ⟨c, dg, R₁, R₂, rfl, hs, h1, h2, hR⟩ := h
  have DK := List.append_eq_nil_iff.1 hR.symm
  obtain ⟨rfl, rfl⟩ := DK
  cases k with
  | zero => simp [bz]
  | succ k => simp only [List.take_succ_cons, bz]; exact ⟨c, _, [], [], rfl, hs, h1, ih k h2, rfl⟩

theorem bz.GU {xs : List X} {cs : List Value} (k : Nat) (h : bz E xs cs []) : bz E (xs.drop k) (cs.drop k) [] := by
 induction xs generalizing cs k with
 | nil => simp only [bz] at h; simp [bz, h.1]
 | cons x r ih =>
  have h' := h
  simp only [bz] at h
  obtain ⟨c, dg, R₁, R₂, rfl, hs, h1, h2, hR⟩ := h
  have DK := List.append_eq_nil_iff.1 hR.symm
  obtain ⟨rfl, rfl⟩ := DK
  cases k with
  | zero => exact h'
  | succ k => simp only [List.drop_succ_cons]; exact ih k h2

theorem bz.gd {xs ys : List X} {cs vs : List Value} {k : Nat} (h : bz E xs cs []) (h' : bz E ys vs []) : bz E (jw xs k ys) (jw cs k vs) [] := by
 unfold jw
 rw [← bz.length h']
 have := bz.app (bz.app (bz.GS k h) h') (bz.GU (k + vs.length) h)
 simpa using this
end

def rX (place : Nat → Option (Nat × Nat)) (cells : List X) : List (Nat × X) → Option (List X)
 | [] => some cells
 | (i, x) :: rest =>
  match place i, x.flat with
  | some (off, size), some ys => bif Nat.beq ys.length size && Nat.ble (off + size) cells.length then rX place (jw cells off ys) rest else none
  | _, _ => none

def nQ (st : St) : List (Nat × Operand) → Option (List (Nat × X))
 | [] => some []
 | (i, x) :: r => match bR st x, nQ st r with
  | some y, some l => bif y.free then some ((i, y) :: l) else none
  | _, _ => none

theorem rY (off : Nat) : ∀ (l : List Value) (k : Nat) (cs : Array Value), ((l.zipIdx k).foldl (fun cs (p : Value × Nat) => cs.setIfInBounds (off + p.2) p.1) cs).size = cs.size ∧
  ∀ j, ((l.zipIdx k).foldl (fun cs (p : Value × Nat) => cs.setIfInBounds (off + p.2) p.1) cs)[j]? = if off + k ≤ j ∧ j < off + k + l.length ∧ j < cs.size then l[j - off - k]? else cs[j]?
 | [], k, cs => by
  refine ⟨rfl, fun j => ?_⟩
  rw [if_neg (by simp; omega)]
  rfl
 | v :: r, k, cs => by
  obtain ⟨h1, h2⟩ := rY off r (k + 1) (cs.setIfInBounds (off + k) v)
  simp only [List.zipIdx_cons, List.foldl_cons]
  refine ⟨by rw [h1]; simp, fun j => ?_⟩
  rw [h2 j]
  simp only [Array.size_setIfInBounds, List.length_cons]
  by_cases hj : off + (k + 1) ≤ j ∧ j < off + (k + 1) + r.length ∧ j < cs.size
  ·rw [if_pos hj, if_pos om, show j - off - k = (j - off - (k + 1)) + 1 by omega]
   simp
  ·rw [if_neg hj]
   by_cases rZ : j = off + k
   ·subst rZ
    by_cases iv : off + k < cs.size
    ·rw [if_pos om, show off + k - off - k = 0 by omega]
     simp [Array.getElem?_setIfInBounds_self_of_lt iv]
    ·rw [if_neg om]
     simp [iv]
   ·rw [if_neg om, Array.getElem?_setIfInBounds_ne om]

theorem ve (off : Nat) (v cs : Array Value) (h : off + v.size ≤ cs.size) : (v.zipIdx.foldl (fun cs (p : Value × Nat) => cs.setIfInBounds (off + p.2) p.1) cs).toList = jw cs.toList off v.toList := by
 have hf : v.zipIdx.foldl (fun cs (p : Value × Nat) => cs.setIfInBounds (off + p.2) p.1) cs = (v.toList.zipIdx 0).foldl (fun cs (p : Value × Nat) => cs.setIfInBounds (off + p.2) p.1) cs := by
  rw [← Array.foldl_toList, Array.toList_zipIdx]
 rw [hf]
 obtain ⟨h1, h2⟩ := rY off v.toList 0 cs
 apply List.ext_getElem?
 intro j
 rw [Array.getElem?_toList, h2 j]
 have GV : v.toList.length = v.size := by simp
 simp only [Nat.add_zero, Nat.sub_zero, GV, jw, List.append_assoc]
 have hl : (List.take off cs.toList).length = off := by simp; omega
 by_cases hj : j < off
 ·rw [if_neg om, List.getElem?_append_left om, List.getElem?_take_of_lt hj]; simp
 ·by_cases DL : j < off + v.size
  ·rw [if_pos om, List.getElem?_append_right om, hl, List.getElem?_append_left om]
  ·rw [if_neg om, List.getElem?_append_right om, List.getElem?_append_right om, hl, List.getElem?_drop]
   have : off + v.size + (j - off - v.toList.length) = j := by omega
   rw [this]; simp

section
variable {P : Program} {N : eC} {G : Ctx} {E : Env} {RR : Own → List Nat} {st : St} {a : Act}

theorem pf (hi : Inv G E RR st a) (place : Nat → Option (Nat × Nat)) : ∀ (parts : List (Nat × Operand)) (xs : List X) (cs : Array Value) (yC : List (Nat × X)) (ys : List X), bz E xs cs.toList [] → nQ st parts = some yC →
  rX place xs yC = some ys → ∃ dg, Instr.fill place cs (parts.map fun p => (p.1, a.eval p.2)) = some dg ∧ bz E ys dg.toList []
 | [], xs, cs, yC, ys, h, hp, hf => by
  simp only [nQ, Option.some.injEq] at hp
  subst hp
  simp only [rX, Option.some.injEq] at hf
  subst hf
  exact ⟨cs, rfl, h⟩
 | (i, x) :: r, xs, cs, yC, ys, h, hp, hf => by
  simp only [nQ] at hp
  cases hx : bR st x with
  | none => simp [hx] at hp
  | some y =>
   cases hr : nQ st r with
   | none => simp [hx, hr] at hp
   | some l =>
    rw [hx, hr] at hp
    simp only at hp
    cases kT : y.free with
    | false => simp [kT] at hp
    | true =>
     rw [kT] at hp
     simp only [cond_true, Option.some.injEq] at hp
     subst hp
     simp only [rX] at hf
     cases AR : place i with
     | none => simp [AR] at hf
     | some os =>
      obtain ⟨off, size⟩ := os
      cases sJ : y.flat with
      | none => simp [AR, sJ] at hf
      | some zs =>
       rw [AR, sJ] at hf
       simp only at hf
       cases hb : Nat.beq zs.length size && Nat.ble (off + size) xs.length with
       | false => simp [hb] at hf
       | true =>
        rw [hb] at hf
        simp only [cond_true] at hf
        simp only [Bool.and_eq_true] at hb
        have fe : zs.length = size := Nat.eq_of_beq_eq_true hb.1
        have hle : off + size ≤ xs.length := Nat.le_of_ble_eq_true hb.2
        obtain ⟨R, hv⟩ := hi.eval hx
        have h0 := RX.free kT hv
        subst h0
        have uS := hv.flat sJ
        have Bm : (a.eval x).cells.size = size := by have := bz.length uS; simp at this; omega
        have rI : cs.size = xs.length := by have := bz.length h; simpa using this
        have vf := bz.gd (k := off) h uS
        have GW := ve off (a.eval x).cells cs om
        obtain ⟨dg, sK, tM⟩ := pf hi place r (jw xs off zs) ((a.eval x).cells.zipIdx.foldl (fun cs (p : Value × Nat) => cs.setIfInBounds (off + p.2) p.1) cs) l ys (by rw [GW]; exact vf) hr hf
        refine ⟨dg, ?_, tM⟩
        simp only [List.map_cons, Instr.fill, AR, Bm]
        rw [if_neg (by simp; omega)]
        exact sK

def TY.l7 (P : Program) (t : TypeId) : Option (List (Nat × Nat)) :=
 match P.underlying t with
 | some (.struct fs) => fs.toList.mapM fun f => (P.info? f.type).map fun i => (f.offset, i.size)
 | _ => none

theorem tQ {fs : List Field} {pl : List (Nat × Nat)} (h : (fs.mapM fun f => (P.info? f.type).map fun i => (f.offset, i.size)) = some pl) (w : World) :
  (fs.mapM fun f => (do pure (f.offset, ← sizeOf f.type) : Sem (Nat × Nat))).run P w = .ok pl w := by
 induction fs generalizing pl with
 | nil => simp at h; subst h; rfl
 | cons f r ih =>
  rw [List.mapM_cons] at h
  cases hf : P.info? f.type with
  | none => simp [hf] at h
  | some i =>
   rw [hf] at h
   cases hr : (r.mapM fun f => (P.info? f.type).map fun i => (f.offset, i.size)) with
   | none => simp [hr] at h
   | some l =>
    rw [hr] at h
    simp at h
    subst h
    rw [List.mapM_cons]
    simp only [Sem.run_bind, run_sizeOf hf, Result.andThen_ok, Sem.run_pure, ih hr]

theorem Y.build {dst : Option Nat} {ty : TypeId} {pos : String} {af : Array Edge} {g : Option (Nat × Bool)} {t : TypeId} {parts : Array (Nat × Operand)} {pl : List (Nat × Nat)} {z : List Value} {yC : List (Nat × X)} {ys : List X}
  (hp : TY.l7 P t = some pl) (hz : TY.zero P t = some z) (h1 : X.rH (z.map X.v) = true) (hx : nQ st parts.toList = some yC) (hf : rX (pl[·]?) (z.map X.v) yC = some ys) :
  Yields P N st ⟨dst, .build t parts, ty, pos, af, g⟩ (.agg ys) := by
 intro G E RR a _ hi
 obtain ⟨i, z0, oy, yA, yB⟩ := TY.j6 hz
 have tP : z0.cells = z.toArray := by rw [← yB]
 have fh : bz E (z.map X.v) z0.cells.toList [] := by rw [yB]; exact rW h1
 obtain ⟨dg, sK, tM⟩ := pf hi (pl[·]?) parts.toList _ z0.cells yC ys fh hx hf
 refine ⟨.agg dg, ?_, by simp only [RX]; exact ⟨dg, rfl, tM⟩⟩
 show (do let v ← Instr.build t (parts.map fun (i, x) => (i, a.eval x)); Pure.pure (Next.value v) : Sem Next).run P E.w = _
 refine dI ?_
 unfold TY.l7 at hp
 cases hu : P.underlying t with
 | none => simp [hu] at hp
 | some d =>
  cases d with
  | struct fs =>
   rw [hu] at hp
   simp only at hp
   have hm := tQ hp E.w
   have GX : (fs.mapM fun f => (do Pure.pure (f.offset, ← sizeOf f.type) : Sem (Nat × Nat))).run P E.w = .ok pl.toArray E.w := by
    rw [Array.mapM_eq_mapM_toList]
    simp only [Sem.run_map, hm]
    rfl
   have AR : (fun (i : Nat) => pl.toArray[i]?) = fun i => pl[i]? := by funext i; simp
   have JL : (parts.map fun (i, x) => (i, a.eval x)).toList = parts.toList.map fun p => (p.1, a.eval p.2) := by simp
   simp only [Instr.build, Sem.run_bind, zeroValue, typeInfo, run_program, oy, yA, Result.andThen_ok, Sem.run_pure, run_underlying hu, GX, AR, JL, sK]
  | _ => simp [hu] at hp

end
end Go.AW
/- Part of the abstract walk: arrays by value, slices that are made. -/
namespace Go.AW
open Go

section
variable {P : Program} {N : eC} {st : St} {Q : Exit → St → Prop} {all : Array Oper} {rest : List Oper} {d : Nat} {ty : TypeId} {pos : String} {af : Array Edge}

theorem cD.vg {E : Env} {s : Nat} {cs : Array Value} : ∀ {rs : List (List X)} {off : Nat}, cu s rs →
  (∀ i row, rs[i]? = some row → X.gk row = true ∧ RO E row cs (off + i * s) []) → cD E rs cs off []
 | [], _, _, _ => by simp [cD]
 | r :: rs, off, hu, h => by
  simp only [cD]
  have h0 := h 0 r rfl
  refine ⟨[], [], h0.1, by simpa using h0.2, ?_, rfl⟩
  rw [hu r (by simp)]
  refine cD.vg (fun q hq => hu q (by simp [hq])) fun i row hr => ?_
  have := h (i + 1) row (by simpa using hr)
  rw [show off + s + i * s = off + (i + 1) * s by rw [Nat.add_mul]; omega]
  exact this

theorem bz.DM {E : Env} {xs : List X} {vs : List Value} {cs : Array Value} {off : Nat} {R : List Nat} (h : bz E xs vs R) (hv : ∀ j, j < xs.length → cs[off + j]? = vs[j]?) : RO E xs cs off R :=
 RO.of h fun j v hj => by
  have pO : j < xs.length := by
   rw [← bz.length h]
   rcases Nat.lt_or_ge j vs.length with h' | h'
   ·exact h'
   ·simp [List.getElem?_eq_none h'] at hj
  rw [hv j pO]; exact hj

theorem Inv.newRow {G : Ctx} {E : Env} {RR : Own → List Nat} {a : Act} (hi : Inv G E RR st a) {cs : Array Value} {e : TypeId} {s cap : Nat} {rows : List (List X)} (hu : cu s rows) (hl : rows.length ≤ cap) (hc : cap * s ≤ cs.size)
  (hr : cD { E with w := E.w.alloc (.cells cs e) } rows cs 0 []) (hd : d < G.fn.n) :
  ∃ eU, Inv G { E with w := E.w.alloc (.cells cs e) } eU (st.put d (.ep s rows)) (a.put (some d) (.slice (some ⟨E.w.heap.size, 0, none⟩) rows.length cap)) := by
 have gQ := hi.wD (cW.alloc G E (.cells cs e)) rfl
 refine ⟨_, gQ.put (R := [E.w.heap.size]) hd ?_ (by simp) ?_⟩
 ·simp only [RX]
  refine ⟨hu, _, _, rfl, .inr ⟨E.w.heap.size, 0, cs, e, [], rfl, heap_alloc _ _, hl, om, fun i => ?_, hr, rfl⟩⟩
  show E.φ E.w.heap.size i = none
  cases h : E.φ E.w.heap.size i with
  | none => rfl
  | some v => exact absurd (World.block_lt_of_cell? E.w _ (hi.ku _ _ _ h)) (by simp)
 ·intro b hb
  simp only [List.mem_singleton] at hb
  subst hb
  refine ⟨by simp, fun hK => ?_, fun p _ hb => ?_⟩
  ·have := hi.small _ hK
   have := hi.size
   omega
  ·exact absurd (hi.own p _ hb).1 (by simp)

theorem yS {i k s : Nat} (hk : k < s) : (i * s + k) % s = k := by
 rw [Nat.mul_comm, Nat.mul_add_mod, Nat.mod_eq_of_lt hk]

theorem aL.makeSlice {t e s cZ n : Nat} {l c : Operand} {k k' : IntKind} {z : List Value} (ht : TY.slice P t = some (e, s, cZ)) (hz : TY.zero P e = some z) (qp : z.length = s) (h1 : X.rH (z.map X.v) = true)
  (hl : bR st l = some (.v (.int k (n : Int)))) (hc : bR st c = some (.v (.int k' (n : Int)))) (hb : cZ * n ≤ 281474976710656) (Pq : n ≤ 9223372036854775807) (hd : d < N.n)
  (kk : aL P N all rest (st.put d (.ep s (List.replicate n (z.map X.v)))) Q) : aL P N all (⟨some d, .makeSlice t l c, ty, pos, af, none⟩ :: rest) st Q := by
 refine aL.yR (fun G E RR a hn hi => ?_) kk
 obtain ⟨hu, i, ij, hs, CJ⟩ := TY.et ht
 obtain ⟨i', z0, oy, yA, yB⟩ := TY.j6 hz
 rw [ij] at oy
 obtain rfl := Option.some.inj oy
 have tP : z0.cells = z.toArray := by rw [← yB]
 have g7 := run_make (P := P) E.w t e i z0 hu ij yA k k' (n : Int) (n : Int) om om (by rw [CJ]; have := Int.ofNat_le.2 hb; rw [Int.natCast_mul] at this; exact this) om
 simp only [Int.toNat_natCast, hs, tP] at g7
 have fe := size_madeCells z.toArray (n * s)
 have hU : cu s (List.replicate n (z.map X.v)) := by
  intro r hr
  rw [(List.mem_replicate.1 hr).2]; simpa using qp
 obtain ⟨eU, gQ⟩ := hi.newRow (cs := madeCells z.toArray (n * s)) (e := e) (s := s) (cap := n) (d := d) hU (Nat.le_of_eq List.length_replicate) (by rw [fe]; exact Nat.le_refl _) (by
  refine cD.vg hU fun j row hr => ?_
  have hj : j < n := by
   rcases Nat.lt_or_ge j n with h' | h'
   ·exact h'
   ·rw [List.getElem?_eq_none (by rw [List.length_replicate]; exact h')] at hr; cases hr
  have : row = z.map X.v := by
   have := List.mem_of_getElem? hr
   exact (List.mem_replicate.1 this).2
  subst this
  refine ⟨yQ z, bz.DM (rW h1) fun q hq => ?_⟩
  have xw : q < s := by simpa [qp] using hq
  have iv : j * s + q < n * s := by
   have : (j + 1) * s ≤ n * s := Nat.mul_le_mul_right s hj
   rw [Nat.add_mul] at this; omega
  have DN : q < z.length := by omega
  simp only [Nat.zero_add, madeCells]
  rw [Array.getElem?_map, Array.getElem?_range, if_pos iv]
  simp only [Option.map_some, List.size_toArray, qp, yS xw]
  rw [List.getElem?_eq_getElem DN]
  simp [DN]) (by rw [hn]; exact hd)
 simp only [List.length_replicate] at gQ
 refine ⟨_, _, _, ?_, gQ⟩
 show (do let v ← Instr.makeSlice t (a.eval l) (a.eval c); Pure.pure (Next.value v) : Sem Next).run P E.w = _
 rw [hi.val hl, hi.val hc]
 exact dI g7

theorem aL.buildSlice {t e s cZ len : Nat} {parts : Array (Nat × Operand)} {z : List Value} {yC : List (Nat × X)} {flat : List X} (rows : List (List X)) (ht : TY.slice P t = some (e, s, cZ)) (hz : TY.zero P e = some z) (qp : Nat.beq z.length s = true)
  (h1 : X.rH (z.map X.v) = true) (hx : nQ st parts.toList = some yC) (hf : rX (fun i => some (i * s, s)) ((List.replicate len (z.map X.v)).flatten) yC = some flat) (hr : rows.flatten = flat) (hU : cu s rows) (hlen : rows.length = len)
  (rE : X.gk flat = true) (Oc : Nat.ble (len * s) 16777216 = true) (hd : d < N.n)
  (kk : aL P N all rest (st.put d (.ep s rows)) Q) : aL P N all (⟨some d, .buildSlice t len parts, ty, pos, af, none⟩ :: rest) st Q := by
 refine aL.yR (fun G E RR a hn hi => ?_) kk
 obtain ⟨hu, i, ij, hs, CJ⟩ := TY.et ht
 obtain ⟨i', z0, oy, yA, yB⟩ := TY.j6 hz
 rw [ij] at oy
 obtain rfl := Option.some.inj oy
 have tP : z0.cells = z.toArray := by rw [← yB]
 have DO : z.length = s := Nat.eq_of_beq_eq_true qp
 let z1 : Array Value := (Array.range (len * s)).map fun i => z.toArray[i % z.toArray.size]!
 have K3 : z1.toList = (List.replicate len z).flatten := by
  apply List.ext_getElem?
  intro j
  have Pr : ((List.replicate len z).flatten).length = len * s := by simp [DO]
  by_cases hj : j < len * s
  ·have JM : 0 < s := by
    rcases Nat.eq_zero_or_pos s with h' | h'
    ·subst h'; simp at hj
    ·exact h'
   have hq : j % s < s := Nat.mod_lt _ JM
   have R3 : j / s < len := by rw [Nat.div_lt_iff_lt_mul JM]; exact hj
   have h2 : ((List.replicate len z).flatten)[j]? = z[j % s]? := by
    have : ∀ (n j : Nat), j < n * s → ((List.replicate n z).flatten)[j]? = z[j % s]? := by
     intro n
     induction n with
     | zero => intro j hj; simp at hj
     | succ n ih =>
      intro j hj
      rw [List.replicate_succ, List.flatten_cons]
      by_cases FZ : j < s
      ·rw [List.getElem?_append_left om, Nat.mod_eq_of_lt FZ]
      ·rw [List.getElem?_append_right om, DO, ih (j - s) (by rw [Nat.add_mul] at hj; omega)]
       rw [Nat.mod_eq_sub_mod (by omega : j ≥ s)]
    exact this len j hj
   rw [h2]
   have DN : j % s < z.length := by omega
   have Od : z[j % s]? = some z[j % s] := List.getElem?_eq_getElem DN
   simp [z1, hj, DO, Od]
  ·have e1 : ((List.replicate len z).flatten)[j]? = none := List.getElem?_eq_none (by rw [Pr]; omega)
   have e2 : z1.toList[j]? = none := List.getElem?_eq_none (by rw [Array.length_toList]; simp only [z1, Array.size_map, Array.size_range]; omega)
   rw [e1, e2]
 have Ps : bz E ((List.replicate len (z.map X.v)).flatten) z1.toList [] := by
  rw [K3]
  clear hf K3 z1 hlen Oc
  induction len with
  | zero => simp [bz]
  | succ n ih => rw [List.replicate_succ, List.flatten_cons, List.replicate_succ, List.flatten_cons]; exact bz.app (rW h1) ih
 obtain ⟨dg, sK, tM⟩ := pf hi (fun i => some (i * s, s)) parts.toList _ z1 yC flat Ps hx hf
 have sJ : flat.length = len * s := by rw [← hr, length_flatten hU, hlen]
 have Pt : dg.size = len * s := by have := bz.length tM; simp at this; omega
 obtain ⟨eU, gQ⟩ := hi.newRow (cs := dg) (e := e) (s := s) (cap := len) (d := d) hU om om (by
  have GY : bz { E with w := E.w.alloc (.cells dg e) } flat dg.toList [] := bz.mono (E := E) _ _ _ ⟨fun _ _ _ h => h, fun _ h => by cases h⟩ (fun _ _ => rfl) tM
  have rJ : RO { E with w := E.w.alloc (.cells dg e) } flat dg 0 [] := RO.of GY fun j v hj => by simpa using hj
  rw [← hr] at rJ rE
  clear hr sK tM GY sJ hf hlen
  have key : ∀ (rs : List (List X)) (off : Nat), X.gk rs.flatten = true → RO { E with w := E.w.alloc (.cells dg e) } rs.flatten dg off [] → cD { E with w := E.w.alloc (.cells dg e) } rs dg off [] := by
   intro rs
   induction rs with
   | nil => intro off _ _; simp [cD]
   | cons r rs ih =>
    intro off hn h
    rw [List.flatten_cons] at h hn
    obtain ⟨R₁, R₂, h1, h2, hR⟩ := RO.oz h
    have DK := List.append_eq_nil_iff.1 hR.symm
    obtain ⟨rfl, rfl⟩ := DK
    have Pu : ∀ (xs ys : List X), X.gk (xs ++ ys) = true → X.gk xs = true ∧ X.gk ys = true := by
     intro xs
     induction xs with
     | nil => intro ys h; exact ⟨rfl, h⟩
     | cons x r ih => intro ys h; simp only [List.cons_append, X.gk, Bool.and_eq_true] at h ⊢; exact ⟨⟨h.1, (ih ys h.2).1⟩, (ih ys h.2).2⟩
    obtain ⟨DP, K4⟩ := Pu _ _ hn
    simp only [cD]
    exact ⟨[], [], DP, h1, ih _ K4 h2, rfl⟩
  exact key rows 0 rE rJ) (by rw [hn]; exact hd)
 rw [hlen] at gQ
 refine ⟨_, _, _, ?_, gQ⟩
 show (do let v ← Instr.buildSlice t len (parts.map fun (i, x) => (i, a.eval x)); Pure.pure (Next.value v) : Sem Next).run P E.w = _
 refine dI ?_
 have JL : (parts.map fun (i, x) => (i, a.eval x)).toList = parts.toList.map fun p => (p.1, a.eval p.2) := by simp
 have K5 : ¬ (len * s > 2 ^ 24) := by have := Nat.le_of_ble_eq_true Oc; simp; omega
 by_cases h0 : len * s = 0
 ·have K6 : z1 = (Array.range (len * s)).map (fun i => (#[] : Array Value)[i % (#[] : Array Value).size]!) := by simp [z1, h0]
  have tR : ¬ ((0 : Nat) > 2 ^ 24) := by decide
  rw [K6, h0] at sK
  simp only [Instr.buildSlice, Sem.run_bind, run_underlying hu, Result.andThen_ok, run_sizeOf ij, hs, h0, tR, if_false, if_true, Sem.run_pure, JL, sK, Go.newRow, run_newObj_alloc]
 ·simp only [z1] at sK
  simp only [Instr.buildSlice, Sem.run_bind, run_underlying hu, Result.andThen_ok, run_sizeOf ij, hs, K5, if_false, h0, zeroValue, typeInfo, run_program, ij, yA, Sem.run_pure, tP, JL, sK, Go.newRow, run_newObj_alloc]

end
end Go.AW
/- Part of the abstract walk: stores, and what wD between a9 and objects. -/
namespace Go.AW
open Go

def TY.size (P : Program) (t : TypeId) : Option Nat := (P.info? t).map (·.size)

section
variable {P : Program} {N : eC} {st : St} {Q : Exit → St → Prop} {all : Array Oper} {rest : List Oper} {d : Nat} {ty : TypeId} {pos : String} {af : Array Edge}

theorem mG {t : TypeId} {m b off : Nat} {v : Value} {cs : Array Value} {tb : TypeId} {w : World} (ht : TY.size P t = some m) (hm : v.cells.size = m) (hw : w.heap[b]? = some (.cells cs tb (0, 0))) (qe : off + m ≤ cs.size)
  (h1 : ∀ u ∈ v.cells.toList, u.oneCell' = true) : (Instr.storeAt t (.pointer (some ⟨b, off, none⟩)) v).run P w = .ok () (w.setRow b (jF cs off v.cells.toList)) := by
 unfold TY.size at ht
 cases hi : P.info? t with
 | none => simp [hi] at ht
 | some i =>
  rw [hi] at ht
  simp only [Option.map_some, Option.some.injEq] at ht
  have yT := run_storeCells_at P b off tb v.cells.toList 0 cs w hw (by simp; omega) h1
  simp only [Nat.add_zero] at yT
  simp only [Instr.storeAt, Instr.sureAddr, storeVar, Sem.run_bind, Sem.run_pure, Result.andThen_ok, run_sizeOf hi, ht, hm, ne_eq, not_true_eq_false, if_false]
  exact yT

theorem Inv.rK {G : Ctx} {E : Env} {RR : Own → List Nat} {a : Act} (hi : Inv G E RR st a) {p : Own} {b : Nat} (h : b ∈ RR p) : ¬ G.K b := (hi.own p b h).2

theorem aL.aj {t : TypeId} {x y : Operand} {o s k m : Nat} {v : X} {ys xs : List X} (ht : TY.size P t = some m) (hx : bR st x = some (.ptr o s 0 k)) (hy : bR st y = some v) (sJ : v.flat = some ys) (hf : X.bC ys = true) (hm : ys.length = m)
  (ho : look st.aA o = some (.cells xs)) (hk : k + m ≤ xs.length) (Bo : X.bC (jw xs k ys) = true) (kk : aL P N all rest (st.ea o (.cells (jw xs k ys))) Q) :
  aL P N all (⟨none, .store t x y, ty, pos, af, none⟩ :: rest) st Q := by
 refine aL.DJ (fun G E RR a hn hi => ?_) kk
 obtain ⟨R, hv⟩ := hi.eval hy
 have uS := hv.flat sJ
 have h0 := bz.free hf uS
 subst h0
 obtain ⟨R', hp⟩ := hi.eval hx
 simp only [RX] at hp
 obtain ⟨_, B, hB, hc⟩ := hp
 simp only [Nat.zero_mul, Nat.zero_add] at hc
 have cA := hi.aA o _ ho
 simp only [dA] at cA
 obtain ⟨qo, B', cs, tb, gT, hw, hφ, hlen, jh, gN⟩ := cA
 rw [hB] at gT
 obtain rfl := Option.some.inj gT
 have yD := bz.length uS
 have fe : (a.eval y).cells.size = m := by simp at yD; omega
 have g7 := mG (P := P) (off := B.off + k) ht fe hw om (bz.nu uS)
 have mH : B.b ∈ RR (.obj o) := by rw [gN]; simp
 have AS := cW.setRow G E B.b (jF cs (B.off + k) (a.eval y).cells.toList) hφ (hi.rK mH)
 have ga : E.On { E with w := E.w.setRow B.b (jF cs (B.off + k) (a.eval y).cells.toList) } [] := ⟨fun _ _ _ h => h, fun _ h => by cases h⟩
 have yU := bz.mono _ _ _ ga (fun _ _ => rfl) uS
 have yV := RO.mono _ _ _ _ ga (fun _ _ => rfl) jh
 obtain ⟨R₁, vf, dv, _⟩ := RO.put (k := k) yV om yU om
 have Pv : R₁ = [] := by
  cases R₁ with
  | nil => rfl
  | cons b r => rcases dv b (by simp) with h | h <;> cases h
 subst Pv
 refine ⟨_, _, ?_, hi.yP (E' := { E with w := E.w.setRow B.b (jF cs (B.off + k) (a.eval y).cells.toList) }) AS (o := o) (R := [B.b]) (fun b h => by subst h; exact mH) rfl ?_ (by simp) ?_⟩
 ·show (do Instr.storeAt t (a.eval x) (a.eval y); Pure.pure Next.skip : Sem Next).run P E.w = _
  rw [hc]
  exact yL g7
 ·simp only [dA]
  have DQ : (jw xs k ys).length = xs.length := ky om
  exact ⟨Bo, B, _, tb, hB, setRow_heap E.w B.b cs _ tb _ hw, hφ, by rw [DQ, nt (by simp at yD ⊢; omega)]; exact hlen, vf, rfl⟩
 ·intro b hb
  simp only [List.mem_singleton] at hb
  subst hb
  exact ⟨by simpa using (hi.own _ _ mH).1, hi.rK mH, hi.tN (.inl mH)⟩

theorem aL.DR {t : TypeId} {x y : Operand} {o s i k m : Nat} {v : X} {ys row : List X} {rs : List (List X)} (ht : TY.size P t = some m) (hx : bR st x = some (.ptr o s i k)) (hy : bR st y = some v) (sJ : v.flat = some ys) (hf : X.bC ys = true)
  (hn : X.gk ys = true) (hm : ys.length = m) (ho : look st.aA o = some (.rows s rs)) (hr : rs[i]? = some row) (hk : k + m ≤ row.length) (kk : aL P N all rest (st.ea o (.rows s (rs.set i (jw row k ys)))) Q) :
  aL P N all (⟨none, .store t x y, ty, pos, af, none⟩ :: rest) st Q := by
 refine aL.DJ (fun G E RR a Pw hi => ?_) kk
 obtain ⟨R, hv⟩ := hi.eval hy
 have uS := hv.flat sJ
 have h0 := bz.free hf uS
 subst h0
 obtain ⟨R', hp⟩ := hi.eval hx
 simp only [RX] at hp
 obtain ⟨_, B, hB, hc⟩ := hp
 have cA := hi.aA o _ ho
 have iw := hi.nodup (.obj o)
 simp only [dA] at cA
 obtain ⟨hu, cA⟩ := cA
 rcases cA with ⟨_, h, _⟩ | ⟨B', cs, tb, R', gT, hw, hφ, nO, hlen, jh, gN⟩
 ·subst h; simp at hr
 rw [hB] at gT
 obtain rfl := Option.some.inj gT
 have yD := bz.length uS
 have fe : (a.eval y).cells.size = m := by simp at yD; omega
 have CK : rs.length * s ≤ B.cap * s := Nat.mul_le_mul_right s nO
 have xx : i < rs.length := by
  rcases Nat.lt_or_ge i rs.length with h' | h'
  ·exact h'
  ·simp [List.getElem?_eq_none h'] at hr
 have pd : row.length = s := hu row (List.mem_of_getElem? hr)
 have JK : i * s + s ≤ rs.length * s := by
  have : (i + 1) * s ≤ rs.length * s := Nat.mul_le_mul_right s xx
  rw [Nat.add_mul] at this; omega
 have g7 := mG (P := P) (off := B.off + (i * s + k)) ht fe hw om (bz.nu uS)
 have mH : B.b ∈ RR (.obj o) := by rw [gN]; simp
 have AS := cW.setRow G E B.b (jF cs (B.off + (i * s + k)) (a.eval y).cells.toList) hφ (hi.rK mH)
 rw [gN] at iw
 have mF := List.nodup_cons.1 iw
 have ga : E.On { E with w := E.w.setRow B.b (jF cs (B.off + (i * s + k)) (a.eval y).cells.toList) } R' :=
  ⟨fun _ _ _ h => h, fun b hb => ⟨setRow_other E.w B.b b _ (fun e => mF.1 (by rw [← e]; exact hb)), fun h => h⟩⟩
 have yU := bz.mono _ _ _ (ga.sub (fun _ h => by cases h)) (fun _ _ => rfl) uS
 have yV := cD.mono _ _ _ _ ga jh
 obtain ⟨R₁, vf, dv, pg⟩ := cD.set (i := i) (k := k) hu yV hr om yU hn om
 have CL : ∀ b ∈ R₁, b ∈ R' := fun b hb => (dv b hb).resolve_right (fun h => by cases h)
 refine ⟨_, _, ?_, hi.yP (E' := { E with w := E.w.setRow B.b (jF cs (B.off + (i * s + k)) (a.eval y).cells.toList) }) AS (o := o) (R := B.b :: R₁) (fun b h => by subst h; exact mH) rfl ?_ ?_ ?_⟩
 ·show (do Instr.storeAt t (a.eval x) (a.eval y); Pure.pure Next.skip : Sem Next).run P E.w = _
  rw [hc]
  exact yL g7
 ·simp only [dA]
  refine ⟨hu.set (by rw [ky om]; exact pd), .inr ⟨B, _, tb, R₁, hB, setRow_heap E.w B.b cs _ tb _ hw, hφ, by simpa using nO, by rw [nt (by simp at yD ⊢; omega)]; exact hlen, vf, rfl⟩⟩
 ·exact List.nodup_cons.2 ⟨fun h => mF.1 (CL _ h), pg (by simpa using mF.2)⟩
 ·intro b hb
  have fV : b ∈ RR (.obj o) := by
   rw [gN]
   rcases List.mem_cons.1 hb with h | h
   ·simp [h]
   ·exact List.mem_cons.2 (.inr (CL b h))
  exact ⟨by simpa using (hi.own _ _ fV).1, hi.rK fV, hi.tN (.inl fV)⟩

theorem aL.DS {t : TypeId} {x : Operand} {o s i k Ga tv : Nat} {rows row : List (List X)} {Bp : List X} {rs : List (List X)} (ht : TY.size P t = some 1) (hx : bR st x = some (.ptr o s i k)) (hy : look st.a9 tv = some (.ep Ga rows)) (_h : row = row)
  (ho : look st.aA o = some (.rows s rs)) (hr : rs[i]? = some Bp) (hk : k + 1 ≤ Bp.length) (kk : aL P N all rest ((st.put tv .no).ea o (.rows s (rs.set i (jw Bp k [.ep Ga rows])))) Q) :
  aL P N all (⟨none, .store t x (.tmp tv), ty, pos, af, none⟩ :: rest) st Q := by
 refine aL.DJ (fun G E RR a Pw hi => ?_) kk
 have hv := hi.a9 tv _ hy
 have uS : bz E [X.ep Ga rows] (a.eval (.tmp tv)).cells.toList (RR (.slot tv)) := hv.flat rfl
 obtain ⟨R', hp⟩ := hi.eval hx
 simp only [RX] at hp
 obtain ⟨_, B, hB, hc⟩ := hp
 have cA := hi.aA o _ ho
 have iw := hi.nodup (.obj o)
 simp only [dA] at cA
 obtain ⟨hu, cA⟩ := cA
 rcases cA with ⟨_, h, _⟩ | ⟨B', cs, tb, R', gT, hw, hφ, nO, hlen, jh, gN⟩
 ·subst h; simp at hr
 rw [hB] at gT
 obtain rfl := Option.some.inj gT
 have yD := bz.length uS
 have fe : (a.eval (.tmp tv)).cells.size = 1 := by simpa using yD
 have CK : rs.length * s ≤ B.cap * s := Nat.mul_le_mul_right s nO
 have xx : i < rs.length := by
  rcases Nat.lt_or_ge i rs.length with h' | h'
  ·exact h'
  ·simp [List.getElem?_eq_none h'] at hr
 have pd : Bp.length = s := hu Bp (List.mem_of_getElem? hr)
 have JK : i * s + s ≤ rs.length * s := by
  have : (i + 1) * s ≤ rs.length * s := Nat.mul_le_mul_right s xx
  rw [Nat.add_mul] at this; omega
 have g7 := mG (P := P) (off := B.off + (i * s + k)) ht fe hw om (bz.nu uS)
 have mH : B.b ∈ RR (.obj o) := by rw [gN]; simp
 have AS := cW.setRow G E B.b (jF cs (B.off + (i * s + k)) (a.eval (.tmp tv)).cells.toList) hφ (hi.rK mH)
 rw [gN] at iw
 have mF := List.nodup_cons.1 iw
 have yW : ∀ b ∈ RR (.slot tv), b ∉ RR (.obj o) := fun b hb fV => hi.apart _ _ (by simp) b hb fV
 have ga : ∀ yX, (∀ b ∈ yX, b ≠ B.b) → E.On { E with w := E.w.setRow B.b (jF cs (B.off + (i * s + k)) (a.eval (.tmp tv)).cells.toList) } yX :=
  fun yX h => ⟨fun _ _ _ h => h, fun b hb => ⟨setRow_other E.w B.b b _ (h b hb), fun h => h⟩⟩
 have yU := bz.mono _ _ _ (ga (RR (.slot tv)) (fun b hb e => yW b hb (by rw [e]; exact mH))) (fun _ _ => rfl) uS
 have yV := cD.mono _ _ _ _ (ga R' (fun b hb e => mF.1 (by rw [← e]; exact hb))) jh
 obtain ⟨R₁, vf, dv, pg⟩ := cD.set (i := i) (k := k) hu yV hr (by simpa using hk) yU rfl om
 have l3 := hi.no tv
 have GZ : (R' ++ RR (.slot tv)).Nodup := by
  rw [List.nodup_append]
  refine ⟨mF.2, hi.nodup _, fun x hx y hy e => yW y hy ?_⟩
  rw [← e, gN]; exact List.mem_cons.2 (.inr hx)
 have xy : fm RR (.slot tv) [] (.obj o) = RR (.obj o) := by simp [fm]
 refine ⟨_, _, ?_, l3.yP (E' := { E with w := E.w.setRow B.b (jF cs (B.off + (i * s + k)) (a.eval (.tmp tv)).cells.toList) }) AS (o := o) (R := B.b :: R₁) (fun b h => by subst h; rw [xy]; exact mH) rfl ?_ ?_ ?_⟩
 ·show (do Instr.storeAt t (a.eval x) (a.eval (.tmp tv)); Pure.pure Next.skip : Sem Next).run P E.w = _
  rw [hc]
  exact yL g7
 ·simp only [dA]
  refine ⟨hu.set (by rw [ky (by simpa using hk)]; exact pd), .inr ⟨B, _, tb, R₁, hB, setRow_heap E.w B.b cs _ tb _ hw, hφ, by simpa using nO, by rw [nt (by simp at yD ⊢; omega)]; exact hlen, vf, rfl⟩⟩
 ·refine List.nodup_cons.2 ⟨fun h => ?_, pg GZ⟩
  rcases dv _ h with h' | h'
  ·exact mF.1 h'
  ·exact yW _ h' mH
 ·intro b hb
  have dw : b ∈ RR (.obj o) ∨ b ∈ RR (.slot tv) := by
   rw [gN]
   rcases List.mem_cons.1 hb with h | h
   ·exact .inl (by simp [h])
   ·rcases dv b h with h' | h'
    ·exact .inl (List.mem_cons.2 (.inr h'))
    ·exact .inr h'
  have CM : b < E.w.heap.size ∧ ¬ G.K b := by rcases dw with h | h <;> exact hi.own _ _ h
  refine ⟨by simpa using CM.1, CM.2, fun p hp xz => ?_⟩
  have DT : p ≠ .slot tv ∧ b ∈ RR p := by
   unfold fm at xz
   split at xz
   ·cases xz
   ·rename_i h; exact ⟨h, xz⟩
  rcases dw with h | h
  ·exact hi.apart _ _ hp b DT.2 h
  ·exact hi.apart _ _ DT.1 b DT.2 h

theorem Sh.Ha {s : Nat} {rows : List (List X)} (o : Nat) (hx : look st.a9 d = some (.ep s rows)) (hF : N.F.elem o = false) : Sh N st (((st.kill o).ea o (.rows s rows)).put d (.aY o s 0 rows.length)) := by
 intro G hn a w hh
 obtain ⟨E, RR, rfl, hi⟩ := hh
 have hv := hi.a9 d _ hx
 have iw := hi.nodup (.slot d)
 simp only [RX] at hv
 obtain ⟨hu, base, cap, hc, dw⟩ := hv
 have l3 := hi.no d
 have CN : ∀ (E' : Env) (eU : Own → List Nat), Inv G E' eU (((st.put d .no).kill o).ea o (.rows s rows)) a → (∃ R, R = [] ∧ RX E' (.aY o s 0 rows.length) (a.tmps.getD d undef) R) →
   ct G (((st.kill o).ea o (.rows s rows)).put d (.aY o s 0 rows.length)) a E'.w := by
  intro E' eU h3 ⟨R, hR, gR⟩
  subst hR
  have h4 := h3.relabel (d := d) gR List.nodup_nil (fun _ h => by cases h)
  refine ⟨E', fm eU (.slot d) [], rfl, ?_⟩
  refine { h4 with a9 := fun q y hy => h4.a9 q y ?_, aA := fun q y hy => h4.aA q y hy }
  simp only [St.put, St.ea, St.kill, q3, List.map_cons, look] at hy ⊢
  cases hb : Nat.beq d q with
  | true => rw [hb] at hy; simpa using hy
  | false => rw [hb] at hy; simpa using hy
 have hβ : ∀ (bk : Option y7), cW G E { E with β := fun q => if q = o then bk else E.β q } (fun _ => False) := fun _ =>
  ⟨rfl, fun _ h => h.elim, fun _ h => h.elim, fun _ _ _ => rfl, Nat.le_refl _, rfl, rfl, rfl⟩
 rcases dw with ⟨h1, h2, h3⟩ | ⟨b, off, cs, ty, R', hb, hw, hl, ho, hφ, jh, gN⟩
 ·have h4 := l3.kR (hβ none) (o := o) (ob := .rows s rows) (R := []) (fun _ h => h.elim) (fun q hq => by simp [hq]) (fun h => by rw [hn, hF] at h; cases h)
   (by simp only [dA]; exact ⟨hu, .inl ⟨by simp, h1, trivial⟩⟩) List.nodup_nil (fun _ h => by cases h)
  refine CN { E with β := fun q => if q = o then none else E.β q } _ h4 ⟨[], rfl, ?_⟩
  simp only [RX]
  exact ⟨trivial, base, cap, hc, .inl ⟨by simp, trivial, by simp [h1], h2⟩⟩
 ·rw [gN] at iw
  have mF := List.nodup_cons.1 iw
  have ga : E.On { E with β := fun q => if q = o then some ⟨b, off, cap⟩ else E.β q } R' := ⟨fun _ _ _ h => h, fun _ _ => ⟨rfl, fun h => h⟩⟩
  have h4 := l3.kR (hβ (some ⟨b, off, cap⟩)) (o := o) (ob := .rows s rows) (R := b :: R') (fun _ h => h.elim) (fun q hq => by simp [hq]) (fun h => by rw [hn, hF] at h; cases h)
   (by simp only [dA]; exact ⟨hu, .inr ⟨⟨b, off, cap⟩, cs, ty, R', by simp, hw, hφ, hl, ho, cD.mono _ _ _ _ ga jh, rfl⟩⟩) iw
   (fun c nN => by
    have hm : c ∈ RR (.slot d) := by rw [gN]; exact nN
    refine ⟨(hi.own _ _ hm).1, (hi.own _ _ hm).2, fun p hp m9 => ?_⟩
    unfold fm at m9
    split at m9
    ·cases m9
    ·rename_i h; exact hi.apart _ _ h c m9 hm)
  refine CN { E with β := fun q => if q = o then some ⟨b, off, cap⟩ else E.β q } _ h4 ⟨[], rfl, ?_⟩
  simp only [RX]
  exact ⟨trivial, base, cap, hc, .inr ⟨⟨b, off, cap⟩, by simp, by simp, hl, .inr (by simpa using hb)⟩⟩

theorem Sh.ji {s o n : Nat} {rows : List (List X)} (hx : look st.a9 d = some (.aY o s 0 n)) (ho : look st.aA o = some (.rows s rows)) (hl : n = rows.length) (hF : N.F.elem o = false) :
  Sh N st (((st.kill o).ea o (.rows 0 [])).put d (.ep s rows)) := by
 intro G hn a w hh
 obtain ⟨E, RR, rfl, hi⟩ := hh
 subst hl
 have hv := hi.a9 d _ hx
 have cA := hi.aA o _ ho
 have iw := hi.nodup (.obj o)
 simp only [RX] at hv
 obtain ⟨_, base, cap, hc, dw⟩ := hv
 simp only [dA] at cA
 obtain ⟨hu, cA⟩ := cA
 have hβ : cW G E { E with β := fun q => if q = o then none else E.β q } (fun _ => False) :=
  ⟨rfl, fun _ h => h.elim, fun _ h => h.elim, fun _ _ _ => rfl, Nat.le_refl _, rfl, rfl, rfl⟩
 have h4 := hi.kR hβ (o := o) (ob := .rows 0 []) (R := []) (fun _ h => h.elim) (fun q hq => by simp [hq]) (fun h => by rw [hn, hF] at h; cases h)
  (by simp only [dA]; exact ⟨fun _ h => (by cases h), .inl ⟨by simp, trivial, trivial⟩⟩) List.nodup_nil (fun _ h => by cases h)
 have Hb : ∀ c ∈ RR (.obj o), c < E.w.heap.size ∧ ¬ G.K c ∧ ∀ p, p ≠ .slot d → c ∉ eO st RR o [] p := by
  intro c nN
  refine ⟨(hi.own _ _ nN).1, (hi.own _ _ nN).2, fun p _ m9 => ?_⟩
  cases p with
  | obj q =>
   by_cases hq : q = o
   ·subst hq; simp [eO] at m9
   ·have : c ∈ RR (.obj q) := by simpa [eO, hq] using m9
    exact hi.apart (.obj q) (.obj o) (by simpa using hq) c this nN
  | slot q =>
   rcases g6 st RR o [] q with h | h
   ·rw [h] at m9; cases m9
   ·rw [h] at m9; exact hi.apart (.slot q) (.obj o) (by simp) c m9 nN
 have Hc : ∃ R, RX { E with β := fun q => if q = o then none else E.β q } (.ep s rows) (a.tmps.getD d undef) R ∧ R.Nodup ∧ ∀ b ∈ R, b ∈ RR (.obj o) := by
  simp only [RX]
  rcases cA with ⟨h1, h2, h3⟩ | ⟨B, cs, ty, R', hB, hw, hφ, nO, fe, jh, gN⟩
  ·rcases dw with ⟨_, _, _, h5⟩ | ⟨B, hB, _⟩
   ·exact ⟨[], ⟨hu, base, cap, hc, .inl ⟨h2, h5, rfl⟩⟩, List.nodup_nil, fun _ h => by cases h⟩
   ·rw [h1] at hB; cases hB
  ·rcases dw with ⟨h1, _⟩ | ⟨B', gT, y9, pN, hb⟩
   ·rw [hB] at h1; cases h1
   ·rw [hB] at gT
    obtain rfl := Option.some.inj gT
    have ga : E.On { E with β := fun q => if q = o then none else E.β q } R' := ⟨fun _ _ _ h => h, fun _ _ => ⟨rfl, fun h => h⟩⟩
    rcases hb with hb | hb
    ·refine ⟨[], ⟨hu, base, cap, hc, .inl ⟨List.eq_nil_of_length_eq_zero om, hb, rfl⟩⟩, List.nodup_nil, fun _ h => by cases h⟩
    ·refine ⟨RR (.obj o), ⟨hu, base, cap, hc, .inr ⟨B.b, B.off, cs, ty, R', by simpa using hb, hw, om, by rw [show cap = B.cap by omega]; exact fe, hφ, cD.mono _ _ _ _ ga jh, gN⟩⟩, iw, fun _ h => h⟩
 obtain ⟨R, ph, tS, Bq⟩ := Hc
 exact ⟨{ E with β := fun q => if q = o then none else E.β q }, _, rfl, h4.relabel ph tS (fun c hc => Hb c (Bq c hc))⟩

end
end Go.AW
/- Part of the abstract walk: append. -/
namespace Go.AW
open Go

structure Src (E : Env) (s : Nat) (new : List (List X)) (c : Value) (R : List Nat) : Prop where
 ex : ∃ base cap, ∃ vs : List Value, c = .slice (some base) new.length cap ∧ vs.length = new.length * s ∧ (∀ j v, vs[j]? = some v → E.w.cell? (base.add j) = some v) ∧ (∀ v ∈ vs, v.oneCell' = true) ∧
  ∀ (E' : Env) (cs : Array Value) (off : Nat), E.On E' R → (∀ j, j < vs.length → cs[off + j]? = vs[j]?) → cD E' new cs off R
 ep : cu s new

theorem cD.tT {E : Env} : ∀ {rs : List (List X)} {cs : Array Value} {off : Nat} {R : List Nat}, cD E rs cs off R → ∃ vs : List Value, vs.length = rs.flatten.length ∧ (∀ j v, vs[j]? = some v → cs[off + j]? = some v) ∧ (∀ v ∈ vs, v.oneCell' = true)
 | [], _, _, _, _ => ⟨[], rfl, by simp, by simp⟩
 | r :: rs, cs, off, R, h => by
  simp only [cD] at h
  obtain ⟨R₁, R₂, _, h1, h2, _⟩ := h
  obtain ⟨vs, hl, hv, hx⟩ := RO.cells h1
  obtain ⟨K7, AT, Hd, kO⟩ := cD.tT h2
  refine ⟨vs ++ K7, by simp [hl, AT], ?_, ?_⟩
  ·intro j v hj
   by_cases pO : j < vs.length
   ·rw [List.getElem?_append_left pO] at hj; exact hv j v hj
   ·rw [List.getElem?_append_right om] at hj
    have := Hd _ v hj
    rw [show off + j = off + r.length + (j - vs.length) by omega]; exact this
  ·intro v JN
   rcases List.mem_append.1 JN with h' | h'
   ·exact bz.nu hx v h'
   ·exact kO v h'

theorem jE.tT {E : Env} : ∀ {rs : List (List X)} {b off : Nat}, jE E rs b off → ∃ vs : List Value, vs.length = rs.flatten.length ∧ (∀ j v, vs[j]? = some v → E.φ b (off + j) = some v) ∧ (∀ v ∈ vs, v.oneCell' = true) ∧
   ∀ (E' : Env) (cs : Array Value) (o : Nat), E.On E' [] → (∀ j, j < vs.length → cs[o + j]? = vs[j]?) → cD E' rs cs o []
 | [], _, _, _ => ⟨[], rfl, by simp, by simp, fun _ _ _ _ _ => by simp [cD]⟩
 | r :: rs, b, off, h => by
  simp only [jE] at h
  obtain ⟨vs, hl, hv, hx⟩ := RF.cells h.1
  obtain ⟨K7, AT, Hd, kO, Px⟩ := jE.tT h.2
  have rE : ∀ (row : List X) (b off : Nat), RF E row b off → X.gk row = true := by
   intro row
   induction row with
   | nil => intro _ _ _; rfl
   | cons x t ih =>
    intro b off h
    simp only [RF] at h
    obtain ⟨⟨_, _, _, hn, _⟩, h2⟩ := h
    simp only [X.gk, hn, ih b _ h2, Bool.and_self]
  refine ⟨vs ++ K7, by simp [hl, AT], ?_, ?_, ?_⟩
  ·intro j v hj
   by_cases pO : j < vs.length
   ·rw [List.getElem?_append_left pO] at hj; exact hv j v hj
   ·rw [List.getElem?_append_right om] at hj
    have := Hd _ v hj
    rw [show off + j = off + r.length + (j - vs.length) by omega]; exact this
  ·intro v JN
   rcases List.mem_append.1 JN with h' | h'
   ·exact bz.nu hx v h'
   ·exact kO v h'
  ·intro E' cs o hE rI
   simp only [cD]
   refine ⟨[], [], rE r b off h.1, ?_, ?_, rfl⟩
   ·refine bz.DM (bz.mono _ _ _ hE (fun q hq => by rw [X.fi (rE r b off h.1)] at hq; cases hq) hx) fun j hj => ?_
    rw [rI j (by simp; omega), List.getElem?_append_left om]
   ·refine Px E' cs _ hE fun j hj => ?_
    have := rI (vs.length + j) (by simp; omega)
    rw [List.getElem?_append_right om] at this
    rw [← hl, Nat.add_assoc, this]
    congr 1
    omega

section
variable {P : Program} {N : eC} {G : Ctx} {E : Env} {RR : Own → List Nat} {st : St} {a : Act}

theorem Src.He {s : Nat} {new : List (List X)} {c : Value} {R : List Nat} (h : RX E (.ep s new) c R) (e7 : 0 < new.length) : ∃ R', Src E s new c R' ∧ (∀ b ∈ R', b ∈ R) ∧ (R.Nodup → R'.Nodup) := by
 simp only [RX] at h
 obtain ⟨hu, base, cap, hc, h⟩ := h
 rcases h with ⟨h1, _⟩ | ⟨b, off, cs, ty, R', hb, hw, hl, ho, hφ, jh, hR⟩
 ·subst h1; simp at e7
 obtain ⟨vs, GV, hv, vh⟩ := cD.tT jh
 refine ⟨R', ⟨⟨⟨b, off, none⟩, cap, vs, by rw [hc, hb], by rw [GV, length_flatten hu], fun j v hj => by rw [gS, dk hw]; exact hv j v hj, vh, ?_⟩, hu⟩, fun c hc => by rw [hR]; simp [hc], fun h => by rw [hR] at h; exact (List.nodup_cons.1 h).2⟩
 intro E' dg qf hE rI
 have h1 := cD.mono _ _ _ _ hE jh
 -- move the cells from off to qf
 have key : ∀ (rs : List (List X)) (o1 o2 : Nat) (R : List Nat), (∀ j, j < rs.flatten.length → dg[o2 + j]? = cs[o1 + j]?) → cD E' rs cs o1 R → cD E' rs dg o2 R := by
  have DU : ∀ (xs : List X) (o1 o2 : Nat) (R : List Nat), (∀ j, j < xs.length → dg[o2 + j]? = cs[o1 + j]?) → RO E' xs cs o1 R → RO E' xs dg o2 R := by
   intro xs
   induction xs with
   | nil => intro _ _ _ _ h; simpa [RO] using h
   | cons x r ih =>
    intro o1 o2 R he h
    simp only [RO] at h ⊢
    obtain ⟨u, R₁, R₂, hu, hs, h1, h2, hR⟩ := h
    refine ⟨u, R₁, R₂, ?_, hs, h1, ih _ _ _ (fun j hj => ?_) h2, hR⟩
    ·have := he 0 (by simp)
     simp only [Nat.add_zero] at this
     rw [this]; exact hu
    ·have := he (j + 1) (by simp; omega)
     rw [show o2 + 1 + j = o2 + (j + 1) by omega, show o1 + 1 + j = o1 + (j + 1) by omega]; exact this
  intro rs
  induction rs with
  | nil => intro _ _ _ _ h; simpa [cD] using h
  | cons x r ih =>
   intro o1 o2 R he h
   simp only [cD] at h ⊢
   obtain ⟨R₁, R₂, hn, h1, h2, hR⟩ := h
   refine ⟨R₁, R₂, hn, DU _ _ _ _ (fun j hj => he j (by simp; omega)) h1, ih _ _ _ (fun j hj => ?_) h2, hR⟩
   have := he (x.length + j) (by simp at hj ⊢; omega)
   rw [Nat.add_assoc, Nat.add_assoc]; exact this
 refine key new off qf R' (fun j hj => ?_) h1
 rw [rI j om]
 have pO : j < vs.length := by omega
 rw [List.getElem?_eq_getElem pO]
 exact (hv j _ (List.getElem?_eq_getElem pO)).symm

theorem Src.K8 (hi : Inv G E RR st a) {s : Nat} {new : List (List X)} {c : Value} {R : List Nat} (h : RX E (.fz s new) c R) (e7 : 0 < new.length) : Src E s new c [] := by
 simp only [RX] at h
 obtain ⟨_, hu, base, cap, hc, h⟩ := h
 rcases h with ⟨h1, _⟩ | ⟨b, off, hb, hl, hf⟩
 ·subst h1; simp at e7
 obtain ⟨vs, GV, hv, vh, hr⟩ := jE.tT hf
 exact ⟨⟨⟨b, off, none⟩, cap, vs, by rw [hc, hb], by rw [GV, length_flatten hu], fun j v hj => by rw [gS]; exact hi.ku _ _ _ (hv j v hj), vh, hr⟩, hu⟩

theorem q5 {t e s cZ n cap m ty : Nat} {base : Option Addr} {b2 : Addr} {c2 : Nat} {jj news z : List Value} (ht : TY.slice P t = some (e, s, cZ)) (hz : TY.zero P e = some z) (qp : z.length = s) (hm : 0 < m)
  (wH : jj.length = n * s) (hold : ∀ j v, jj[j]? = some v → ∃ b off, base = some ⟨b, off, none⟩ ∧ E.w.cell? ⟨b, off + j, none⟩ = some v) (uT : base = none → n = 0 ∧ cap = 0)
  (Gb : news.length = m * s) (mD : ∀ j v, news[j]? = some v → E.w.cell? (b2.add j) = some v) (vh : ∀ v ∈ news, v.oneCell' = true) (q6 : (n + m) * cZ ≤ 140737488355328) (AU : n + m ≤ 4611686018427387904)
  (wI : n + m ≤ cap → ∃ b off cs tb, base = some ⟨b, off, none⟩ ∧ E.w.heap[b]? = some (.cells cs tb (0, 0)) ∧ off + cap * s ≤ cs.size) :
  (∃ b off cs tb, base = some ⟨b, off, none⟩ ∧ E.w.heap[b]? = some (.cells cs tb (0, 0)) ∧ n + m ≤ cap ∧ off + cap * s ≤ cs.size ∧
   (Builtin.append_ #[t, t] ty #[.slice base n cap, .slice (some b2) m c2]).run P E.w = .ok (.slice base (n + m) cap) (E.w.setRow b (jF cs (off + n * s) news))) ∨
  (∃ q7 rest, n + m ≤ q7 ∧ rest.size = (q7 - (n + m)) * s ∧
   (Builtin.append_ #[t, t] ty #[.slice base n cap, .slice (some b2) m c2]).run P E.w = .ok (.slice (some ⟨E.w.heap.size, 0, none⟩) (n + m) q7) (E.w.drew.alloc (.cells ((jj ++ news).toArray ++ rest) e))) := by
 obtain ⟨hu, i, ij, hs, CJ⟩ := TY.et ht
 obtain ⟨i', z0, oy, yA, yB⟩ := TY.j6 hz
 rw [ij] at oy
 obtain rfl := Option.some.inj oy
 have K9 : z0.cells.size = s := by
  have : z0.cells.toList.length = z.length := by rw [yB]
  simpa [qp] using this
 by_cases hr : n + m ≤ cap
 ·obtain ⟨b, off, cs, tb, hb, hw, fe⟩ := wI hr
  refine .inl ⟨b, off, cs, tb, hb, hw, hr, fe, ?_⟩
  have Hf : (n + m) * s ≤ cap * s := Nat.mul_le_mul_right s hr
  rw [Nat.add_mul] at Hf
  have hf := run_firstCells_some (P := P) E.w i.size m b2 m c2 news (by rw [hs]; exact Gb) mD
  have yT := run_storeCells_at P b (off + n * s) tb news 0 cs E.w hw om vh
  simp only [Nat.add_zero] at yT
  subst hb
  rw [hs] at hf
  simp [Builtin.append_, run_underlying hu, sizeOf, typeInfo, ij, Builtin.lenOf, hr, hf, gS, hs, yT, jF]
 ·refine .inr ?_
  have qe : Builtin.nextslicecap (n + m) cap * i.bytes ≤ 281474976710656 := growslice_fits om (by rw [CJ]; omega)
  have JO : ∀ k, (Builtin.zeroCells z0.cells k).size = k * s := fun k => by rw [size_zeroCells, K9]
  cases sa : base with
  | none =>
   obtain ⟨rfl, rfl⟩ := uT sa
   have holds : jj = [] := List.eq_nil_of_length_eq_zero (by simpa using wH)
   subst holds
   refine ⟨grownCap E.w m 0 e, _, by have := grownCap_ge E.w m 0 e; omega, JO _, ?_⟩
   have := run_append_nil (P := P) E.w t ty e i z0 hu ij yA b2 m c2 news (by rw [hs]; exact Gb) mD hm om (by
    have : m * cZ ≤ 140737488355328 := by simpa using q6
    rw [CJ]; omega)
   simpa using this
  | some bb =>
   have Hg : ∀ j v, jj[j]? = some v → E.w.cell? (bb.add j) = some v := by
    intro j v hj
    obtain ⟨b, off, hb, hc⟩ := hold j v hj
    rw [sa] at hb
    obtain rfl := Option.some.inj hb
    rw [gS]; exact hc
   refine ⟨grownCap E.w (n + m) cap e, _, grownCap_ge E.w (n + m) cap e, JO _, ?_⟩
   have := run_append_grow (P := P) E.w t ty e i z0 hu ij yA bb n cap jj (by rw [hs]; exact wH) Hg b2 m c2 news (by rw [hs]; exact Gb) mD om om qe
   rw [this]
   simp

theorem cD.vj {E : Env} {rs : List (List X)} {cs : Array Value} {off s lo n : Nat} {R : List Nat} (hu : cu s rs) (h : cD E rs cs off R) (hl : lo + n ≤ rs.length) :
  ∃ R', cD E ((rs.drop lo).take n) cs (off + lo * s) R' ∧ (∀ b ∈ R', b ∈ R) ∧ (R.Nodup → R'.Nodup) := by
 have h0 : rs = rs.take lo ++ ((rs.drop lo).take n ++ rs.drop (lo + n)) := by
  conv => lhs; rw [← List.take_append_drop lo rs, ← List.take_append_drop n (rs.drop lo), List.drop_drop]
 rw [h0] at h
 obtain ⟨R₁, R₂, h1, h2, rfl⟩ := cD.oz h
 obtain ⟨R₃, R₄, h3, h4, rfl⟩ := cD.oz h2
 rw [length_flatten (hu.take lo), List.length_take, Nat.min_eq_left om] at h3
 refine ⟨R₃, h3, fun b hb => by simp [hb], fun hn => ?_⟩
 have := (List.nodup_append.1 hn).2.1
 exact (List.nodup_append.1 this).1

theorem Inv.append (hi : Inv G E RR st a) {t e s cZ ty : Nat} {z : List Value} {o lo n : Nat} {rs new : List (List X)} {c c2 : Value} {R2 : List Nat} (ht : TY.slice P t = some (e, s, cZ)) (hz : TY.zero P e = some z) (qp : z.length = s)
  (hx : RX E (.aY o s lo n) c []) (ho : look st.aA o = some (.rows s rs)) (qq : lo + n ≤ rs.length) (yY : Src E s new c2 R2) (hm : 0 < new.length) (tS : R2.Nodup) (l8 : ∀ b ∈ R2, b < E.w.heap.size ∧ ¬ G.K b ∧ ∀ p, b ∉ RR p)
  (q6 : (n + new.length) * cZ ≤ 140737488355328) (AU : n + new.length ≤ 4611686018427387904) (hF : G.fn.F.elem o = false) :
  ∃ u E' eU, (Builtin.append_ #[t, t] ty #[c, c2]).run P E.w = .ok u E'.w ∧ Inv G E' eU ((st.kill o).ea o (.rows s (((rs.drop lo).take n) ++ new))) a ∧ RX E' (.aY o s 0 (n + new.length)) u [] := by
 have cA := hi.aA o _ ho
 have iw := hi.nodup (.obj o)
 simp only [RX] at hx
 obtain ⟨_, base, cap, rfl, dw⟩ := hx
 simp only [dA] at cA
 obtain ⟨hu, cA⟩ := cA
 obtain ⟨⟨b2, Py, news, rfl, Gb, mD, vh, Hh⟩, y8⟩ := yY
 have wJ : ((rs.drop lo).take n).length = n := by simp; omega
 have hU : cu s (((rs.drop lo).take n) ++ new) := by
  intro r hr
  rcases List.mem_append.1 hr with h | h
  ·exact (hu.drop lo).take n r h
  ·exact y8 r h
 have Hi : ∀ b ∈ R2, b ∉ RR (.obj o) := fun b hb => (l8 b hb).2.2 _
 -- the DV cells, as values, and what lies in them
 have hold : ∃ (jj : List Value) (R1 : List Nat), jj.length = n * s ∧ (∀ j v, jj[j]? = some v → ∃ b off, base = some ⟨b, off, none⟩ ∧ E.w.cell? ⟨b, off + j, none⟩ = some v) ∧ (∀ b ∈ R1, b ∈ RR (.obj o)) ∧ R1.Nodup ∧
   (base = none → n = 0 ∧ cap = 0) ∧
   (∀ (E' : Env) (dg : Array Value) (qf : Nat), E.On E' R1 → (∀ j, j < jj.length → dg[qf + j]? = jj[j]?) → cD E' ((rs.drop lo).take n) dg qf R1) ∧
   (n + new.length ≤ cap → ∃ B cs tb, E.β o = some B ∧ base = some ⟨B.b, B.off + lo * s, none⟩ ∧ E.w.heap[B.b]? = some (.cells cs tb (0, 0)) ∧ B.off + lo * s + cap * s ≤ cs.size ∧ (∀ i, E.φ B.b i = none) ∧ B.b ∈ RR (.obj o) ∧ B.b ∉ R1) := by
  by_cases mI : cap = 0
  ·have uT : n = 0 := by rcases dw with ⟨_, _, h, _⟩ | ⟨_, _, _, h, _⟩ <;> omega
   subst uT
   refine ⟨[], [], by simp, by simp, by simp, List.nodup_nil, fun _ => ⟨rfl, mI⟩, fun _ _ _ _ _ => by simp [cD], fun h => by omega⟩
  ·rcases dw with ⟨_, _, _, h⟩ | ⟨B, hB, GQ, pN, hb⟩
   ·exact absurd h mI
   have fV := hb.resolve_left mI
   rcases cA with ⟨h1, _⟩ | ⟨B', cs, tb, R', gT, hw, hφ, m9, fe, jh, gN⟩
   ·rw [hB] at h1; cases h1
   rw [hB] at gT
   obtain rfl := Option.some.inj gT
   rw [gN] at iw
   obtain ⟨tU, mF⟩ := List.nodup_cons.1 iw
   obtain ⟨R1, x4, dv, DW⟩ := cD.vj hu jh qq
   obtain ⟨jj, wH, Hj, _⟩ := cD.tT x4
   rw [length_flatten ((hu.drop lo).take n), wJ] at wH
   refine ⟨jj, R1, wH, fun j v hj => ⟨B.b, B.off + lo * s, fV, by rw [dk hw]; exact Hj j v hj⟩, fun b hb => by rw [gN]; simp [dv b hb], DW mF, (fun h => by rw [fV] at h; cases h), ?_, ?_⟩
   ·intro E' dg qf hE rI
    have h1 := cD.mono _ _ _ _ hE x4
    have key : ∀ (rs : List (List X)) (o1 o2 : Nat) (R : List Nat), (∀ j, j < rs.flatten.length → dg[o2 + j]? = cs[o1 + j]?) → cD E' rs cs o1 R → cD E' rs dg o2 R := by
     have DU : ∀ (xs : List X) (o1 o2 : Nat) (R : List Nat), (∀ j, j < xs.length → dg[o2 + j]? = cs[o1 + j]?) → RO E' xs cs o1 R → RO E' xs dg o2 R := by
      intro xs
      induction xs with
      | nil => intro _ _ _ _ h; simpa [RO] using h
      | cons x r ih =>
       intro o1 o2 R he h
       simp only [RO] at h ⊢
       obtain ⟨u, R₁, R₂, hu, hs, h1, h2, hR⟩ := h
       refine ⟨u, R₁, R₂, ?_, hs, h1, ih _ _ _ (fun j hj => ?_) h2, hR⟩
       ·have := he 0 (by simp)
        simp only [Nat.add_zero] at this
        rw [this]; exact hu
       ·have := he (j + 1) (by simp; omega)
        rw [show o2 + 1 + j = o2 + (j + 1) by omega, show o1 + 1 + j = o1 + (j + 1) by omega]; exact this
     intro rs
     induction rs with
     | nil => intro _ _ _ _ h; simpa [cD] using h
     | cons x r ih =>
      intro o1 o2 R he h
      simp only [cD] at h ⊢
      obtain ⟨R₁, R₂, hn, h1, h2, hR⟩ := h
      refine ⟨R₁, R₂, hn, DU _ _ _ _ (fun j hj => he j (by simp; omega)) h1, ih _ _ _ (fun j hj => ?_) h2, hR⟩
      have := he (x.length + j) (by simp at hj ⊢; omega)
      rw [Nat.add_assoc, Nat.add_assoc]; exact this
    refine key _ (B.off + lo * s) qf R1 (fun j hj => ?_) h1
    have pO : j < jj.length := by
     rw [length_flatten ((hu.drop lo).take n), wJ] at hj
     omega
    rw [rI j pO, List.getElem?_eq_getElem pO]
    exact (Hj j _ (List.getElem?_eq_getElem pO)).symm
   ·intro _
    refine ⟨B, cs, tb, hB, fV, hw, ?_, hφ, by rw [gN]; simp, fun h => tU (dv _ h)⟩
    have : B.cap = lo + cap := GQ.symm
    rw [this, Nat.add_mul] at fe
    omega
 obtain ⟨jj, R1, wH, Hj, ph, KA, uT, CO, wI⟩ := hold
 have pg : (R1 ++ R2).Nodup := by
  rw [List.nodup_append]
  exact ⟨KA, tS, fun x hx y hy e => Hi y hy (by rw [← e]; exact ph x hx)⟩
 rcases q5 (P := P) (E := E) (ty := ty) ht hz qp hm wH Hj uT Gb mD vh q6 AU (fun h => by
   obtain ⟨B, cs, tb, _, h2, h3, h4, _⟩ := wI h
   exact ⟨B.b, B.off + lo * s, cs, tb, h2, h3, h4⟩) with ⟨b, off, cs, tb, sa, hw, qe, fe, g7⟩ | ⟨q7, rest, Oe, Hk, g7⟩
 ·-- in place
  obtain ⟨B, Og, R4, hB, vk, pP, Hl, hφ, mH, Hm⟩ := wI qe
  rw [sa] at vk
  simp only [Option.some.injEq, Addr.mk.injEq, and_true] at vk
  obtain ⟨rfl, rfl⟩ := vk
  rw [hw] at pP
  simp only [Option.some.injEq, Go.Obj.cells.injEq] at pP
  obtain ⟨rfl, rfl, _⟩ := pP
  have Hf : (n + new.length) * s ≤ cap * s := Nat.mul_le_mul_right s qe
  rw [Nat.add_mul] at Hf
  have KB : B.off + lo * s + n * s + news.length ≤ cs.size := by omega
  let E' : Env := { E with w := E.w.setRow B.b (jF cs (B.off + lo * s + n * s) news), β := fun q => if q = o then some ⟨B.b, B.off + lo * s, cap⟩ else E.β q }
  have Hn : B.b ∉ R2 := fun h => Hi _ h mH
  have ga : ∀ yX, (∀ b ∈ yX, b ≠ B.b) → E.On E' yX := fun yX h => ⟨fun _ _ _ h => h, fun b hb => ⟨setRow_other E.w B.b b _ (h b hb), fun h => h⟩⟩
  have AS : cW G E E' (fun c => c = B.b) := { cW.setRow G E B.b (jF cs (B.off + lo * s + n * s) news) hφ (hi.rK mH) with φ := rfl }
  have yZ : cD E' (((rs.drop lo).take n) ++ new) (jF cs (B.off + lo * s + n * s) news) (B.off + lo * s) (R1 ++ R2) := by
   refine cD.app (CO E' _ _ (ga R1 (fun b hb e => Hm (by rw [← e]; exact hb))) fun j hj => ?_) ?_
   ·rw [mE KB (.inl om)]
    have := Hj j _ (List.getElem?_eq_getElem hj)
    obtain ⟨b, off, hb, hc⟩ := this
    rw [sa] at hb
    simp only [Option.some.injEq, Addr.mk.injEq, and_true] at hb
    obtain ⟨rfl, rfl⟩ := hb
    rw [dk hw] at hc
    rw [hc, List.getElem?_eq_getElem hj]
   ·rw [length_flatten ((hu.drop lo).take n), wJ]
    exact Hh E' _ _ (ga R2 (fun b hb e => Hn (by rw [← e]; exact hb))) fun j hj => wF KB hj
  refine ⟨_, E', _, g7, hi.kR AS (o := o) (R := B.b :: (R1 ++ R2)) (fun b h => by subst h; exact mH) (fun q hq => by simp [E', hq]) (fun h => by rw [hF] at h; cases h) ?_ ?_ ?_, ?_⟩
  ·simp only [dA]
   refine ⟨hU, .inr ⟨⟨B.b, B.off + lo * s, cap⟩, _, tb, R1 ++ R2, by simp [E'], setRow_heap E.w B.b cs _ tb _ hw, hφ, by simp [wJ]; omega, by rw [nt KB]; exact fe, yZ, rfl⟩⟩
  ·refine List.nodup_cons.2 ⟨fun h => ?_, pg⟩
   rcases List.mem_append.1 h with h | h
   ·exact Hm h
   ·exact Hn h
  ·intro b hb
   have hs : E'.w.heap.size = E.w.heap.size := by simp [E']
   rw [hs]
   rcases List.mem_cons.1 hb with h | h
   ·subst h; exact ⟨(hi.own _ _ mH).1, hi.rK mH, hi.tN (.inl mH)⟩
   ·rcases List.mem_append.1 h with h | h
    ·exact ⟨(hi.own _ _ (ph b h)).1, hi.rK (ph b h), hi.tN (.inl (ph b h))⟩
    ·exact ⟨(l8 b h).1, (l8 b h).2.1, fun p _ => (l8 b h).2.2 p⟩
  ·simp only [RX]
   exact ⟨trivial, _, cap, rfl, .inr ⟨⟨B.b, B.off + lo * s, cap⟩, by simp [E'], by simp, om, .inr (by simpa using sa)⟩⟩
 ·-- in a new block
  let E' : Env := { E with w := E.w.drew.alloc (.cells ((jj ++ news).toArray ++ rest) e), β := fun q => if q = o then some ⟨E.w.heap.size, 0, q7⟩ else E.β q }
  have AS : cW G E E' (fun _ => False) := by
   have h1 := (cW.drew G E).trans (cW.alloc G { E with w := E.w.drew } (.cells ((jj ++ news).toArray ++ rest) e)) (fun _ h => h.elim)
   exact { h1 with φ := rfl }
  have ga : ∀ yX, (∀ b ∈ yX, b < E.w.heap.size) → E.On E' yX := fun yX h => ⟨fun _ _ _ h => h, fun b hb => ⟨AS.same b (h b hb) (fun h => h), fun h => h⟩⟩
  have pQ : ∀ j, j < (jj ++ news).length → ((jj ++ news).toArray ++ rest)[0 + j]? = (jj ++ news)[j]? := by
   intro j hj
   rw [Nat.zero_add, Array.getElem?_append_left (by simpa using hj)]
   simp
  have fe : ((jj ++ news).toArray ++ rest).size = q7 * s := by
   simp [Hk, wH, Gb]
   have : q7 * s = (n + new.length) * s + (q7 - (n + new.length)) * s := by rw [← Nat.add_mul]; congr 1; omega
   rw [this, Nat.add_mul]
  have yZ : cD E' (((rs.drop lo).take n) ++ new) ((jj ++ news).toArray ++ rest) 0 (R1 ++ R2) := by
   refine cD.app (CO E' _ _ (ga R1 (fun b hb => (hi.own _ _ (ph b hb)).1)) fun j hj => ?_) ?_
   ·rw [pQ j (by simp; omega), List.getElem?_append_left hj]
   ·rw [length_flatten ((hu.drop lo).take n), wJ]
    refine Hh E' _ _ (ga R2 (fun b hb => (l8 b hb).1)) fun j hj => ?_
    have := pQ (jj.length + j) (by simp; omega)
    rw [List.getElem?_append_right om] at this
    rw [show 0 + n * s + j = 0 + (jj.length + j) by omega, this]
    congr 1; omega
  have Ho : E.w.heap.size ∉ R1 ++ R2 := by
   intro h
   rcases List.mem_append.1 h with h | h
   ·have := (hi.own _ _ (ph _ h)).1; omega
   ·have := (l8 _ h).1; omega
  have Kv : E'.w.heap.size = E.w.heap.size + 1 := by simp [E']
  refine ⟨_, E', _, g7, hi.kR AS (o := o) (R := E.w.heap.size :: (R1 ++ R2)) (fun _ h => h.elim) (fun q hq => by simp [E', hq]) (fun h => by rw [hF] at h; cases h) ?_ ?_ ?_, ?_⟩
  ·simp only [dA]
   refine ⟨hU, .inr ⟨⟨E.w.heap.size, 0, q7⟩, _, e, R1 ++ R2, by simp [E'], ?_, fun i => ?_, by simp [wJ]; omega, by rw [fe]; simp, yZ, rfl⟩⟩
   ·have := heap_alloc E.w.drew (.cells ((jj ++ news).toArray ++ rest) e)
    exact this
   ·show E.φ E.w.heap.size i = none
    cases h : E.φ E.w.heap.size i with
    | none => rfl
    | some v => exact absurd (World.block_lt_of_cell? E.w _ (hi.ku _ _ _ h)) (by simp)
  ·exact List.nodup_cons.2 ⟨Ho, pg⟩
  ·intro b hb
   rw [Kv]
   rcases List.mem_cons.1 hb with h | h
   ·subst h
    refine ⟨om, fun hK => ?_, hi.tN (.inr (Nat.le_refl _))⟩
    have := hi.small _ hK
    have := hi.size
    omega
   ·rcases List.mem_append.1 h with h | h
    ·exact ⟨by have := (hi.own _ _ (ph b h)).1; omega, hi.rK (ph b h), hi.tN (.inl (ph b h))⟩
    ·exact ⟨by have := (l8 b h).1; omega, (l8 b h).2.1, fun p _ => (l8 b h).2.2 p⟩
  ·simp only [RX]
   exact ⟨trivial, _, q7, rfl, .inr ⟨⟨E.w.heap.size, 0, q7⟩, by simp [E'], by simp, om, .inr (by simp)⟩⟩

end
end Go.AW
/- Part of the abstract walk: the rules for append. -/
namespace Go.AW
open Go

section
variable {P : Program} {N : eC} {G : Ctx} {E : Env} {RR : Own → List Nat} {st : St} {a : Act}

theorem Inv.trim (hi : Inv G E RR st a) {o s lo n : Nat} {rs : List (List X)} {c : Value} (hx : RX E (.aY o s lo n) c []) (ho : look st.aA o = some (.rows s rs)) (qq : lo + n ≤ rs.length) (hF : G.fn.F.elem o = false) :
  ∃ E' eU, E'.w = E.w ∧ Inv G E' eU ((st.kill o).ea o (.rows s ((rs.drop lo).take n))) a ∧ RX E' (.aY o s 0 n) c [] := by
 have cA := hi.aA o _ ho
 have iw := hi.nodup (.obj o)
 simp only [RX] at hx
 obtain ⟨_, base, cap, rfl, dw⟩ := hx
 simp only [dA] at cA
 obtain ⟨hu, cA⟩ := cA
 have hβ : ∀ (bk : Option y7), cW G E { E with β := fun q => if q = o then bk else E.β q } (fun _ => False) := fun _ =>
  ⟨rfl, fun _ h => h.elim, fun _ h => h.elim, fun _ _ _ => rfl, Nat.le_refl _, rfl, rfl, rfl⟩
 have wJ : ((rs.drop lo).take n).length = n := by simp; omega
 by_cases mI : cap = 0
 ·have uT : n = 0 := by rcases dw with ⟨_, _, h, _⟩ | ⟨_, _, _, h, _⟩ <;> omega
  subst uT
  refine ⟨{ E with β := fun q => if q = o then none else E.β q }, _, rfl, hi.kR (hβ none) (o := o) (R := []) (fun _ h => h.elim) (fun q hq => by simp [hq]) (fun h => by rw [hF] at h; cases h) ?_ List.nodup_nil (fun _ h => by cases h), ?_⟩
  ·simp only [dA]; exact ⟨fun _ h => (by simp at h), .inl ⟨by simp, by simp, trivial⟩⟩
  ·simp only [RX]; exact ⟨trivial, base, cap, rfl, .inl ⟨by simp, trivial, trivial, mI⟩⟩
 ·rcases dw with ⟨_, _, _, h⟩ | ⟨B, hB, GQ, pN, hb⟩
  ·exact absurd h mI
  have fV := hb.resolve_left mI
  rcases cA with ⟨h1, _⟩ | ⟨B', cs, tb, R', gT, hw, hφ, m9, fe, jh, gN⟩
  ·rw [hB] at h1; cases h1
  rw [hB] at gT
  obtain rfl := Option.some.inj gT
  rw [gN] at iw
  obtain ⟨tU, mF⟩ := List.nodup_cons.1 iw
  obtain ⟨R1, x4, dv, DW⟩ := cD.vj hu jh qq
  have ga : E.On { E with β := fun q => if q = o then some ⟨B.b, B.off + lo * s, cap⟩ else E.β q } R1 := ⟨fun _ _ _ h => h, fun _ _ => ⟨rfl, fun h => h⟩⟩
  refine ⟨{ E with β := fun q => if q = o then some ⟨B.b, B.off + lo * s, cap⟩ else E.β q }, _, rfl, hi.kR (hβ (some ⟨B.b, B.off + lo * s, cap⟩)) (o := o) (R := B.b :: R1) (fun _ h => h.elim) (fun q hq => by simp [hq]) (fun h => by rw [hF] at h; cases h) ?_ (List.nodup_cons.2 ⟨fun h => tU (dv _ h), DW mF⟩) ?_, ?_⟩
  ·simp only [dA]
   refine ⟨(hu.drop lo).take n, .inr ⟨⟨B.b, B.off + lo * s, cap⟩, cs, tb, R1, by simp, hw, hφ, by simp [wJ]; omega, ?_, cD.mono _ _ _ _ ga x4, rfl⟩⟩
   have : B.cap = lo + cap := GQ.symm
   rw [this, Nat.add_mul] at fe
   simp only; omega
  ·intro b rL
   have hm : b ∈ RR (.obj o) := by
    rw [gN]
    rcases List.mem_cons.1 rL with h | h
    ·simp [h]
    ·simp [dv b h]
   exact ⟨(hi.own _ _ hm).1, hi.rK hm, hi.tN (.inl hm)⟩
  ·simp only [RX]
   exact ⟨trivial, base, cap, rfl, .inr ⟨⟨B.b, B.off + lo * s, cap⟩, by simp, by simp, pN, .inr (by simpa using fV)⟩⟩

theorem Sh.trim {d o s lo n : Nat} {rs : List (List X)} (hx : look st.a9 d = some (.aY o s lo n)) (ho : look st.aA o = some (.rows s rs)) (qq : lo + n ≤ rs.length) (hF : N.F.elem o = false) :
  Sh N st (((st.kill o).ea o (.rows s ((rs.drop lo).take n))).put d (.aY o s 0 n)) := by
 intro G hn a w hh
 obtain ⟨E, RR, rfl, hi⟩ := hh
 have hv := hi.a9 d _ hx
 have h0 : RR (.slot d) = [] := RX.free (x := .aY o s lo n) rfl hv
 rw [h0] at hv
 obtain ⟨E', eU, hw, h1, h2⟩ := hi.trim hv ho qq (by rw [hn]; exact hF)
 exact ⟨E', _, hw, h1.relabel h2 List.nodup_nil (fun _ h => by cases h)⟩

theorem Inv.nil (hi : Inv G E RR st a) (o s : Nat) (hF : G.fn.F.elem o = false) : ∃ E' eU, E'.w = E.w ∧ Inv G E' eU ((st.kill o).ea o (.rows s [])) a ∧ RX E' (.aY o s 0 0) (.slice none 0 0) [] := by
 have hβ : cW G E { E with β := fun q => if q = o then none else E.β q } (fun _ => False) :=
  ⟨rfl, fun _ h => h.elim, fun _ h => h.elim, fun _ _ _ => rfl, Nat.le_refl _, rfl, rfl, rfl⟩
 refine ⟨{ E with β := fun q => if q = o then none else E.β q }, _, rfl, hi.kR hβ (o := o) (R := []) (fun _ h => h.elim) (fun q hq => by simp [hq]) (fun h => by rw [hF] at h; cases h) ?_ List.nodup_nil (fun _ h => by cases h), ?_⟩
 ·simp only [dA]; exact ⟨fun _ h => (by cases h), .inl ⟨by simp, trivial, trivial⟩⟩
 ·simp only [RX]; exact ⟨trivial, none, 0, rfl, .inl ⟨by simp, by trivial, by trivial, by trivial⟩⟩

theorem Sh.nil {d : Nat} (o s : Nat) (hx : look st.a9 d = some (.v (.slice none 0 0))) (hF : N.F.elem o = false) : Sh N st (((st.kill o).ea o (.rows s [])).put d (.aY o s 0 0)) := by
 intro G hn a w hh
 obtain ⟨E, RR, rfl, hi⟩ := hh
 have hv := hi.a9 d _ hx
 simp only [RX] at hv
 obtain ⟨E', eU, hw, h1, h2⟩ := hi.nil o s (by rw [hn]; exact hF)
 refine ⟨E', _, hw, h1.relabel (d := d) (by rw [hv.1]; exact h2) List.nodup_nil (fun _ h => by cases h)⟩

theorem Sh.Br {d : Nat} (s : Nat) (hx : look st.a9 d = some (.v (.slice none 0 0))) : Sh N st (st.put d (.ep s [])) := by
 intro G hn a w hh
 obtain ⟨E, RR, rfl, hi⟩ := hh
 have hv := hi.a9 d _ hx
 simp only [RX] at hv
 refine ⟨E, _, rfl, hi.relabel (d := d) (R := []) ?_ List.nodup_nil (fun _ h => by cases h)⟩
 rw [hv.1]
 simp only [RX]
 exact ⟨fun _ h => (by cases h), none, 0, rfl, .inl ⟨by trivial, by trivial, by trivial⟩⟩

theorem lY {t e s cZ ty n cap : Nat} {base b2 : Option Addr} {c2 : Nat} (ht : TY.slice P t = some (e, s, cZ)) (hc : n ≤ cap) (w : World) :
  (Builtin.append_ #[t, t] ty #[.slice base n cap, .slice b2 0 c2]).run P w = .ok (.slice base n cap) w := by
 obtain ⟨hu, i, ij, hs, CJ⟩ := TY.et ht
 have h0 : ∀ a : Addr, (storeCells a []).run P w = .ok () w := fun _ => rfl
 cases b2 with
 | none =>
  cases base with
  | none => simp [Builtin.append_, run_underlying hu, sizeOf, typeInfo, ij, Builtin.lenOf, hc, Builtin.firstCells]
  | some b => simp [Builtin.append_, run_underlying hu, sizeOf, typeInfo, ij, Builtin.lenOf, hc, Builtin.firstCells, h0]
 | some b' =>
  have hl : ∀ a : Addr, (loadCells a 0).run P w = .ok #[] w := fun _ => rfl
  cases base with
  | none => simp [Builtin.append_, run_underlying hu, sizeOf, typeInfo, ij, Builtin.lenOf, hc, Builtin.firstCells, hl]
  | some b => simp [Builtin.append_, run_underlying hu, sizeOf, typeInfo, ij, Builtin.lenOf, hc, Builtin.firstCells, h0, hl]

variable {Q : Exit → St → Prop} {all : Array Oper} {rest : List Oper} {d : Nat} {ty : TypeId} {pos : String} {af : Array Edge}

theorem gU {x y : Operand} {t : Nat} {w w' : World} {u : Value} (h : (Builtin.append_ #[t, t] ty #[a.eval x, a.eval y]).run P w = .ok u w') :
  (execOp a.eval ⟨some d, .call ⟨.builtin .append, #[x, y], #[t, t]⟩, ty, pos, af, none⟩).run P w = .ok (.value u) w' := by
 refine gG (g := none) ?_
 have e : (#[x, y] : Array Operand).map a.eval = #[a.eval x, a.eval y] := by simp
 rw [e]
 exact dI h

theorem aL.append {t e s cZ tv : Nat} {z : List Value} {x : Operand} {o lo n : Nat} {rs new : List (List X)} (ht : TY.slice P t = some (e, s, cZ)) (hz : TY.zero P e = some z) (qp : Nat.beq z.length s = true)
  (hy : look st.a9 tv = some (.ep s new)) (hx : bR (st.put tv .no) x = some (.aY o s lo n)) (ho : look st.aA o = some (.rows s rs)) (qq : lo + n ≤ rs.length)
  (q6 : (n + new.length) * cZ ≤ 140737488355328) (AU : n + new.length ≤ 4611686018427387904) (hF : N.F.elem o = false) (hd : d < N.n)
  (k : aL P N all rest (((((st.put tv .no).kill o).ea o (.rows s (((rs.drop lo).take n) ++ new)))).put d (.aY o s 0 (n + new.length))) Q) :
  aL P N all (⟨some d, .call ⟨.builtin .append, #[x, .tmp tv], #[t, t]⟩, ty, pos, af, none⟩ :: rest) st Q := by
 refine aL.yR (fun G E RR a hn hi => ?_) k
 have hv := hi.a9 tv _ hy
 have l3 := hi.no tv
 obtain ⟨R, xv⟩ := l3.eval hx
 have h0 : R = [] := RX.free (x := .aY o s lo n) rfl xv
 subst h0
 have Hp : G.fn.F.elem o = false := by rw [hn]; exact hF
 by_cases hm : 0 < new.length
 ·obtain ⟨R2, yY, dv, iw⟩ := Src.He hv hm
  obtain ⟨u, E', eU, g7, h1, h2⟩ := l3.append (ty := ty) ht hz (Nat.eq_of_beq_eq_true qp) xv ho qq yY hm (iw (hi.nodup _)) (fun b hb => by
   have fV := dv b hb
   refine ⟨(hi.own _ _ fV).1, (hi.own _ _ fV).2, fun p hp => ?_⟩
   unfold fm at hp
   split at hp
   ·cases hp
   ·rename_i h; exact hi.apart _ _ h b hp fV) q6 AU Hp
  exact ⟨u, E', _, gU g7, h1.gd (by rw [hn]; exact hd) h2⟩
 ·have mD : new = [] := List.eq_nil_of_length_eq_zero om
  subst mD
  obtain ⟨E', eU, hw, h1, h2⟩ := l3.trim xv ho qq Hp
  simp only [List.append_nil, List.length_nil, Nat.add_zero]
  refine ⟨a.eval x, E', _, ?_, h1.gd (by rw [hn]; exact hd) h2⟩
  rw [hw]
  refine gU ?_
  simp only [RX] at xv hv
  obtain ⟨_, base, cap, hc, dw⟩ := xv
  obtain ⟨_, b2, c2, KC, _⟩ := hv
  have KD : a.eval (.tmp tv) = .slice b2 0 c2 := KC
  rw [hc, KD]
  exact lY ht (by rcases dw with ⟨_, _, h3, h4⟩ | ⟨_, _, _, h3, _⟩ <;> omega) E.w

theorem aL.Bs {t e s cZ : Nat} {z : List Value} {x y : Operand} {o lo n : Nat} {rs new : List (List X)} (ht : TY.slice P t = some (e, s, cZ)) (hz : TY.zero P e = some z) (qp : Nat.beq z.length s = true)
  (hy : bR st y = some (.fz s new)) (hx : bR st x = some (.aY o s lo n)) (ho : look st.aA o = some (.rows s rs)) (qq : lo + n ≤ rs.length)
  (q6 : (n + new.length) * cZ ≤ 140737488355328) (AU : n + new.length ≤ 4611686018427387904) (hF : N.F.elem o = false) (hd : d < N.n)
  (k : aL P N all rest ((((st.kill o).ea o (.rows s (((rs.drop lo).take n) ++ new)))).put d (.aY o s 0 (n + new.length))) Q) :
  aL P N all (⟨some d, .call ⟨.builtin .append, #[x, y], #[t, t]⟩, ty, pos, af, none⟩ :: rest) st Q := by
 refine aL.yR (fun G E RR a hn hi => ?_) k
 obtain ⟨R', hv⟩ := hi.eval hy
 obtain ⟨R, xv⟩ := hi.eval hx
 have h0 : R = [] := RX.free (x := .aY o s lo n) rfl xv
 subst h0
 have Hp : G.fn.F.elem o = false := by rw [hn]; exact hF
 by_cases hm : 0 < new.length
 ·have yY := Src.K8 hi hv hm
  obtain ⟨u, E', eU, g7, h1, h2⟩ := hi.append (ty := ty) ht hz (Nat.eq_of_beq_eq_true qp) xv ho qq yY hm List.nodup_nil (fun _ h => by cases h) q6 AU Hp
  exact ⟨u, E', _, gU g7, h1.gd (by rw [hn]; exact hd) h2⟩
 ·have mD : new = [] := List.eq_nil_of_length_eq_zero om
  subst mD
  obtain ⟨E', eU, hw, h1, h2⟩ := hi.trim xv ho qq Hp
  simp only [List.append_nil, List.length_nil, Nat.add_zero]
  refine ⟨a.eval x, E', _, ?_, h1.gd (by rw [hn]; exact hd) h2⟩
  rw [hw]
  refine gU ?_
  simp only [RX] at xv hv
  obtain ⟨_, base, cap, hc, dw⟩ := xv
  obtain ⟨_, _, b2, c2, KC, _⟩ := hv
  rw [hc, KC]
  exact lY ht (by rcases dw with ⟨_, _, h3, h4⟩ | ⟨_, _, _, h3, _⟩ <;> omega) E.w

end
end Go.AW
