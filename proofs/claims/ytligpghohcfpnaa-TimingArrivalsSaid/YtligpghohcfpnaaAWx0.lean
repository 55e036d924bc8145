/- Part of the abstract walk: values as trees, objects by name, and what they say of the model's values and memory. -/
import Derived.WalkKit
set_option linter.unusedSimpArgs false
set_option linter.unusedVariables false
set_option linter.unusedSectionVars false
namespace Go.AW
open Go
theorem om {p : Prop} (h : p := by omega) : p := h
theorem ao {p : Prop} (h : p := by kernel_rfl) : p := h
theorem ae {p : Prop} (h : p := by decide) : p := h
theorem bm {p : Prop} (h : p := by assumption) : p := h
theorem TW {p : Prop} (h : p := by (simp only [List.length_append, List.length_cons, List.length_nil]; omega)) : p := h
theorem fw {p : Prop} (h : p := by first | rfl | simp_all) : p := h
theorem bf {p : Prop} (h : p := by first | rfl | omega) : p := h
theorem bw {p : Prop} (h : p := by first | omega | simp [-List.getD_eq_getElem?_getD] <;> omega) : p := h
theorem oS {p : Prop} (h : p := by first | omega | (simp [-List.getD_eq_getElem?_getD]; done) | (simp [-List.getD_eq_getElem?_getD]; omega)) : p := h
theorem mR {p : Prop} (h : p := by (constructor <;> (simp only [List.length_append, List.length_cons, List.length_nil]; omega))) : p := h
inductive X where
 | v (u : Value)
 | no
 | fz (s : Nat) (rows : List (List X))
 | ei (s : Nat) (rows : List (List X))
 | ptr (o s i k : Nat)
 | ba (o s lo n : Nat)
 | mref (o : Nat)
 | fp (row : List X) (k : Nat)
 | agg (xs : List X)
 | tup (xs : List X)
 | gB (fn : Fn) (first kW : List X)
mutual
def X.nr : X → Bool
 | .v _ | .no | .fz .. | .ei .. | .fp .. => true
 | .ptr .. | .ba .. | .mref _ => false
 | .agg xs => X.gA xs
 | .tup xs => X.gA xs
 | .gB _ a b => X.gA a && X.gA b
def X.gA : List X → Bool
 | [] => true
 | x :: r => x.nr && X.gA r
end
mutual
def X.dN (o : Nat) : X → Bool
 | .v _ | .no | .fz .. | .ei .. | .fp .. => false
 | .ptr p .. => Nat.beq p o
 | .ba p .. => Nat.beq p o
 | .mref p => Nat.beq p o
 | .agg xs => X.cG o xs
 | .tup xs => X.cG o xs
 | .gB _ a b => X.cG o a || X.cG o b
def X.cG (o : Nat) : List X → Bool
 | [] => false
 | x :: r => x.dN o || X.cG o r
end
mutual
def X.free : X → Bool
 | .v _ | .no | .fz .. | .ptr .. | .ba .. | .mref _ | .fp .. | .gB .. => true
 | .ei .. => false
 | .agg xs => X.b9 xs
 | .tup xs => X.b9 xs
def X.b9 : List X → Bool
 | [] => true
 | x :: r => x.free && X.b9 r
end
structure AF where
 b : Nat
 off : Nat
 cap : Nat
abbrev Fz := Nat → Nat → Option Value
structure Env where
 φ : Fz
 β : Nat → Option AF
 w : World
def jA : Value → Prop
 | .agg _ | .tuple _ => False
 | _ => True
def cz (s : Nat) (rows : List (List X)) : Prop := ∀ r ∈ rows, r.length = s
mutual
def RX (E : Env) : X → Value → List Nat → Prop
 | .v u, c, R => c = u ∧ R = []
 | .no, _, R => R = []
 | .fz s rows, c, R => R = [] ∧ cz s rows ∧ ∃ base cap, c = .slice base rows.length cap ∧
   ((rows = [] ∧ cap = 0) ∨ ∃ b off, base = some ⟨b, off, none⟩ ∧ rows.length ≤ cap ∧ ke E rows b off)
 | .ei s rows, c, R => cz s rows ∧ ∃ base cap, c = .slice base rows.length cap ∧
   ((rows = [] ∧ cap = 0 ∧ R = []) ∨ ∃ b off cs ty R', base = some ⟨b, off, none⟩ ∧ E.w.heap[b]? = some (.cells cs ty (0, 0)) ∧
    rows.length ≤ cap ∧ off + cap * s ≤ cs.size ∧ (∀ i, E.φ b i = none) ∧ cH E rows cs off R' ∧ R = b :: R')
 | .ptr o s i k, c, R => R = [] ∧ ∃ B, E.β o = some B ∧ c = .pointer (some ⟨B.b, B.off + (i * s + k), none⟩)
 | .ba o s lo n, c, R => R = [] ∧ ∃ base cap, c = .slice base n cap ∧
   ((E.β o = none ∧ lo = 0 ∧ n = 0 ∧ cap = 0) ∨ ∃ B, E.β o = some B ∧ lo + cap = B.cap ∧ n ≤ cap ∧ (cap = 0 ∨ base = some ⟨B.b, B.off + lo * s, none⟩))
 | .mref o, c, R => R = [] ∧ ∃ B, E.β o = some B ∧ c = .map (some B.b)
 | .fp row k, c, R => R = [] ∧ ∃ b off, c = .pointer (some ⟨b, off + k, none⟩) ∧ RF E row b off
 | .agg xs, c, R => ∃ cs, c = .agg cs ∧ bz E xs cs.toList R
 | .tup xs, c, R => ∃ cs, c = .tuple cs ∧ ej E xs cs.toList R
 | .gB fn first kW, c, R => R = [] ∧ ∃ f cc, c = .func fn f cc ∧ ej E first f.toList [] ∧ ej E kW cc.toList []
def bz (E : Env) : List X → List Value → List Nat → Prop
 | [], cs, R => cs = [] ∧ R = []
 | x :: r, cs, R => ∃ c di R₁ R₂, cs = c :: di ∧ jA c ∧ RX E x c R₁ ∧ bz E r di R₂ ∧ R = R₁ ++ R₂
def ej (E : Env) : List X → List Value → List Nat → Prop
 | [], cs, R => cs = [] ∧ R = []
 | x :: r, cs, R => ∃ c di R₁ R₂, cs = c :: di ∧ RX E x c R₁ ∧ ej E r di R₂ ∧ R = R₁ ++ R₂
def RF (E : Env) : List X → Nat → Nat → Prop
 | [], _, _ => True
 | x :: r, b, off => (∃ u, E.φ b off = some u ∧ jA u ∧ x.nr = true ∧ RX E x u []) ∧ RF E r b (off + 1)
def ke (E : Env) : List (List X) → Nat → Nat → Prop
 | [], _, _ => True
 | r :: rs, b, off => RF E r b off ∧ ke E rs b (off + r.length)
def RO (E : Env) : List X → Array Value → Nat → List Nat → Prop
 | [], _, _, R => R = []
 | x :: r, cs, off, R => ∃ u R₁ R₂, cs[off]? = some u ∧ jA u ∧ RX E x u R₁ ∧ RO E r cs (off + 1) R₂ ∧ R = R₁ ++ R₂
def cH (E : Env) : List (List X) → Array Value → Nat → List Nat → Prop
 | [], _, _, R => R = []
 | r :: rs, cs, off, R => ∃ R₁ R₂, X.gA r = true ∧ RO E r cs off R₁ ∧ cH E rs cs (off + r.length) R₂ ∧ R = R₁ ++ R₂
end
inductive Obj where
 | cells (xs : List X)
 | rows (s : Nat) (rs : List (List X))
 | wA (es : List (Value × Value))
 | gone
end Go.AW
namespace Go.AW
open Go
theorem cJ {α} {a : α} {l r : List α} (h : a ∈ l) : a ∈ l ++ r := List.mem_append.2 (.inl h)
theorem cA {α} {a : α} {l r : List α} (h : a ∈ r) : a ∈ l ++ r := List.mem_append.2 (.inr h)
def Env.On (E E' : Env) (R : List Nat) : Prop :=
 (∀ b i v, E.φ b i = some v → E'.φ b i = some v) ∧ ∀ b ∈ R, E'.w.heap[b]? = E.w.heap[b]? ∧ ((∀ i, E.φ b i = none) → ∀ i, E'.φ b i = none)
theorem Env.On.sub {E E' : Env} {R R' : List Nat} (h : E.On E' R) (hs : ∀ b ∈ R', b ∈ R) : E.On E' R' := ⟨h.1, fun b hb => h.2 b (hs b hb)⟩
mutual
theorem X.oy : ∀ {x : X}, x.nr = true → ∀ o, x.dN o = false
 | .v _, _, _ | .no, _, _ | .fz .., _, _ | .ei .., _, _ | .fp .., _, _ => rfl
 | .agg xs, h, o => X.fB (xs := xs) h o
 | .tup xs, h, o => X.fB (xs := xs) h o
 | .gB _ a b, h, o => by
  simp only [X.nr, Bool.and_eq_true] at h
  simp only [X.dN, X.fB h.1 o, X.fB h.2 o, Bool.or_self]
theorem X.fB : ∀ {xs : List X}, X.gA xs = true → ∀ o, X.cG o xs = false
 | [], _, _ => rfl
 | x :: r, h, o => by
  simp only [X.gA, Bool.and_eq_true] at h
  simp only [X.cG, X.oy h.1 o, X.fB h.2 o, Bool.or_self]
end
mutual
theorem RX.mono {E E' : Env} : ∀ (x : X) (c : Value) (R : List Nat), E.On E' R → (∀ o, x.dN o = true → E'.β o = E.β o) → RX E x c R → RX E' x c R
 | .v u, c, R, _, _, h => by simpa [RX] using h
 | .no, c, R, _, _, h => by simpa [RX] using h
 | .fz s rows, c, R, hE, _, h => by
  simp only [RX] at h ⊢
  obtain ⟨hR, hu, base, cap, hc, hh⟩ := h
  refine ⟨hR, hu, base, cap, hc, ?_⟩
  rcases hh with hh | ⟨b, off, hb, hl, hf⟩
  ·exact .inl hh
  ·exact .inr ⟨b, off, hb, hl, ke.mono rows b off (hE.sub (by simp)) hf⟩
 | .ei s rows, c, R, hE, _, h => by
  simp only [RX] at h ⊢
  obtain ⟨hu, base, cap, hc, hh⟩ := h
  refine ⟨hu, base, cap, hc, ?_⟩
  rcases hh with hh | ⟨b, off, cs, ty, R', hb, hw, hl, ho, hf, hr, hR⟩
  ·exact .inl hh
  ·subst hR
   have h2 := hE.2 b (by simp)
   exact .inr ⟨b, off, cs, ty, R', hb, h2.1.trans hw, hl, ho, h2.2 hf, cH.mono rows cs off R' (hE.sub (fun _ h => by simp [h])) hr, rfl⟩
 | .ptr o s i k, c, R, _, hβ, h => by
  simp only [RX] at h ⊢
  rw [hβ o (by simp [X.dN])]; exact h
 | .ba o s lo n, c, R, _, hβ, h => by
  simp only [RX] at h ⊢
  rw [hβ o (by simp [X.dN])]; exact h
 | .mref o, c, R, _, hβ, h => by
  simp only [RX] at h ⊢
  rw [hβ o (by simp [X.dN])]; exact h
 | .fp row k, c, R, hE, _, h => by
  simp only [RX] at h ⊢
  obtain ⟨hR, b, off, hc, hf⟩ := h
  exact ⟨hR, b, off, hc, RF.mono row b off (hE.sub (by simp)) hf⟩
 | .agg xs, c, R, hE, hβ, h => by
  simp only [RX] at h ⊢
  obtain ⟨cs, hc, hs⟩ := h
  exact ⟨cs, hc, bz.mono xs _ R hE (fun o ho => hβ o (by simp [X.dN, ho])) hs⟩
 | .tup xs, c, R, hE, hβ, h => by
  simp only [RX] at h ⊢
  obtain ⟨cs, hc, hs⟩ := h
  exact ⟨cs, hc, ej.mono xs _ R hE (fun o ho => hβ o (by simp [X.dN, ho])) hs⟩
 | .gB fn a b, c, R, hE, hβ, h => by
  simp only [RX] at h ⊢
  obtain ⟨hR, f, cc, hc, h1, h2⟩ := h
  exact ⟨hR, f, cc, hc, ej.mono a _ [] (hE.sub (by simp)) (fun o ho => hβ o (by simp [X.dN, ho])) h1, ej.mono b _ [] (hE.sub (by simp)) (fun o ho => hβ o (by simp [X.dN, ho])) h2⟩
theorem bz.mono {E E' : Env} : ∀ (xs : List X) (cs : List Value) (R : List Nat), E.On E' R → (∀ o, X.cG o xs = true → E'.β o = E.β o) → bz E xs cs R → bz E' xs cs R
 | [], _, _, _, _, h => by simpa [bz] using h
 | x :: r, cs, R, hE, hβ, h => by
  simp only [bz] at h ⊢
  obtain ⟨c, di, R₁, R₂, hc, hs, h1, h2, hR⟩ := h
  subst hR
  exact ⟨c, di, R₁, R₂, hc, hs, RX.mono x c R₁ (hE.sub (fun _ h => cJ h)) (fun o ho => hβ o (by simp [X.cG, ho])) h1,
   bz.mono r di R₂ (hE.sub (fun _ h => cA h)) (fun o ho => hβ o (by simp [X.cG, ho])) h2, rfl⟩
theorem ej.mono {E E' : Env} : ∀ (xs : List X) (cs : List Value) (R : List Nat), E.On E' R → (∀ o, X.cG o xs = true → E'.β o = E.β o) → ej E xs cs R → ej E' xs cs R
 | [], _, _, _, _, h => by simpa [ej] using h
 | x :: r, cs, R, hE, hβ, h => by
  simp only [ej] at h ⊢
  obtain ⟨c, di, R₁, R₂, hc, h1, h2, hR⟩ := h
  subst hR
  exact ⟨c, di, R₁, R₂, hc, RX.mono x c R₁ (hE.sub (fun _ h => cJ h)) (fun o ho => hβ o (by simp [X.cG, ho])) h1,
   ej.mono r di R₂ (hE.sub (fun _ h => cA h)) (fun o ho => hβ o (by simp [X.cG, ho])) h2, rfl⟩
theorem RF.mono {E E' : Env} : ∀ (xs : List X) (b off : Nat), E.On E' [] → RF E xs b off → RF E' xs b off
 | [], _, _, _, _ => by simp [RF]
 | x :: r, b, off, hE, h => by
  simp only [RF] at h ⊢
  obtain ⟨⟨u, hu, hs, hn, hx⟩, hr⟩ := h
  exact ⟨⟨u, hE.1 _ _ _ hu, hs, hn, RX.mono x u [] hE (fun o ho => by rw [X.oy hn] at ho; cases ho) hx⟩, RF.mono r b (off + 1) hE hr⟩
theorem ke.mono {E E' : Env} : ∀ (rs : List (List X)) (b off : Nat), E.On E' [] → ke E rs b off → ke E' rs b off
 | [], _, _, _, _ => by simp [ke]
 | r :: rs, b, off, hE, h => by
  simp only [ke] at h ⊢
  exact ⟨RF.mono r b off hE h.1, ke.mono rs b _ hE h.2⟩
theorem RO.mono {E E' : Env} : ∀ (xs : List X) (cs : Array Value) (off : Nat) (R : List Nat), E.On E' R → (∀ o, X.cG o xs = true → E'.β o = E.β o) → RO E xs cs off R → RO E' xs cs off R
 | [], _, _, _, _, _, h => by simpa [RO] using h
 | x :: r, cs, off, R, hE, hβ, h => by
  simp only [RO] at h ⊢
  obtain ⟨u, R₁, R₂, hu, hs, h1, h2, hR⟩ := h
  subst hR
  exact ⟨u, R₁, R₂, hu, hs, RX.mono x u R₁ (hE.sub (fun _ h => cJ h)) (fun o ho => hβ o (by simp [X.cG, ho])) h1,
   RO.mono r cs (off + 1) R₂ (hE.sub (fun _ h => cA h)) (fun o ho => hβ o (by simp [X.cG, ho])) h2, rfl⟩
theorem cH.mono {E E' : Env} : ∀ (rs : List (List X)) (cs : Array Value) (off : Nat) (R : List Nat), E.On E' R → cH E rs cs off R → cH E' rs cs off R
 | [], _, _, _, _, h => by simpa [cH] using h
 | r :: rs, cs, off, R, hE, h => by
  simp only [cH] at h ⊢
  obtain ⟨R₁, R₂, hn, h1, h2, hR⟩ := h
  subst hR
  exact ⟨R₁, R₂, hn, RO.mono r cs off R₁ (hE.sub (fun _ h => cJ h)) (fun o ho => by rw [X.fB hn] at ho; cases ho) h1,
   cH.mono rs cs _ R₂ (hE.sub (fun _ h => cA h)) h2, rfl⟩
end
end Go.AW
namespace Go.AW
open Go
def look {α : Type} : List (Nat × α) → Nat → Option α
 | [], _ => none
 | (t, x) :: r, s => bif Nat.beq t s then some x else look r s
structure St where
 aD : List (Nat × X)
 aG : List (Nat × Obj)
def dG (E : Env) (o : Nat) : Obj → List Nat → Prop
 | .cells xs, R => X.b9 xs = true ∧ ∃ B cs ty, E.β o = some B ∧ E.w.heap[B.b]? = some (.cells cs ty (0, 0)) ∧ (∀ i, E.φ B.b i = none) ∧ B.off + xs.length ≤ cs.size ∧ RO E xs cs B.off [] ∧ R = [B.b]
 | .rows s rs, R => cz s rs ∧ ((E.β o = none ∧ rs = [] ∧ R = []) ∨ ∃ B cs ty R', E.β o = some B ∧ E.w.heap[B.b]? = some (.cells cs ty (0, 0)) ∧ (∀ i, E.φ B.b i = none) ∧
   rs.length ≤ B.cap ∧ B.off + B.cap * s ≤ cs.size ∧ cH E rs cs B.off R' ∧ R = B.b :: R')
 | .wA es, R => ∃ B pL clock, E.β o = some B ∧ E.w.heap[B.b]? = some (.map pL clock) ∧ (∀ i, E.φ B.b i = none) ∧ pL.toList.map (fun e => (e.key, e.val)) = es ∧ R = [B.b]
 | .gone, R => R = []
inductive Own where
 | slot (s : Nat)
 | obj (o : Nat)
 deriving DecidableEq
structure eL where
 n : Nat
 F : List Nat
structure Ctx where
 K : Nat → Prop
 w0 : World
 φ0 : Fz
 β0 : Nat → Option AF
 fn : eL
 ds : List Deferred
structure Inv (G : Ctx) (E : Env) (RR : Own → List Nat) (st : St) (a : Act) : Prop where
 kR : ∀ b i v, E.φ b i = some v → E.w.cell? ⟨b, i, none⟩ = some v
 aD : ∀ s x, look st.aD s = some x → RX E x (a.tmps.getD s undef) (RR (.slot s))
 aG : ∀ o ob, look st.aG o = some ob → dG E o ob (RR (.obj o))
 nodup : ∀ p, (RR p).Nodup
 apart : ∀ p q, p ≠ q → ∀ b ∈ RR p, b ∉ RR q
 own : ∀ p b, b ∈ RR p → b < E.w.heap.size ∧ ¬ G.K b
 ah : ∀ b, G.K b → E.w.heap[b]? = G.w0.heap[b]?
 size : G.w0.heap.size ≤ E.w.heap.size
 small : ∀ b, G.K b → b < G.w0.heap.size
 os : E.w.os = G.w0.os
 tape : E.w.tape = G.w0.tape
 output : E.w.output = G.w0.output
 φ0 : ∀ b i v, G.φ0 b i = some v → E.φ b i = some v
 grow : ∀ b i v, E.φ b i = some v → G.φ0 b i = some v ∨ ¬ G.K b
 fixed : ∀ o, G.fn.F.elem o = true → E.β o = G.β0 o
 tmps : a.tmps.size = G.fn.n
 defers : a.defers = G.ds
def cy (G : Ctx) (st : St) (a : Act) (w : World) : Prop := ∃ E RR, E.w = w ∧ Inv G E RR st a
def mI (G : Ctx) (Q : Exit → St → Prop) (e : Exit) (a : Act) (w : World) : Prop := ∃ st, cy G st a w ∧ Q e st
def dk (P : Program) (N : eL) (c : Code) (st : St) (Q : Exit → St → Prop) : Prop :=
 ∀ G : Ctx, G.fn = N → ∀ a w, cy G st a w → c.wp P (mI G Q) a w
def aO (P : Program) (N : eL) (all : Array Oper) (rest : List Oper) (st : St) (Q : Exit → St → Prop) : Prop :=
 ∀ G : Ctx, G.fn = N → ∀ a w, cy G st a w → wpList P all (mI G Q) rest a w
def gN (K : St → Prop) (Q : Exit → St → Prop) : Exit → St → Prop
 | .normal, st => K st
 | e, st => Q e st
def nK (id : Nat) (Q : Exit → St → Prop) : Exit → St → Prop
 | .exit id', st => bif Nat.beq id' id then Q .normal st else Q (.exit id') st
 | e, st => Q e st
def bS (st : St) : Operand → Option X
 | .tmp t => look st.aD t
 | .const v => some (.v v)
 | .func f => some (.v (.func (.func f) #[] #[]))
 | .global _ => none
def Le (st aT : St) : Prop :=
 (∀ s x, look aT.aD s = some x → look st.aD s = some x) ∧ (∀ o x, look aT.aG o = some x → look st.aG o = some x)
theorem Le.refl (st : St) : Le st st := ⟨fun _ _ h => h, fun _ _ h => h⟩
theorem Le.holds {G : Ctx} {st aT : St} {a : Act} {w : World} (h : Le st aT) (hh : cy G st a w) : cy G aT a w := by
 obtain ⟨E, RR, hw, hi⟩ := hh
 exact ⟨E, RR, hw, { hi with aD := fun s x hx => hi.aD s x (h.1 s x hx), aG := fun o x hx => hi.aG o x (h.2 o x hx) }⟩
def eM {α : Type} (l l' : List (Nat × α)) : Prop := ∀ s x, look l' s = some x → look l s = some x
theorem eM.nil {α : Type} {l : List (Nat × α)} : eM l [] := fun _ _ h => by cases h
theorem eM.cons {α : Type} {l l' : List (Nat × α)} {s : Nat} {x : α} (h : look l s = some x) (hr : eM l l') : eM l ((s, x) :: l') := by
 intro t y hy
 unfold look at hy
 cases hb : Nat.beq s t with
 | true => rw [hb] at hy; simp at hy; subst hy; rw [Nat.eq_of_beq_eq_true hb] at h; exact h
 | false => rw [hb] at hy; exact hr t y hy
theorem Le.mk {st : St} {sl : List (Nat × X)} {ob : List (Nat × Obj)} (h : eM st.aD sl) (h' : eM st.aG ob) : Le st ⟨sl, ob⟩ := ⟨h, h'⟩
section control
variable {P : Program} {N : eL} {st aT : St} {Q Q' : Exit → St → Prop}
theorem mI.mono {G : Ctx} {e : Exit} {a : Act} {w : World} (h : ∀ st, Q e st → Q' e st) (hp : mI G Q e a w) : mI G Q' e a w :=
 let ⟨st, hh, hq⟩ := hp; ⟨st, hh, h st hq⟩
theorem dk.mono {c : Code} (h : dk P N c st Q) (hq : ∀ e st, Q e st → Q' e st) : dk P N c st Q' :=
 fun G hn a w hh => wp_mono (h G hn a w hh) fun e _ _ hp => mI.mono (hq e) hp
theorem dk.le {c : Code} (hl : Le st aT) (h : dk P N c aT Q) : dk P N c st Q :=
 fun G hn a w hh => h G hn a w (hl.holds hh)
theorem aO.le {all : Array Oper} {rest : List Oper} (hl : Le st aT) (h : aO P N all rest aT Q) : aO P N all rest st Q :=
 fun G hn a w hh => h G hn a w (hl.holds hh)
theorem dk.skip (h : Q .normal st) : dk P N .skip st Q := fun _ _ _ _ hh => wp_skip ⟨st, hh, h⟩
theorem dk.exit {id : Nat} (h : Q (.exit id) st) : dk P N (.exit id) st Q := fun _ _ _ _ hh => wp_exit ⟨st, hh, h⟩
theorem dk.ret (h : Q .ret st) : dk P N .ret st Q := fun _ _ _ _ hh => wp_ret ⟨st, hh, h⟩
theorem dk.seq {x y : Code} (h : dk P N x st (gN (fun aT => dk P N y aT Q) Q)) : dk P N (.seq x y) st Q := by
 intro G hn a w hh
 refine wp_seq (wp_mono (h G hn a w hh) ?_)
 rintro e a' w' ⟨aT, gL, hq⟩
 cases e <;> first | exact hq G hn a' w' gL | exact ⟨aT, gL, hq⟩
theorem dk.block {id : Nat} {c : Code} (h : dk P N c st (nK id Q)) : dk P N (.block id c) st Q := by
 intro G hn a w hh
 refine wp_block (wp_mono (h G hn a w hh) ?_)
 rintro e a' w' ⟨aT, gL, hq⟩
 cases e with
 | exit id' =>
  simp only [nK] at hq
  simp only [Exit.inBlock]
  cases hb : Nat.beq id' id with
  | true =>
   rw [hb] at hq
   rw [if_pos (Nat.eq_of_beq_eq_true hb)]
   exact ⟨aT, gL, hq⟩
  | false =>
   rw [hb] at hq
   rw [if_neg (Nat.ne_of_beq_eq_false hb)]
   exact ⟨aT, gL, hq⟩
 | _ => exact ⟨aT, gL, hq⟩
theorem Inv.eval {G : Ctx} {E : Env} {RR : Own → List Nat} {a : Act} (hi : Inv G E RR st a) {o : Operand} {x : X} (h : bS st o = some x) : ∃ R, RX E x (a.eval o) R := by
 cases o with
 | tmp t => exact ⟨_, hi.aD t x h⟩
 | const v => simp only [bS, Option.some.injEq] at h; subst h; exact ⟨[], by simp [RX, Act.eval]⟩
 | func f => simp only [bS, Option.some.injEq] at h; subst h; exact ⟨[], by simp [RX, Act.eval]⟩
 | global g => cases h
theorem Inv.val {G : Ctx} {E : Env} {RR : Own → List Nat} {a : Act} (hi : Inv G E RR st a) {o : Operand} {u : Value} (h : bS st o = some (.v u)) : a.eval o = u := by
 obtain ⟨R, hR⟩ := hi.eval h
 simp only [RX] at hR
 exact hR.1
theorem dk.cond {c : Operand} {x y : Code} {b : Bool} (hc : bS st c = some (.v (.bool b))) (ht : b = true → dk P N x st Q) (hf : b = false → dk P N y st Q) :
  dk P N (.cond c x y) st Q := by
 intro G hn a w hh
 obtain ⟨E, RR, rfl, hi⟩ := hh
 exact wp_cond_split (hi.val hc) (fun h => ht h G hn a E.w ⟨E, RR, rfl, hi⟩) (fun h => hf h G hn a E.w ⟨E, RR, rfl, hi⟩)
theorem rK {c : Code} {ι : Type} {R : Exit → Act → World → Prop} (J : ι → Act → World → Prop) (μ : ι → Nat)
  (round : ∀ i a w, J i a w → c.wp P (Exit.then (fun a' w' => ∃ j, J j a' w' ∧ μ j < μ i) R) a w) {i : ι} {a : Act} {w : World} (h₀ : J i a w) : (Code.loop c).wp P R a w := by
 intro b k cs
 have key : ∀ n i a w, μ i = n → J i a w →
   ∃ e a' w', R e a' w' ∧ Arrives P (lone (b.at a (.code c :: .inLoop c :: k)) cs w) b k cs e a' w' := by
  intro n
  induction n using Nat.strongRecOn with
  | _ n ih =>
   intro i a w hn hI
   obtain ⟨e, a₁, w₁, hq, oU⟩ := round i a w hI b (.inLoop c :: k) cs
   cases e with
   | normal =>
    obtain ⟨j, Rl, iU⟩ := hq
    obtain ⟨e₂, a₂, w₂, Rm, Ji⟩ := ih (μ j) (hn ▸ iU) j a₁ w₁ rfl Rl
    exact ⟨e₂, a₂, w₂, Rm, .of_steps (Steps.trans oU (.one step_inLoop)) Ji⟩
   | exit id => exact ⟨_, a₁, w₁, hq, .pass (x := .inLoop c) rfl (fun _ _ => .inl (by simp)) oU⟩
   | goto l => exact ⟨_, a₁, w₁, hq, .pass (x := .inLoop c) rfl (fun _ _ => .inl (by simp)) oU⟩
   | ret => exact ⟨_, a₁, w₁, hq, .pass (x := .inLoop c) rfl (fun _ _ => .inl (by simp)) oU⟩
   | panic ch => exact ⟨_, a₁, w₁, hq, .pass (x := .inLoop c) rfl (fun _ _ => .inl (by simp)) oU⟩
   | outgrown => exact ⟨_, a₁, w₁, hq, .pass (x := .inLoop c) rfl (fun _ _ => .inl (by simp)) oU⟩
 obtain ⟨e, a', w', hq, oU⟩ := key _ i a w rfl h₀
 exact ⟨e, a', w', hq, .of_steps (.one step_loop) oU⟩
theorem dk.loop {ι : Type} {c : Code} (S : ι → St) (I : ι → Prop) (μ : ι → Nat) (i : ι) (hi : I i) (hs : Le st (S i))
  (round : ∀ i, I i → dk P N c (S i) (gN (fun aT => ∃ j, I j ∧ μ j < μ i ∧ Le aT (S j)) Q)) : dk P N (.loop c) st Q := by
 intro G hn a w hh
 refine rK (fun i a w => I i ∧ cy G (S i) a w) μ ?_ ⟨hi, hs.holds hh⟩
 rintro i a w ⟨hI, hh⟩
 refine wp_mono (round i hI G hn a w hh) ?_
 rintro e a' w' ⟨aT, gL, hq⟩
 cases e with
 | normal => obtain ⟨j, hj, iU, hle⟩ := hq; exact ⟨j, ⟨hj, hle.holds gL⟩, iU⟩
 | _ => exact ⟨aT, gL, hq⟩
theorem dk.region {id : Nat} {l : List Oper} (h : aO P N l.toArray l st Q) : dk P N (.region id l.toArray false) st Q :=
 fun G hn a w hh => wp_region_lit (h G hn a w hh)
theorem aO.nil {all : Array Oper} (h : Q .normal st) : aO P N all [] st Q := fun _ _ _ _ hh => ⟨st, hh, h⟩
end control
end Go.AW
namespace Go.AW
open Go
def TY.shape (P : Program) (t : TypeId) : Option (Option Nat) :=
 match P.underlying t, P.info? t with
 | some (.struct _), some i => some (some i.size)
 | some (.array _ _), some i => some (some i.size)
 | some _, some _ => some none
 | _, _ => none
def TY.slice (P : Program) (t : TypeId) : Option (Nat × Nat × Nat) :=
 match P.underlying t with
 | some (.slice e) => (P.info? e).map fun i => (e, i.size, i.bytes)
 | _ => none
def TY.array (P : Program) (t : TypeId) : Option (Nat × Nat × Nat) :=
 match P.underlying t with
 | some (.array n e) => (P.info? e).map fun i => (n, e, i.size)
 | _ => none
def TY.jI (P : Program) (t : TypeId) (f : Nat) : Option (Nat × TypeId) :=
 match P.underlying t with
 | some (.struct fs) => match fs[f]? with
  | some fd => match P.info? fd.type with
   | some i => bif Nat.beq i.size 0 then none else some (fd.offset, fd.type)
   | none => none
  | none => none
 | _ => none
def TY.zero (P : Program) (t : TypeId) : Option (List Value) := (P.info? t).bind fun i => i.zero.map (·.cells.toList)
def TY.isInt (P : Program) (t : TypeId) : Option IntKind := match P.underlying t with | some (.int k) => some k | _ => none
def St.put (st : St) (d : Nat) (x : X) : St := { st with aD := (d, x) :: st.aD }
mutual
theorem RX.free {E : Env} : ∀ {x : X} {c : Value} {R : List Nat}, x.free = true → RX E x c R → R = []
 | .v _, _, _, _, h => by simp only [RX] at h; exact h.2
 | .no, _, _, _, h => by simpa [RX] using h
 | .fz .., _, _, _, h => by simp only [RX] at h; exact h.1
 | .ptr .., _, _, _, h => by simp only [RX] at h; exact h.1
 | .ba .., _, _, _, h => by simp only [RX] at h; exact h.1
 | .mref _, _, _, _, h => by simp only [RX] at h; exact h.1
 | .fp .., _, _, _, h => by simp only [RX] at h; exact h.1
 | .gB .., _, _, _, h => by simp only [RX] at h; exact h.1
 | .ei .., _, _, hf, _ => by simp [X.free] at hf
 | .agg xs, _, _, hf, h => by
  simp only [RX] at h
  obtain ⟨_, _, h⟩ := h
  exact bz.free (xs := xs) hf h
 | .tup xs, _, _, hf, h => by
  simp only [RX] at h
  obtain ⟨_, _, h⟩ := h
  exact ej.free (xs := xs) hf h
theorem bz.free {E : Env} : ∀ {xs : List X} {cs : List Value} {R : List Nat}, X.b9 xs = true → bz E xs cs R → R = []
 | [], _, _, _, h => by simp only [bz] at h; exact h.2
 | x :: r, _, _, hf, h => by
  simp only [bz] at h
  obtain ⟨c, di, R₁, R₂, _, _, h1, h2, hR⟩ := h
  simp only [X.b9, Bool.and_eq_true] at hf
  rw [hR, RX.free hf.1 h1, bz.free hf.2 h2]; rfl
theorem ej.free {E : Env} : ∀ {xs : List X} {cs : List Value} {R : List Nat}, X.b9 xs = true → ej E xs cs R → R = []
 | [], _, _, _, h => by simp only [ej] at h; exact h.2
 | x :: r, _, _, hf, h => by
  simp only [ej] at h
  obtain ⟨c, di, R₁, R₂, _, h1, h2, hR⟩ := h
  simp only [X.b9, Bool.and_eq_true] at hf
  rw [hR, RX.free hf.1 h1, ej.free hf.2 h2]; rfl
end
theorem RO.free {E : Env} : ∀ {xs : List X} {cs : Array Value} {off : Nat} {R : List Nat}, X.b9 xs = true → RO E xs cs off R → R = []
 | [], _, _, _, _, h => by simpa [RO] using h
 | x :: r, _, _, _, hf, h => by
  simp only [RO] at h
  obtain ⟨c, R₁, R₂, _, _, h1, h2, hR⟩ := h
  simp only [X.b9, Bool.and_eq_true] at hf
  rw [hR, RX.free hf.1 h1, RO.free hf.2 h2]; rfl
def fH (RR : Own → List Nat) (p : Own) (R : List Nat) : Own → List Nat := fun q => if q = p then R else RR q
theorem AS {a : Act} {d : Nat} {u : Value} (hd : d < a.tmps.size) : (a.put (some d) u).tmps.getD d undef = u := by
 simp [Act.put, Array.getD, hd]
theorem vo {a : Act} {d s : Nat} {u : Value} (h : d ≠ s) : (a.put (some d) u).tmps.getD s undef = a.tmps.getD s undef := by
 simp only [Act.put, Array.getD_eq_getD_getElem?, Array.getElem?_setIfInBounds_ne h]
section
variable {P : Program} {N : eL} {G : Ctx} {E : Env} {RR : Own → List Nat} {st : St} {a : Act} {Q : Exit → St → Prop}
theorem Inv.put (hi : Inv G E RR st a) {d : Nat} {x : X} {u : Value} {R : List Nat} (hd : d < G.fn.n) (hx : RX E x u R) (hn : R.Nodup)
  (hR : ∀ b ∈ R, b < E.w.heap.size ∧ ¬ G.K b ∧ ∀ p, p ≠ .slot d → b ∉ RR p) : Inv G E (fH RR (.slot d) R) (st.put d x) (a.put (some d) u) := by
 refine { hi with aD := ?_, aG := ?_, nodup := ?_, apart := ?_, own := ?_, tmps := ?_, defers := ?_ }
 ·intro s y hy
  simp only [St.put, look] at hy
  cases hb : Nat.beq d s with
  | true =>
   have := Nat.eq_of_beq_eq_true hb
   subst this
   rw [hb] at hy
   simp only [cond_true, Option.some.injEq] at hy
   subst hy
   rw [AS (by rw [hi.tmps]; exact hd)]
   simpa [fH] using hx
  | false =>
   have ew := Nat.ne_of_beq_eq_false hb
   rw [hb] at hy
   rw [vo ew]
   have : fH RR (.slot d) R (.slot s) = RR (.slot s) := by simp [fH, Ne.symm ew]
   rw [this]
   exact hi.aD s y hy
 ·intro o ob ho
  have : fH RR (.slot d) R (.obj o) = RR (.obj o) := by simp [fH]
  rw [this]; exact hi.aG o ob ho
 ·intro p
  unfold fH
  split
  ·exact hn
  ·exact hi.nodup p
 ·intro p q lr b hb
  unfold fH at hb ⊢
  split at hb
  ·rename_i hp
   subst hp
   rw [if_neg (Ne.symm lr)]
   exact (hR b hb).2.2 q (Ne.symm lr)
  ·split
   ·rename_i hp hq
    subst hq
    intro gq
    exact (hR b gq).2.2 p lr hb
   ·exact hi.apart p q lr b hb
 ·intro p b hb
  unfold fH at hb
  split at hb
  ·exact ⟨(hR b hb).1, (hR b hb).2.1⟩
  ·exact hi.own p b hb
 ·simp [Act.put, hi.tmps]
 ·simp [Act.put, hi.defers]
theorem Inv.g5 (hi : Inv G E RR st a) {d : Nat} {x : X} {u : Value} (hd : d < G.fn.n) (hx : RX E x u []) : Inv G E (fH RR (.slot d) []) (st.put d x) (a.put (some d) u) :=
 hi.put hd hx List.nodup_nil (fun _ hb => by cases hb)
def Yields (P : Program) (N : eL) (st : St) (o : Oper) (x : X) : Prop :=
 ∀ (G : Ctx) (E : Env) (RR : Own → List Nat) (a : Act), G.fn = N → Inv G E RR st a → ∃ u, (execOp a.eval o).run P E.w = .ok (.value u) E.w ∧ RX E x u []
theorem aO.val {all : Array Oper} {rest : List Oper} {d : Nat} {op : Op} {ty : TypeId} {pos : String} {af : Array Edge} {x : X}
  (hy : Yields P N st ⟨some d, op, ty, pos, af, none⟩ x) (hd : d < N.n) (k : aO P N all rest (st.put d x) Q) : aO P N all (⟨some d, op, ty, pos, af, none⟩ :: rest) st Q := by
 intro G hn a w hh
 obtain ⟨E, RR, rfl, hi⟩ := hh
 obtain ⟨u, hr, hx⟩ := hy G E RR a hn hi
 refine wpList_plain rfl fun K hK => ?_
 simp only [Oper.wp, hr, Oper.upon_value]
 exact hK _ _ (k G hn _ _ ⟨E, _, rfl, hi.g5 (hn ▸ hd) hx⟩)
theorem aO.split {all : Array Oper} {rest : List Oper} {d : Nat} {b : Bool} (hx : look st.aD d = some (.v (.bool b)))
  (ht : b = true → aO P N all rest (st.put d (.v (.bool true))) Q) (hf : b = false → aO P N all rest (st.put d (.v (.bool false))) Q) : aO P N all rest st Q := by
 have : Le st (st.put d (.v (.bool b))) := ⟨eM.cons hx (fun _ _ h => h), fun _ _ h => h⟩
 cases b
 ·exact (hf rfl).le this
 ·exact (ht rfl).le this
theorem aO.ar {all : Array Oper} {rest : List Oper} {dst : Option Nat} {op : Op} {ty : TypeId} {pos : String} {af : Array Edge} {j d : Nat} {want : Bool}
  (hj : (all[j]?).bind (·.dst) = some d) (hd : d < N.n) (hx : look st.aD d = some (.v (.bool want)))
  (k : aO P N all (⟨dst, op, ty, pos, af, none⟩ :: rest) st Q) : aO P N all (⟨dst, op, ty, pos, af, some (j, want)⟩ :: rest) st Q := by
 intro G hn a w hh
 have hk := k G hn a w hh
 obtain ⟨E, RR, rfl, hi⟩ := hh
 have hs := hi.aD d _ hx
 simp only [RX] at hs
 have fu : d < a.tmps.size := by rw [hi.tmps, hn]; exact hd
 have hv : a.tmps[d]? = some (.bool want) := by
  have := hs.1
  simp only [Array.getD, fu, dif_pos] at this
  rw [Array.getElem?_eq_getElem fu]
  exact congrArg some this
 have hw : Region.wanted ⟨dst, op, ty, pos, af, some (j, want)⟩ (yielded all a.tmps) = true := by
  simp [Region.wanted, yielded, hj, hv]
 unfold wpList at hk ⊢
 rw [if_pos hw]
 rw [if_pos (by simp [Region.wanted])] at hk
 exact hk
end
end Go.AW
namespace Go.AW
open Go
section
variable {P : Program} {N : eL} {st : St} {dst : Option Nat} {ty : TypeId} {pos : String} {af : Array Edge} {g : Option (Nat × Bool)}
theorem jr {α β : Type} {s : Sem α} {f : α → Sem β} {w w' : World} {u : α} {r : Result β} (h : s.run P w = .ok u w') (h' : (f u).run P w' = r) : (s.bind f).run P w = r := by
 rw [show (s.bind f) = (s >>= f) from rfl, Sem.run_bind, h]; exact h'
theorem dJ {s : Sem Value} {w w' : World} {u : Value} (h : s.run P w = .ok u w') : (do let x ← s; pure (Next.value x) : Sem Next).run P w = .ok (.value u) w' :=
 jr h rfl
theorem AT {s : Sem Unit} {w w' : World} (h : s.run P w = .ok () w') : (do s; pure Next.skip : Sem Next).run P w = .ok .skip w' :=
 jr h rfl
theorem Y.zg {x : Operand} {y : X} (hx : bS st x = some y) (hf : y.free = true) : Yields P N st ⟨dst, .move x, ty, pos, af, g⟩ y := by
 intro G E RR a _ hi
 obtain ⟨R, h⟩ := hi.eval hx
 have := RX.free hf h
 subst this
 exact ⟨_, rfl, h⟩
theorem Y.qf {x : Operand} {y : X} (hx : bS st x = some y) (hf : y.free = true) : Yields P N st ⟨dst, .assign x, ty, pos, af, g⟩ y := by
 intro G E RR a _ hi
 obtain ⟨R, h⟩ := hi.eval hx
 have := RX.free hf h
 subst this
 exact ⟨_, rfl, h⟩
theorem Y.zn {c x y : Operand} {b : Bool} {z : X} (hc : bS st c = some (.v (.bool b))) (hz : bS st (if b then x else y) = some z) (hf : z.free = true) :
  Yields P N st ⟨dst, .pick c x y, ty, pos, af, g⟩ z := by
 intro G E RR a _ hi
 obtain ⟨R, h⟩ := hi.eval hz
 have := RX.free hf h
 subst this
 refine ⟨a.eval (if b then x else y), ?_, h⟩
 have oz := hi.val hc
 simp only [execOp, oz]
 cases b <;> rfl
theorem Y.qg {op : BinOp} {t t' : TypeId} {x y : Operand} {u v r : Value} (hx : bS st x = some (.v u)) (hy : bS st y = some (.v v))
  (hr : ∀ w, (do eqGuard op t x y u v; binOp op t u v : Sem Value).run P w = .ok r w) : Yields P N st ⟨dst, .binOp op t x y t', ty, pos, af, g⟩ (.v r) := by
 intro G E RR a _ hi
 refine ⟨r, ?_, by simp [RX]⟩
 show (do let x ← (do eqGuard op t x y (a.eval x) (a.eval y); binOp op t (a.eval x) (a.eval y) : Sem Value); pure (Next.value x) : Sem Next).run P E.w = _
 rw [hi.val hx, hi.val hy]
 exact dJ (hr _)
section ints
variable {t t' : TypeId} {x y : Operand} {k : IntKind} {a b r : Int}
theorem Y.qa (hx : bS st x = some (.v (.int k a))) (hy : bS st y = some (.v (.int k b))) (hr : k.wrap (a + b) = r) : Yields P N st ⟨dst, .binOp .add t x y t', ty, pos, af, g⟩ (.v (.int k r)) :=
 Y.qg hx hy fun w => by subst hr; simp [eqGuard, binOp, Op.intArith]
theorem Y.zy (hx : bS st x = some (.v (.int k a))) (hy : bS st y = some (.v (.int k b))) (hr : k.wrap (a - b) = r) : Yields P N st ⟨dst, .binOp .sub t x y t', ty, pos, af, g⟩ (.v (.int k r)) :=
 Y.qg hx hy fun w => by subst hr; simp [eqGuard, binOp, Op.intArith]
theorem Y.zh (hx : bS st x = some (.v (.int k a))) (hy : bS st y = some (.v (.int k b))) (hr : k.wrap (a * b) = r) : Yields P N st ⟨dst, .binOp .mul t x y t', ty, pos, af, g⟩ (.v (.int k r)) :=
 Y.qg hx hy fun w => by subst hr; simp [eqGuard, binOp, Op.intArith]
theorem Y.zo (hx : bS st x = some (.v (.int k a))) (hy : bS st y = some (.v (.int k b))) (h0 : b ≠ 0) (hr : k.wrap (a.tdiv b) = r) : Yields P N st ⟨dst, .binOp .quo t x y t', ty, pos, af, g⟩ (.v (.int k r)) :=
 Y.qg hx hy fun w => by subst hr; simp [eqGuard, binOp, Op.intDiv, h0]
theorem Y.zr (hx : bS st x = some (.v (.int k a))) (hy : bS st y = some (.v (.int k b))) (h0 : b ≠ 0) (hr : a.tmod b = r) : Yields P N st ⟨dst, .binOp .rem t x y t', ty, pos, af, g⟩ (.v (.int k r)) :=
 Y.qg hx hy fun w => by subst hr; simp [eqGuard, binOp, Op.intDiv, h0]
theorem Y.qd (hx : bS st x = some (.v (.int k a))) (hy : bS st y = some (.v (.int k b))) (hr : k.wrap (BitVec.ofInt k.bits a &&& BitVec.ofInt k.bits b).toNat = r) : Yields P N st ⟨dst, .binOp .and t x y t', ty, pos, af, g⟩ (.v (.int k r)) :=
 Y.qg hx hy fun w => by subst hr; simp [eqGuard, binOp, Op.intBits]
theorem Y.zu {k' : IntKind} (hx : bS st x = some (.v (.int k a))) (hy : bS st y = some (.v (.int k' b))) (h0 : 0 ≤ b) (hr : a.fdiv (2 ^ (min b.toNat k.bits)) = r) : Yields P N st ⟨dst, .binOp .shr t x y t', ty, pos, af, g⟩ (.v (.int k r)) :=
 Y.qg hx hy fun w => by subst hr; simp [eqGuard, binOp, Op.shift, Int.not_lt.2 h0]
theorem Y.zc (hx : bS st x = some (.v (.int k a))) (hy : bS st y = some (.v (.int k b))) : Yields P N st ⟨dst, .binOp .lss t x y t', ty, pos, af, g⟩ (.v (.bool (decide (a < b)))) :=
 Y.qg hx hy fun w => by simp [eqGuard, binOp, Op.intCmp]
theorem Y.qz (hx : bS st x = some (.v (.int k a))) (hy : bS st y = some (.v (.int k b))) : Yields P N st ⟨dst, .binOp .leq t x y t', ty, pos, af, g⟩ (.v (.bool (decide (a ≤ b)))) :=
 Y.qg hx hy fun w => by simp [eqGuard, binOp, Op.intCmp]
theorem Y.qr (hx : bS st x = some (.v (.int k a))) (hy : bS st y = some (.v (.int k b))) : Yields P N st ⟨dst, .binOp .gtr t x y t', ty, pos, af, g⟩ (.v (.bool (decide (b < a)))) :=
 Y.qg hx hy fun w => by simp [eqGuard, binOp, Op.intCmp]
theorem Y.qq (hx : bS st x = some (.v (.int k a))) (hy : bS st y = some (.v (.int k b))) : Yields P N st ⟨dst, .binOp .geq t x y t', ty, pos, af, g⟩ (.v (.bool (decide (b ≤ a)))) :=
 Y.qg hx hy fun w => by simp [eqGuard, binOp, Op.intCmp]
theorem Y.ql (hx : bS st x = some (.v (.int k a))) (hy : bS st y = some (.v (.int k b))) : Yields P N st ⟨dst, .binOp .eql t x y t', ty, pos, af, g⟩ (.v (.bool (decide (a = b)))) :=
 Y.qg hx hy fun w => by simp [eqGuard, binOp, Op.intCmp, BEq.beq]
theorem Y.zk (hx : bS st x = some (.v (.int k a))) (hy : bS st y = some (.v (.int k b))) : Yields P N st ⟨dst, .binOp .neq t x y t', ty, pos, af, g⟩ (.v (.bool (decide (a ≠ b)))) :=
 Y.qg hx hy fun w => by simp [eqGuard, binOp, Op.intCmp, bne, BEq.beq]
end ints
theorem run_equal_bool {t : TypeId} {a b : Bool} (ht : P.underlying t = some .bool) (w : World) : (Op.equal t (.bool a) (.bool b)).run P w = .ok (a == b) w := by
 show (Op.equalIn (9999 + 1) t (.bool a) (.bool b)).run P w = _
 generalize 9999 = d
 simp [Op.equalIn, run_underlying ht]
theorem Y.qm {t t' : TypeId} {x y : Operand} {a b : Bool} (ht : P.underlying t = some .bool) (hx : bS st x = some (.v (.bool a))) (hy : bS st y = some (.v (.bool b))) :
  Yields P N st ⟨dst, .binOp .eql t x y t', ty, pos, af, g⟩ (.v (.bool (a == b))) :=
 Y.qg hx hy fun w => by
  show (do let z ← Op.equal t (.bool a) (.bool b); pure (Value.bool z) : Sem Value).run P w = _
  exact jr (run_equal_bool ht w) rfl
theorem Y.un {op : UnOp} {t : TypeId} {x : Operand} {u r : Value} (hx : bS st x = some (.v u)) (hr : ∀ w, (Op.unary op u).run P w = .ok r w) : Yields P N st ⟨dst, .unOp op t x, ty, pos, af, g⟩ (.v r) := by
 intro G E RR a _ hi
 refine ⟨r, ?_, by simp [RX]⟩
 show (do let x ← Op.unary op (a.eval x); pure (Next.value x) : Sem Next).run P E.w = _
 rw [hi.val hx]
 exact dJ (hr _)
theorem Y.zm {t : TypeId} {x : Operand} {b : Bool} (hx : bS st x = some (.v (.bool b))) : Yields P N st ⟨dst, .unOp .not t x, ty, pos, af, g⟩ (.v (.bool (!b))) :=
 Y.un hx fun _ => rfl
theorem Y.qj {s d : TypeId} {x : Operand} {k k' : IntKind} {n r : Int} (hs : TY.isInt P s = some k') (hd : TY.isInt P d = some k) (hx : bS st x = some (.v (.int k' n))) (hr : k.wrap n = r) :
  Yields P N st ⟨dst, .convert s d x, ty, pos, af, g⟩ (.v (.int k r)) := by
 intro G E RR a _ hi
 refine ⟨.int k r, ?_, by simp [RX]⟩
 show (do let x ← convert s d (a.eval x); pure (Next.value x) : Sem Next).run P E.w = _
 rw [hi.val hx]
 refine dJ ?_
 have h1 : P.underlying s = some (.int k') := by unfold TY.isInt at hs; split at hs <;> simp_all
 have h2 : P.underlying d = some (.int k) := by unfold TY.isInt at hd; split at hd <;> simp_all
 simp [convert, run_underlying h1, run_underlying h2, Conv.intToInt, hr]
end
end Go.AW
namespace Go.AW
open Go
theorem dq {w : World} {b i : Nat} {cs : Array Value} {ty : TypeId} {fr : Nat × Nat} (h : w.heap[b]? = some (.cells cs ty fr)) : w.cell? ⟨b, i, none⟩ = cs[i]? := by
 simp [World.cell?, h]
theorem iy (b off n : Nat) : (⟨b, off, none⟩ : Addr).add n = ⟨b, off + n, none⟩ := by
 unfold Addr.add
 split
 ·rename_i h; subst h; rfl
 ·rfl
section
variable {E : Env}
theorem RF.get : ∀ {row : List X} {b off k : Nat} {x : X}, RF E row b off → row[k]? = some x → ∃ u, E.φ b (off + k) = some u ∧ jA u ∧ x.nr = true ∧ RX E x u []
 | [], _, _, _, _, _, h => by simp at h
 | y :: r, b, off, 0, x, h, hx => by
  simp only [RF] at h
  simp only [List.getElem?_cons_zero, Option.some.injEq] at hx
  subst hx
  exact h.1
 | y :: r, b, off, k + 1, x, h, hx => by
  simp only [RF] at h
  obtain ⟨u, hu⟩ := RF.get (k := k) h.2 (by simpa using hx)
  exact ⟨u, by rw [show off + (k + 1) = off + 1 + k by omega]; exact hu⟩
theorem RF.drop : ∀ {row : List X} {b off : Nat} (k : Nat), RF E row b off → RF E (row.drop k) b (off + k)
 | [], _, _, _, _ => by simp [RF]
 | y :: r, b, off, 0, h => h
 | y :: r, b, off, k + 1, h => by
  simp only [RF] at h
  simp only [List.drop_succ_cons]
  rw [show off + (k + 1) = off + 1 + k by omega]
  exact RF.drop k h.2
theorem RF.take : ∀ {row : List X} {b off : Nat} (k : Nat), RF E row b off → RF E (row.take k) b off
 | [], _, _, _, _ => by simp [RF]
 | y :: r, b, off, 0, h => by simp [RF]
 | y :: r, b, off, k + 1, h => by
  simp only [RF, List.take_succ_cons] at h ⊢
  exact ⟨h.1, RF.take k h.2⟩
theorem RF.cells : ∀ {row : List X} {b off : Nat}, RF E row b off → ∃ cs : List Value, cs.length = row.length ∧ (∀ j v, cs[j]? = some v → E.φ b (off + j) = some v) ∧ bz E row cs []
 | [], _, _, _ => ⟨[], rfl, by simp, by simp [bz]⟩
 | y :: r, b, off, h => by
  simp only [RF] at h
  obtain ⟨⟨u, hu, hs, _, hx⟩, hr⟩ := h
  obtain ⟨cs, hl, hc, fx⟩ := RF.cells hr
  refine ⟨u :: cs, by simp [hl], ?_, ?_⟩
  ·intro j v hv
   cases j with
   | zero => simp at hv; subst hv; exact hu
   | succ j => rw [show off + (j + 1) = off + 1 + j by omega]; exact hc j v (by simpa using hv)
  ·simp only [bz]
   exact ⟨u, cs, [], [], rfl, hs, hx, fx, rfl⟩
theorem ke.get : ∀ {rows : List (List X)} {s b off i : Nat} {row : List X}, cz s rows → ke E rows b off → rows[i]? = some row → RF E row b (off + i * s)
 | [], _, _, _, _, _, _, _, h => by simp at h
 | r :: rs, s, b, off, 0, row, hu, h, hr => by
  simp only [ke] at h
  simp only [List.getElem?_cons_zero, Option.some.injEq] at hr
  subst hr
  simpa using h.1
 | r :: rs, s, b, off, i + 1, row, hu, h, hr => by
  simp only [ke] at h
  have h1 := hu r (by simp)
  have := ke.get (i := i) (s := s) (fun q hq => hu q (by simp [hq])) h.2 (by simpa using hr)
  rw [h1] at this
  rw [show off + (i + 1) * s = off + s + i * s by rw [Nat.add_mul]; omega]
  exact this
theorem ke.drop : ∀ {rows : List (List X)} {s b off : Nat} (k : Nat), cz s rows → k ≤ rows.length → ke E rows b off → ke E (rows.drop k) b (off + k * s)
 | _, _, _, _, 0, _, _, h => by simpa using h
 | [], _, _, _, k + 1, _, hk, _ => by simp at hk
 | r :: rs, s, b, off, k + 1, hu, hk, h => by
  simp only [ke] at h
  have h1 := hu r (by simp)
  rw [h1] at h
  simp only [List.drop_succ_cons]
  rw [show off + (k + 1) * s = off + s + k * s by rw [Nat.add_mul]; omega]
  exact ke.drop k (fun q hq => hu q (by simp [hq])) (by simpa using hk) h.2
theorem ke.take : ∀ {rows : List (List X)} {b off : Nat} (k : Nat), ke E rows b off → ke E (rows.take k) b off
 | [], _, _, _, _ => by simp [ke]
 | _ :: _, _, _, 0, _ => by simp [ke]
 | r :: rs, b, off, k + 1, h => by
  simp only [ke, List.take_succ_cons] at h ⊢
  exact ⟨h.1, ke.take k h.2⟩
theorem cz.drop {s : Nat} {rows : List (List X)} (k : Nat) (h : cz s rows) : cz s (rows.drop k) := fun r hr => h r (List.mem_of_mem_drop hr)
theorem cz.take {s : Nat} {rows : List (List X)} (k : Nat) (h : cz s rows) : cz s (rows.take k) := fun r hr => h r (List.mem_of_mem_take hr)
theorem RO.get : ∀ {xs : List X} {cs : Array Value} {off k : Nat} {R : List Nat} {x : X}, RO E xs cs off R → xs[k]? = some x →
  ∃ u R₁, cs[off + k]? = some u ∧ jA u ∧ RX E x u R₁ ∧ ∀ b ∈ R₁, b ∈ R
 | [], _, _, _, _, _, _, h => by simp at h
 | y :: r, cs, off, 0, R, x, h, hx => by
  simp only [RO] at h
  simp only [List.getElem?_cons_zero, Option.some.injEq] at hx
  subst hx
  obtain ⟨u, R₁, R₂, hu, hs, h1, _, rfl⟩ := h
  exact ⟨u, R₁, hu, hs, h1, fun b hb => cJ hb⟩
 | y :: r, cs, off, k + 1, R, x, h, hx => by
  simp only [RO] at h
  obtain ⟨_, R₁, R₂, _, _, _, h2, rfl⟩ := h
  obtain ⟨u, R₃, hu, hs, h3, dz⟩ := RO.get (k := k) h2 (by simpa using hx)
  exact ⟨u, R₃, by rw [show off + (k + 1) = off + 1 + k by omega]; exact hu, hs, h3, fun b hb => cA (dz b hb)⟩
theorem RO.drop : ∀ {xs : List X} {cs : Array Value} {off : Nat} {R : List Nat} (k : Nat), RO E xs cs off R → ∃ R', RO E (xs.drop k) cs (off + k) R' ∧ ∀ b ∈ R', b ∈ R
 | [], cs, off, R, k, h => ⟨[], by simp [RO], by simp⟩
 | y :: r, cs, off, R, 0, h => ⟨R, h, fun _ h => h⟩
 | y :: r, cs, off, R, k + 1, h => by
  simp only [RO] at h
  obtain ⟨_, R₁, R₂, _, _, _, h2, rfl⟩ := h
  obtain ⟨R', h', hs⟩ := RO.drop k h2
  refine ⟨R', ?_, fun b hb => cA (hs b hb)⟩
  simp only [List.drop_succ_cons]
  rw [show off + (k + 1) = off + 1 + k by omega]; exact h'
theorem RO.take : ∀ {xs : List X} {cs : Array Value} {off : Nat} {R : List Nat} (k : Nat), RO E xs cs off R → ∃ R', RO E (xs.take k) cs off R' ∧ ∀ b ∈ R', b ∈ R
 | [], cs, off, R, k, h => ⟨[], by simp [RO], by simp⟩
 | y :: r, cs, off, R, 0, h => ⟨[], by simp [RO], by simp⟩
 | y :: r, cs, off, R, k + 1, h => by
  simp only [RO] at h
  obtain ⟨u, R₁, R₂, hu, hs, h1, h2, rfl⟩ := h
  obtain ⟨R', h', MF⟩ := RO.take k h2
  refine ⟨R₁ ++ R', ?_, ?_⟩
  ·simp only [List.take_succ_cons, RO]
   exact ⟨u, R₁, R', hu, hs, h1, h', rfl⟩
  ·intro b hb
   rcases List.mem_append.1 hb with hb | hb
   ·exact cJ hb
   ·exact cA (MF b hb)
theorem RO.cells : ∀ {xs : List X} {cs : Array Value} {off : Nat} {R : List Nat}, RO E xs cs off R → ∃ vs : List Value, vs.length = xs.length ∧ (∀ j v, vs[j]? = some v → cs[off + j]? = some v) ∧ bz E xs vs R
 | [], _, _, R, h => ⟨[], rfl, by simp, by simp only [RO] at h; simp [bz, h]⟩
 | y :: r, cs, off, R, h => by
  simp only [RO] at h
  obtain ⟨u, R₁, R₂, hu, hs, h1, h2, rfl⟩ := h
  obtain ⟨vs, hl, hc, fx⟩ := RO.cells h2
  refine ⟨u :: vs, by simp [hl], ?_, ?_⟩
  ·intro j v hv
   cases j with
   | zero => simp at hv; subst hv; exact hu
   | succ j => rw [show off + (j + 1) = off + 1 + j by omega]; exact hc j v (by simpa using hv)
  ·simp only [bz]
   exact ⟨u, vs, R₁, R₂, rfl, hs, h1, fx, rfl⟩
theorem cH.get : ∀ {rows : List (List X)} {s : Nat} {cs : Array Value} {off i : Nat} {R : List Nat} {row : List X}, cz s rows → cH E rows cs off R → rows[i]? = some row →
  ∃ R₁, X.gA row = true ∧ RO E row cs (off + i * s) R₁ ∧ ∀ b ∈ R₁, b ∈ R
 | [], _, _, _, _, _, _, _, _, h => by simp at h
 | r :: rs, s, cs, off, 0, R, row, hu, h, hr => by
  simp only [cH] at h
  simp only [List.getElem?_cons_zero, Option.some.injEq] at hr
  subst hr
  obtain ⟨R₁, R₂, hn, h1, _, rfl⟩ := h
  exact ⟨R₁, hn, by simpa using h1, fun b hb => cJ hb⟩
 | r :: rs, s, cs, off, i + 1, R, row, hu, h, hr => by
  simp only [cH] at h
  obtain ⟨R₁, R₂, hn, _, h2, rfl⟩ := h
  have h1 := hu r (by simp)
  obtain ⟨R₃, pI, h3, hs⟩ := cH.get (i := i) (s := s) (fun q hq => hu q (by simp [hq])) h2 (by simpa using hr)
  rw [h1] at h3
  exact ⟨R₃, pI, by rw [show off + (i + 1) * s = off + s + i * s by rw [Nat.add_mul]; omega]; exact h3, fun b hb => cA (hs b hb)⟩
end
def rowAt (st : St) : X → Option (List X)
 | .fp row _ => some row
 | .ptr o s i _ => match look st.aG o with
  | some (.cells xs) => bif Nat.beq i 0 then some xs else none
  | some (.rows s' rs) => bif Nat.beq s s' then rs[i]? else none
  | _ => none
 | _ => none
def kO : X → Nat
 | .fp _ k => k
 | .ptr _ _ _ k => k
 | _ => 0
section
variable {P : Program} {N : eL} {G : Ctx} {E : Env} {RR : Own → List Nat} {st : St} {a : Act}
theorem Inv.behind (hi : Inv G E RR st a) {p : X} {c : Value} {R : List Nat} {row : List X} (hp : RX E p c R) (hr : rowAt st p = some row) :
  ∃ b off, c = .pointer (some ⟨b, off + kO p, none⟩) ∧ ∀ k m, k + m ≤ row.length →
   ∃ vs : List Value, ∃ R', vs.length = m ∧ (∀ j v, vs[j]? = some v → E.w.cell? ⟨b, off + (k + j), none⟩ = some v) ∧ bz E ((row.drop k).take m) vs R' := by
 cases p with
 | fp row' k' =>
  simp only [rowAt, Option.some.injEq] at hr
  subst hr
  simp only [RX] at hp
  obtain ⟨_, b, off, hc, hf⟩ := hp
  refine ⟨b, off, hc, fun k m vh => ?_⟩
  obtain ⟨vs, hl, hv, hx⟩ := RF.cells (RF.take m (RF.drop k hf))
  refine ⟨vs, [], by rw [hl]; simp; omega, fun j v hj => ?_, hx⟩
  rw [← Nat.add_assoc]
  exact hi.kR _ _ _ (hv j v hj)
 | ptr o s i k' =>
  simp only [RX] at hp
  obtain ⟨_, B, hB, hc⟩ := hp
  simp only [rowAt] at hr
  split at hr
  ·rename_i xs ho
   have h0 := hi.aG o _ ho
   simp only [dG] at h0
   obtain ⟨_, B', cs, ty, iz, hw, _, _, jB, _⟩ := h0
   rw [hB] at iz
   obtain rfl := Option.some.inj iz
   cases oV : Nat.beq i 0 with
   | false => simp [oV] at hr
   | true =>
    have := Nat.eq_of_beq_eq_true oV
    subst this
    simp only [oV, cond_true, Option.some.injEq] at hr
    subst hr
    refine ⟨B.b, B.off, by simpa [kO] using hc, fun k m vh => ?_⟩
    obtain ⟨R₁, h1, _⟩ := RO.drop k jB
    obtain ⟨R₂, h2, _⟩ := RO.take m h1
    obtain ⟨vs, hl, hv, hx⟩ := RO.cells h2
    refine ⟨vs, R₂, by rw [hl]; simp; omega, fun j v hj => ?_, hx⟩
    rw [dq hw, ← Nat.add_assoc]
    exact hv j v hj
  ·rename_i s' rs ho
   have h0 := hi.aG o _ ho
   simp only [dG] at h0
   obtain ⟨hu, h0⟩ := h0
   cases Gt : Nat.beq s s' with
   | false => simp [Gt] at hr
   | true =>
    have := Nat.eq_of_beq_eq_true Gt
    subst this
    simp only [Gt, cond_true] at hr
    rcases h0 with ⟨_, h0, _⟩ | ⟨B', cs, ty, R', iz, hw, _, _, _, jB, _⟩
    ·subst h0; simp at hr
    ·rw [hB] at iz
     obtain rfl := Option.some.inj iz
     obtain ⟨R₁, _, h1, _⟩ := cH.get hu jB hr
     refine ⟨B.b, B.off + i * s, by rw [hc]; simp [kO, Nat.add_assoc], fun k m vh => ?_⟩
     obtain ⟨R₂, h2, _⟩ := RO.drop k h1
     obtain ⟨R₃, h3, _⟩ := RO.take m h2
     obtain ⟨vs, hl, hv, hx⟩ := RO.cells h3
     refine ⟨vs, R₃, by rw [hl]; simp; omega, fun j v hj => ?_, hx⟩
     rw [dq hw, ← Nat.add_assoc]
     exact hv j v hj
  ·cases hr
 | _ => simp [rowAt] at hr
end
end Go.AW
namespace Go.AW
open Go
section
variable {P : Program} {N : eL} {st : St} {dst : Option Nat} {ty : TypeId} {pos : String} {af : Array Edge} {g : Option (Nat × Bool)}
theorem TY.gO {t : TypeId} (h : TY.shape P t = some none) (w : World) : (isAgg t).run P w = .ok false w ∧ ∃ d, P.underlying t = some d := by
 unfold TY.shape at h
 cases hu : P.underlying t with
 | none => simp [hu] at h
 | some d =>
  refine ⟨?_, d, rfl⟩
  rw [hu] at h
  simp only [isAgg, Sem.run_bind, run_underlying hu, Result.andThen_ok]
  cases d <;> first | rfl | (cases hi : P.info? t <;> simp [hi] at h)
theorem TY.lN {t : TypeId} {m : Nat} (h : TY.shape P t = some (some m)) (w : World) : (isAgg t).run P w = .ok true w ∧ (sizeOf t).run P w = .ok m w := by
 unfold TY.shape at h
 cases hu : P.underlying t with
 | none => simp [hu] at h
 | some d =>
  cases hi : P.info? t with
  | none => rw [hu, hi] at h; cases d <;> simp at h
  | some i =>
   rw [hu, hi] at h
   have hs : (sizeOf t).run P w = .ok i.size w := by simp [sizeOf, typeInfo, hi]
   have ha : ∀ d', P.underlying t = some d' → (match d' with | .struct _ | .array _ _ => true | _ => false) = true → (isAgg t).run P w = .ok true w := by
    intro d' Rn hm
    simp only [isAgg, Sem.run_bind, run_underlying Rn, Result.andThen_ok]
    cases d' <;> simp at hm <;> rfl
   cases d <;> simp at h <;> subst h <;> exact ⟨ha _ hu rfl, hs⟩
theorem getElem?_drop_take_one {α : Type} {l : List α} {k : Nat} {x : α} (h : l[k]? = some x) : (l.drop k).take 1 = [x] := by
 have hk : k < l.length := by
  rcases Nat.lt_or_ge k l.length with h' | h'
  ·exact h'
  ·simp [List.getElem?_eq_none h'] at h
 rw [List.drop_eq_getElem_cons hk]
 simp only [List.take_succ_cons, List.take_zero]
 rw [List.getElem?_eq_getElem hk] at h
 rw [Option.some.inj h]
theorem Y.za {t : TypeId} {x : Operand} {p y : X} {row : List X} (ht : TY.shape P t = some none) (hx : bS st x = some p) (hr : rowAt st p = some row) (hy : row[kO p]? = some y) (hf : y.free = true) :
  Yields P N st ⟨dst, .load t x, ty, pos, af, g⟩ y := by
 intro G E RR a _ hi
 obtain ⟨R, hp⟩ := hi.eval hx
 obtain ⟨b, off, hc, g6⟩ := hi.behind hp hr
 have hk : kO p < row.length := by
  rcases Nat.lt_or_ge (kO p) row.length with h' | h'
  ·exact h'
  ·simp [List.getElem?_eq_none h'] at hy
 obtain ⟨vs, R', hl, hv, fx⟩ := g6 (kO p) 1 om
 rw [getElem?_drop_take_one hy] at fx
 simp only [bz] at fx
 obtain ⟨c, di, R₁, R₂, DB, _, h1, ⟨rfl, rfl⟩, rfl⟩ := fx
 subst DB
 have h0 := RX.free hf h1
 subst h0
 refine ⟨c, ?_, h1⟩
 show (do let z ← Instr.loadAt t (a.eval x); pure (Next.value z) : Sem Next).run P E.w = _
 rw [hc]
 refine dJ ?_
 have fW := hv 0 c rfl
 simp only [Instr.loadAt, Instr.sureAddr, loadVar, Sem.run_bind, Sem.run_pure, Result.andThen_ok, (TY.gO ht E.w).1]
 simp only [Nat.add_zero] at fW
 simp [fW]
theorem Y.zb {t : TypeId} {x : Operand} {p : X} {row : List X} {m : Nat} {ys : List X} (ht : TY.shape P t = some (some m)) (hx : bS st x = some p) (hr : rowAt st p = some row) (hm : kO p + m ≤ row.length)
  (vq : (row.drop (kO p)).take m = ys) (hf : X.b9 ys = true) : Yields P N st ⟨dst, .load t x, ty, pos, af, g⟩ (.agg ys) := by
 intro G E RR a _ hi
 obtain ⟨R, hp⟩ := hi.eval hx
 obtain ⟨b, off, hc, g6⟩ := hi.behind hp hr
 obtain ⟨vs, R', hl, hv, fx⟩ := g6 (kO p) m hm
 rw [vq] at fx
 have h0 := bz.free hf fx
 subst h0
 refine ⟨.agg vs.toArray, ?_, by simp only [RX]; exact ⟨_, rfl, fx⟩⟩
 show (do let z ← Instr.loadAt t (a.eval x); pure (Next.value z) : Sem Next).run P E.w = _
 rw [hc]
 refine dJ ?_
 obtain ⟨h1, h2⟩ := TY.lN ht E.w
 have h3 : (loadCells ⟨b, off + kO p, none⟩ m).run P E.w = .ok vs.toArray E.w := by
  rw [← hl]
  exact run_loadCells_list (w := E.w) _ vs fun j v hj => by rw [iy, Nat.add_assoc]; exact hv j v hj
 simp only [Instr.loadAt, Instr.sureAddr, loadVar, Sem.run_bind, Sem.run_pure, Result.andThen_ok, h1, if_true, h2, h3]
theorem run_sizeOf {t : TypeId} {i : TypeInfo} (h : P.info? t = some i) (w : World) : (sizeOf t).run P w = .ok i.size w := by simp [sizeOf, typeInfo, h]
theorem TY.ym {t : TypeId} {f off : Nat} {ft : TypeId} (h : TY.jI P t f = some (off, ft)) (b o : Nat) (w : World) :
  (Instr.fieldAt t (.pointer (some ⟨b, o, none⟩)) f).run P w = .ok (.pointer (some ⟨b, o + off, none⟩)) w := by
 unfold TY.jI at h
 cases hu : P.underlying t with
 | none => simp [hu] at h
 | some d =>
  rw [hu] at h
  cases d with
  | struct fs =>
   simp only at h
   cases hf : fs[f]? with
   | none => simp [hf] at h
   | some fd =>
    rw [hf] at h
    simp only at h
    cases hi : P.info? fd.type with
    | none => simp [hi] at h
    | some i =>
     rw [hi] at h
     simp only at h
     cases hz : Nat.beq i.size 0 with
     | true => simp [hz] at h
     | false =>
      have Ro : i.size ≠ 0 := Nat.ne_of_beq_eq_false hz
      rw [hz] at h
      simp only [cond_false, Option.some.injEq, Prod.mk.injEq] at h
      simp only [Instr.fieldAt, Sem.run_bind, run_underlying hu, Result.andThen_ok, hf, Instr.sureAddr, Sem.run_pure, fieldPlace, run_sizeOf hi, Ro, if_false, iy, h.1]
  | _ => simp at h
def X.on (n : Nat) : X → Option X
 | .fp row k => some (.fp row (k + n))
 | .ptr o s i k => some (.ptr o s i (k + n))
 | _ => none
theorem RX.on {E : Env} {p q : X} {n : Nat} {c : Value} {R : List Nat} (hq : p.on n = some q) (h : RX E p c R) : ∃ b off, c = .pointer (some ⟨b, off, none⟩) ∧ RX E q (.pointer (some ⟨b, off + n, none⟩)) [] := by
 cases p with
 | fp row k =>
  simp only [X.on, Option.some.injEq] at hq
  subst hq
  simp only [RX] at h ⊢
  obtain ⟨_, b, off, hc, hf⟩ := h
  exact ⟨b, _, hc, trivial, b, off, by rw [Nat.add_assoc], hf⟩
 | ptr o s i k =>
  simp only [X.on, Option.some.injEq] at hq
  subst hq
  simp only [RX] at h ⊢
  obtain ⟨_, B, hB, hc⟩ := h
  exact ⟨_, _, hc, trivial, B, hB, by simp only [Nat.add_assoc]⟩
 | _ => simp [X.on] at hq
theorem Y.qp {t : TypeId} {x : Operand} {p q : X} {f off : Nat} {ft : TypeId} (ht : TY.jI P t f = some (off, ft)) (hx : bS st x = some p) (hq : p.on off = some q) :
  Yields P N st ⟨dst, .fieldAddr t x f, ty, pos, af, g⟩ q := by
 intro G E RR a _ hi
 obtain ⟨R, hp⟩ := hi.eval hx
 obtain ⟨b, o, hc, h⟩ := hp.on hq
 refine ⟨_, ?_, h⟩
 show (do let z ← Instr.fieldAt t (a.eval x) f; pure (Next.value z) : Sem Next).run P E.w = _
 rw [hc]
 exact dJ (TY.ym ht b o E.w)
theorem TY.ez {t e s cY : Nat} (h : TY.slice P t = some (e, s, cY)) : P.underlying t = some (.slice e) ∧ ∃ i, P.info? e = some i ∧ i.size = s ∧ i.bytes = cY := by
 unfold TY.slice at h
 split at h
 ·rename_i e' hu
  cases hi : P.info? e' with
  | none => simp [hi] at h
  | some i =>
   simp only [hi, Option.map_some, Option.some.injEq, Prod.mk.injEq] at h
   obtain ⟨rfl, h2, h3⟩ := h
   exact ⟨hu, i, hi, h2, h3⟩
 ·cases h
theorem TY.rL {t n e s : Nat} (h : TY.array P t = some (n, e, s)) : P.underlying t = some (.array n e) ∧ ∃ i, P.info? e = some i ∧ i.size = s := by
 unfold TY.array at h
 split at h
 ·rename_i n' e' hu
  cases hi : P.info? e' with
  | none => simp [hi] at h
  | some i =>
   simp only [hi, Option.map_some, Option.some.injEq, Prod.mk.injEq] at h
   obtain ⟨rfl, rfl, h3⟩ := h
   exact ⟨hu, i, hi, h3⟩
 ·cases h
theorem kS {t e s cY : Nat} (ht : TY.slice P t = some (e, s, cY)) {b off len cap m : Nat} {k : IntKind} {n : Int} (hn : n = (m : Int)) (hm : m < len) (w : World) :
  (Instr.indexAt t (.slice (some ⟨b, off, none⟩) len cap) (.int k n)).run P w = .ok (.pointer (some ⟨b, off + m * s, none⟩)) w := by
 obtain ⟨hu, i, hi, hs, _⟩ := TY.ez ht
 subst hn
 simp [Instr.indexAt, asIntOf, run_underlying hu, hm, run_sizeOf hi, hs, iy]
theorem Y.qs {t e s cY : Nat} {x ix : Operand} {rows : List (List X)} {row : List X} {k : IntKind} {n : Int} {m : Nat} (ht : TY.slice P t = some (e, s, cY)) (hx : bS st x = some (.fz s rows))
  (wO : bS st ix = some (.v (.int k n))) (hn : n = (m : Int)) (hr : rows[m]? = some row) : Yields P N st ⟨dst, .indexAddr t x ix, ty, pos, af, g⟩ (.fp row 0) := by
 intro G E RR a _ hi
 obtain ⟨R, hp⟩ := hi.eval hx
 have hm : m < rows.length := by
  rcases Nat.lt_or_ge m rows.length with h' | h'
  ·exact h'
  ·simp [List.getElem?_eq_none h'] at hr
 simp only [RX] at hp
 obtain ⟨_, hu, base, cap, hc, h⟩ := hp
 rcases h with ⟨h, _⟩ | ⟨b, off, rfl, hl, hf⟩
 ·subst h; simp at hr
 ·refine ⟨.pointer (some ⟨b, off + m * s, none⟩), ?_, ?_⟩
  ·show (do let z ← Instr.indexAt t (a.eval x) (a.eval ix); pure (Next.value z) : Sem Next).run P E.w = _
   rw [hc, hi.val wO]
   exact dJ (kS ht hn hm E.w)
  ·simp only [RX]
   exact ⟨trivial, b, off + m * s, rfl, ke.get hu hf hr⟩
theorem Y.qt {t e s cY : Nat} {x ix : Operand} {o lo len : Nat} {k : IntKind} {n : Int} {m : Nat} (ht : TY.slice P t = some (e, s, cY)) (hx : bS st x = some (.ba o s lo len))
  (wO : bS st ix = some (.v (.int k n))) (hn : n = (m : Int)) (hm : m < len) : Yields P N st ⟨dst, .indexAddr t x ix, ty, pos, af, g⟩ (.ptr o s (lo + m) 0) := by
 intro G E RR a _ hi
 obtain ⟨R, hp⟩ := hi.eval hx
 simp only [RX] at hp
 obtain ⟨_, base, cap, hc, h⟩ := hp
 rcases h with ⟨_, _, h, _⟩ | ⟨B, hB, _, hl, hb⟩
 ·omega
 ·have gq : base = some ⟨B.b, B.off + lo * s, none⟩ := hb.resolve_left om
  subst gq
  refine ⟨.pointer (some ⟨B.b, B.off + lo * s + m * s, none⟩), ?_, ?_⟩
  ·show (do let z ← Instr.indexAt t (a.eval x) (a.eval ix); pure (Next.value z) : Sem Next).run P E.w = _
   rw [hc, hi.val wO]
   exact dJ (kS ht hn hm E.w)
  ·simp only [RX]
   exact ⟨trivial, B, hB, by rw [Nat.add_mul]; simp [Nat.add_assoc]⟩
theorem Y.qu {t len e s : Nat} {x ix : Operand} {p q : X} {k : IntKind} {n : Int} {m : Nat} (ht : TY.array P t = some (len, e, s)) (hx : bS st x = some p)
  (wO : bS st ix = some (.v (.int k n))) (hn : n = (m : Int)) (hm : m < len) (hq : p.on (m * s) = some q) : Yields P N st ⟨dst, .indexAddr t x ix, ty, pos, af, g⟩ q := by
 intro G E RR a _ hi
 obtain ⟨R, hp⟩ := hi.eval hx
 obtain ⟨b, o, hc, h⟩ := hp.on hq
 refine ⟨_, ?_, h⟩
 show (do let z ← Instr.indexAt t (a.eval x) (a.eval ix); pure (Next.value z) : Sem Next).run P E.w = _
 rw [hc, hi.val wO]
 refine dJ ?_
 obtain ⟨hu, i, iQ, hs⟩ := TY.rL ht
 subst hn
 simp [Instr.indexAt, Instr.sureAddr, asIntOf, run_underlying hu, hm, run_sizeOf iQ, hs, iy]
theorem bz.get {E : Env} : ∀ {xs : List X} {cs : List Value} {R : List Nat} {k : Nat} {x : X}, bz E xs cs R → xs[k]? = some x → ∃ u R₁, cs[k]? = some u ∧ jA u ∧ RX E x u R₁
 | [], _, _, _, _, _, h => by simp at h
 | y :: r, cs, R, 0, x, h, hx => by
  simp only [bz] at h
  simp only [List.getElem?_cons_zero, Option.some.injEq] at hx
  subst hx
  obtain ⟨c, di, R₁, R₂, rfl, hs, h1, _, _⟩ := h
  exact ⟨c, R₁, rfl, hs, h1⟩
 | y :: r, cs, R, k + 1, x, h, hx => by
  simp only [bz] at h
  obtain ⟨c, di, R₁, R₂, rfl, _, _, h2, _⟩ := h
  obtain ⟨u, R₃, hu, hs, h3⟩ := bz.get (k := k) h2 (by simpa using hx)
  exact ⟨u, R₃, by simpa using hu, hs, h3⟩
theorem bz.length {E : Env} : ∀ {xs : List X} {cs : List Value} {R : List Nat}, bz E xs cs R → cs.length = xs.length
 | [], _, _, h => by simp only [bz] at h; rw [h.1]; rfl
 | x :: r, _, _, h => by
  simp only [bz] at h
  obtain ⟨c, di, R₁, R₂, rfl, _, _, h2, _⟩ := h
  simp [bz.length h2]
theorem bz.drop {E : Env} : ∀ {xs : List X} {cs : List Value} {R : List Nat} (k : Nat), bz E xs cs R → ∃ R', bz E (xs.drop k) (cs.drop k) R'
 | [], cs, R, k, h => by simp only [bz] at h; exact ⟨[], by simp [bz, h.1]⟩
 | y :: r, cs, R, 0, h => ⟨R, h⟩
 | y :: r, cs, R, k + 1, h => by
  simp only [bz] at h
  obtain ⟨c, di, R₁, R₂, rfl, _, _, h2, _⟩ := h
  simpa using bz.drop k h2
theorem bz.take {E : Env} : ∀ {xs : List X} {cs : List Value} {R : List Nat} (k : Nat), bz E xs cs R → ∃ R', bz E (xs.take k) (cs.take k) R'
 | [], cs, R, k, h => by simp only [bz] at h; exact ⟨[], by simp [bz, h.1]⟩
 | y :: r, cs, R, 0, h => ⟨[], by simp [bz]⟩
 | y :: r, cs, R, k + 1, h => by
  simp only [bz] at h
  obtain ⟨c, di, R₁, R₂, rfl, hs, h1, h2, _⟩ := h
  obtain ⟨R', h'⟩ := bz.take k h2
  exact ⟨R₁ ++ R', by simp only [List.take_succ_cons, bz]; exact ⟨c, _, R₁, R', rfl, hs, h1, h', rfl⟩⟩
theorem yS {t : TypeId} {cs : Array Value} {off : Nat} {u : Value} (ht : TY.shape P t = some none) (hu : cs[off]? = some u) (w : World) : (part t cs off).run P w = .ok u w := by
 simp only [part, Sem.run_bind, (TY.gO ht w).1, Result.andThen_ok, hu]; rfl
theorem TY.AU {t : TypeId} {f off : Nat} {ft : TypeId} (h : TY.jI P t f = some (off, ft)) : ∃ fs fd, P.underlying t = some (.struct fs) ∧ fs[f]? = some fd ∧ fd.offset = off ∧ fd.type = ft := by
 unfold TY.jI at h
 split at h
 ·rename_i fs hu
  split at h
  ·rename_i fd hf
   split at h
   ·rename_i i hi
    cases hz : Nat.beq i.size 0 with
    | true => simp [hz] at h
    | false => rw [hz] at h; simp only [cond_false, Option.some.injEq, Prod.mk.injEq] at h; exact ⟨fs, fd, hu, hf, h.1, h.2⟩
   ·cases h
  ·cases h
 ·cases h
theorem Y.qo {t : TypeId} {x : Operand} {xs : List X} {y : X} {f off : Nat} {ft : TypeId} (ht : TY.jI P t f = some (off, ft)) (hs : TY.shape P ft = some none) (hx : bS st x = some (.agg xs)) (hy : xs[off]? = some y) (hf : y.free = true) :
  Yields P N st ⟨dst, .field t x f, ty, pos, af, g⟩ y := by
 intro G E RR a _ hi
 obtain ⟨R, hp⟩ := hi.eval hx
 simp only [RX] at hp
 obtain ⟨cs, hc, fx⟩ := hp
 obtain ⟨u, R₁, hu, _, h1⟩ := bz.get fx hy
 have h0 := RX.free hf h1
 subst h0
 refine ⟨u, ?_, h1⟩
 show (do let z ← Instr.field t (a.eval x) f; pure (Next.value z) : Sem Next).run P E.w = _
 rw [hc]
 refine dJ ?_
 obtain ⟨fs, fd, AG, Rp, ho, Rq⟩ := TY.AU ht
 have yT : cs[off]? = some u := by simpa using hu
 simp only [Instr.field, Sem.run_bind, run_underlying AG, Result.andThen_ok, Rp, asAgg, Sem.run_pure, ho, Rq]
 exact yS hs yT E.w
theorem Y.qv {t : TypeId} {x ix : Operand} {b : ByteArray} {k : IntKind} {n : Int} {m : Nat} (ht : P.underlying t = some .string) (hx : bS st x = some (.v (.string b)))
  (wO : bS st ix = some (.v (.int k n))) (hn : n = (m : Int)) (hm : m < b.size) : Yields P N st ⟨dst, .index t x ix, ty, pos, af, g⟩ (.v (.int .u8 (b[m].toNat : Int))) := by
 intro G E RR a _ hi
 refine ⟨.int .u8 (b[m].toNat : Int), ?_, by simp [RX]⟩
 show (do let z ← Instr.index t (a.eval x) (a.eval ix); pure (Next.value z) : Sem Next).run P E.w = _
 rw [hi.val hx, hi.val wO]
 refine dJ ?_
 subst hn
 have h0 : (0 : Int) ≤ (m : Int) := by omega
 simp [Instr.index, asIntOf, run_underlying ht, h0, getElem?_pos b m hm]
end
end Go.AW
namespace Go.AW
open Go
section
variable {P : Program} {N : eL} {st : St} {dst : Option Nat} {ty : TypeId} {pos : String} {af : Array Edge} {g : Option (Nat × Bool)}
theorem hX {b : Builtin} {args : Array Operand} {mT : Array TypeId} {a : Act} {w w' : World} {r : Next}
  (h : (builtin b mT ty (args.map fun | .const _ => true | _ => false) (args.map a.eval)).run P w = .ok r w') :
  (execOp a.eval ⟨dst, .call ⟨.builtin b, args, mT⟩, ty, pos, af, g⟩).run P w = .ok r w' := h
def X.len : X → Option Nat
 | .fz _ rows => some rows.length
 | .ei _ rows => some rows.length
 | .ba _ _ _ n => some n
 | .v (.slice none n _) => some n
 | _ => none
theorem RX.len {E : Env} {x : X} {c : Value} {R : List Nat} {n : Nat} (hn : x.len = some n) (h : RX E x c R) : ∃ base cap, c = .slice base n cap := by
 cases x with
 | fz s rows =>
  simp only [X.len, Option.some.injEq] at hn; subst hn
  simp only [RX] at h
  obtain ⟨_, _, base, cap, hc, _⟩ := h
  exact ⟨base, cap, hc⟩
 | ei s rows =>
  simp only [X.len, Option.some.injEq] at hn; subst hn
  simp only [RX] at h
  obtain ⟨_, base, cap, hc, _⟩ := h
  exact ⟨base, cap, hc⟩
 | ba o s lo m =>
  simp only [X.len, Option.some.injEq] at hn; subst hn
  simp only [RX] at h
  obtain ⟨_, base, cap, hc, _⟩ := h
  exact ⟨base, cap, hc⟩
 | v u =>
  simp only [RX] at h
  cases u with
  | slice b m c' =>
   cases b with
   | none => simp only [X.len, Option.some.injEq] at hn; subst hn; exact ⟨none, c', h.1⟩
   | some b => simp [X.len] at hn
  | _ => simp [X.len] at hn
 | _ => simp [X.len] at hn
theorem Y.qx {t e s cY : Nat} {x : Operand} {y : X} {n : Nat} (ht : TY.slice P t = some (e, s, cY)) (hx : bS st x = some y) (hn : y.len = some n) :
  Yields P N st ⟨dst, .call ⟨.builtin .len, #[x], #[t]⟩, ty, pos, af, g⟩ (.v (.int .i64 (n : Int))) := by
 intro G E RR a _ hi
 obtain ⟨R, hp⟩ := hi.eval hx
 obtain ⟨base, cap, hc⟩ := hp.len hn
 refine ⟨.int .i64 (n : Int), hX ?_, by simp [RX]⟩
 obtain ⟨hu, _⟩ := TY.ez ht
 simp [builtin, Builtin.len_, hc, run_underlying hu, goInt]
theorem Y.qy {t : TypeId} {x : Operand} {b : ByteArray} (ht : P.underlying t = some .string) (hx : bS st x = some (.v (.string b))) :
  Yields P N st ⟨dst, .call ⟨.builtin .len, #[x], #[t]⟩, ty, pos, af, g⟩ (.v (.int .i64 (b.size : Int))) := by
 intro G E RR a _ hi
 refine ⟨.int .i64 (b.size : Int), hX ?_, by simp [RX]⟩
 have hc := hi.val hx
 simp [builtin, Builtin.len_, hc, run_underlying ht, goInt]
def bound (st : St) (d : Nat) : Option Operand → Option Nat → Prop
 | none, m => m = none ∨ m = some d
 | some x, some m => ∃ k, bS st x = some (.v (.int k (m : Int)))
 | some _, none => False
theorem run_sliceBound {k : IntKind} {m y : Nat} {code : BoundsCode} (h : m ≤ y) (w : World) : (Instr.sliceBound (.int k (m : Int)) y code).run P w = .ok m w := by
 have h1 : (0 : Int) ≤ (m : Int) ∧ (m : Int) ≤ (y : Int) := by omega
 simp only [Instr.sliceBound, asIntOf, Sem.run_bind, Sem.run_pure, Result.andThen_ok, h1, and_self, if_true, Int.toNat_natCast]
inductive Bd (st : St) : Option Operand → Nat → Nat → Prop where
 | none (d : Nat) : Bd st none d d
 | some {x : Operand} {k : IntKind} {m d : Nat} (h : bS st x = some (.v (.int k (m : Int)))) : Bd st (some x) d m
theorem my {G : Ctx} {E : Env} {RR : Own → List Nat} {a : Act} (hi : Inv G E RR st a) {lo iv : Option Operand} {len cap l h : Nat}
  (hl : Bd st lo 0 l) (hh : Bd st iv len h) (h1 : l ≤ h) (h2 : h ≤ cap) (Rr : Bool) (w : World) :
  (Instr.sliceBounds Rr len cap (lo.map a.eval) (iv.map a.eval) none).run P w = .ok (l, h, cap) w := by
 cases hl with
 | none =>
  cases hh with
  | none => simp [Instr.sliceBounds]
  | some hx => simp [Instr.sliceBounds, hi.val hx, run_sliceBound h2]
 | some hy =>
  cases hh with
  | none => simp [Instr.sliceBounds, hi.val hy, run_sliceBound h1]
  | some hx => simp [Instr.sliceBounds, hi.val hx, hi.val hy, run_sliceBound h1, run_sliceBound h2]
theorem Y.zx {t e s cY : Nat} {x : Operand} {lo iv : Option Operand} {o Qe n l h : Nat} (ht : TY.slice P t = some (e, s, cY)) (hx : bS st x = some (.ba o s Qe n))
  (hl : Bd st lo 0 l) (hh : Bd st iv n h) (h1 : l ≤ h) (h2 : h ≤ n) : Yields P N st ⟨dst, .slice t x lo iv none, ty, pos, af, g⟩ (.ba o s (Qe + l) (h - l)) := by
 intro G E RR a _ hi
 obtain ⟨R, hp⟩ := hi.eval hx
 simp only [RX] at hp
 obtain ⟨_, base, cap, hc, dA⟩ := hp
 obtain ⟨AG, i, iQ, fu, _⟩ := TY.ez ht
 have o3 : h ≤ cap := by
  rcases dA with ⟨_, _, h', _⟩ | ⟨_, _, _, h', _⟩ <;> omega
 refine ⟨.slice (if cap = l then base else base.map (·.add (l * s))) (h - l) (cap - l), ?_, ?_⟩
 ·show (do let z ← Instr.sliceAt t (a.eval x) (lo.map a.eval) (iv.map a.eval) none; pure (Next.value z) : Sem Next).run P E.w = _
  rw [hc]
  refine dJ ?_
  simp only [Instr.sliceAt, Sem.run_bind, run_underlying AG, Result.andThen_ok, Instr.slice, my hi hl hh h1 o3, run_sizeOf iQ, fu]
  rfl
 ·simp only [RX]
  refine ⟨trivial, _, _, rfl, ?_⟩
  rcases dA with ⟨hβ, Dj, hn, mS⟩ | ⟨B, hβ, Jj, hn, hb⟩
  ·exact .inl ⟨hβ, om, om, om⟩
  ·refine .inr ⟨B, hβ, om, om, ?_⟩
   by_cases DC : cap = l
   ·left; omega
   ·right
    have := hb.resolve_left om
    rw [if_neg DC, this]
    simp only [Option.map_some, iy, Nat.add_mul, Nat.add_assoc]
theorem ej.get {E : Env} : ∀ {xs : List X} {cs : List Value} {R : List Nat} {k : Nat} {x : X}, ej E xs cs R → xs[k]? = some x → ∃ u R₁, cs[k]? = some u ∧ RX E x u R₁
 | [], _, _, _, _, _, h => by simp at h
 | y :: r, cs, R, 0, x, h, hx => by
  simp only [ej] at h
  simp only [List.getElem?_cons_zero, Option.some.injEq] at hx
  subst hx
  obtain ⟨c, di, R₁, R₂, rfl, h1, _, _⟩ := h
  exact ⟨c, R₁, rfl, h1⟩
 | y :: r, cs, R, k + 1, x, h, hx => by
  simp only [ej] at h
  obtain ⟨c, di, R₁, R₂, rfl, _, h2, _⟩ := h
  obtain ⟨u, R₃, hu, h3⟩ := ej.get (k := k) h2 (by simpa using hx)
  exact ⟨u, R₃, by simpa using hu, h3⟩
theorem Y.qn {x : Operand} {xs : List X} {y : X} {k : Nat} (hx : bS st x = some (.tup xs)) (hy : xs[k]? = some y) (hf : y.free = true) : Yields P N st ⟨dst, .extract x k, ty, pos, af, g⟩ y := by
 intro G E RR a _ hi
 obtain ⟨R, hp⟩ := hi.eval hx
 simp only [RX] at hp
 obtain ⟨cs, hc, fx⟩ := hp
 obtain ⟨u, R₁, hu, h1⟩ := ej.get fx hy
 have h0 := RX.free hf h1
 subst h0
 refine ⟨u, ?_, h1⟩
 show (do let z ← Instr.extract (a.eval x) k; pure (Next.value z) : Sem Next).run P E.w = _
 rw [hc]
 refine dJ ?_
 have yT : cs[k]? = some u := by simpa using hu
 simp only [Instr.extract, yT]; rfl
theorem Y.zl {x : Operand} {p q : X} (hx : bS st x = some p) (hq : p.on 0 = some q) : Yields P N st ⟨dst, .nilCheck x, ty, pos, af, g⟩ q := by
 intro G E RR a _ hi
 obtain ⟨R, hp⟩ := hi.eval hx
 obtain ⟨b, off, hc, h⟩ := hp.on hq
 refine ⟨_, ?_, h⟩
 simp only [execOp, hc]; rfl
def X.one : X → Bool
 | .v (.agg _) | .v (.tuple _) => false
 | .v _ | .fz .. | .ei .. | .ptr .. | .ba .. | .mref _ | .fp .. | .gB .. => true
 | .no | .agg _ | .tup _ => false
theorem RX.one {E : Env} {x : X} {c : Value} {R : List Nat} (ho : x.one = true) (h : RX E x c R) : jA c := by
 cases x with
 | v u =>
  simp only [RX] at h
  rw [h.1]
  cases u <;> first | trivial | (simp [X.one] at ho)
 | fz s rows => simp only [RX] at h; obtain ⟨_, _, _, _, rfl, _⟩ := h; trivial
 | ei s rows => simp only [RX] at h; obtain ⟨_, _, _, rfl, _⟩ := h; trivial
 | ptr o s i k => simp only [RX] at h; obtain ⟨_, _, _, rfl⟩ := h; trivial
 | ba o s lo n => simp only [RX] at h; obtain ⟨_, _, _, rfl, _⟩ := h; trivial
 | mref o => simp only [RX] at h; obtain ⟨_, _, _, rfl⟩ := h; trivial
 | fp row k => simp only [RX] at h; obtain ⟨_, _, _, rfl, _⟩ := h; trivial
 | gB fn f c => simp only [RX] at h; obtain ⟨_, _, _, rfl, _⟩ := h; trivial
 | _ => simp [X.one] at ho
def X.flat : X → Option (List X)
 | .agg xs => some xs
 | x => bif x.one then some [x] else none
theorem uv {c : Value} (h : jA c) : c.cells = #[c] := by
 cases c <;> first | rfl | exact h.elim
theorem RX.flat {E : Env} {x : X} {c : Value} {R : List Nat} {ys : List X} (hf : x.flat = some ys) (h : RX E x c R) : bz E ys c.cells.toList R := by
 by_cases hx : ∃ xs, x = .agg xs
 ·obtain ⟨xs, rfl⟩ := hx
  simp only [X.flat, Option.some.injEq] at hf
  subst hf
  simp only [RX] at h
  obtain ⟨cs, rfl, h⟩ := h
  exact h
 ·have h1 : x.one = true ∧ ys = [x] := by
   unfold X.flat at hf
   split at hf
   ·exact absurd ⟨_, rfl⟩ hx
   ·cases ho : x.one with
    | false => simp [ho] at hf
    | true => simp [ho] at hf; exact ⟨rfl, hf.symm⟩
  obtain ⟨ho, rfl⟩ := h1
  have hs := h.one ho
  rw [uv hs]
  simp only [bz]
  exact ⟨c, [], R, [], rfl, hs, h, ⟨rfl, rfl⟩, by simp⟩
end
end Go.AW
namespace Go.AW
open Go
theorem dG.mono {E E' : Env} {o : Nat} {ob : Obj} {R : List Nat} (hE : E.On E' R) (ho : E'.β o = E.β o) (hm : ∀ xs, ob = .cells xs → ∀ q, X.cG q xs = true → E'.β q = E.β q) (h : dG E o ob R) : dG E' o ob R := by
 cases ob with
 | cells xs =>
  simp only [dG] at h ⊢
  obtain ⟨rC, B, cs, ty, hB, hw, hf, hl, hR, rfl⟩ := h
  have h2 := hE.2 B.b (by simp)
  exact ⟨rC, B, cs, ty, ho.trans hB, h2.1.trans hw, h2.2 hf, hl, RO.mono xs cs _ [] (hE.sub (fun _ h => by cases h)) (hm xs rfl) hR, rfl⟩
 | rows s rs =>
  simp only [dG] at h ⊢
  obtain ⟨hu, h⟩ := h
  refine ⟨hu, ?_⟩
  rcases h with ⟨h1, h2, h3⟩ | ⟨B, cs, ty, R', hB, hw, hf, hl, hc, hR, rfl⟩
  ·exact .inl ⟨ho.trans h1, h2, h3⟩
  ·have h2 := hE.2 B.b (by simp)
   exact .inr ⟨B, cs, ty, R', ho.trans hB, h2.1.trans hw, h2.2 hf, hl, hc, cH.mono rs cs _ R' (hE.sub (fun _ h => by simp [h])) hR, rfl⟩
 | wA es =>
  simp only [dG] at h ⊢
  obtain ⟨B, pL, clock, hB, hw, hf, he, rfl⟩ := h
  have h2 := hE.2 B.b (by simp)
  exact ⟨B, pL, clock, ho.trans hB, h2.1.trans hw, h2.2 hf, he, rfl⟩
 | gone => simpa [dG] using h
structure cZ (G : Ctx) (E E' : Env) (T : Nat → Prop) : Prop where
 φ : E'.φ = E.φ
 free : ∀ b, T b → ∀ i, E.φ b i = none
 out : ∀ b, T b → ¬ G.K b
 same : ∀ b, b < E.w.heap.size → ¬ T b → E'.w.heap[b]? = E.w.heap[b]?
 size : E.w.heap.size ≤ E'.w.heap.size
 os : E'.w.os = E.w.os
 tape : E'.w.tape = E.w.tape
 output : E'.w.output = E.w.output
section
variable {G : Ctx} {E E' : Env} {RR : Own → List Nat} {st : St} {a : Act} {T : Nat → Prop}
theorem cZ.on (hm : cZ G E E' T) (hi : Inv G E RR st a) {p : Own} (hT : ∀ b ∈ RR p, ¬ T b) : E.On E' (RR p) :=
 ⟨fun b i v h => by rw [hm.φ]; exact h, fun b hb => ⟨hm.same b (hi.own p b hb).1 (hT b hb), fun h => by rw [hm.φ]; exact h⟩⟩
theorem cZ.kR (hm : cZ G E E' T) (hi : Inv G E RR st a) : ∀ b i v, E'.φ b i = some v → E'.w.cell? ⟨b, i, none⟩ = some v := by
 intro b i v h
 rw [hm.φ] at h
 have h0 := hi.kR b i v h
 have iU := World.block_lt_of_cell? E.w _ h0
 have hT : ¬ T b := fun hT => by rw [hm.free b hT i] at h; cases h
 have := hm.same b iU hT
 rw [World.cell?_of_block this]; exact h0
theorem cZ.ah (hm : cZ G E E' T) (hi : Inv G E RR st a) : ∀ b, G.K b → E'.w.heap[b]? = G.w0.heap[b]? := by
 intro b hK
 have iU : b < E.w.heap.size := Nat.lt_of_lt_of_le (hi.small b hK) hi.size
 rw [hm.same b iU (fun hT => hm.out b hT hK)]
 exact hi.ah b hK
theorem cZ.slot (hm : cZ G E E' T) (hi : Inv G E RR st a) {s : Nat} {x : X} (hx : look st.aD s = some x) (hT : ∀ b ∈ RR (.slot s), ¬ T b) (hβ : ∀ o, x.dN o = true → E'.β o = E.β o) :
  RX E' x (a.tmps.getD s undef) (RR (.slot s)) :=
 RX.mono x _ _ (hm.on hi hT) hβ (hi.aD s x hx)
theorem cZ.obj (hm : cZ G E E' T) (hi : Inv G E RR st a) {o : Nat} {ob : Obj} (hx : look st.aG o = some ob) (hT : ∀ b ∈ RR (.obj o), ¬ T b) (ho : E'.β o = E.β o)
  (hβ : ∀ xs, ob = .cells xs → ∀ q, X.cG q xs = true → E'.β q = E.β q) : dG E' o ob (RR (.obj o)) :=
 dG.mono (hm.on hi hT) ho hβ (hi.aG o ob hx)
theorem cZ.own (hm : cZ G E E' T) (hi : Inv G E RR st a) : ∀ p b, b ∈ RR p → b < E'.w.heap.size ∧ ¬ G.K b :=
 fun p b hb => ⟨Nat.lt_of_lt_of_le (hi.own p b hb).1 hm.size, (hi.own p b hb).2⟩
theorem Inv.yn (hi : Inv G E RR st a) (hm : cZ G E E' (fun _ => False)) (hβ : E'.β = E.β) : Inv G E' RR st a :=
 {hi with
  kR := hm.kR hi
  aD := fun s x hx => hm.slot hi hx (fun _ _ h => h) (fun o _ => by rw [hβ])
  aG := fun o ob ho => hm.obj hi ho (fun _ _ h => h) (by rw [hβ]) (fun _ _ _ _ => by rw [hβ])
  own := hm.own hi
  ah := hm.ah hi
  size := Nat.le_trans hi.size hm.size
  os := hm.os.trans hi.os
  tape := hm.tape.trans hi.tape
  output := hm.output.trans hi.output
  φ0 := fun b i v h => by rw [hm.φ]; exact hi.φ0 b i v h
  grow := fun b i v h => by rw [hm.φ] at h; exact hi.grow b i v h
  fixed := fun o h => by rw [hβ]; exact hi.fixed o h }
theorem cZ.alloc (G : Ctx) (E : Env) (o : Go.Obj) : cZ G E { E with w := E.w.alloc o } (fun _ => False) where
 φ := rfl
 free := fun _ h => h.elim
 out := fun _ h => h.elim
 same := fun b hb _ => by
  show (E.w.heap.push o)[b]? = _
  rw [Array.getElem?_push, if_neg om]
 size := by simp
 os := rfl
 tape := rfl
 output := rfl
theorem cZ.drew (G : Ctx) (E : Env) : cZ G E { E with w := E.w.drew } (fun _ => False) where
 φ := rfl
 free := fun _ h => h.elim
 out := fun _ h => h.elim
 same := fun _ _ _ => rfl
 size := Nat.le_refl _
 os := rfl
 tape := rfl
 output := rfl
theorem cZ.trans {kT : Env} {T' : Nat → Prop} (h : cZ G E E' T) (h' : cZ G E' kT T') (dz : ∀ b, T' b → T b ∨ (E.w.heap.size ≤ b)) : cZ G E kT T where
 φ := h'.φ.trans h.φ
 free := h.free
 out := h.out
 same := fun b hb hT => by
  have h1 := h.same b hb hT
  rw [← h1]
  refine h'.same b (Nat.lt_of_lt_of_le hb h.size) (fun Rs => ?_)
  rcases dz b Rs with h2 | h2
  ·exact hT h2
  ·omega
 size := Nat.le_trans h.size h'.size
 os := h'.os.trans h.os
 tape := h'.tape.trans h.tape
 output := h'.output.trans h.output
theorem cZ.setRow (G : Ctx) (E : Env) (b : Nat) (cs : Array Value) (hf : ∀ i, E.φ b i = none) (hK : ¬ G.K b) : cZ G E { E with w := E.w.setRow b cs } (fun c => c = b) where
 φ := rfl
 free := fun c h => by subst h; exact hf
 out := fun c h => by subst h; exact hK
 same := fun c _ h => setRow_other E.w b c cs h
 size := by simp
 os := rfl
 tape := rfl
 output := rfl
theorem Inv.relabel (hi : Inv G E RR st a) {d : Nat} {x : X} {R : List Nat} (hx : RX E x (a.tmps.getD d undef) R) (hn : R.Nodup)
  (hR : ∀ b ∈ R, b < E.w.heap.size ∧ ¬ G.K b ∧ ∀ p, p ≠ .slot d → b ∉ RR p) : Inv G E (fH RR (.slot d) R) (st.put d x) a := by
 refine { hi with aD := ?_, aG := ?_, nodup := ?_, apart := ?_, own := ?_ }
 ·intro s y hy
  simp only [St.put, look] at hy
  cases hb : Nat.beq d s with
  | true =>
   have := Nat.eq_of_beq_eq_true hb
   subst this
   rw [hb] at hy
   simp only [cond_true, Option.some.injEq] at hy
   subst hy
   simpa [fH] using hx
  | false =>
   have ew := Nat.ne_of_beq_eq_false hb
   rw [hb] at hy
   have : fH RR (.slot d) R (.slot s) = RR (.slot s) := by simp [fH, Ne.symm ew]
   rw [this]
   exact hi.aD s y hy
 ·intro o ob ho
  have : fH RR (.slot d) R (.obj o) = RR (.obj o) := by simp [fH]
  rw [this]; exact hi.aG o ob ho
 ·intro p
  unfold fH
  split
  ·exact hn
  ·exact hi.nodup p
 ·intro p q lr b hb
  unfold fH at hb ⊢
  split at hb
  ·rename_i hp
   subst hp
   rw [if_neg (Ne.symm lr)]
   exact (hR b hb).2.2 q (Ne.symm lr)
  ·split
   ·rename_i hp hq
    subst hq
    intro gq
    exact (hR b gq).2.2 p lr hb
   ·exact hi.apart p q lr b hb
 ·intro p b hb
  unfold fH at hb
  split at hb
  ·exact ⟨(hR b hb).1, (hR b hb).2.1⟩
  ·exact hi.own p b hb
theorem Inv.no (hi : Inv G E RR st a) (d : Nat) : Inv G E (fH RR (.slot d) []) (st.put d .no) a :=
 hi.relabel (by simp [RX]) List.nodup_nil (fun _ h => by cases h)
def St.eb (st : St) (o : Nat) (ob : Obj) : St := { st with aG := (o, ob) :: st.aG }
theorem Inv.eb (hi : Inv G E RR st a) {o : Nat} {ob : Obj} {R : List Nat} (hx : dG E o ob R) (hn : R.Nodup)
  (hR : ∀ b ∈ R, b < E.w.heap.size ∧ ¬ G.K b ∧ ∀ p, p ≠ .obj o → b ∉ RR p) : Inv G E (fH RR (.obj o) R) (st.eb o ob) a := by
 refine { hi with aD := ?_, aG := ?_, nodup := ?_, apart := ?_, own := ?_ }
 ·intro s y hy
  have : fH RR (.obj o) R (.slot s) = RR (.slot s) := by simp [fH]
  rw [this]; exact hi.aD s y hy
 ·intro q wB ho
  simp only [St.eb, look] at ho
  cases hb : Nat.beq o q with
  | true =>
   have := Nat.eq_of_beq_eq_true hb
   subst this
   rw [hb] at ho
   simp only [cond_true, Option.some.injEq] at ho
   subst ho
   simpa [fH] using hx
  | false =>
   have ew := Nat.ne_of_beq_eq_false hb
   rw [hb] at ho
   have : fH RR (.obj o) R (.obj q) = RR (.obj q) := by simp [fH, Ne.symm ew]
   rw [this]
   exact hi.aG q wB ho
 ·intro p
  unfold fH
  split
  ·exact hn
  ·exact hi.nodup p
 ·intro p q lr b hb
  unfold fH at hb ⊢
  split at hb
  ·rename_i hp
   subst hp
   rw [if_neg (Ne.symm lr)]
   exact (hR b hb).2.2 q (Ne.symm lr)
  ·split
   ·rename_i hp hq
    subst hq
    intro gq
    exact (hR b gq).2.2 p lr hb
   ·exact hi.apart p q lr b hb
 ·intro p b hb
  unfold fH at hb
  split at hb
  ·exact ⟨(hR b hb).1, (hR b hb).2.1⟩
  ·exact hi.own p b hb
end
def mz (o : Nat) (x : X) : X := bif x.dN o then .no else x
def rM (o : Nat) (l : List (Nat × X)) : List (Nat × X) := l.map fun p => (p.1, mz o p.2)
def Obj.yo (o : Nat) : Obj → Obj
 | .cells xs => .cells (xs.map (mz o))
 | ob => ob
def wQ (o : Nat) (l : List (Nat × Obj)) : List (Nat × Obj) := l.map fun p => (p.1, p.2.yo o)
def St.kill (st : St) (o : Nat) : St := ⟨rM o st.aD, wQ o st.aG⟩
theorem mU {α β : Type} (f : α → β) : ∀ (l : List (Nat × α)) (s : Nat), look (l.map fun p => (p.1, f p.2)) s = (look l s).map f
 | [], _ => rfl
 | (t, x) :: r, s => by
  simp only [List.map_cons, look]
  cases Nat.beq t s with
  | true => rfl
  | false => exact mU f r s
theorem wR (o : Nat) {x : X} (h : x.free = true) : (mz o x).free = true := by
 unfold mz
 cases x.dN o with
 | true => rfl
 | false => exact h
theorem rN (o : Nat) : ∀ {xs : List X}, X.b9 xs = true → X.b9 (xs.map (mz o)) = true
 | [], _ => rfl
 | x :: r, h => by
  simp only [X.b9, Bool.and_eq_true] at h
  simp only [List.map_cons, X.b9, wR o h.1, rN o h.2, Bool.and_self]
theorem RO.kill {E : Env} {o : Nat} : ∀ {xs : List X} {cs : Array Value} {off : Nat}, X.b9 xs = true → RO E xs cs off [] → RO E (xs.map (mz o)) cs off []
 | [], _, _, _, h => h
 | x :: r, cs, off, hf, h => by
  simp only [RO] at h
  obtain ⟨u, R₁, R₂, hu, hs, h1, h2, hR⟩ := h
  simp only [X.b9, Bool.and_eq_true] at hf
  have MG := RX.free hf.1 h1
  have MH := RO.free hf.2 h2
  subst MG; subst MH
  have h3 := RO.kill (o := o) hf.2 h2
  simp only [List.map_cons, RO]
  refine ⟨u, [], [], hu, hs, ?_, h3, rfl⟩
  unfold mz
  cases x.dN o with
  | true => simp [RX]
  | false => exact h1
theorem o4 (o : Nat) : ∀ (xs : List X) (q : Nat), X.cG q (xs.map (mz o)) = true → q ≠ o ∧ X.cG q xs = true
 | [], _, h => by simp [X.cG] at h
 | x :: r, q, h => by
  simp only [List.map_cons, X.cG, Bool.or_eq_true] at h ⊢
  rcases h with h | h
  ·unfold mz at h
   cases hk : x.dN o with
   | true => simp [hk, X.dN] at h
   | false =>
    rw [hk] at h
    simp only [cond_false] at h
    exact ⟨fun hq => by (subst hq; rw [hk] at h; cases h), .inl h⟩
  ·exact ⟨(o4 o r q h).1, .inr (o4 o r q h).2⟩
section
variable {G : Ctx} {E E' : Env} {RR : Own → List Nat} {st : St} {a : Act} {T : Nat → Prop}
theorem Inv.vr (hi : Inv G E RR st a) {o b : Nat} (h : b ∈ RR (.obj o) ∨ E.w.heap.size ≤ b) : ∀ p, p ≠ .obj o → b ∉ RR p := by
 intro p hp hb
 rcases h with h | h
 ·exact hi.apart p _ hp b hb h
 ·have := (hi.own p b hb).1; omega
def eZ (st : St) (RR : Own → List Nat) (o : Nat) (R : List Nat) : Own → List Nat
 | .obj q => if q = o then R else RR (.obj q)
 | .slot s => match look st.aD s with
  | some x => bif x.dN o then [] else RR (.slot s)
  | none => RR (.slot s)
theorem gP (st : St) (RR : Own → List Nat) (o : Nat) (R : List Nat) (s : Nat) : eZ st RR o R (.slot s) = [] ∨ eZ st RR o R (.slot s) = RR (.slot s) := by
 cases hs : look st.aD s with
 | none => exact .inr (by simp [eZ, hs])
 | some x => cases hk : x.dN o with
  | true => exact .inl (by simp [eZ, hs, hk])
  | false => exact .inr (by simp [eZ, hs, hk])
theorem Inv.lu (hi : Inv G E RR st a) (hm : cZ G E E' T) {o : Nat} {ob : Obj} {R : List Nat} (hT : ∀ b, T b → b ∈ RR (.obj o)) (hβ : ∀ q, q ≠ o → E'.β q = E.β q) (MI : G.fn.F.elem o = true → E'.β o = E.β o)
  (hx : dG E' o ob R) (hn : R.Nodup) (hR : ∀ b ∈ R, b < E'.w.heap.size ∧ ¬ G.K b ∧ ∀ p, p ≠ .obj o → b ∉ RR p) :
  Inv G E' (eZ st RR o R) ((st.kill o).eb o ob) a := by
 have hold : ∀ p, p ≠ .obj o → ∀ b ∈ RR p, ¬ T b := fun p hp b hb Fh => hi.apart p (.obj o) hp b hb (hT b Fh)
 have dz : ∀ p, p ≠ .obj o → ∀ b ∈ eZ st RR o R p, b ∈ RR p := by
  intro p hp b hb
  cases p with
  | obj q =>
   have : q ≠ o := fun e => hp (by rw [e])
   simpa [eZ, this] using hb
  | slot s =>
   rcases gP st RR o R s with h | h
   ·rw [h] at hb; cases hb
   ·rw [h] at hb; exact hb
 have vu : eZ st RR o R (.obj o) = R := by simp [eZ]
 have mV : ∀ p, p ≠ .obj o → ∀ b ∈ RR p, b ∉ R := by
  intro p hp b hb Gu
  exact (hR b Gu).2.2 p hp hb
 have MJ : ∀ b i v, G.φ0 b i = some v → E'.φ b i = some v := fun b i v h => by rw [hm.φ]; exact hi.φ0 b i v h
 have AV : ∀ b i v, E'.φ b i = some v → G.φ0 b i = some v ∨ ¬ G.K b := fun b i v h => by rw [hm.φ] at h; exact hi.grow b i v h
 refine { hi with kR := hm.kR hi, aD := ?_, aG := ?_, nodup := ?_, apart := ?_, own := ?_, ah := hm.ah hi, size := Nat.le_trans hi.size hm.size, os := hm.os.trans hi.os, tape := hm.tape.trans hi.tape, output := hm.output.trans hi.output, φ0 := MJ, grow := AV, fixed := ?_ }
 ·intro s y hy
  have hl : look (rM o st.aD) s = some y := hy
  unfold rM at hl
  rw [mU (mz o)] at hl
  cases hs : look st.aD s with
  | none => simp [hs] at hl
  | some x =>
   rw [hs] at hl
   simp only [Option.map_some, Option.some.injEq] at hl
   subst hl
   cases hk : x.dN o with
   | true => simp [eZ, hs, hk, mz, RX]
   | false =>
    have : eZ st RR o R (.slot s) = RR (.slot s) := by simp [eZ, hs, hk]
    rw [this]
    simp only [mz, hk, cond_false]
    exact hm.slot hi hs (hold _ (by simp)) (fun q hq => hβ q (fun e => by subst e; rw [hk] at hq; cases hq))
 ·intro q wB ho
  simp only [St.eb, look] at ho
  cases hb : Nat.beq o q with
  | true =>
   have := Nat.eq_of_beq_eq_true hb
   subst this
   rw [hb] at ho
   simp only [cond_true, Option.some.injEq] at ho
   subst ho
   rw [vu]; exact hx
  | false =>
   have ew := Nat.ne_of_beq_eq_false hb
   rw [hb] at ho
   have hl : look (wQ o st.aG) q = some wB := ho
   unfold wQ at hl
   rw [mU (Obj.yo o)] at hl
   have hr : eZ st RR o R (.obj q) = RR (.obj q) := by simp [eZ, Ne.symm ew]
   rw [hr]
   cases hs : look st.aG q with
   | none => simp [hs] at hl
   | some Jk =>
    rw [hs] at hl
    simp only [Option.map_some, Option.some.injEq] at hl
    subst hl
    have lv := hi.aG q Jk hs
    have gx := hm.on hi (p := .obj q) (hold _ (by simpa using Ne.symm ew))
    cases Jk with
    | cells xs =>
     simp only [Obj.yo, dG] at lv ⊢
     obtain ⟨rC, B, cs, ty, hB, hw, hf, hlen, jB, ir⟩ := lv
     have h2 := gx.2 B.b (by rw [ir]; simp)
     exact ⟨rN o rC, B, cs, ty, (hβ q (Ne.symm ew)).trans hB, h2.1.trans hw, h2.2 hf, by simpa using hlen,
      RO.mono _ cs _ [] (gx.sub (fun _ h => by cases h)) (fun p hp => hβ p (o4 o xs p hp).1) (RO.kill rC jB), ir⟩
    | rows s rs => exact dG.mono gx (hβ q (Ne.symm ew)) (fun xs h => by cases h) lv
    | wA es => exact dG.mono gx (hβ q (Ne.symm ew)) (fun xs h => by cases h) lv
    | gone => simpa [dG, Obj.yo] using lv
 ·intro p
  by_cases hp : p = .obj o
  ·subst hp; rw [vu]; exact hn
  ·cases p with
   | obj q =>
    have : q ≠ o := fun e => hp (by rw [e])
    simpa [eZ, this] using hi.nodup (.obj q)
   | slot s =>
    rcases gP st RR o R s with h | h
    ·rw [h]; exact List.nodup_nil
    ·rw [h]; exact hi.nodup _
 ·intro p q lr b hb gq
  by_cases hp : p = .obj o
  ·subst hp
   rw [vu] at hb
   have hq : q ≠ .obj o := Ne.symm lr
   exact mV q hq b (dz q hq b gq) hb
  ·by_cases hq : q = .obj o
   ·subst hq
    rw [vu] at gq
    exact mV p hp b (dz p hp b hb) gq
   ·exact hi.apart p q lr b (dz p hp b hb) (dz q hq b gq)
 ·intro p b hb
  by_cases hp : p = .obj o
  ·subst hp
   rw [vu] at hb
   exact ⟨(hR b hb).1, (hR b hb).2.1⟩
  ·exact hm.own hi p b (dz p hp b hb)
 ·intro q hq
  by_cases Qf : q = o
  ·subst Qf; rw [MI hq]; exact hi.fixed q hq
  ·rw [hβ q Qf]; exact hi.fixed q hq
theorem Inv.AX (hi : Inv G E RR st a) (hm : cZ G E E' T) {o : Nat} {ob : Obj} {R : List Nat} (hT : ∀ b, T b → b ∈ RR (.obj o)) (hβ : E'.β = E.β)
  (hx : dG E' o ob R) (hn : R.Nodup) (hR : ∀ b ∈ R, b < E'.w.heap.size ∧ ¬ G.K b ∧ ∀ p, p ≠ .obj o → b ∉ RR p) :
  Inv G E' (fH RR (.obj o) R) (st.eb o ob) a := by
 have hold : ∀ p, p ≠ .obj o → ∀ b ∈ RR p, ¬ T b := fun p hp b hb Fh => hi.apart p (.obj o) hp b hb (hT b Fh)
 have mV : ∀ p, p ≠ .obj o → ∀ b ∈ RR p, b ∉ R := by
  intro p hp b hb Gu
  exact (hR b Gu).2.2 p hp hb
 have MJ : ∀ b i v, G.φ0 b i = some v → E'.φ b i = some v := fun b i v h => by rw [hm.φ]; exact hi.φ0 b i v h
 have AV : ∀ b i v, E'.φ b i = some v → G.φ0 b i = some v ∨ ¬ G.K b := fun b i v h => by rw [hm.φ] at h; exact hi.grow b i v h
 refine { hi with kR := hm.kR hi, aD := ?_, aG := ?_, nodup := ?_, apart := ?_, own := ?_, ah := hm.ah hi, size := Nat.le_trans hi.size hm.size, os := hm.os.trans hi.os, tape := hm.tape.trans hi.tape, output := hm.output.trans hi.output, φ0 := MJ, grow := AV, fixed := fun q hq => by rw [hβ]; exact hi.fixed q hq }
 ·intro s y hy
  have : fH RR (.obj o) R (.slot s) = RR (.slot s) := by simp [fH]
  rw [this]
  exact hm.slot hi hy (hold _ (by simp)) (fun q _ => by rw [hβ])
 ·intro q wB ho
  simp only [St.eb, look] at ho
  cases hb : Nat.beq o q with
  | true =>
   have := Nat.eq_of_beq_eq_true hb
   subst this
   rw [hb] at ho
   simp only [cond_true, Option.some.injEq] at ho
   subst ho
   simpa [fH] using hx
  | false =>
   have ew := Nat.ne_of_beq_eq_false hb
   rw [hb] at ho
   have : fH RR (.obj o) R (.obj q) = RR (.obj q) := by simp [fH, Ne.symm ew]
   rw [this]
   exact hm.obj hi ho (hold _ (by simpa using Ne.symm ew)) (by rw [hβ]) (fun _ _ _ _ => by rw [hβ])
 ·intro p
  unfold fH
  split
  ·exact hn
  ·exact hi.nodup p
 ·intro p q lr b hb gq
  unfold fH at hb gq
  split at hb
  ·rename_i hp
   subst hp
   rw [if_neg (Ne.symm lr)] at gq
   exact mV q (Ne.symm lr) b gq hb
  ·rename_i hp
   split at gq
   ·exact mV p hp b hb gq
   ·exact hi.apart p q lr b hb gq
 ·intro p b hb
  unfold fH at hb
  split at hb
  ·exact ⟨(hR b hb).1, (hR b hb).2.1⟩
  ·exact hm.own hi p b hb
end
end Go.AW
namespace Go.AW
open Go
section
variable {E : Env}
theorem RO.ext : ∀ {xs : List X} {cs di : Array Value} {off : Nat} {R : List Nat}, (∀ j, j < xs.length → di[off + j]? = cs[off + j]?) → RO E xs cs off R → RO E xs di off R
 | [], _, _, _, _, _, h => by simpa [RO] using h
 | x :: r, cs, di, off, R, he, h => by
  simp only [RO] at h ⊢
  obtain ⟨u, R₁, R₂, hu, hs, h1, h2, hR⟩ := h
  refine ⟨u, R₁, R₂, ?_, hs, h1, RO.ext (fun j hj => ?_) h2, hR⟩
  ·have := he 0 (by simp)
   rw [Nat.add_zero] at this
   rw [this]; exact hu
  ·have := he (j + 1) (by simp; omega)
   rw [show off + 1 + j = off + (j + 1) by omega]; exact this
theorem cH.ext : ∀ {rs : List (List X)} {cs di : Array Value} {off : Nat} {R : List Nat}, (∀ j, j < rs.flatten.length → di[off + j]? = cs[off + j]?) → cH E rs cs off R → cH E rs di off R
 | [], _, _, _, _, _, h => by simpa [cH] using h
 | x :: r, cs, di, off, R, he, h => by
  simp only [cH] at h ⊢
  obtain ⟨R₁, R₂, hn, h1, h2, hR⟩ := h
  refine ⟨R₁, R₂, hn, RO.ext (fun j hj => he j (by simp; omega)) h1, cH.ext (fun j hj => ?_) h2, hR⟩
  have := he (x.length + j) (by simp at hj ⊢; omega)
  rw [Nat.add_assoc]; exact this
theorem RO.app : ∀ {xs ys : List X} {cs : Array Value} {off : Nat} {R₁ R₂ : List Nat}, RO E xs cs off R₁ → RO E ys cs (off + xs.length) R₂ → RO E (xs ++ ys) cs off (R₁ ++ R₂)
 | [], ys, cs, off, R₁, R₂, h, h' => by simp only [RO] at h; subst h; simpa using h'
 | x :: r, ys, cs, off, R₁, R₂, h, h' => by
  simp only [RO] at h
  obtain ⟨u, R₃, R₄, hu, hs, h1, h2, rfl⟩ := h
  simp only [List.cons_append, RO]
  refine ⟨u, R₃, R₄ ++ R₂, hu, hs, h1, RO.app h2 ?_, by simp⟩
  rw [show off + 1 + r.length = off + (x :: r).length by simp; omega]; exact h'
theorem RO.oW : ∀ {xs ys : List X} {cs : Array Value} {off : Nat} {R : List Nat}, RO E (xs ++ ys) cs off R → ∃ R₁ R₂, RO E xs cs off R₁ ∧ RO E ys cs (off + xs.length) R₂ ∧ R = R₁ ++ R₂
 | [], ys, cs, off, R, h => ⟨[], R, by simp [RO], by simpa using h, rfl⟩
 | x :: r, ys, cs, off, R, h => by
  simp only [List.cons_append, RO] at h
  obtain ⟨u, R₃, R₄, hu, hs, h1, h2, rfl⟩ := h
  obtain ⟨R₁, R₂, h3, h4, rfl⟩ := RO.oW h2
  refine ⟨R₃ ++ R₁, R₂, ?_, ?_, by simp⟩
  ·simp only [RO]; exact ⟨u, R₃, R₁, hu, hs, h1, h3, rfl⟩
  ·rw [show off + (x :: r).length = off + 1 + r.length by simp; omega]; exact h4
theorem cH.app : ∀ {xs ys : List (List X)} {cs : Array Value} {off : Nat} {R₁ R₂ : List Nat}, cH E xs cs off R₁ → cH E ys cs (off + xs.flatten.length) R₂ → cH E (xs ++ ys) cs off (R₁ ++ R₂)
 | [], ys, cs, off, R₁, R₂, h, h' => by simp only [cH] at h; subst h; simpa using h'
 | x :: r, ys, cs, off, R₁, R₂, h, h' => by
  simp only [cH] at h
  obtain ⟨R₃, R₄, hn, h1, h2, rfl⟩ := h
  simp only [List.cons_append, cH]
  refine ⟨R₃, R₄ ++ R₂, hn, h1, cH.app h2 ?_, by simp⟩
  rw [show off + x.length + r.flatten.length = off + (x :: r).flatten.length by simp; omega]; exact h'
theorem cH.oW : ∀ {xs ys : List (List X)} {cs : Array Value} {off : Nat} {R : List Nat}, cH E (xs ++ ys) cs off R → ∃ R₁ R₂, cH E xs cs off R₁ ∧ cH E ys cs (off + xs.flatten.length) R₂ ∧ R = R₁ ++ R₂
 | [], ys, cs, off, R, h => ⟨[], R, by simp [cH], by simpa using h, rfl⟩
 | x :: r, ys, cs, off, R, h => by
  simp only [List.cons_append, cH] at h
  obtain ⟨R₃, R₄, hn, h1, h2, rfl⟩ := h
  obtain ⟨R₁, R₂, h3, h4, rfl⟩ := cH.oW h2
  refine ⟨R₃ ++ R₁, R₂, ?_, ?_, by simp⟩
  ·simp only [cH]; exact ⟨R₃, R₁, hn, h1, h3, rfl⟩
  ·rw [show off + (x :: r).flatten.length = off + x.length + r.flatten.length by simp; omega]; exact h4
theorem RO.of : ∀ {xs : List X} {vs : List Value} {cs : Array Value} {off : Nat} {R : List Nat}, bz E xs vs R → (∀ j v, vs[j]? = some v → cs[off + j]? = some v) → RO E xs cs off R
 | [], _, _, _, _, h, _ => by simp only [bz] at h; simp [RO, h.2]
 | x :: r, vs, cs, off, R, h, hv => by
  simp only [bz] at h
  obtain ⟨c, di, R₁, R₂, rfl, hs, h1, h2, rfl⟩ := h
  simp only [RO]
  refine ⟨c, R₁, R₂, ?_, hs, h1, RO.of h2 (fun j v hj => ?_), rfl⟩
  ·simpa using hv 0 c rfl
  ·rw [show off + 1 + j = off + (j + 1) by omega]; exact hv (j + 1) v (by simpa using hj)
theorem length_flatten {s : Nat} : ∀ {rs : List (List X)}, cz s rs → rs.flatten.length = rs.length * s
 | [], _ => by simp
 | r :: rs, h => by
  have h1 := h r (by simp)
  have := length_flatten (rs := rs) (fun q hq => h q (by simp [hq]))
  simp only [List.flatten_cons, List.length_append, h1, this, List.length_cons, Nat.add_mul]
  omega
end
def jP {α : Type} (xs : List α) (k : Nat) (ys : List α) : List α := xs.take k ++ ys ++ xs.drop (k + ys.length)
theorem kU {α : Type} {xs ys : List α} {k : Nat} (h : k + ys.length ≤ xs.length) : (jP xs k ys).length = xs.length := by
 simp [jP]; omega
def kf (cs : Array Value) (k : Nat) (vs : List Value) : Array Value := (cs.toList.take k ++ vs ++ cs.toList.drop (k + vs.length)).toArray
theorem nL {cs : Array Value} {k : Nat} {vs : List Value} (h : k + vs.length ≤ cs.size) : (kf cs k vs).size = cs.size := by
 simp [kf]; omega
theorem yp {cs : Array Value} {k j : Nat} {vs : List Value} (h : k + vs.length ≤ cs.size) (hj : j < vs.length) : (kf cs k vs)[k + j]? = vs[j]? := by
 have hk : k ≤ cs.toList.length := by simp; omega
 simp only [kf, List.getElem?_toArray, List.append_assoc]
 rw [List.getElem?_append_right (by simp; omega)]
 have : k + j - (List.take k cs.toList).length = j := by simp; omega
 rw [this, List.getElem?_append_left hj]
theorem mW {cs : Array Value} {k j : Nat} {vs : List Value} (h : k + vs.length ≤ cs.size) (hj : j < k ∨ k + vs.length ≤ j) : (kf cs k vs)[j]? = cs[j]? := by
 have hk : k ≤ cs.toList.length := by simp; omega
 have hl : (List.take k cs.toList).length = k := by simp; omega
 simp only [kf, List.getElem?_toArray, List.append_assoc]
 rcases hj with hj | hj
 ·rw [List.getElem?_append_left om, List.getElem?_take_of_lt hj]; simp
 ·rw [List.getElem?_append_right om, List.getElem?_append_right om, hl, List.getElem?_drop]
  have : k + vs.length + (j - k - vs.length) = j := by omega
  rw [this]; simp
section
variable {E : Env}
theorem RO.put {xs ys : List X} {cs : Array Value} {off k : Nat} {R R₂ : List Nat} {vs : List Value} (h : RO E xs cs off R) (hk : k + ys.length ≤ xs.length) (hy : bz E ys vs R₂) (hc : off + xs.length ≤ cs.size) :
  ∃ R₁, RO E (jP xs k ys) (kf cs (off + k) vs) off R₁ ∧ (∀ b ∈ R₁, b ∈ R ∨ b ∈ R₂) ∧ ((R ++ R₂).Nodup → R₁.Nodup) := by
 have hl := bz.length hy
 have ru : off + k + vs.length ≤ cs.size := by omega
 have h0 : xs = xs.take k ++ ((xs.drop k).take ys.length ++ xs.drop (k + ys.length)) := by
  conv => lhs; rw [← List.take_append_drop k xs, ← List.take_append_drop ys.length (xs.drop k), List.drop_drop]
 rw [h0] at h
 obtain ⟨Ra, Rb, h1, h2, rfl⟩ := RO.oW h
 obtain ⟨Rc, Rd, h3, h4, rfl⟩ := RO.oW h2
 have Qg : (xs.take k).length = k := by simp; omega
 have Ru : ((xs.drop k).take ys.length).length = ys.length := by simp; omega
 rw [Qg, Ru] at h4
 refine ⟨Ra ++ R₂ ++ Rd, ?_, ?_, ?_⟩
 ·unfold jP
  refine RO.app (RO.app (RO.ext (fun j hj => mW ru (.inl om)) h1) ?_) ?_
  ·rw [Qg]
   refine RO.of hy fun j v hj => ?_
   have qN : j < vs.length := by
    rcases Nat.lt_or_ge j vs.length with h' | h'
    ·exact h'
    ·simp [List.getElem?_eq_none h'] at hj
   rw [yp ru qN]; exact hj
  ·have : off + (List.take k xs ++ ys).length = off + k + ys.length := by simp; omega
   rw [this]
   exact RO.ext (fun j _ => mW ru (.inr om)) h4
 ·intro b hb
  simp only [List.mem_append] at hb ⊢
  rcases hb with (hb | hb) | hb
  ·exact .inl (.inl hb)
  ·exact .inr hb
  ·exact .inl (.inr (.inr hb))
 ·intro hn
  simp only [List.nodup_append, List.mem_append] at hn ⊢
  obtain ⟨⟨ha, ⟨oz, hd, Gv⟩, Gw⟩, MK, hx⟩ := hn
  refine ⟨⟨ha, MK, fun a wS b hb => hx a (.inl wS) b hb⟩, hd, ?_⟩
  intro a wS b hb
  rcases wS with wS | wS
  ·exact Gw a wS b (.inr hb)
  ·intro e; subst e; exact hx a (.inr (.inr hb)) a wS rfl
theorem cH.set {rs : List (List X)} {row ys : List X} {cs : Array Value} {off s i k : Nat} {R R₂ : List Nat} {vs : List Value} (hu : cz s rs) (h : cH E rs cs off R) (hr : rs[i]? = some row)
  (hk : k + ys.length ≤ row.length) (hy : bz E ys vs R₂) (hn : X.gA ys = true) (hc : off + rs.length * s ≤ cs.size) :
  ∃ R₁, cH E (rs.set i (jP row k ys)) (kf cs (off + (i * s + k)) vs) off R₁ ∧ (∀ b ∈ R₁, b ∈ R ∨ b ∈ R₂) ∧ ((R ++ R₂).Nodup → R₁.Nodup) := by
 have hi : i < rs.length := by
  rcases Nat.lt_or_ge i rs.length with h' | h'
  ·exact h'
  ·simp [List.getElem?_eq_none h'] at hr
 have hl := bz.length hy
 have pM : row.length = s := hu row (List.mem_of_getElem? hr)
 have Rv : rs[i] = row := by rw [List.getElem?_eq_getElem hi] at hr; exact Option.some.inj hr
 have h0 : rs = rs.take i ++ (row :: rs.drop (i + 1)) := by
  conv => lhs; rw [← List.take_append_drop i rs, List.drop_eq_getElem_cons hi, Rv]
 have uw : rs.set i (jP row k ys) = rs.take i ++ (jP row k ys :: rs.drop (i + 1)) := by
  rw [List.set_eq_take_append_cons_drop, if_pos hi]
 rw [h0] at h
 obtain ⟨Ra, Rb, h1, h2, rfl⟩ := cH.oW h
 have ux : (rs.take i).flatten.length = i * s := by
  rw [length_flatten (hu.take i), List.length_take, Nat.min_eq_left (Nat.le_of_lt hi)]
 rw [ux] at h2
 simp only [cH] at h2
 obtain ⟨Rc, Rd, tD, h3, h4, rfl⟩ := h2
 have Mg : i * s + s ≤ rs.length * s := by
  have : (i + 1) * s ≤ rs.length * s := Nat.mul_le_mul_right s hi
  rw [Nat.add_mul] at this; omega
 have ru : off + (i * s + k) + vs.length ≤ cs.size := by omega
 obtain ⟨Re, h5, dz, iV⟩ := RO.put h3 hk hy om
 rw [uw]
 refine ⟨Ra ++ (Re ++ Rd), ?_, ?_, ?_⟩
 ·refine cH.app (cH.ext (fun j hj => mW ru (.inl om)) h1) ?_
  rw [ux]
  simp only [cH]
  have Rw : (jP row k ys).length = row.length := kU hk
  refine ⟨Re, Rd, ?_, ?_, ?_, rfl⟩
  ·have h7 : ∀ (xs ys : List X), X.gA xs = true → X.gA ys = true → X.gA (xs ++ ys) = true := by
    intro xs
    induction xs with
    | nil => intro ys _ h; exact h
    | cons x r ih => intro ys hx hy; simp only [X.gA, Bool.and_eq_true, List.cons_append] at hx ⊢; exact ⟨hx.1, ih ys hx.2 hy⟩
   have h8 : ∀ (xs : List X) (n : Nat), X.gA xs = true → X.gA (xs.take n) = true := by
    intro xs
    induction xs with
    | nil => intro n _; simp [X.gA]
    | cons x r ih =>
     intro n hx
     cases n with
     | zero => simp [X.gA]
     | succ n => simp only [X.gA, Bool.and_eq_true, List.take_succ_cons] at hx ⊢; exact ⟨hx.1, ih n hx.2⟩
   have h9 : ∀ (xs : List X) (n : Nat), X.gA xs = true → X.gA (xs.drop n) = true := by
    intro xs
    induction xs with
    | nil => intro n _; simp [X.gA]
    | cons x r ih =>
     intro n hx
     cases n with
     | zero => simpa using hx
     | succ n => simp only [X.gA, Bool.and_eq_true, List.drop_succ_cons] at hx ⊢; exact ih n hx.2
   exact h7 _ _ (h7 _ _ (h8 _ _ tD) hn) (h9 _ _ tD)
  ·rw [Nat.add_assoc] at h5; exact h5
  ·rw [Rw]
   exact cH.ext (fun j _ => mW ru (.inr om)) h4
 ·intro b hb
  simp only [List.mem_append] at hb ⊢
  rcases hb with hb | hb | hb
  ·exact .inl (.inl hb)
  ·rcases dz b hb with h' | h'
   ·exact .inl (.inr (.inl h'))
   ·exact .inr h'
  ·exact .inl (.inr (.inr hb))
 ·intro mX
  simp only [List.nodup_append, List.mem_append] at mX iV ⊢
  obtain ⟨⟨ha, ⟨oz, hd, Gv⟩, Gw⟩, MK, hx⟩ := mX
  have Rz := iV ⟨oz, MK, fun a wS b hb => hx a (.inr (.inl wS)) b hb⟩
  refine ⟨ha, ⟨Rz, hd, ?_⟩, ?_⟩
  ·intro a wS b hb
   rcases dz a wS with h' | h'
   ·exact Gv a h' b hb
   ·intro e; subst e; exact hx a (.inr (.inr hb)) a h' rfl
  ·intro a wS b hb
   rcases hb with hb | hb
   ·rcases dz b hb with h' | h'
    ·exact Gw a wS b (.inl h')
    ·exact hx a (.inl wS) b h'
   ·exact Gw a wS b (.inr hb)
theorem cz.set {s i : Nat} {rs : List (List X)} {row : List X} (hu : cz s rs) (h : row.length = s) : cz s (rs.set i row) := by
 intro r hr
 rcases List.mem_or_eq_of_mem_set hr with h' | h'
 ·exact hu r h'
 ·rw [h']; exact h
end
end Go.AW
namespace Go.AW
open Go
def X.td : List X → Bool
 | [] => true
 | x :: r => x.one && X.td r
theorem yq : ∀ (z : List Value), X.b9 (z.map X.v) = true
 | [] => rfl
 | _ :: r => by simp [X.b9, X.free, yq r]
theorem AY : ∀ (z : List Value), X.gA (z.map X.v) = true
 | [] => rfl
 | _ :: r => by simp [X.gA, X.nr, AY r]
theorem tE {E : Env} : ∀ {z : List Value}, X.td (z.map X.v) = true → bz E (z.map X.v) z []
 | [], _ => by simp [bz]
 | c :: r, h => by
  simp only [List.map_cons, X.td, Bool.and_eq_true] at h
  simp only [List.map_cons, bz]
  have hx : RX E (X.v c) c [] := by simp [RX]
  exact ⟨c, r, [], [], rfl, hx.one h.1, hx, tE h.2, rfl⟩
theorem bz.nM {E : Env} : ∀ {xs : List X} {vs : List Value} {R : List Nat}, bz E xs vs R → ∀ v ∈ vs, v.oneCell' = true
 | [], _, _, h, v, hv => by simp only [bz] at h; rw [h.1] at hv; cases hv
 | x :: r, _, _, h, v, hv => by
  simp only [bz] at h
  obtain ⟨c, di, R₁, R₂, rfl, hs, _, h2, _⟩ := h
  rcases List.mem_cons.1 hv with h' | h'
  ·subst h'; cases v <;> first | rfl | exact hs.elim
  ·exact bz.nM h2 v h'
def Sh (N : eL) (st aT : St) : Prop := ∀ G : Ctx, G.fn = N → ∀ a w, cy G st a w → cy G aT a w
section
variable {P : Program} {N : eL} {st aT : St} {Q : Exit → St → Prop} {all : Array Oper} {rest : List Oper} {d : Nat} {ty : TypeId} {pos : String} {af : Array Edge}
theorem aO.sh (h : Sh N st aT) (k : aO P N all rest aT Q) : aO P N all rest st Q := fun G hn a w hh => k G hn a w (h G hn a w hh)
theorem dk.sh {c : Code} (h : Sh N st aT) (k : dk P N c aT Q) : dk P N c st Q := fun G hn a w hh => k G hn a w (h G hn a w hh)
theorem aO.AZ {op : Op} (h : ∀ (G : Ctx) (E : Env) (RR : Own → List Nat) (a : Act), G.fn = N → Inv G E RR st a →
   ∃ u E' fg, (execOp a.eval ⟨some d, op, ty, pos, af, none⟩).run P E.w = .ok (.value u) E'.w ∧ Inv G E' fg aT (a.put (some d) u))
  (k : aO P N all rest aT Q) : aO P N all (⟨some d, op, ty, pos, af, none⟩ :: rest) st Q := by
 intro G hn a w hh
 obtain ⟨E, RR, rfl, hi⟩ := hh
 obtain ⟨u, E', fg, hr, iv⟩ := h G E RR a hn hi
 refine wpList_plain rfl fun K hK => ?_
 simp only [Oper.wp, hr, Oper.upon_value]
 exact hK _ _ (k G hn _ _ ⟨E', fg, rfl, iv⟩)
theorem aO.Gx {op : Op} (h : ∀ (G : Ctx) (E : Env) (RR : Own → List Nat) (a : Act), G.fn = N → Inv G E RR st a →
   ∃ E' fg, (execOp a.eval ⟨none, op, ty, pos, af, none⟩).run P E.w = .ok .skip E'.w ∧ Inv G E' fg aT a)
  (k : aO P N all rest aT Q) : aO P N all (⟨none, op, ty, pos, af, none⟩ :: rest) st Q := by
 intro G hn a w hh
 obtain ⟨E, RR, rfl, hi⟩ := hh
 obtain ⟨E', fg, hr, iv⟩ := h G E RR a hn hi
 refine wpList_plain rfl fun K hK => ?_
 simp only [Oper.wp, hr, Oper.upon_skip]
 exact hK _ _ (k G hn _ _ ⟨E', fg, rfl, iv⟩)
theorem TY.jV {t : TypeId} {z : List Value} (h : TY.zero P t = some z) : ∃ i z0, P.info? t = some i ∧ i.zero = some z0 ∧ z0.cells.toList = z := by
 unfold TY.zero at h
 cases hi : P.info? t with
 | none => simp [hi] at h
 | some i =>
  rw [hi] at h
  simp only [Option.bind_some] at h
  cases hz : i.zero with
  | none => simp [hz] at h
  | some z0 =>
   rw [hz] at h
   simp only [Option.map_some, Option.some.injEq] at h
   exact ⟨i, z0, rfl, hz, h⟩
def Env.withVar (E : Env) (o : Nat) (cs : Array Value) (t : TypeId) : Env :=
 {E with w := E.w.alloc (.cells cs t), β := fun q => if q = o then some ⟨E.w.heap.size, 0, 0⟩ else E.β q }
theorem heap_alloc (w : World) (o : Go.Obj) : (w.alloc o).heap[w.heap.size]? = some o := by
 show (w.heap.push o)[w.heap.size]? = _
 simp
theorem Inv.newVar {G : Ctx} {E : Env} {RR : Own → List Nat} {a : Act} (hi : Inv G E RR st a) {o : Nat} {ys : List X} {vs : List Value} {t : TypeId} (hF : G.fn.F.elem o = false) (hy : bz E ys vs []) (hf : X.b9 ys = true) (hm : X.cG o ys = false) :
  ∃ fg, Inv G (E.withVar o vs.toArray t) fg ((st.kill o).eb o (.cells ys)) a := by
 refine ⟨_, hi.lu (E' := E.withVar o vs.toArray t) (T := fun _ => False) (o := o) (R := [E.w.heap.size]) ?_ (fun _ h => h.elim) (fun q hq => by simp [Env.withVar, hq]) (fun h => by rw [hF] at h; cases h) ?_ (by simp) ?_⟩
 ·exact { cZ.alloc G E (.cells vs.toArray t) with φ := rfl }
 ·have gx : E.On (E.withVar o vs.toArray t) [] := ⟨fun _ _ _ h => h, fun _ h => by cases h⟩
  have Dk : bz (E.withVar o vs.toArray t) ys vs [] := bz.mono ys vs [] gx (fun q hq => by
   have : q ≠ o := fun e => by subst e; rw [hm] at hq; cases hq
   simp [Env.withVar, this]) hy
  simp only [dG]
  refine ⟨hf, ⟨E.w.heap.size, 0, 0⟩, vs.toArray, t, by simp [Env.withVar], heap_alloc _ _, fun i => ?_, by simp [bz.length hy], ?_, rfl⟩
  ·show E.φ E.w.heap.size i = none
   cases h : E.φ E.w.heap.size i with
   | none => rfl
   | some v => exact absurd (World.block_lt_of_cell? E.w _ (hi.kR _ _ _ h)) (by simp)
  ·exact RO.of Dk (fun j v hj => by simpa using hj)
 ·intro b hb
  simp only [List.mem_singleton] at hb
  subst hb
  refine ⟨by simp [Env.withVar], fun hK => ?_, hi.vr (.inr (Nat.le_refl _))⟩
  have := hi.small _ hK
  have := hi.size
  omega
theorem aO.alloc {t : TypeId} {z : List Value} (o : Nat) (hz : TY.zero P t = some z) (h1 : X.td (z.map X.v) = true) (hF : N.F.elem o = false) (hd : d < N.n)
  (k : aO P N all rest (((st.kill o).eb o (.cells (z.map X.v))).put d (.ptr o 0 0 0)) Q) : aO P N all (⟨some d, .alloc t, ty, pos, af, none⟩ :: rest) st Q := by
 refine aO.AZ (fun G E RR a hn hi => ?_) k
 have hm : ∀ z : List Value, X.cG o (z.map X.v) = false := by
  intro z
  induction z with
  | nil => rfl
  | cons c r ih => simp [X.cG, X.dN, ih]
 obtain ⟨fg, iv⟩ := hi.newVar (o := o) (t := t) (by rw [hn]; exact hF) (tE h1) (yq z) (hm z)
 refine ⟨.pointer (some ⟨E.w.heap.size, 0, none⟩), _, _, ?_, iv.g5 (x := .ptr o 0 0 0) (by rw [hn]; exact hd) ?_⟩
 ·obtain ⟨i, z0, oV, AH, AI⟩ := TY.jV hz
  show (do let x ← Instr.alloc t true (.tuple #[]); pure (Next.value x) : Sem Next).run P E.w = _
  refine dJ ?_
  have vv : z0.cells = z.toArray := by rw [← AI]
  simp [Instr.alloc, zeroValue, typeInfo, oV, AH, Go.newVar, newRow, Env.withVar, vv]
 ·simp only [RX]
  exact ⟨trivial, ⟨E.w.heap.size, 0, 0⟩, by simp [Env.withVar], by simp⟩
theorem aO.box {t : TypeId} {x : Operand} {y : X} {ys : List X} (o : Nat) (hx : bS st x = some y) (hy : y.flat = some ys) (hf : X.b9 ys = true) (hm : X.cG o ys = false) (hF : N.F.elem o = false) (hd : d < N.n)
  (k : aO P N all rest (((st.kill o).eb o (.cells ys)).put d (.ptr o 0 0 0)) Q) : aO P N all (⟨some d, .box t x, ty, pos, af, none⟩ :: rest) st Q := by
 refine aO.AZ (fun G E RR a hn hi => ?_) k
 obtain ⟨R, yU⟩ := hi.eval hx
 have ux := yU.flat hy
 have h0 := bz.free hf ux
 subst h0
 obtain ⟨fg, iv⟩ := hi.newVar (o := o) (t := t) (by rw [hn]; exact hF) ux hf hm
 refine ⟨.pointer (some ⟨E.w.heap.size, 0, none⟩), _, _, ?_, iv.g5 (x := .ptr o 0 0 0) (by rw [hn]; exact hd) ?_⟩
 ·show (do let z ← Instr.box t (a.eval x); pure (Next.value z) : Sem Next).run P E.w = _
  refine dJ ?_
  simp [Instr.box, Go.newVar, newRow, Env.withVar]
 ·simp only [RX]
  exact ⟨trivial, ⟨E.w.heap.size, 0, 0⟩, by simp [Env.withVar], by simp⟩
end
end Go.AW
namespace Go.AW
open Go
section
variable {E : Env}
theorem bz.app : ∀ {xs ys : List X} {cs ds : List Value} {R₁ R₂ : List Nat}, bz E xs cs R₁ → bz E ys ds R₂ → bz E (xs ++ ys) (cs ++ ds) (R₁ ++ R₂)
 | [], _, _, _, _, _, h, h' => by simp only [bz] at h; obtain ⟨rfl, rfl⟩ := h; simpa using h'
 | x :: r, ys, cs, ds, R₁, R₂, h, h' => by
  simp only [bz] at h
  obtain ⟨c, di, R₃, R₄, rfl, hs, h1, h2, rfl⟩ := h
  simp only [List.cons_append, bz]
  exact ⟨c, di ++ ds, R₃, R₄ ++ R₂, rfl, hs, h1, bz.app h2 h', by simp⟩
theorem bz.Jl {xs : List X} {cs : List Value} (k : Nat) (h : bz E xs cs []) : bz E (xs.take k) (cs.take k) [] := by
 induction xs generalizing cs k with
 | nil => simp only [bz] at h; simp [bz, h.1]
 | cons x r ih =>
  simp only [bz] at h
  obtain ⟨c, di, R₁, R₂, rfl, hs, h1, h2, hR⟩ := h
  have Gy := List.append_eq_nil_iff.1 hR.symm
  obtain ⟨rfl, rfl⟩ := Gy
  cases k with
  | zero => simp [bz]
  | succ k => simp only [List.take_succ_cons, bz]; exact ⟨c, _, [], [], rfl, hs, h1, ih k h2, rfl⟩
theorem bz.Jm {xs : List X} {cs : List Value} (k : Nat) (h : bz E xs cs []) : bz E (xs.drop k) (cs.drop k) [] := by
 induction xs generalizing cs k with
 | nil => simp only [bz] at h; simp [bz, h.1]
 | cons x r ih =>
  have h' := h
  simp only [bz] at h
  obtain ⟨c, di, R₁, R₂, rfl, hs, h1, h2, hR⟩ := h
  have Gy := List.append_eq_nil_iff.1 hR.symm
  obtain ⟨rfl, rfl⟩ := Gy
  cases k with
  | zero => exact h'
  | succ k => simp only [List.drop_succ_cons]; exact ih k h2
theorem bz.g5 {xs ys : List X} {cs vs : List Value} {k : Nat} (h : bz E xs cs []) (h' : bz E ys vs []) : bz E (jP xs k ys) (jP cs k vs) [] := by
 unfold jP
 rw [← bz.length h']
 have := bz.app (bz.app (bz.Jl k h) h') (bz.Jm (k + vs.length) h)
 simpa using this
end
def tF (place : Nat → Option (Nat × Nat)) (cells : List X) : List (Nat × X) → Option (List X)
 | [] => some cells
 | (i, x) :: rest =>
  match place i, x.flat with
  | some (off, size), some ys => bif Nat.beq ys.length size && Nat.ble (off + size) cells.length then tF place (jP cells off ys) rest else none
  | _, _ => none
def o5 (st : St) : List (Nat × Operand) → Option (List (Nat × X))
 | [] => some []
 | (i, x) :: r => match bS st x, o5 st r with
  | some y, some l => bif y.free then some ((i, y) :: l) else none
  | _, _ => none
theorem tG (off : Nat) : ∀ (l : List Value) (k : Nat) (cs : Array Value), ((l.zipIdx k).foldl (fun cs (p : Value × Nat) => cs.setIfInBounds (off + p.2) p.1) cs).size = cs.size ∧
  ∀ j, ((l.zipIdx k).foldl (fun cs (p : Value × Nat) => cs.setIfInBounds (off + p.2) p.1) cs)[j]? = if off + k ≤ j ∧ j < off + k + l.length ∧ j < cs.size then l[j - off - k]? else cs[j]?
 | [], k, cs => by
  refine ⟨rfl, fun j => ?_⟩
  rw [if_neg (by simp; omega)]
  rfl
 | v :: r, k, cs => by
  obtain ⟨h1, h2⟩ := tG off r (k + 1) (cs.setIfInBounds (off + k) v)
  simp only [List.zipIdx_cons, List.foldl_cons]
  refine ⟨by rw [h1]; simp, fun j => ?_⟩
  rw [h2 j]
  simp only [Array.size_setIfInBounds, List.length_cons]
  by_cases hj : off + (k + 1) ≤ j ∧ j < off + (k + 1) + r.length ∧ j < cs.size
  ·rw [if_pos hj, if_pos om, show j - off - k = (j - off - (k + 1)) + 1 by omega]
   simp
  ·rw [if_neg hj]
   by_cases tH : j = off + k
   ·subst tH
    by_cases iU : off + k < cs.size
    ·rw [if_pos om, show off + k - off - k = 0 by omega]
     simp [Array.getElem?_setIfInBounds_self_of_lt iU]
    ·rw [if_neg om]
     simp [iU]
   ·rw [if_neg om, Array.getElem?_setIfInBounds_ne om]
theorem wT (off : Nat) (v cs : Array Value) (h : off + v.size ≤ cs.size) : (v.zipIdx.foldl (fun cs (p : Value × Nat) => cs.setIfInBounds (off + p.2) p.1) cs).toList = jP cs.toList off v.toList := by
 have hf : v.zipIdx.foldl (fun cs (p : Value × Nat) => cs.setIfInBounds (off + p.2) p.1) cs = (v.toList.zipIdx 0).foldl (fun cs (p : Value × Nat) => cs.setIfInBounds (off + p.2) p.1) cs := by
  rw [← Array.foldl_toList, Array.toList_zipIdx]
 rw [hf]
 obtain ⟨h1, h2⟩ := tG off v.toList 0 cs
 apply List.ext_getElem?
 intro j
 rw [Array.getElem?_toList, h2 j]
 have Jn : v.toList.length = v.size := by simp
 simp only [Nat.add_zero, Nat.sub_zero, Jn, jP, List.append_assoc]
 have hl : (List.take off cs.toList).length = off := by simp; omega
 by_cases hj : j < off
 ·rw [if_neg om, List.getElem?_append_left om, List.getElem?_take_of_lt hj]; simp
 ·by_cases Gz : j < off + v.size
  ·rw [if_pos om, List.getElem?_append_right om, hl, List.getElem?_append_left om]
  ·rw [if_neg om, List.getElem?_append_right om, List.getElem?_append_right om, hl, List.getElem?_drop]
   have : off + v.size + (j - off - v.toList.length) = j := by omega
   rw [this]; simp
section
variable {P : Program} {N : eL} {G : Ctx} {E : Env} {RR : Own → List Nat} {st : St} {a : Act}
theorem pN (hi : Inv G E RR st a) (place : Nat → Option (Nat × Nat)) : ∀ (parts : List (Nat × Operand)) (xs : List X) (cs : Array Value) (AJ : List (Nat × X)) (ys : List X), bz E xs cs.toList [] → o5 st parts = some AJ →
  tF place xs AJ = some ys → ∃ di, Instr.fill place cs (parts.map fun p => (p.1, a.eval p.2)) = some di ∧ bz E ys di.toList []
 | [], xs, cs, AJ, ys, h, hp, hf => by
  simp only [o5, Option.some.injEq] at hp
  subst hp
  simp only [tF, Option.some.injEq] at hf
  subst hf
  exact ⟨cs, rfl, h⟩
 | (i, x) :: r, xs, cs, AJ, ys, h, hp, hf => by
  simp only [o5] at hp
  cases hx : bS st x with
  | none => simp [hx] at hp
  | some y =>
   cases hr : o5 st r with
   | none => simp [hx, hr] at hp
   | some l =>
    rw [hx, hr] at hp
    simp only at hp
    cases lx : y.free with
    | false => simp [lx] at hp
    | true =>
     rw [lx] at hp
     simp only [cond_true, Option.some.injEq] at hp
     subst hp
     simp only [tF] at hf
     cases Dl : place i with
     | none => simp [Dl] at hf
     | some os =>
      obtain ⟨off, size⟩ := os
      cases ux : y.flat with
      | none => simp [Dl, ux] at hf
      | some zs =>
       rw [Dl, ux] at hf
       simp only at hf
       cases hb : Nat.beq zs.length size && Nat.ble (off + size) xs.length with
       | false => simp [hb] at hf
       | true =>
        rw [hb] at hf
        simp only [cond_true] at hf
        simp only [Bool.and_eq_true] at hb
        have fu : zs.length = size := Nat.eq_of_beq_eq_true hb.1
        have hle : off + size ≤ xs.length := Nat.le_of_ble_eq_true hb.2
        obtain ⟨R, hv⟩ := hi.eval hx
        have h0 := RX.free lx hv
        subst h0
        have wC := hv.flat ux
        have DC : (a.eval x).cells.size = size := by have := bz.length wC; simp at this; omega
        have te : cs.size = xs.length := by have := bz.length h; simpa using this
        have wU := bz.g5 (k := off) h wC
        have Jo := wT off (a.eval x).cells cs om
        obtain ⟨di, uy, vq⟩ := pN hi place r (jP xs off zs) ((a.eval x).cells.zipIdx.foldl (fun cs (p : Value × Nat) => cs.setIfInBounds (off + p.2) p.1) cs) l ys (by rw [Jo]; exact wU) hr hf
        refine ⟨di, ?_, vq⟩
        simp only [List.map_cons, Instr.fill, Dl, DC]
        rw [if_neg (by simp; omega)]
        exact uy
def TY.lO (P : Program) (t : TypeId) : Option (List (Nat × Nat)) :=
 match P.underlying t with
 | some (.struct fs) => fs.toList.mapM fun f => (P.info? f.type).map fun i => (f.offset, i.size)
 | _ => none
theorem vw {fs : List Field} {pl : List (Nat × Nat)} (h : (fs.mapM fun f => (P.info? f.type).map fun i => (f.offset, i.size)) = some pl) (w : World) :
  (fs.mapM fun f => (do pure (f.offset, ← sizeOf f.type) : Sem (Nat × Nat))).run P w = .ok pl w := by
 induction fs generalizing pl with
 | nil => simp at h; subst h; rfl
 | cons f r ih =>
  rw [List.mapM_cons] at h
  cases hf : P.info? f.type with
  | none => simp [hf] at h
  | some i =>
   rw [hf] at h
   cases hr : (r.mapM fun f => (P.info? f.type).map fun i => (f.offset, i.size)) with
   | none => simp [hr] at h
   | some l =>
    rw [hr] at h
    simp at h
    subst h
    rw [List.mapM_cons]
    simp only [Sem.run_bind, run_sizeOf hf, Result.andThen_ok, Sem.run_pure, ih hr]
theorem Y.qh {dst : Option Nat} {ty : TypeId} {pos : String} {af : Array Edge} {g : Option (Nat × Bool)} {t : TypeId} {parts : Array (Nat × Operand)} {pl : List (Nat × Nat)} {z : List Value} {AJ : List (Nat × X)} {ys : List X}
  (hp : TY.lO P t = some pl) (hz : TY.zero P t = some z) (h1 : X.td (z.map X.v) = true) (hx : o5 st parts.toList = some AJ) (hf : tF (pl[·]?) (z.map X.v) AJ = some ys) :
  Yields P N st ⟨dst, .build t parts, ty, pos, af, g⟩ (.agg ys) := by
 intro G E RR a _ hi
 obtain ⟨i, z0, oV, AH, AI⟩ := TY.jV hz
 have vv : z0.cells = z.toArray := by rw [← AI]
 have fx : bz E (z.map X.v) z0.cells.toList [] := by rw [AI]; exact tE h1
 obtain ⟨di, uy, vq⟩ := pN hi (pl[·]?) parts.toList _ z0.cells AJ ys fx hx hf
 refine ⟨.agg di, ?_, by simp only [RX]; exact ⟨di, rfl, vq⟩⟩
 show (do let v ← Instr.build t (parts.map fun (i, x) => (i, a.eval x)); Pure.pure (Next.value v) : Sem Next).run P E.w = _
 refine dJ ?_
 unfold TY.lO at hp
 cases hu : P.underlying t with
 | none => simp [hu] at hp
 | some d =>
  cases d with
  | struct fs =>
   rw [hu] at hp
   simp only at hp
   have hm := vw hp E.w
   have Jp : (fs.mapM fun f => (do Pure.pure (f.offset, ← sizeOf f.type) : Sem (Nat × Nat))).run P E.w = .ok pl.toArray E.w := by
    rw [Array.mapM_eq_mapM_toList]
    simp only [Sem.run_map, hm]
    rfl
   have Dl : (fun (i : Nat) => pl.toArray[i]?) = fun i => pl[i]? := by funext i; simp
   have Mh : (parts.map fun (i, x) => (i, a.eval x)).toList = parts.toList.map fun p => (p.1, a.eval p.2) := by simp
   simp only [Instr.build, Sem.run_bind, zeroValue, typeInfo, run_program, oV, AH, Result.andThen_ok, Sem.run_pure, run_underlying hu, Jp, Dl, Mh, uy]
  | _ => simp [hu] at hp
end
end Go.AW
namespace Go.AW
open Go
section
variable {P : Program} {N : eL} {st : St} {Q : Exit → St → Prop} {all : Array Oper} {rest : List Oper} {d : Nat} {ty : TypeId} {pos : String} {af : Array Edge}
theorem cH.wV {E : Env} {s : Nat} {cs : Array Value} : ∀ {rs : List (List X)} {off : Nat}, cz s rs →
  (∀ i row, rs[i]? = some row → X.gA row = true ∧ RO E row cs (off + i * s) []) → cH E rs cs off []
 | [], _, _, _ => by simp [cH]
 | r :: rs, off, hu, h => by
  simp only [cH]
  have h0 := h 0 r rfl
  refine ⟨[], [], h0.1, by simpa using h0.2, ?_, rfl⟩
  rw [hu r (by simp)]
  refine cH.wV (fun q hq => hu q (by simp [hq])) fun i row hr => ?_
  have := h (i + 1) row (by simpa using hr)
  rw [show off + s + i * s = off + (i + 1) * s by rw [Nat.add_mul]; omega]
  exact this
theorem bz.GA {E : Env} {xs : List X} {vs : List Value} {cs : Array Value} {off : Nat} {R : List Nat} (h : bz E xs vs R) (hv : ∀ j, j < xs.length → cs[off + j]? = vs[j]?) : RO E xs cs off R :=
 RO.of h fun j v hj => by
  have qN : j < xs.length := by
   rw [← bz.length h]
   rcases Nat.lt_or_ge j vs.length with h' | h'
   ·exact h'
   ·simp [List.getElem?_eq_none h'] at hj
  rw [hv j qN]; exact hj
theorem Inv.newRow {G : Ctx} {E : Env} {RR : Own → List Nat} {a : Act} (hi : Inv G E RR st a) {cs : Array Value} {e : TypeId} {s cap : Nat} {rows : List (List X)} (hu : cz s rows) (hl : rows.length ≤ cap) (hc : cap * s ≤ cs.size)
  (hr : cH { E with w := E.w.alloc (.cells cs e) } rows cs 0 []) (hd : d < G.fn.n) :
  ∃ fg, Inv G { E with w := E.w.alloc (.cells cs e) } fg (st.put d (.ei s rows)) (a.put (some d) (.slice (some ⟨E.w.heap.size, 0, none⟩) rows.length cap)) := by
 have iv := hi.yn (cZ.alloc G E (.cells cs e)) rfl
 refine ⟨_, iv.put (R := [E.w.heap.size]) hd ?_ (by simp) ?_⟩
 ·simp only [RX]
  refine ⟨hu, _, _, rfl, .inr ⟨E.w.heap.size, 0, cs, e, [], rfl, heap_alloc _ _, hl, om, fun i => ?_, hr, rfl⟩⟩
  show E.φ E.w.heap.size i = none
  cases h : E.φ E.w.heap.size i with
  | none => rfl
  | some v => exact absurd (World.block_lt_of_cell? E.w _ (hi.kR _ _ _ h)) (by simp)
 ·intro b hb
  simp only [List.mem_singleton] at hb
  subst hb
  refine ⟨by simp, fun hK => ?_, fun p _ hb => ?_⟩
  ·have := hi.small _ hK
   have := hi.size
   omega
  ·exact absurd (hi.own p _ hb).1 (by simp)
theorem Ba {i k s : Nat} (hk : k < s) : (i * s + k) % s = k := by
 rw [Nat.mul_comm, Nat.mul_add_mod, Nat.mod_eq_of_lt hk]
theorem aO.makeSlice {t e s cY n : Nat} {l c : Operand} {k k' : IntKind} {z : List Value} (ht : TY.slice P t = some (e, s, cY)) (hz : TY.zero P e = some z) (qO : z.length = s) (h1 : X.td (z.map X.v) = true)
  (hl : bS st l = some (.v (.int k (n : Int)))) (hc : bS st c = some (.v (.int k' (n : Int)))) (hb : cY * n ≤ 281474976710656) (R3 : n ≤ 9223372036854775807) (hd : d < N.n)
  (kk : aO P N all rest (st.put d (.ei s (List.replicate n (z.map X.v)))) Q) : aO P N all (⟨some d, .makeSlice t l c, ty, pos, af, none⟩ :: rest) st Q := by
 refine aO.AZ (fun G E RR a hn hi => ?_) kk
 obtain ⟨hu, i, iQ, hs, Fi⟩ := TY.ez ht
 obtain ⟨i', z0, oV, AH, AI⟩ := TY.jV hz
 rw [iQ] at oV
 obtain rfl := Option.some.inj oV
 have vv : z0.cells = z.toArray := by rw [← AI]
 have gQ := run_make (P := P) E.w t e i z0 hu iQ AH k k' (n : Int) (n : Int) om om (by rw [Fi]; have := Int.ofNat_le.2 hb; rw [Int.natCast_mul] at this; exact this) om
 simp only [Int.toNat_natCast, hs, vv] at gQ
 have fu := size_madeCells z.toArray (n * s)
 have hU : cz s (List.replicate n (z.map X.v)) := by
  intro r hr
  rw [(List.mem_replicate.1 hr).2]; simpa using qO
 obtain ⟨fg, iv⟩ := hi.newRow (cs := madeCells z.toArray (n * s)) (e := e) (s := s) (cap := n) (d := d) hU (Nat.le_of_eq List.length_replicate) (by rw [fu]; exact Nat.le_refl _) (by
  refine cH.wV hU fun j row hr => ?_
  have hj : j < n := by
   rcases Nat.lt_or_ge j n with h' | h'
   ·exact h'
   ·rw [List.getElem?_eq_none (by rw [List.length_replicate]; exact h')] at hr; cases hr
  have : row = z.map X.v := by
   have := List.mem_of_getElem? hr
   exact (List.mem_replicate.1 this).2
  subst this
  refine ⟨AY z, bz.GA (tE h1) fun q hq => ?_⟩
  have yV : q < s := by simpa [qO] using hq
  have iU : j * s + q < n * s := by
   have : (j + 1) * s ≤ n * s := Nat.mul_le_mul_right s hj
   rw [Nat.add_mul] at this; omega
  have GB : q < z.length := by omega
  simp only [Nat.zero_add, madeCells]
  rw [Array.getElem?_map, Array.getElem?_range, if_pos iU]
  simp only [Option.map_some, List.size_toArray, qO, Ba yV]
  rw [List.getElem?_eq_getElem GB]
  simp [GB]) (by rw [hn]; exact hd)
 simp only [List.length_replicate] at iv
 refine ⟨_, _, _, ?_, iv⟩
 show (do let v ← Instr.makeSlice t (a.eval l) (a.eval c); Pure.pure (Next.value v) : Sem Next).run P E.w = _
 rw [hi.val hl, hi.val hc]
 exact dJ gQ
theorem aO.buildSlice {t e s cY len : Nat} {parts : Array (Nat × Operand)} {z : List Value} {AJ : List (Nat × X)} {flat : List X} (rows : List (List X)) (ht : TY.slice P t = some (e, s, cY)) (hz : TY.zero P e = some z) (qO : Nat.beq z.length s = true)
  (h1 : X.td (z.map X.v) = true) (hx : o5 st parts.toList = some AJ) (hf : tF (fun i => some (i * s, s)) ((List.replicate len (z.map X.v)).flatten) AJ = some flat) (hr : rows.flatten = flat) (hU : cz s rows) (hlen : rows.length = len)
  (tD : X.gA flat = true) (Qh : Nat.ble (len * s) 16777216 = true) (hd : d < N.n)
  (kk : aO P N all rest (st.put d (.ei s rows)) Q) : aO P N all (⟨some d, .buildSlice t len parts, ty, pos, af, none⟩ :: rest) st Q := by
 refine aO.AZ (fun G E RR a hn hi => ?_) kk
 obtain ⟨hu, i, iQ, hs, Fi⟩ := TY.ez ht
 obtain ⟨i', z0, oV, AH, AI⟩ := TY.jV hz
 rw [iQ] at oV
 obtain rfl := Option.some.inj oV
 have vv : z0.cells = z.toArray := by rw [← AI]
 have GC : z.length = s := Nat.eq_of_beq_eq_true qO
 let z1 : Array Value := (Array.range (len * s)).map fun i => z.toArray[i % z.toArray.size]!
 have ML : z1.toList = (List.replicate len z).flatten := by
  apply List.ext_getElem?
  intro j
  have MM : ((List.replicate len z).flatten).length = len * s := by simp [GC]
  by_cases hj : j < len * s
  ·have Mi : 0 < s := by
    rcases Nat.eq_zero_or_pos s with h' | h'
    ·subst h'; simp at hj
    ·exact h'
   have hq : j % s < s := Nat.mod_lt _ Mi
   have TX : j / s < len := by rw [Nat.div_lt_iff_lt_mul Mi]; exact hj
   have h2 : ((List.replicate len z).flatten)[j]? = z[j % s]? := by
    have : ∀ (n j : Nat), j < n * s → ((List.replicate n z).flatten)[j]? = z[j % s]? := by
     intro n
     induction n with
     | zero => intro j hj; simp at hj
     | succ n ih =>
      intro j hj
      rw [List.replicate_succ, List.flatten_cons]
      by_cases I1 : j < s
      ·rw [List.getElem?_append_left om, Nat.mod_eq_of_lt I1]
      ·rw [List.getElem?_append_right om, GC, ih (j - s) (by rw [Nat.add_mul] at hj; omega)]
       rw [Nat.mod_eq_sub_mod (by omega : j ≥ s)]
    exact this len j hj
   rw [h2]
   have GB : j % s < z.length := by omega
   have Qi : z[j % s]? = some z[j % s] := List.getElem?_eq_getElem GB
   simp [z1, hj, GC, Qi]
  ·have e1 : ((List.replicate len z).flatten)[j]? = none := List.getElem?_eq_none (by rw [MM]; omega)
   have e2 : z1.toList[j]? = none := List.getElem?_eq_none (by rw [Array.length_toList]; simp only [z1, Array.size_map, Array.size_range]; omega)
   rw [e1, e2]
 have R4 : bz E ((List.replicate len (z.map X.v)).flatten) z1.toList [] := by
  rw [ML]
  clear hf ML z1 hlen Qh
  induction len with
  | zero => simp [bz]
  | succ n ih => rw [List.replicate_succ, List.flatten_cons, List.replicate_succ, List.flatten_cons]; exact bz.app (tE h1) ih
 obtain ⟨di, uy, vq⟩ := pN hi (fun i => some (i * s, s)) parts.toList _ z1 AJ flat R4 hx hf
 have ux : flat.length = len * s := by rw [← hr, length_flatten hU, hlen]
 have R5 : di.size = len * s := by have := bz.length vq; simp at this; omega
 obtain ⟨fg, iv⟩ := hi.newRow (cs := di) (e := e) (s := s) (cap := len) (d := d) hU om om (by
  have Jq : bz { E with w := E.w.alloc (.cells di e) } flat di.toList [] := bz.mono (E := E) _ _ _ ⟨fun _ _ _ h => h, fun _ h => by cases h⟩ (fun _ _ => rfl) vq
  have tf : RO { E with w := E.w.alloc (.cells di e) } flat di 0 [] := RO.of Jq fun j v hj => by simpa using hj
  rw [← hr] at tf tD
  clear hr uy vq Jq ux hf hlen
  have key : ∀ (rs : List (List X)) (off : Nat), X.gA rs.flatten = true → RO { E with w := E.w.alloc (.cells di e) } rs.flatten di off [] → cH { E with w := E.w.alloc (.cells di e) } rs di off [] := by
   intro rs
   induction rs with
   | nil => intro off _ _; simp [cH]
   | cons r rs ih =>
    intro off hn h
    rw [List.flatten_cons] at h hn
    obtain ⟨R₁, R₂, h1, h2, hR⟩ := RO.oW h
    have Gy := List.append_eq_nil_iff.1 hR.symm
    obtain ⟨rfl, rfl⟩ := Gy
    have R6 : ∀ (xs ys : List X), X.gA (xs ++ ys) = true → X.gA xs = true ∧ X.gA ys = true := by
     intro xs
     induction xs with
     | nil => intro ys h; exact ⟨rfl, h⟩
     | cons x r ih => intro ys h; simp only [List.cons_append, X.gA, Bool.and_eq_true] at h ⊢; exact ⟨⟨h.1, (ih ys h.2).1⟩, (ih ys h.2).2⟩
    obtain ⟨GD, MN⟩ := R6 _ _ hn
    simp only [cH]
    exact ⟨[], [], GD, h1, ih _ MN h2, rfl⟩
  exact key rows 0 tD tf) (by rw [hn]; exact hd)
 rw [hlen] at iv
 refine ⟨_, _, _, ?_, iv⟩
 show (do let v ← Instr.buildSlice t len (parts.map fun (i, x) => (i, a.eval x)); Pure.pure (Next.value v) : Sem Next).run P E.w = _
 refine dJ ?_
 have Mh : (parts.map fun (i, x) => (i, a.eval x)).toList = parts.toList.map fun p => (p.1, a.eval p.2) := by simp
 have MO : ¬ (len * s > 2 ^ 24) := by have := Nat.le_of_ble_eq_true Qh; simp; omega
 by_cases h0 : len * s = 0
 ·have MP : z1 = (Array.range (len * s)).map (fun i => (#[] : Array Value)[i % (#[] : Array Value).size]!) := by simp [z1, h0]
  have vx : ¬ ((0 : Nat) > 2 ^ 24) := by decide
  rw [MP, h0] at uy
  simp only [Instr.buildSlice, Sem.run_bind, run_underlying hu, Result.andThen_ok, run_sizeOf iQ, hs, h0, vx, if_false, if_true, Sem.run_pure, Mh, uy, Go.newRow, run_newObj_alloc]
 ·simp only [z1] at uy
  simp only [Instr.buildSlice, Sem.run_bind, run_underlying hu, Result.andThen_ok, run_sizeOf iQ, hs, MO, if_false, h0, zeroValue, typeInfo, run_program, iQ, AH, Sem.run_pure, vv, Mh, uy, Go.newRow, run_newObj_alloc]
end
end Go.AW
namespace Go.AW
open Go
def TY.size (P : Program) (t : TypeId) : Option Nat := (P.info? t).map (·.size)
section
variable {P : Program} {N : eL} {st : St} {Q : Exit → St → Prop} {all : Array Oper} {rest : List Oper} {d : Nat} {ty : TypeId} {pos : String} {af : Array Edge}
theorem mY {t : TypeId} {m b off : Nat} {v : Value} {cs : Array Value} {tb : TypeId} {w : World} (ht : TY.size P t = some m) (hm : v.cells.size = m) (hw : w.heap[b]? = some (.cells cs tb (0, 0))) (ru : off + m ≤ cs.size)
  (h1 : ∀ u ∈ v.cells.toList, u.oneCell' = true) : (Instr.storeAt t (.pointer (some ⟨b, off, none⟩)) v).run P w = .ok () (w.setRow b (kf cs off v.cells.toList)) := by
 unfold TY.size at ht
 cases hi : P.info? t with
 | none => simp [hi] at ht
 | some i =>
  rw [hi] at ht
  simp only [Option.map_some, Option.some.injEq] at ht
  have vy := run_storeCells_at P b off tb v.cells.toList 0 cs w hw (by simp; omega) h1
  simp only [Nat.add_zero] at vy
  simp only [Instr.storeAt, Instr.sureAddr, storeVar, Sem.run_bind, Sem.run_pure, Result.andThen_ok, run_sizeOf hi, ht, hm, ne_eq, not_true_eq_false, if_false]
  exact vy
theorem Inv.tg {G : Ctx} {E : Env} {RR : Own → List Nat} {a : Act} (hi : Inv G E RR st a) {p : Own} {b : Nat} (h : b ∈ RR p) : ¬ G.K b := (hi.own p b h).2
theorem aO.ak {t : TypeId} {x y : Operand} {o s k m : Nat} {v : X} {ys xs : List X} (ht : TY.size P t = some m) (hx : bS st x = some (.ptr o s 0 k)) (hy : bS st y = some v) (ux : v.flat = some ys) (hf : X.b9 ys = true) (hm : ys.length = m)
  (ho : look st.aG o = some (.cells xs)) (hk : k + m ≤ xs.length) (DD : X.b9 (jP xs k ys) = true) (kk : aO P N all rest (st.eb o (.cells (jP xs k ys))) Q) :
  aO P N all (⟨none, .store t x y, ty, pos, af, none⟩ :: rest) st Q := by
 refine aO.Gx (fun G E RR a hn hi => ?_) kk
 obtain ⟨R, hv⟩ := hi.eval hy
 have wC := hv.flat ux
 have h0 := bz.free hf wC
 subst h0
 obtain ⟨R', hp⟩ := hi.eval hx
 simp only [RX] at hp
 obtain ⟨_, B, hB, hc⟩ := hp
 simp only [Nat.zero_mul, Nat.zero_add] at hc
 have dm := hi.aG o _ ho
 simp only [dG] at dm
 obtain ⟨rC, B', cs, tb, iz, hw, hφ, hlen, jB, ir⟩ := dm
 rw [hB] at iz
 obtain rfl := Option.some.inj iz
 have AK := bz.length wC
 have fu : (a.eval y).cells.size = m := by simp at AK; omega
 have gQ := mY (P := P) (off := B.off + k) ht fu hw om (bz.nM wC)
 have mZ : B.b ∈ RR (.obj o) := by rw [ir]; simp
 have Dm := cZ.setRow G E B.b (kf cs (B.off + k) (a.eval y).cells.toList) hφ (hi.tg mZ)
 have gx : E.On { E with w := E.w.setRow B.b (kf cs (B.off + k) (a.eval y).cells.toList) } [] := ⟨fun _ _ _ h => h, fun _ h => by cases h⟩
 have Bb := bz.mono _ _ _ gx (fun _ _ => rfl) wC
 have Bc := RO.mono _ _ _ _ gx (fun _ _ => rfl) jB
 obtain ⟨R₁, wU, dz, _⟩ := RO.put (k := k) Bc om Bb om
 have R7 : R₁ = [] := by
  cases R₁ with
  | nil => rfl
  | cons b r => rcases dz b (by simp) with h | h <;> cases h
 subst R7
 refine ⟨_, _, ?_, hi.AX (E' := { E with w := E.w.setRow B.b (kf cs (B.off + k) (a.eval y).cells.toList) }) Dm (o := o) (R := [B.b]) (fun b h => by subst h; exact mZ) rfl ?_ (by simp) ?_⟩
 ·show (do Instr.storeAt t (a.eval x) (a.eval y); Pure.pure Next.skip : Sem Next).run P E.w = _
  rw [hc]
  exact AT gQ
 ·simp only [dG]
  have GF : (jP xs k ys).length = xs.length := kU om
  exact ⟨DD, B, _, tb, hB, setRow_heap E.w B.b cs _ tb _ hw, hφ, by rw [GF, nL (by simp at AK ⊢; omega)]; exact hlen, wU, rfl⟩
 ·intro b hb
  simp only [List.mem_singleton] at hb
  subst hb
  exact ⟨by simpa using (hi.own _ _ mZ).1, hi.tg mZ, hi.vr (.inl mZ)⟩
theorem aO.GG {t : TypeId} {x y : Operand} {o s i k m : Nat} {v : X} {ys row : List X} {rs : List (List X)} (ht : TY.size P t = some m) (hx : bS st x = some (.ptr o s i k)) (hy : bS st y = some v) (ux : v.flat = some ys) (hf : X.b9 ys = true)
  (hn : X.gA ys = true) (hm : ys.length = m) (ho : look st.aG o = some (.rows s rs)) (hr : rs[i]? = some row) (hk : k + m ≤ row.length) (kk : aO P N all rest (st.eb o (.rows s (rs.set i (jP row k ys)))) Q) :
  aO P N all (⟨none, .store t x y, ty, pos, af, none⟩ :: rest) st Q := by
 refine aO.Gx (fun G E RR a R8 hi => ?_) kk
 obtain ⟨R, hv⟩ := hi.eval hy
 have wC := hv.flat ux
 have h0 := bz.free hf wC
 subst h0
 obtain ⟨R', hp⟩ := hi.eval hx
 simp only [RX] at hp
 obtain ⟨_, B, hB, hc⟩ := hp
 have dm := hi.aG o _ ho
 have iV := hi.nodup (.obj o)
 simp only [dG] at dm
 obtain ⟨hu, dm⟩ := dm
 rcases dm with ⟨_, h, _⟩ | ⟨B', cs, tb, R', iz, hw, hφ, o3, hlen, jB, ir⟩
 ·subst h; simp at hr
 rw [hB] at iz
 obtain rfl := Option.some.inj iz
 have AK := bz.length wC
 have fu : (a.eval y).cells.size = m := by simp at AK; omega
 have Fj : rs.length * s ≤ B.cap * s := Nat.mul_le_mul_right s o3
 have yW : i < rs.length := by
  rcases Nat.lt_or_ge i rs.length with h' | h'
  ·exact h'
  ·simp [List.getElem?_eq_none h'] at hr
 have pM : row.length = s := hu row (List.mem_of_getElem? hr)
 have Mg : i * s + s ≤ rs.length * s := by
  have : (i + 1) * s ≤ rs.length * s := Nat.mul_le_mul_right s yW
  rw [Nat.add_mul] at this; omega
 have gQ := mY (P := P) (off := B.off + (i * s + k)) ht fu hw om (bz.nM wC)
 have mZ : B.b ∈ RR (.obj o) := by rw [ir]; simp
 have Dm := cZ.setRow G E B.b (kf cs (B.off + (i * s + k)) (a.eval y).cells.toList) hφ (hi.tg mZ)
 rw [ir] at iV
 have mX := List.nodup_cons.1 iV
 have gx : E.On { E with w := E.w.setRow B.b (kf cs (B.off + (i * s + k)) (a.eval y).cells.toList) } R' :=
  ⟨fun _ _ _ h => h, fun b hb => ⟨setRow_other E.w B.b b _ (fun e => mX.1 (by rw [← e]; exact hb)), fun h => h⟩⟩
 have Bb := bz.mono _ _ _ (gx.sub (fun _ h => by cases h)) (fun _ _ => rfl) wC
 have Bc := cH.mono _ _ _ _ gx jB
 obtain ⟨R₁, wU, dz, pO⟩ := cH.set (i := i) (k := k) hu Bc hr om Bb hn om
 have Fk : ∀ b ∈ R₁, b ∈ R' := fun b hb => (dz b hb).resolve_right (fun h => by cases h)
 refine ⟨_, _, ?_, hi.AX (E' := { E with w := E.w.setRow B.b (kf cs (B.off + (i * s + k)) (a.eval y).cells.toList) }) Dm (o := o) (R := B.b :: R₁) (fun b h => by subst h; exact mZ) rfl ?_ ?_ ?_⟩
 ·show (do Instr.storeAt t (a.eval x) (a.eval y); Pure.pure Next.skip : Sem Next).run P E.w = _
  rw [hc]
  exact AT gQ
 ·simp only [dG]
  refine ⟨hu.set (by rw [kU om]; exact pM), .inr ⟨B, _, tb, R₁, hB, setRow_heap E.w B.b cs _ tb _ hw, hφ, by simpa using o3, by rw [nL (by simp at AK ⊢; omega)]; exact hlen, wU, rfl⟩⟩
 ·exact List.nodup_cons.2 ⟨fun h => mX.1 (Fk _ h), pO (by simpa using mX.2)⟩
 ·intro b hb
  have gq : b ∈ RR (.obj o) := by
   rw [ir]
   rcases List.mem_cons.1 hb with h | h
   ·simp [h]
   ·exact List.mem_cons.2 (.inr (Fk b h))
  exact ⟨by simpa using (hi.own _ _ gq).1, hi.tg gq, hi.vr (.inl gq)⟩
theorem aO.GH {t : TypeId} {x : Operand} {o s i k I2 tv : Nat} {rows row : List (List X)} {DE : List X} {rs : List (List X)} (ht : TY.size P t = some 1) (hx : bS st x = some (.ptr o s i k)) (hy : look st.aD tv = some (.ei I2 rows)) (_h : row = row)
  (ho : look st.aG o = some (.rows s rs)) (hr : rs[i]? = some DE) (hk : k + 1 ≤ DE.length) (kk : aO P N all rest ((st.put tv .no).eb o (.rows s (rs.set i (jP DE k [.ei I2 rows])))) Q) :
  aO P N all (⟨none, .store t x (.tmp tv), ty, pos, af, none⟩ :: rest) st Q := by
 refine aO.Gx (fun G E RR a R8 hi => ?_) kk
 have hv := hi.aD tv _ hy
 have wC : bz E [X.ei I2 rows] (a.eval (.tmp tv)).cells.toList (RR (.slot tv)) := hv.flat rfl
 obtain ⟨R', hp⟩ := hi.eval hx
 simp only [RX] at hp
 obtain ⟨_, B, hB, hc⟩ := hp
 have dm := hi.aG o _ ho
 have iV := hi.nodup (.obj o)
 simp only [dG] at dm
 obtain ⟨hu, dm⟩ := dm
 rcases dm with ⟨_, h, _⟩ | ⟨B', cs, tb, R', iz, hw, hφ, o3, hlen, jB, ir⟩
 ·subst h; simp at hr
 rw [hB] at iz
 obtain rfl := Option.some.inj iz
 have AK := bz.length wC
 have fu : (a.eval (.tmp tv)).cells.size = 1 := by simpa using AK
 have Fj : rs.length * s ≤ B.cap * s := Nat.mul_le_mul_right s o3
 have yW : i < rs.length := by
  rcases Nat.lt_or_ge i rs.length with h' | h'
  ·exact h'
  ·simp [List.getElem?_eq_none h'] at hr
 have pM : DE.length = s := hu DE (List.mem_of_getElem? hr)
 have Mg : i * s + s ≤ rs.length * s := by
  have : (i + 1) * s ≤ rs.length * s := Nat.mul_le_mul_right s yW
  rw [Nat.add_mul] at this; omega
 have gQ := mY (P := P) (off := B.off + (i * s + k)) ht fu hw om (bz.nM wC)
 have mZ : B.b ∈ RR (.obj o) := by rw [ir]; simp
 have Dm := cZ.setRow G E B.b (kf cs (B.off + (i * s + k)) (a.eval (.tmp tv)).cells.toList) hφ (hi.tg mZ)
 rw [ir] at iV
 have mX := List.nodup_cons.1 iV
 have Be : ∀ b ∈ RR (.slot tv), b ∉ RR (.obj o) := fun b hb gq => hi.apart _ _ (by simp) b hb gq
 have gx : ∀ Bf, (∀ b ∈ Bf, b ≠ B.b) → E.On { E with w := E.w.setRow B.b (kf cs (B.off + (i * s + k)) (a.eval (.tmp tv)).cells.toList) } Bf :=
  fun Bf h => ⟨fun _ _ _ h => h, fun b hb => ⟨setRow_other E.w B.b b _ (h b hb), fun h => h⟩⟩
 have Bb := bz.mono _ _ _ (gx (RR (.slot tv)) (fun b hb e => Be b hb (by rw [e]; exact mZ))) (fun _ _ => rfl) wC
 have Bc := cH.mono _ _ _ _ (gx R' (fun b hb e => mX.1 (by rw [← e]; exact hb))) jB
 obtain ⟨R₁, wU, dz, pO⟩ := cH.set (i := i) (k := k) hu Bc hr (by simpa using hk) Bb rfl om
 have lL := hi.no tv
 have Jr : (R' ++ RR (.slot tv)).Nodup := by
  rw [List.nodup_append]
  refine ⟨mX.2, hi.nodup _, fun x hx y hy e => Be y hy ?_⟩
  rw [← e, ir]; exact List.mem_cons.2 (.inr hx)
 have yX : fH RR (.slot tv) [] (.obj o) = RR (.obj o) := by simp [fH]
 refine ⟨_, _, ?_, lL.AX (E' := { E with w := E.w.setRow B.b (kf cs (B.off + (i * s + k)) (a.eval (.tmp tv)).cells.toList) }) Dm (o := o) (R := B.b :: R₁) (fun b h => by subst h; rw [yX]; exact mZ) rfl ?_ ?_ ?_⟩
 ·show (do Instr.storeAt t (a.eval x) (a.eval (.tmp tv)); Pure.pure Next.skip : Sem Next).run P E.w = _
  rw [hc]
  exact AT gQ
 ·simp only [dG]
  refine ⟨hu.set (by rw [kU (by simpa using hk)]; exact pM), .inr ⟨B, _, tb, R₁, hB, setRow_heap E.w B.b cs _ tb _ hw, hφ, by simpa using o3, by rw [nL (by simp at AK ⊢; omega)]; exact hlen, wU, rfl⟩⟩
 ·refine List.nodup_cons.2 ⟨fun h => ?_, pO Jr⟩
  rcases dz _ h with h' | h'
  ·exact mX.1 h'
  ·exact Be _ h' mZ
 ·intro b hb
  have dA : b ∈ RR (.obj o) ∨ b ∈ RR (.slot tv) := by
   rw [ir]
   rcases List.mem_cons.1 hb with h | h
   ·exact .inl (by simp [h])
   ·rcases dz b h with h' | h'
    ·exact .inl (List.mem_cons.2 (.inr h'))
    ·exact .inr h'
  have Fl : b < E.w.heap.size ∧ ¬ G.K b := by rcases dA with h | h <;> exact hi.own _ _ h
  refine ⟨by simpa using Fl.1, Fl.2, fun p hp yY => ?_⟩
  have GI : p ≠ .slot tv ∧ b ∈ RR p := by
   unfold fH at yY
   split at yY
   ·cases yY
   ·rename_i h; exact ⟨h, yY⟩
  rcases dA with h | h
  ·exact hi.apart _ _ hp b GI.2 h
  ·exact hi.apart _ _ GI.1 b GI.2 h
theorem Sh.Js {s : Nat} {rows : List (List X)} (o : Nat) (hx : look st.aD d = some (.ei s rows)) (hF : N.F.elem o = false) : Sh N st (((st.kill o).eb o (.rows s rows)).put d (.ba o s 0 rows.length)) := by
 intro G hn a w hh
 obtain ⟨E, RR, rfl, hi⟩ := hh
 have hv := hi.aD d _ hx
 have iV := hi.nodup (.slot d)
 simp only [RX] at hv
 obtain ⟨hu, base, cap, hc, dA⟩ := hv
 have lL := hi.no d
 have Fm : ∀ (E' : Env) (fg : Own → List Nat), Inv G E' fg (((st.put d .no).kill o).eb o (.rows s rows)) a → (∃ R, R = [] ∧ RX E' (.ba o s 0 rows.length) (a.tmps.getD d undef) R) →
   cy G (((st.kill o).eb o (.rows s rows)).put d (.ba o s 0 rows.length)) a E'.w := by
  intro E' fg h3 ⟨R, hR, iw⟩
  subst hR
  have h4 := h3.relabel (d := d) iw List.nodup_nil (fun _ h => by cases h)
  refine ⟨E', fH fg (.slot d) [], rfl, ?_⟩
  refine { h4 with aD := fun q y hy => h4.aD q y ?_, aG := fun q y hy => h4.aG q y hy }
  simp only [St.put, St.eb, St.kill, rM, List.map_cons, look] at hy ⊢
  cases hb : Nat.beq d q with
  | true => rw [hb] at hy; simpa using hy
  | false => rw [hb] at hy; simpa using hy
 have hβ : ∀ (bk : Option AF), cZ G E { E with β := fun q => if q = o then bk else E.β q } (fun _ => False) := fun _ =>
  ⟨rfl, fun _ h => h.elim, fun _ h => h.elim, fun _ _ _ => rfl, Nat.le_refl _, rfl, rfl, rfl⟩
 rcases dA with ⟨h1, h2, h3⟩ | ⟨b, off, cs, ty, R', hb, hw, hl, ho, hφ, jB, ir⟩
 ·have h4 := lL.lu (hβ none) (o := o) (ob := .rows s rows) (R := []) (fun _ h => h.elim) (fun q hq => by simp [hq]) (fun h => by rw [hn, hF] at h; cases h)
   (by simp only [dG]; exact ⟨hu, .inl ⟨by simp, h1, trivial⟩⟩) List.nodup_nil (fun _ h => by cases h)
  refine Fm { E with β := fun q => if q = o then none else E.β q } _ h4 ⟨[], rfl, ?_⟩
  simp only [RX]
  exact ⟨trivial, base, cap, hc, .inl ⟨by simp, trivial, by simp [h1], h2⟩⟩
 ·rw [ir] at iV
  have mX := List.nodup_cons.1 iV
  have gx : E.On { E with β := fun q => if q = o then some ⟨b, off, cap⟩ else E.β q } R' := ⟨fun _ _ _ h => h, fun _ _ => ⟨rfl, fun h => h⟩⟩
  have h4 := lL.lu (hβ (some ⟨b, off, cap⟩)) (o := o) (ob := .rows s rows) (R := b :: R') (fun _ h => h.elim) (fun q hq => by simp [hq]) (fun h => by rw [hn, hF] at h; cases h)
   (by simp only [dG]; exact ⟨hu, .inr ⟨⟨b, off, cap⟩, cs, ty, R', by simp, hw, hφ, hl, ho, cH.mono _ _ _ _ gx jB, rfl⟩⟩) iV
   (fun c oz => by
    have hm : c ∈ RR (.slot d) := by rw [ir]; exact oz
    refine ⟨(hi.own _ _ hm).1, (hi.own _ _ hm).2, fun p hp mS => ?_⟩
    unfold fH at mS
    split at mS
    ·cases mS
    ·rename_i h; exact hi.apart _ _ h c mS hm)
  refine Fm { E with β := fun q => if q = o then some ⟨b, off, cap⟩ else E.β q } _ h4 ⟨[], rfl, ?_⟩
  simp only [RX]
  exact ⟨trivial, base, cap, hc, .inr ⟨⟨b, off, cap⟩, by simp, by simp, hl, .inr (by simpa using hb)⟩⟩
theorem Sh.kX {s o n : Nat} {rows : List (List X)} (hx : look st.aD d = some (.ba o s 0 n)) (ho : look st.aG o = some (.rows s rows)) (hl : n = rows.length) (hF : N.F.elem o = false) :
  Sh N st (((st.kill o).eb o (.rows 0 [])).put d (.ei s rows)) := by
 intro G hn a w hh
 obtain ⟨E, RR, rfl, hi⟩ := hh
 subst hl
 have hv := hi.aD d _ hx
 have dm := hi.aG o _ ho
 have iV := hi.nodup (.obj o)
 simp only [RX] at hv
 obtain ⟨_, base, cap, hc, dA⟩ := hv
 simp only [dG] at dm
 obtain ⟨hu, dm⟩ := dm
 have hβ : cZ G E { E with β := fun q => if q = o then none else E.β q } (fun _ => False) :=
  ⟨rfl, fun _ h => h.elim, fun _ h => h.elim, fun _ _ _ => rfl, Nat.le_refl _, rfl, rfl, rfl⟩
 have h4 := hi.lu hβ (o := o) (ob := .rows 0 []) (R := []) (fun _ h => h.elim) (fun q hq => by simp [hq]) (fun h => by rw [hn, hF] at h; cases h)
  (by simp only [dG]; exact ⟨fun _ h => (by cases h), .inl ⟨by simp, trivial, trivial⟩⟩) List.nodup_nil (fun _ h => by cases h)
 have Jt : ∀ c ∈ RR (.obj o), c < E.w.heap.size ∧ ¬ G.K c ∧ ∀ p, p ≠ .slot d → c ∉ eZ st RR o [] p := by
  intro c oz
  refine ⟨(hi.own _ _ oz).1, (hi.own _ _ oz).2, fun p _ mS => ?_⟩
  cases p with
  | obj q =>
   by_cases hq : q = o
   ·subst hq; simp [eZ] at mS
   ·have : c ∈ RR (.obj q) := by simpa [eZ, hq] using mS
    exact hi.apart (.obj q) (.obj o) (by simpa using hq) c this oz
  | slot q =>
   rcases gP st RR o [] q with h | h
   ·rw [h] at mS; cases mS
   ·rw [h] at mS; exact hi.apart (.slot q) (.obj o) (by simp) c mS oz
 have Ju : ∃ R, RX { E with β := fun q => if q = o then none else E.β q } (.ei s rows) (a.tmps.getD d undef) R ∧ R.Nodup ∧ ∀ b ∈ R, b ∈ RR (.obj o) := by
  simp only [RX]
  rcases dm with ⟨h1, h2, h3⟩ | ⟨B, cs, ty, R', hB, hw, hφ, o3, fu, jB, ir⟩
  ·rcases dA with ⟨_, _, _, h5⟩ | ⟨B, hB, _⟩
   ·exact ⟨[], ⟨hu, base, cap, hc, .inl ⟨h2, h5, rfl⟩⟩, List.nodup_nil, fun _ h => by cases h⟩
   ·rw [h1] at hB; cases hB
  ·rcases dA with ⟨h1, _⟩ | ⟨B', iz, Dj, pI, hb⟩
   ·rw [hB] at h1; cases h1
   ·rw [hB] at iz
    obtain rfl := Option.some.inj iz
    have gx : E.On { E with β := fun q => if q = o then none else E.β q } R' := ⟨fun _ _ _ h => h, fun _ _ => ⟨rfl, fun h => h⟩⟩
    rcases hb with hb | hb
    ·refine ⟨[], ⟨hu, base, cap, hc, .inl ⟨List.eq_nil_of_length_eq_zero om, hb, rfl⟩⟩, List.nodup_nil, fun _ h => by cases h⟩
    ·refine ⟨RR (.obj o), ⟨hu, base, cap, hc, .inr ⟨B.b, B.off, cs, ty, R', by simpa using hb, hw, om, by rw [show cap = B.cap by omega]; exact fu, hφ, cH.mono _ _ _ _ gx jB, ir⟩⟩, iV, fun _ h => h⟩
 obtain ⟨R, pP, vz, DF⟩ := Ju
 exact ⟨{ E with β := fun q => if q = o then none else E.β q }, _, rfl, h4.relabel pP vz (fun c hc => Jt c (DF c hc))⟩
end
end Go.AW
namespace Go.AW
open Go
structure Src (E : Env) (s : Nat) (new : List (List X)) (c : Value) (R : List Nat) : Prop where
 ex : ∃ base cap, ∃ vs : List Value, c = .slice (some base) new.length cap ∧ vs.length = new.length * s ∧ (∀ j v, vs[j]? = some v → E.w.cell? (base.add j) = some v) ∧ (∀ v ∈ vs, v.oneCell' = true) ∧
  ∀ (E' : Env) (cs : Array Value) (off : Nat), E.On E' R → (∀ j, j < vs.length → cs[off + j]? = vs[j]?) → cH E' new cs off R
 ei : cz s new
theorem cH.v3 {E : Env} : ∀ {rs : List (List X)} {cs : Array Value} {off : Nat} {R : List Nat}, cH E rs cs off R → ∃ vs : List Value, vs.length = rs.flatten.length ∧ (∀ j v, vs[j]? = some v → cs[off + j]? = some v) ∧ (∀ v ∈ vs, v.oneCell' = true)
 | [], _, _, _, _ => ⟨[], rfl, by simp, by simp⟩
 | r :: rs, cs, off, R, h => by
  simp only [cH] at h
  obtain ⟨R₁, R₂, _, h1, h2, _⟩ := h
  obtain ⟨vs, hl, hv, hx⟩ := RO.cells h1
  obtain ⟨MQ, Dn, Jv, lp⟩ := cH.v3 h2
  refine ⟨vs ++ MQ, by simp [hl, Dn], ?_, ?_⟩
  ·intro j v hj
   by_cases qN : j < vs.length
   ·rw [List.getElem?_append_left qN] at hj; exact hv j v hj
   ·rw [List.getElem?_append_right om] at hj
    have := Jv _ v hj
    rw [show off + j = off + r.length + (j - vs.length) by omega]; exact this
  ·intro v Mj
   rcases List.mem_append.1 Mj with h' | h'
   ·exact bz.nM hx v h'
   ·exact lp v h'
theorem ke.v3 {E : Env} : ∀ {rs : List (List X)} {b off : Nat}, ke E rs b off → ∃ vs : List Value, vs.length = rs.flatten.length ∧ (∀ j v, vs[j]? = some v → E.φ b (off + j) = some v) ∧ (∀ v ∈ vs, v.oneCell' = true) ∧
   ∀ (E' : Env) (cs : Array Value) (o : Nat), E.On E' [] → (∀ j, j < vs.length → cs[o + j]? = vs[j]?) → cH E' rs cs o []
 | [], _, _, _ => ⟨[], rfl, by simp, by simp, fun _ _ _ _ _ => by simp [cH]⟩
 | r :: rs, b, off, h => by
  simp only [ke] at h
  obtain ⟨vs, hl, hv, hx⟩ := RF.cells h.1
  obtain ⟨MQ, Dn, Jv, lp, R9⟩ := ke.v3 h.2
  have tD : ∀ (row : List X) (b off : Nat), RF E row b off → X.gA row = true := by
   intro row
   induction row with
   | nil => intro _ _ _; rfl
   | cons x t ih =>
    intro b off h
    simp only [RF] at h
    obtain ⟨⟨_, _, _, hn, _⟩, h2⟩ := h
    simp only [X.gA, hn, ih b _ h2, Bool.and_self]
  refine ⟨vs ++ MQ, by simp [hl, Dn], ?_, ?_, ?_⟩
  ·intro j v hj
   by_cases qN : j < vs.length
   ·rw [List.getElem?_append_left qN] at hj; exact hv j v hj
   ·rw [List.getElem?_append_right om] at hj
    have := Jv _ v hj
    rw [show off + j = off + r.length + (j - vs.length) by omega]; exact this
  ·intro v Mj
   rcases List.mem_append.1 Mj with h' | h'
   ·exact bz.nM hx v h'
   ·exact lp v h'
  ·intro E' cs o hE te
   simp only [cH]
   refine ⟨[], [], tD r b off h.1, ?_, ?_, rfl⟩
   ·refine bz.GA (bz.mono _ _ _ hE (fun q hq => by rw [X.fB (tD r b off h.1)] at hq; cases hq) hx) fun j hj => ?_
    rw [te j (by simp; omega), List.getElem?_append_left om]
   ·refine R9 E' cs _ hE fun j hj => ?_
    have := te (vs.length + j) (by simp; omega)
    rw [List.getElem?_append_right om] at this
    rw [← hl, Nat.add_assoc, this]
    congr 1
    omega
section
variable {P : Program} {N : eL} {G : Ctx} {E : Env} {RR : Own → List Nat} {st : St} {a : Act}
theorem Src.Jw {s : Nat} {new : List (List X)} {c : Value} {R : List Nat} (h : RX E (.ei s new) c R) (ew : 0 < new.length) : ∃ R', Src E s new c R' ∧ (∀ b ∈ R', b ∈ R) ∧ (R.Nodup → R'.Nodup) := by
 simp only [RX] at h
 obtain ⟨hu, base, cap, hc, h⟩ := h
 rcases h with ⟨h1, _⟩ | ⟨b, off, cs, ty, R', hb, hw, hl, ho, hφ, jB, hR⟩
 ·subst h1; simp at ew
 obtain ⟨vs, Jn, hv, wW⟩ := cH.v3 jB
 refine ⟨R', ⟨⟨⟨b, off, none⟩, cap, vs, by rw [hc, hb], by rw [Jn, length_flatten hu], fun j v hj => by rw [iy, dq hw]; exact hv j v hj, wW, ?_⟩, hu⟩, fun c hc => by rw [hR]; simp [hc], fun h => by rw [hR] at h; exact (List.nodup_cons.1 h).2⟩
 intro E' di ry hE te
 have h1 := cH.mono _ _ _ _ hE jB
 -- move the cells from off to ry
 have key : ∀ (rs : List (List X)) (o1 o2 : Nat) (R : List Nat), (∀ j, j < rs.flatten.length → di[o2 + j]? = cs[o1 + j]?) → cH E' rs cs o1 R → cH E' rs di o2 R := by
  have GJ : ∀ (xs : List X) (o1 o2 : Nat) (R : List Nat), (∀ j, j < xs.length → di[o2 + j]? = cs[o1 + j]?) → RO E' xs cs o1 R → RO E' xs di o2 R := by
   intro xs
   induction xs with
   | nil => intro _ _ _ _ h; simpa [RO] using h
   | cons x r ih =>
    intro o1 o2 R he h
    simp only [RO] at h ⊢
    obtain ⟨u, R₁, R₂, hu, hs, h1, h2, hR⟩ := h
    refine ⟨u, R₁, R₂, ?_, hs, h1, ih _ _ _ (fun j hj => ?_) h2, hR⟩
    ·have := he 0 (by simp)
     simp only [Nat.add_zero] at this
     rw [this]; exact hu
    ·have := he (j + 1) (by simp; omega)
     rw [show o2 + 1 + j = o2 + (j + 1) by omega, show o1 + 1 + j = o1 + (j + 1) by omega]; exact this
  intro rs
  induction rs with
  | nil => intro _ _ _ _ h; simpa [cH] using h
  | cons x r ih =>
   intro o1 o2 R he h
   simp only [cH] at h ⊢
   obtain ⟨R₁, R₂, hn, h1, h2, hR⟩ := h
   refine ⟨R₁, R₂, hn, GJ _ _ _ _ (fun j hj => he j (by simp; omega)) h1, ih _ _ _ (fun j hj => ?_) h2, hR⟩
   have := he (x.length + j) (by simp at hj ⊢; omega)
   rw [Nat.add_assoc, Nat.add_assoc]; exact this
 refine key new off ry R' (fun j hj => ?_) h1
 rw [te j om]
 have qN : j < vs.length := by omega
 rw [List.getElem?_eq_getElem qN]
 exact (hv j _ (List.getElem?_eq_getElem qN)).symm
theorem Src.MR (hi : Inv G E RR st a) {s : Nat} {new : List (List X)} {c : Value} {R : List Nat} (h : RX E (.fz s new) c R) (ew : 0 < new.length) : Src E s new c [] := by
 simp only [RX] at h
 obtain ⟨_, hu, base, cap, hc, h⟩ := h
 rcases h with ⟨h1, _⟩ | ⟨b, off, hb, hl, hf⟩
 ·subst h1; simp at ew
 obtain ⟨vs, Jn, hv, wW, hr⟩ := ke.v3 hf
 exact ⟨⟨⟨b, off, none⟩, cap, vs, by rw [hc, hb], by rw [Jn, length_flatten hu], fun j v hj => by rw [iy]; exact hi.kR _ _ _ (hv j v hj), wW, hr⟩, hu⟩
theorem rO {t e s cY n cap m ty : Nat} {base : Option Addr} {b2 : Addr} {c2 : Nat} {jC news z : List Value} (ht : TY.slice P t = some (e, s, cY)) (hz : TY.zero P e = some z) (qO : z.length = s) (hm : 0 < m)
  (wX : jC.length = n * s) (hold : ∀ j v, jC[j]? = some v → ∃ b off, base = some ⟨b, off, none⟩ ∧ E.w.cell? ⟨b, off + j, none⟩ = some v) (wD : base = none → n = 0 ∧ cap = 0)
  (I3 : news.length = m * s) (mV : ∀ j v, news[j]? = some v → E.w.cell? (b2.add j) = some v) (wW : ∀ v ∈ news, v.oneCell' = true) (pQ : (n + m) * cY ≤ 140737488355328) (AL : n + m ≤ 4611686018427387904)
  (yr : n + m ≤ cap → ∃ b off cs tb, base = some ⟨b, off, none⟩ ∧ E.w.heap[b]? = some (.cells cs tb (0, 0)) ∧ off + cap * s ≤ cs.size) :
  (∃ b off cs tb, base = some ⟨b, off, none⟩ ∧ E.w.heap[b]? = some (.cells cs tb (0, 0)) ∧ n + m ≤ cap ∧ off + cap * s ≤ cs.size ∧
   (Builtin.append_ #[t, t] ty #[.slice base n cap, .slice (some b2) m c2]).run P E.w = .ok (.slice base (n + m) cap) (E.w.setRow b (kf cs (off + n * s) news))) ∨
  (∃ rP rest, n + m ≤ rP ∧ rest.size = (rP - (n + m)) * s ∧
   (Builtin.append_ #[t, t] ty #[.slice base n cap, .slice (some b2) m c2]).run P E.w = .ok (.slice (some ⟨E.w.heap.size, 0, none⟩) (n + m) rP) (E.w.drew.alloc (.cells ((jC ++ news).toArray ++ rest) e))) := by
 obtain ⟨hu, i, iQ, hs, Fi⟩ := TY.ez ht
 obtain ⟨i', z0, oV, AH, AI⟩ := TY.jV hz
 rw [iQ] at oV
 obtain rfl := Option.some.inj oV
 have MS : z0.cells.size = s := by
  have : z0.cells.toList.length = z.length := by rw [AI]
  simpa [qO] using this
 by_cases hr : n + m ≤ cap
 ·obtain ⟨b, off, cs, tb, hb, hw, fu⟩ := yr hr
  refine .inl ⟨b, off, cs, tb, hb, hw, hr, fu, ?_⟩
  have Jx : (n + m) * s ≤ cap * s := Nat.mul_le_mul_right s hr
  rw [Nat.add_mul] at Jx
  have hf := run_firstCells_some (P := P) E.w i.size m b2 m c2 news (by rw [hs]; exact I3) mV
  have vy := run_storeCells_at P b (off + n * s) tb news 0 cs E.w hw om wW
  simp only [Nat.add_zero] at vy
  subst hb
  rw [hs] at hf
  simp [Builtin.append_, run_underlying hu, sizeOf, typeInfo, iQ, Builtin.lenOf, hr, hf, iy, hs, vy, kf]
 ·refine .inr ?_
  have ru : Builtin.nextslicecap (n + m) cap * i.bytes ≤ 281474976710656 := growslice_fits om (by rw [Fi]; omega)
  have Mk : ∀ k, (Builtin.zeroCells z0.cells k).size = k * s := fun k => by rw [size_zeroCells, MS]
  cases tI : base with
  | none =>
   obtain ⟨rfl, rfl⟩ := wD tI
   have holds : jC = [] := List.eq_nil_of_length_eq_zero (by simpa using wX)
   subst holds
   refine ⟨grownCap E.w m 0 e, _, by have := grownCap_ge E.w m 0 e; omega, Mk _, ?_⟩
   have := run_append_nil (P := P) E.w t ty e i z0 hu iQ AH b2 m c2 news (by rw [hs]; exact I3) mV hm om (by
    have : m * cY ≤ 140737488355328 := by simpa using pQ
    rw [Fi]; omega)
   simpa using this
  | some bb =>
   have Jy : ∀ j v, jC[j]? = some v → E.w.cell? (bb.add j) = some v := by
    intro j v hj
    obtain ⟨b, off, hb, hc⟩ := hold j v hj
    rw [tI] at hb
    obtain rfl := Option.some.inj hb
    rw [iy]; exact hc
   refine ⟨grownCap E.w (n + m) cap e, _, grownCap_ge E.w (n + m) cap e, Mk _, ?_⟩
   have := run_append_grow (P := P) E.w t ty e i z0 hu iQ AH bb n cap jC (by rw [hs]; exact wX) Jy b2 m c2 news (by rw [hs]; exact I3) mV om om ru
   rw [this]
   simp
theorem cH.wY {E : Env} {rs : List (List X)} {cs : Array Value} {off s lo n : Nat} {R : List Nat} (hu : cz s rs) (h : cH E rs cs off R) (hl : lo + n ≤ rs.length) :
  ∃ R', cH E ((rs.drop lo).take n) cs (off + lo * s) R' ∧ (∀ b ∈ R', b ∈ R) ∧ (R.Nodup → R'.Nodup) := by
 have h0 : rs = rs.take lo ++ ((rs.drop lo).take n ++ rs.drop (lo + n)) := by
  conv => lhs; rw [← List.take_append_drop lo rs, ← List.take_append_drop n (rs.drop lo), List.drop_drop]
 rw [h0] at h
 obtain ⟨R₁, R₂, h1, h2, rfl⟩ := cH.oW h
 obtain ⟨R₃, R₄, h3, h4, rfl⟩ := cH.oW h2
 rw [length_flatten (hu.take lo), List.length_take, Nat.min_eq_left om] at h3
 refine ⟨R₃, h3, fun b hb => by simp [hb], fun hn => ?_⟩
 have := (List.nodup_append.1 hn).2.1
 exact (List.nodup_append.1 this).1
theorem Inv.append (hi : Inv G E RR st a) {t e s cY ty : Nat} {z : List Value} {o lo n : Nat} {rs new : List (List X)} {c c2 : Value} {R2 : List Nat} (ht : TY.slice P t = some (e, s, cY)) (hz : TY.zero P e = some z) (qO : z.length = s)
  (hx : RX E (.ba o s lo n) c []) (ho : look st.aG o = some (.rows s rs)) (qP : lo + n ≤ rs.length) (Bg : Src E s new c2 R2) (hm : 0 < new.length) (vz : R2.Nodup) (lP : ∀ b ∈ R2, b < E.w.heap.size ∧ ¬ G.K b ∧ ∀ p, b ∉ RR p)
  (pQ : (n + new.length) * cY ≤ 140737488355328) (AL : n + new.length ≤ 4611686018427387904) (hF : G.fn.F.elem o = false) :
  ∃ u E' fg, (Builtin.append_ #[t, t] ty #[c, c2]).run P E.w = .ok u E'.w ∧ Inv G E' fg ((st.kill o).eb o (.rows s (((rs.drop lo).take n) ++ new))) a ∧ RX E' (.ba o s 0 (n + new.length)) u [] := by
 have dm := hi.aG o _ ho
 have iV := hi.nodup (.obj o)
 simp only [RX] at hx
 obtain ⟨_, base, cap, rfl, dA⟩ := hx
 simp only [dG] at dm
 obtain ⟨hu, dm⟩ := dm
 obtain ⟨⟨b2, RC, news, rfl, I3, mV, wW, Jz⟩, AG⟩ := Bg
 have yt : ((rs.drop lo).take n).length = n := by simp; omega
 have hU : cz s (((rs.drop lo).take n) ++ new) := by
  intro r hr
  rcases List.mem_append.1 hr with h | h
  ·exact (hu.drop lo).take n r h
  ·exact AG r h
 have J0 : ∀ b ∈ R2, b ∉ RR (.obj o) := fun b hb => (lP b hb).2.2 _
 -- the GK cells, as values, and what lies in them
 have hold : ∃ (jC : List Value) (R1 : List Nat), jC.length = n * s ∧ (∀ j v, jC[j]? = some v → ∃ b off, base = some ⟨b, off, none⟩ ∧ E.w.cell? ⟨b, off + j, none⟩ = some v) ∧ (∀ b ∈ R1, b ∈ RR (.obj o)) ∧ R1.Nodup ∧
   (base = none → n = 0 ∧ cap = 0) ∧
   (∀ (E' : Env) (di : Array Value) (ry : Nat), E.On E' R1 → (∀ j, j < jC.length → di[ry + j]? = jC[j]?) → cH E' ((rs.drop lo).take n) di ry R1) ∧
   (n + new.length ≤ cap → ∃ B cs tb, E.β o = some B ∧ base = some ⟨B.b, B.off + lo * s, none⟩ ∧ E.w.heap[B.b]? = some (.cells cs tb (0, 0)) ∧ B.off + lo * s + cap * s ≤ cs.size ∧ (∀ i, E.φ B.b i = none) ∧ B.b ∈ RR (.obj o) ∧ B.b ∉ R1) := by
  by_cases na : cap = 0
  ·have wD : n = 0 := by rcases dA with ⟨_, _, h, _⟩ | ⟨_, _, _, h, _⟩ <;> omega
   subst wD
   refine ⟨[], [], by simp, by simp, by simp, List.nodup_nil, fun _ => ⟨rfl, na⟩, fun _ _ _ _ _ => by simp [cH], fun h => by omega⟩
  ·rcases dA with ⟨_, _, _, h⟩ | ⟨B, hB, Jj, pI, hb⟩
   ·exact absurd h na
   have gq := hb.resolve_left na
   rcases dm with ⟨h1, _⟩ | ⟨B', cs, tb, R', iz, hw, hφ, mS, fu, jB, ir⟩
   ·rw [hB] at h1; cases h1
   rw [hB] at iz
   obtain rfl := Option.some.inj iz
   rw [ir] at iV
   obtain ⟨v5, mX⟩ := List.nodup_cons.1 iV
   obtain ⟨R1, yZ, dz, GL⟩ := cH.wY hu jB qP
   obtain ⟨jC, wX, J1, _⟩ := cH.v3 yZ
   rw [length_flatten ((hu.drop lo).take n), yt] at wX
   refine ⟨jC, R1, wX, fun j v hj => ⟨B.b, B.off + lo * s, gq, by rw [dq hw]; exact J1 j v hj⟩, fun b hb => by rw [ir]; simp [dz b hb], GL mX, (fun h => by rw [gq] at h; cases h), ?_, ?_⟩
   ·intro E' di ry hE te
    have h1 := cH.mono _ _ _ _ hE yZ
    have key : ∀ (rs : List (List X)) (o1 o2 : Nat) (R : List Nat), (∀ j, j < rs.flatten.length → di[o2 + j]? = cs[o1 + j]?) → cH E' rs cs o1 R → cH E' rs di o2 R := by
     have GJ : ∀ (xs : List X) (o1 o2 : Nat) (R : List Nat), (∀ j, j < xs.length → di[o2 + j]? = cs[o1 + j]?) → RO E' xs cs o1 R → RO E' xs di o2 R := by
      intro xs
      induction xs with
      | nil => intro _ _ _ _ h; simpa [RO] using h
      | cons x r ih =>
       intro o1 o2 R he h
       simp only [RO] at h ⊢
       obtain ⟨u, R₁, R₂, hu, hs, h1, h2, hR⟩ := h
       refine ⟨u, R₁, R₂, ?_, hs, h1, ih _ _ _ (fun j hj => ?_) h2, hR⟩
       ·have := he 0 (by simp)
        simp only [Nat.add_zero] at this
        rw [this]; exact hu
       ·have := he (j + 1) (by simp; omega)
        rw [show o2 + 1 + j = o2 + (j + 1) by omega, show o1 + 1 + j = o1 + (j + 1) by omega]; exact this
     intro rs
     induction rs with
     | nil => intro _ _ _ _ h; simpa [cH] using h
     | cons x r ih =>
      intro o1 o2 R he h
      simp only [cH] at h ⊢
      obtain ⟨R₁, R₂, hn, h1, h2, hR⟩ := h
      refine ⟨R₁, R₂, hn, GJ _ _ _ _ (fun j hj => he j (by simp; omega)) h1, ih _ _ _ (fun j hj => ?_) h2, hR⟩
      have := he (x.length + j) (by simp at hj ⊢; omega)
      rw [Nat.add_assoc, Nat.add_assoc]; exact this
    refine key _ (B.off + lo * s) ry R1 (fun j hj => ?_) h1
    have qN : j < jC.length := by
     rw [length_flatten ((hu.drop lo).take n), yt] at hj
     omega
    rw [te j qN, List.getElem?_eq_getElem qN]
    exact (J1 j _ (List.getElem?_eq_getElem qN)).symm
   ·intro _
    refine ⟨B, cs, tb, hB, gq, hw, ?_, hφ, by rw [ir]; simp, fun h => v5 (dz _ h)⟩
    have : B.cap = lo + cap := Jj.symm
    rw [this, Nat.add_mul] at fu
    omega
 obtain ⟨jC, R1, wX, J1, pP, MT, wD, Fo, yr⟩ := hold
 have pO : (R1 ++ R2).Nodup := by
  rw [List.nodup_append]
  exact ⟨MT, vz, fun x hx y hy e => J0 y hy (by rw [← e]; exact pP x hx)⟩
 rcases rO (P := P) (E := E) (ty := ty) ht hz qO hm wX J1 wD I3 mV wW pQ AL (fun h => by
   obtain ⟨B, cs, tb, _, h2, h3, h4, _⟩ := yr h
   exact ⟨B.b, B.off + lo * s, cs, tb, h2, h3, h4⟩) with ⟨b, off, cs, tb, tI, hw, ru, fu, gQ⟩ | ⟨rP, rest, Qj, J2, gQ⟩
 ·-- in place
  obtain ⟨B, Qk, TZ, hB, wZ, qQ, J3, hφ, mZ, J4⟩ := yr ru
  rw [tI] at wZ
  simp only [Option.some.injEq, Addr.mk.injEq, and_true] at wZ
  obtain ⟨rfl, rfl⟩ := wZ
  rw [hw] at qQ
  simp only [Option.some.injEq, Go.Obj.cells.injEq] at qQ
  obtain ⟨rfl, rfl, _⟩ := qQ
  have Jx : (n + new.length) * s ≤ cap * s := Nat.mul_le_mul_right s ru
  rw [Nat.add_mul] at Jx
  have MU : B.off + lo * s + n * s + news.length ≤ cs.size := by omega
  let E' : Env := { E with w := E.w.setRow B.b (kf cs (B.off + lo * s + n * s) news), β := fun q => if q = o then some ⟨B.b, B.off + lo * s, cap⟩ else E.β q }
  have J5 : B.b ∉ R2 := fun h => J0 _ h mZ
  have gx : ∀ Bf, (∀ b ∈ Bf, b ≠ B.b) → E.On E' Bf := fun Bf h => ⟨fun _ _ _ h => h, fun b hb => ⟨setRow_other E.w B.b b _ (h b hb), fun h => h⟩⟩
  have Dm : cZ G E E' (fun c => c = B.b) := { cZ.setRow G E B.b (kf cs (B.off + lo * s + n * s) news) hφ (hi.tg mZ) with φ := rfl }
  have Bh : cH E' (((rs.drop lo).take n) ++ new) (kf cs (B.off + lo * s + n * s) news) (B.off + lo * s) (R1 ++ R2) := by
   refine cH.app (Fo E' _ _ (gx R1 (fun b hb e => J4 (by rw [← e]; exact hb))) fun j hj => ?_) ?_
   ·rw [mW MU (.inl om)]
    have := J1 j _ (List.getElem?_eq_getElem hj)
    obtain ⟨b, off, hb, hc⟩ := this
    rw [tI] at hb
    simp only [Option.some.injEq, Addr.mk.injEq, and_true] at hb
    obtain ⟨rfl, rfl⟩ := hb
    rw [dq hw] at hc
    rw [hc, List.getElem?_eq_getElem hj]
   ·rw [length_flatten ((hu.drop lo).take n), yt]
    exact Jz E' _ _ (gx R2 (fun b hb e => J5 (by rw [← e]; exact hb))) fun j hj => yp MU hj
  refine ⟨_, E', _, gQ, hi.lu Dm (o := o) (R := B.b :: (R1 ++ R2)) (fun b h => by subst h; exact mZ) (fun q hq => by simp [E', hq]) (fun h => by rw [hF] at h; cases h) ?_ ?_ ?_, ?_⟩
  ·simp only [dG]
   refine ⟨hU, .inr ⟨⟨B.b, B.off + lo * s, cap⟩, _, tb, R1 ++ R2, by simp [E'], setRow_heap E.w B.b cs _ tb _ hw, hφ, by simp [yt]; omega, by rw [nL MU]; exact fu, Bh, rfl⟩⟩
  ·refine List.nodup_cons.2 ⟨fun h => ?_, pO⟩
   rcases List.mem_append.1 h with h | h
   ·exact J4 h
   ·exact J5 h
  ·intro b hb
   have hs : E'.w.heap.size = E.w.heap.size := by simp [E']
   rw [hs]
   rcases List.mem_cons.1 hb with h | h
   ·subst h; exact ⟨(hi.own _ _ mZ).1, hi.tg mZ, hi.vr (.inl mZ)⟩
   ·rcases List.mem_append.1 h with h | h
    ·exact ⟨(hi.own _ _ (pP b h)).1, hi.tg (pP b h), hi.vr (.inl (pP b h))⟩
    ·exact ⟨(lP b h).1, (lP b h).2.1, fun p _ => (lP b h).2.2 p⟩
  ·simp only [RX]
   exact ⟨trivial, _, cap, rfl, .inr ⟨⟨B.b, B.off + lo * s, cap⟩, by simp [E'], by simp, om, .inr (by simpa using tI)⟩⟩
 ·-- in a new block
  let E' : Env := { E with w := E.w.drew.alloc (.cells ((jC ++ news).toArray ++ rest) e), β := fun q => if q = o then some ⟨E.w.heap.size, 0, rP⟩ else E.β q }
  have Dm : cZ G E E' (fun _ => False) := by
   have h1 := (cZ.drew G E).trans (cZ.alloc G { E with w := E.w.drew } (.cells ((jC ++ news).toArray ++ rest) e)) (fun _ h => h.elim)
   exact { h1 with φ := rfl }
  have gx : ∀ Bf, (∀ b ∈ Bf, b < E.w.heap.size) → E.On E' Bf := fun Bf h => ⟨fun _ _ _ h => h, fun b hb => ⟨Dm.same b (h b hb) (fun h => h), fun h => h⟩⟩
  have qR : ∀ j, j < (jC ++ news).length → ((jC ++ news).toArray ++ rest)[0 + j]? = (jC ++ news)[j]? := by
   intro j hj
   rw [Nat.zero_add, Array.getElem?_append_left (by simpa using hj)]
   simp
  have fu : ((jC ++ news).toArray ++ rest).size = rP * s := by
   simp [J2, wX, I3]
   have : rP * s = (n + new.length) * s + (rP - (n + new.length)) * s := by rw [← Nat.add_mul]; congr 1; omega
   rw [this, Nat.add_mul]
  have Bh : cH E' (((rs.drop lo).take n) ++ new) ((jC ++ news).toArray ++ rest) 0 (R1 ++ R2) := by
   refine cH.app (Fo E' _ _ (gx R1 (fun b hb => (hi.own _ _ (pP b hb)).1)) fun j hj => ?_) ?_
   ·rw [qR j (by simp; omega), List.getElem?_append_left hj]
   ·rw [length_flatten ((hu.drop lo).take n), yt]
    refine Jz E' _ _ (gx R2 (fun b hb => (lP b hb).1)) fun j hj => ?_
    have := qR (jC.length + j) (by simp; omega)
    rw [List.getElem?_append_right om] at this
    rw [show 0 + n * s + j = 0 + (jC.length + j) by omega, this]
    congr 1; omega
  have J6 : E.w.heap.size ∉ R1 ++ R2 := by
   intro h
   rcases List.mem_append.1 h with h | h
   ·have := (hi.own _ _ (pP _ h)).1; omega
   ·have := (lP _ h).1; omega
  have MF : E'.w.heap.size = E.w.heap.size + 1 := by simp [E']
  refine ⟨_, E', _, gQ, hi.lu Dm (o := o) (R := E.w.heap.size :: (R1 ++ R2)) (fun _ h => h.elim) (fun q hq => by simp [E', hq]) (fun h => by rw [hF] at h; cases h) ?_ ?_ ?_, ?_⟩
  ·simp only [dG]
   refine ⟨hU, .inr ⟨⟨E.w.heap.size, 0, rP⟩, _, e, R1 ++ R2, by simp [E'], ?_, fun i => ?_, by simp [yt]; omega, by rw [fu]; simp, Bh, rfl⟩⟩
   ·have := heap_alloc E.w.drew (.cells ((jC ++ news).toArray ++ rest) e)
    exact this
   ·show E.φ E.w.heap.size i = none
    cases h : E.φ E.w.heap.size i with
    | none => rfl
    | some v => exact absurd (World.block_lt_of_cell? E.w _ (hi.kR _ _ _ h)) (by simp)
  ·exact List.nodup_cons.2 ⟨J6, pO⟩
  ·intro b hb
   rw [MF]
   rcases List.mem_cons.1 hb with h | h
   ·subst h
    refine ⟨om, fun hK => ?_, hi.vr (.inr (Nat.le_refl _))⟩
    have := hi.small _ hK
    have := hi.size
    omega
   ·rcases List.mem_append.1 h with h | h
    ·exact ⟨by have := (hi.own _ _ (pP b h)).1; omega, hi.tg (pP b h), hi.vr (.inl (pP b h))⟩
    ·exact ⟨by have := (lP b h).1; omega, (lP b h).2.1, fun p _ => (lP b h).2.2 p⟩
  ·simp only [RX]
   exact ⟨trivial, _, rP, rfl, .inr ⟨⟨E.w.heap.size, 0, rP⟩, by simp [E'], by simp, om, .inr (by simp)⟩⟩
end
end Go.AW
namespace Go.AW
open Go
section
variable {P : Program} {N : eL} {G : Ctx} {E : Env} {RR : Own → List Nat} {st : St} {a : Act}
theorem Inv.trim (hi : Inv G E RR st a) {o s lo n : Nat} {rs : List (List X)} {c : Value} (hx : RX E (.ba o s lo n) c []) (ho : look st.aG o = some (.rows s rs)) (qP : lo + n ≤ rs.length) (hF : G.fn.F.elem o = false) :
  ∃ E' fg, E'.w = E.w ∧ Inv G E' fg ((st.kill o).eb o (.rows s ((rs.drop lo).take n))) a ∧ RX E' (.ba o s 0 n) c [] := by
 have dm := hi.aG o _ ho
 have iV := hi.nodup (.obj o)
 simp only [RX] at hx
 obtain ⟨_, base, cap, rfl, dA⟩ := hx
 simp only [dG] at dm
 obtain ⟨hu, dm⟩ := dm
 have hβ : ∀ (bk : Option AF), cZ G E { E with β := fun q => if q = o then bk else E.β q } (fun _ => False) := fun _ =>
  ⟨rfl, fun _ h => h.elim, fun _ h => h.elim, fun _ _ _ => rfl, Nat.le_refl _, rfl, rfl, rfl⟩
 have yt : ((rs.drop lo).take n).length = n := by simp; omega
 by_cases na : cap = 0
 ·have wD : n = 0 := by rcases dA with ⟨_, _, h, _⟩ | ⟨_, _, _, h, _⟩ <;> omega
  subst wD
  refine ⟨{ E with β := fun q => if q = o then none else E.β q }, _, rfl, hi.lu (hβ none) (o := o) (R := []) (fun _ h => h.elim) (fun q hq => by simp [hq]) (fun h => by rw [hF] at h; cases h) ?_ List.nodup_nil (fun _ h => by cases h), ?_⟩
  ·simp only [dG]; exact ⟨fun _ h => (by simp at h), .inl ⟨by simp, by simp, trivial⟩⟩
  ·simp only [RX]; exact ⟨trivial, base, cap, rfl, .inl ⟨by simp, trivial, trivial, na⟩⟩
 ·rcases dA with ⟨_, _, _, h⟩ | ⟨B, hB, Jj, pI, hb⟩
  ·exact absurd h na
  have gq := hb.resolve_left na
  rcases dm with ⟨h1, _⟩ | ⟨B', cs, tb, R', iz, hw, hφ, mS, fu, jB, ir⟩
  ·rw [hB] at h1; cases h1
  rw [hB] at iz
  obtain rfl := Option.some.inj iz
  rw [ir] at iV
  obtain ⟨v5, mX⟩ := List.nodup_cons.1 iV
  obtain ⟨R1, yZ, dz, GL⟩ := cH.wY hu jB qP
  have gx : E.On { E with β := fun q => if q = o then some ⟨B.b, B.off + lo * s, cap⟩ else E.β q } R1 := ⟨fun _ _ _ h => h, fun _ _ => ⟨rfl, fun h => h⟩⟩
  refine ⟨{ E with β := fun q => if q = o then some ⟨B.b, B.off + lo * s, cap⟩ else E.β q }, _, rfl, hi.lu (hβ (some ⟨B.b, B.off + lo * s, cap⟩)) (o := o) (R := B.b :: R1) (fun _ h => h.elim) (fun q hq => by simp [hq]) (fun h => by rw [hF] at h; cases h) ?_ (List.nodup_cons.2 ⟨fun h => v5 (dz _ h), GL mX⟩) ?_, ?_⟩
  ·simp only [dG]
   refine ⟨(hu.drop lo).take n, .inr ⟨⟨B.b, B.off + lo * s, cap⟩, cs, tb, R1, by simp, hw, hφ, by simp [yt]; omega, ?_, cH.mono _ _ _ _ gx yZ, rfl⟩⟩
   have : B.cap = lo + cap := Jj.symm
   rw [this, Nat.add_mul] at fu
   simp only; omega
  ·intro b rz
   have hm : b ∈ RR (.obj o) := by
    rw [ir]
    rcases List.mem_cons.1 rz with h | h
    ·simp [h]
    ·simp [dz b h]
   exact ⟨(hi.own _ _ hm).1, hi.tg hm, hi.vr (.inl hm)⟩
  ·simp only [RX]
   exact ⟨trivial, base, cap, rfl, .inr ⟨⟨B.b, B.off + lo * s, cap⟩, by simp, by simp, pI, .inr (by simpa using gq)⟩⟩
theorem Sh.trim {d o s lo n : Nat} {rs : List (List X)} (hx : look st.aD d = some (.ba o s lo n)) (ho : look st.aG o = some (.rows s rs)) (qP : lo + n ≤ rs.length) (hF : N.F.elem o = false) :
  Sh N st (((st.kill o).eb o (.rows s ((rs.drop lo).take n))).put d (.ba o s 0 n)) := by
 intro G hn a w hh
 obtain ⟨E, RR, rfl, hi⟩ := hh
 have hv := hi.aD d _ hx
 have h0 : RR (.slot d) = [] := RX.free (x := .ba o s lo n) rfl hv
 rw [h0] at hv
 obtain ⟨E', fg, hw, h1, h2⟩ := hi.trim hv ho qP (by rw [hn]; exact hF)
 exact ⟨E', _, hw, h1.relabel h2 List.nodup_nil (fun _ h => by cases h)⟩
theorem Inv.nil (hi : Inv G E RR st a) (o s : Nat) (hF : G.fn.F.elem o = false) : ∃ E' fg, E'.w = E.w ∧ Inv G E' fg ((st.kill o).eb o (.rows s [])) a ∧ RX E' (.ba o s 0 0) (.slice none 0 0) [] := by
 have hβ : cZ G E { E with β := fun q => if q = o then none else E.β q } (fun _ => False) :=
  ⟨rfl, fun _ h => h.elim, fun _ h => h.elim, fun _ _ _ => rfl, Nat.le_refl _, rfl, rfl, rfl⟩
 refine ⟨{ E with β := fun q => if q = o then none else E.β q }, _, rfl, hi.lu hβ (o := o) (R := []) (fun _ h => h.elim) (fun q hq => by simp [hq]) (fun h => by rw [hF] at h; cases h) ?_ List.nodup_nil (fun _ h => by cases h), ?_⟩
 ·simp only [dG]; exact ⟨fun _ h => (by cases h), .inl ⟨by simp, trivial, trivial⟩⟩
 ·simp only [RX]; exact ⟨trivial, none, 0, rfl, .inl ⟨by simp, by trivial, by trivial, by trivial⟩⟩
theorem Sh.nil {d : Nat} (o s : Nat) (hx : look st.aD d = some (.v (.slice none 0 0))) (hF : N.F.elem o = false) : Sh N st (((st.kill o).eb o (.rows s [])).put d (.ba o s 0 0)) := by
 intro G hn a w hh
 obtain ⟨E, RR, rfl, hi⟩ := hh
 have hv := hi.aD d _ hx
 simp only [RX] at hv
 obtain ⟨E', fg, hw, h1, h2⟩ := hi.nil o s (by rw [hn]; exact hF)
 refine ⟨E', _, hw, h1.relabel (d := d) (by rw [hv.1]; exact h2) List.nodup_nil (fun _ h => by cases h)⟩
theorem Sh.z2 {d : Nat} (s : Nat) (hx : look st.aD d = some (.v (.slice none 0 0))) : Sh N st (st.put d (.ei s [])) := by
 intro G hn a w hh
 obtain ⟨E, RR, rfl, hi⟩ := hh
 have hv := hi.aD d _ hx
 simp only [RX] at hv
 refine ⟨E, _, rfl, hi.relabel (d := d) (R := []) ?_ List.nodup_nil (fun _ h => by cases h)⟩
 rw [hv.1]
 simp only [RX]
 exact ⟨fun _ h => (by cases h), none, 0, rfl, .inl ⟨by trivial, by trivial, by trivial⟩⟩
theorem m0 {t e s cY ty n cap : Nat} {base b2 : Option Addr} {c2 : Nat} (ht : TY.slice P t = some (e, s, cY)) (hc : n ≤ cap) (w : World) :
  (Builtin.append_ #[t, t] ty #[.slice base n cap, .slice b2 0 c2]).run P w = .ok (.slice base n cap) w := by
 obtain ⟨hu, i, iQ, hs, Fi⟩ := TY.ez ht
 have h0 : ∀ a : Addr, (storeCells a []).run P w = .ok () w := fun _ => rfl
 cases b2 with
 | none =>
  cases base with
  | none => simp [Builtin.append_, run_underlying hu, sizeOf, typeInfo, iQ, Builtin.lenOf, hc, Builtin.firstCells]
  | some b => simp [Builtin.append_, run_underlying hu, sizeOf, typeInfo, iQ, Builtin.lenOf, hc, Builtin.firstCells, h0]
 | some b' =>
  have hl : ∀ a : Addr, (loadCells a 0).run P w = .ok #[] w := fun _ => rfl
  cases base with
  | none => simp [Builtin.append_, run_underlying hu, sizeOf, typeInfo, iQ, Builtin.lenOf, hc, Builtin.firstCells, hl]
  | some b => simp [Builtin.append_, run_underlying hu, sizeOf, typeInfo, iQ, Builtin.lenOf, hc, Builtin.firstCells, h0, hl]
variable {Q : Exit → St → Prop} {all : Array Oper} {rest : List Oper} {d : Nat} {ty : TypeId} {pos : String} {af : Array Edge}
theorem iA {x y : Operand} {t : Nat} {w w' : World} {u : Value} (h : (Builtin.append_ #[t, t] ty #[a.eval x, a.eval y]).run P w = .ok u w') :
  (execOp a.eval ⟨some d, .call ⟨.builtin .append, #[x, y], #[t, t]⟩, ty, pos, af, none⟩).run P w = .ok (.value u) w' := by
 refine hX (g := none) ?_
 have e : (#[x, y] : Array Operand).map a.eval = #[a.eval x, a.eval y] := by simp
 rw [e]
 exact dJ h
theorem aO.append {t e s cY tv : Nat} {z : List Value} {x : Operand} {o lo n : Nat} {rs new : List (List X)} (ht : TY.slice P t = some (e, s, cY)) (hz : TY.zero P e = some z) (qO : Nat.beq z.length s = true)
  (hy : look st.aD tv = some (.ei s new)) (hx : bS (st.put tv .no) x = some (.ba o s lo n)) (ho : look st.aG o = some (.rows s rs)) (qP : lo + n ≤ rs.length)
  (pQ : (n + new.length) * cY ≤ 140737488355328) (AL : n + new.length ≤ 4611686018427387904) (hF : N.F.elem o = false) (hd : d < N.n)
  (k : aO P N all rest (((((st.put tv .no).kill o).eb o (.rows s (((rs.drop lo).take n) ++ new)))).put d (.ba o s 0 (n + new.length))) Q) :
  aO P N all (⟨some d, .call ⟨.builtin .append, #[x, .tmp tv], #[t, t]⟩, ty, pos, af, none⟩ :: rest) st Q := by
 refine aO.AZ (fun G E RR a hn hi => ?_) k
 have hv := hi.aD tv _ hy
 have lL := hi.no tv
 obtain ⟨R, yU⟩ := lL.eval hx
 have h0 : R = [] := RX.free (x := .ba o s lo n) rfl yU
 subst h0
 have J7 : G.fn.F.elem o = false := by rw [hn]; exact hF
 by_cases hm : 0 < new.length
 ·obtain ⟨R2, Bg, dz, iV⟩ := Src.Jw hv hm
  obtain ⟨u, E', fg, gQ, h1, h2⟩ := lL.append (ty := ty) ht hz (Nat.eq_of_beq_eq_true qO) yU ho qP Bg hm (iV (hi.nodup _)) (fun b hb => by
   have gq := dz b hb
   refine ⟨(hi.own _ _ gq).1, (hi.own _ _ gq).2, fun p hp => ?_⟩
   unfold fH at hp
   split at hp
   ·cases hp
   ·rename_i h; exact hi.apart _ _ h b hp gq) pQ AL J7
  exact ⟨u, E', _, iA gQ, h1.g5 (by rw [hn]; exact hd) h2⟩
 ·have mV : new = [] := List.eq_nil_of_length_eq_zero om
  subst mV
  obtain ⟨E', fg, hw, h1, h2⟩ := lL.trim yU ho qP J7
  simp only [List.append_nil, List.length_nil, Nat.add_zero]
  refine ⟨a.eval x, E', _, ?_, h1.g5 (by rw [hn]; exact hd) h2⟩
  rw [hw]
  refine iA ?_
  simp only [RX] at yU hv
  obtain ⟨_, base, cap, hc, dA⟩ := yU
  obtain ⟨_, b2, c2, J8, _⟩ := hv
  have MV : a.eval (.tmp tv) = .slice b2 0 c2 := J8
  rw [hc, MV]
  exact m0 ht (by rcases dA with ⟨_, _, h3, h4⟩ | ⟨_, _, _, h3, _⟩ <;> omega) E.w
theorem aO.DG {t e s cY : Nat} {z : List Value} {x y : Operand} {o lo n : Nat} {rs new : List (List X)} (ht : TY.slice P t = some (e, s, cY)) (hz : TY.zero P e = some z) (qO : Nat.beq z.length s = true)
  (hy : bS st y = some (.fz s new)) (hx : bS st x = some (.ba o s lo n)) (ho : look st.aG o = some (.rows s rs)) (qP : lo + n ≤ rs.length)
  (pQ : (n + new.length) * cY ≤ 140737488355328) (AL : n + new.length ≤ 4611686018427387904) (hF : N.F.elem o = false) (hd : d < N.n)
  (k : aO P N all rest ((((st.kill o).eb o (.rows s (((rs.drop lo).take n) ++ new)))).put d (.ba o s 0 (n + new.length))) Q) :
  aO P N all (⟨some d, .call ⟨.builtin .append, #[x, y], #[t, t]⟩, ty, pos, af, none⟩ :: rest) st Q := by
 refine aO.AZ (fun G E RR a hn hi => ?_) k
 obtain ⟨R', hv⟩ := hi.eval hy
 obtain ⟨R, yU⟩ := hi.eval hx
 have h0 : R = [] := RX.free (x := .ba o s lo n) rfl yU
 subst h0
 have J7 : G.fn.F.elem o = false := by rw [hn]; exact hF
 by_cases hm : 0 < new.length
 ·have Bg := Src.MR hi hv hm
  obtain ⟨u, E', fg, gQ, h1, h2⟩ := hi.append (ty := ty) ht hz (Nat.eq_of_beq_eq_true qO) yU ho qP Bg hm List.nodup_nil (fun _ h => by cases h) pQ AL J7
  exact ⟨u, E', _, iA gQ, h1.g5 (by rw [hn]; exact hd) h2⟩
 ·have mV : new = [] := List.eq_nil_of_length_eq_zero om
  subst mV
  obtain ⟨E', fg, hw, h1, h2⟩ := hi.trim yU ho qP J7
  simp only [List.append_nil, List.length_nil, Nat.add_zero]
  refine ⟨a.eval x, E', _, ?_, h1.g5 (by rw [hn]; exact hd) h2⟩
  rw [hw]
  refine iA ?_
  simp only [RX] at yU hv
  obtain ⟨_, base, cap, hc, dA⟩ := yU
  obtain ⟨_, _, b2, c2, J8, _⟩ := hv
  rw [hc, J8]
  exact m0 ht (by rcases dA with ⟨_, _, h3, h4⟩ | ⟨_, _, _, h3, _⟩ <;> omega) E.w
end
end Go.AW
