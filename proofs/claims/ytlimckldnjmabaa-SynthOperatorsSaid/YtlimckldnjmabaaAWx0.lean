/- Part of the abstract walk: values as trees, objects by name, and what they say of the model's values and memory. -/
import Derived.WalkKit
set_option linter.unusedSimpArgs false
set_option linter.unusedVariables false
set_option linter.unusedSectionVars false
namespace Go.AW
open Go
theorem om {p : Prop} (h : p := by omega) : p := h
theorem ba {p : Prop} (h : p := by kernel_rfl) : p := h
theorem ag {p : Prop} (h : p := by decide) : p := h
theorem k0 {p : Prop} (h : p := by assumption) : p := h
theorem SS {p : Prop} (h : p := by (simp only [List.length_append, List.length_cons, List.length_nil]; omega)) : p := h
theorem dz {p : Prop} (h : p := by first | rfl | simp_all) : p := h
theorem aZ {p : Prop} (h : p := by first | rfl | omega) : p := h
theorem aB {p : Prop} (h : p := by first | omega | simp [-List.getD_eq_getElem?_getD] <;> omega) : p := h
theorem ni {p : Prop} (h : p := by first | omega | (simp [-List.getD_eq_getElem?_getD]; done) | (simp [-List.getD_eq_getElem?_getD]; omega)) : p := h
theorem SU {p : Prop} (h : p := by (constructor <;> (simp only [List.length_append, List.length_cons, List.length_nil]; omega))) : p := h
inductive X where
 | v (u : Value)
 | no
 | fz (s : Nat) (rows : List (List X))
 | cX (s : Nat) (rows : List (List X))
 | ptr (o s i k : Nat)
 | aY (o s lo n : Nat)
 | mref (o : Nat)
 | fp (row : List X) (k : Nat)
 | agg (xs : List X)
 | tup (xs : List X)
 | gN (fn : Fn) (first oe : List X)
mutual
def X.nr : X → Bool
 | .v _ | .no | .fz .. | .cX .. | .fp .. => true
 | .ptr .. | .aY .. | .mref _ => false
 | .agg xs => X.ga xs
 | .tup xs => X.ga xs
 | .gN _ a b => X.ga a && X.ga b
def X.ga : List X → Bool
 | [] => true
 | x :: r => x.nr && X.ga r
end
mutual
def X.dA (o : Nat) : X → Bool
 | .v _ | .no | .fz .. | .cX .. | .fp .. => false
 | .ptr p .. => Nat.beq p o
 | .aY p .. => Nat.beq p o
 | .mref p => Nat.beq p o
 | .agg xs => X.cH o xs
 | .tup xs => X.cH o xs
 | .gN _ a b => X.cH o a || X.cH o b
def X.cH (o : Nat) : List X → Bool
 | [] => false
 | x :: r => x.dA o || X.cH o r
end
mutual
def X.free : X → Bool
 | .v _ | .no | .fz .. | .ptr .. | .aY .. | .mref _ | .fp .. | .gN .. => true
 | .cX .. => false
 | .agg xs => X.bj xs
 | .tup xs => X.bj xs
def X.bj : List X → Bool
 | [] => true
 | x :: r => x.free && X.bj r
end
structure DA where
 b : Nat
 off : Nat
 cap : Nat
abbrev Fz := Nat → Nat → Option Value
structure Env where
 φ : Fz
 β : Nat → Option DA
 w : World
def iE : Value → Prop
 | .agg _ | .tuple _ => False
 | _ => True
def bJ (s : Nat) (rows : List (List X)) : Prop := ∀ r ∈ rows, r.length = s
mutual
def RX (E : Env) : X → Value → List Nat → Prop
 | .v u, c, R => c = u ∧ R = []
 | .no, _, R => R = []
 | .fz s rows, c, R => R = [] ∧ bJ s rows ∧ ∃ base cap, c = .slice base rows.length cap ∧
   ((rows = [] ∧ cap = 0) ∨ ∃ b off, base = some ⟨b, off, none⟩ ∧ rows.length ≤ cap ∧ iF E rows b off)
 | .cX s rows, c, R => bJ s rows ∧ ∃ base cap, c = .slice base rows.length cap ∧
   ((rows = [] ∧ cap = 0 ∧ R = []) ∨ ∃ b off cs ty R', base = some ⟨b, off, none⟩ ∧ E.w.heap[b]? = some (.cells cs ty (0, 0)) ∧
    rows.length ≤ cap ∧ off + cap * s ≤ cs.size ∧ (∀ i, E.φ b i = none) ∧ bX E rows cs off R' ∧ R = b :: R')
 | .ptr o s i k, c, R => R = [] ∧ ∃ B, E.β o = some B ∧ c = .pointer (some ⟨B.b, B.off + (i * s + k), none⟩)
 | .aY o s lo n, c, R => R = [] ∧ ∃ base cap, c = .slice base n cap ∧
   ((E.β o = none ∧ lo = 0 ∧ n = 0 ∧ cap = 0) ∨ ∃ B, E.β o = some B ∧ lo + cap = B.cap ∧ n ≤ cap ∧ (cap = 0 ∨ base = some ⟨B.b, B.off + lo * s, none⟩))
 | .mref o, c, R => R = [] ∧ ∃ B, E.β o = some B ∧ c = .map (some B.b)
 | .fp row k, c, R => R = [] ∧ ∃ b off, c = .pointer (some ⟨b, off + k, none⟩) ∧ RF E row b off
 | .agg xs, c, R => ∃ cs, c = .agg cs ∧ bt E xs cs.toList R
 | .tup xs, c, R => ∃ cs, c = .tuple cs ∧ dU E xs cs.toList R
 | .gN fn first oe, c, R => R = [] ∧ ∃ f cc, c = .func fn f cc ∧ dU E first f.toList [] ∧ dU E oe cc.toList []
def bt (E : Env) : List X → List Value → List Nat → Prop
 | [], cs, R => cs = [] ∧ R = []
 | x :: r, cs, R => ∃ c cG R₁ R₂, cs = c :: cG ∧ iE c ∧ RX E x c R₁ ∧ bt E r cG R₂ ∧ R = R₁ ++ R₂
def dU (E : Env) : List X → List Value → List Nat → Prop
 | [], cs, R => cs = [] ∧ R = []
 | x :: r, cs, R => ∃ c cG R₁ R₂, cs = c :: cG ∧ RX E x c R₁ ∧ dU E r cG R₂ ∧ R = R₁ ++ R₂
def RF (E : Env) : List X → Nat → Nat → Prop
 | [], _, _ => True
 | x :: r, b, off => (∃ u, E.φ b off = some u ∧ iE u ∧ x.nr = true ∧ RX E x u []) ∧ RF E r b (off + 1)
def iF (E : Env) : List (List X) → Nat → Nat → Prop
 | [], _, _ => True
 | r :: rs, b, off => RF E r b off ∧ iF E rs b (off + r.length)
def RO (E : Env) : List X → Array Value → Nat → List Nat → Prop
 | [], _, _, R => R = []
 | x :: r, cs, off, R => ∃ u R₁ R₂, cs[off]? = some u ∧ iE u ∧ RX E x u R₁ ∧ RO E r cs (off + 1) R₂ ∧ R = R₁ ++ R₂
def bX (E : Env) : List (List X) → Array Value → Nat → List Nat → Prop
 | [], _, _, R => R = []
 | r :: rs, cs, off, R => ∃ R₁ R₂, X.ga r = true ∧ RO E r cs off R₁ ∧ bX E rs cs (off + r.length) R₂ ∧ R = R₁ ++ R₂
end
inductive Obj where
 | cells (xs : List X)
 | rows (s : Nat) (rs : List (List X))
 | uT (es : List (Value × Value))
 | gone
end Go.AW
namespace Go.AW
open Go
theorem bU {α} {a : α} {l r : List α} (h : a ∈ l) : a ∈ l ++ r := List.mem_append.2 (.inl h)
theorem bK {α} {a : α} {l r : List α} (h : a ∈ r) : a ∈ l ++ r := List.mem_append.2 (.inr h)
def Env.On (E E' : Env) (R : List Nat) : Prop :=
 (∀ b i v, E.φ b i = some v → E'.φ b i = some v) ∧ ∀ b ∈ R, E'.w.heap[b]? = E.w.heap[b]? ∧ ((∀ i, E.φ b i = none) → ∀ i, E'.φ b i = none)
theorem Env.On.sub {E E' : Env} {R R' : List Nat} (h : E.On E' R) (hs : ∀ b ∈ R', b ∈ R) : E.On E' R' := ⟨h.1, fun b hb => h.2 b (hs b hb)⟩
mutual
theorem X.mF : ∀ {x : X}, x.nr = true → ∀ o, x.dA o = false
 | .v _, _, _ | .no, _, _ | .fz .., _, _ | .cX .., _, _ | .fp .., _, _ => rfl
 | .agg xs, h, o => X.eB (xs := xs) h o
 | .tup xs, h, o => X.eB (xs := xs) h o
 | .gN _ a b, h, o => by
  simp only [X.nr, Bool.and_eq_true] at h
  simp only [X.dA, X.eB h.1 o, X.eB h.2 o, Bool.or_self]
theorem X.eB : ∀ {xs : List X}, X.ga xs = true → ∀ o, X.cH o xs = false
 | [], _, _ => rfl
 | x :: r, h, o => by
  simp only [X.ga, Bool.and_eq_true] at h
  simp only [X.cH, X.mF h.1 o, X.eB h.2 o, Bool.or_self]
end
mutual
theorem RX.mono {E E' : Env} : ∀ (x : X) (c : Value) (R : List Nat), E.On E' R → (∀ o, x.dA o = true → E'.β o = E.β o) → RX E x c R → RX E' x c R
 | .v u, c, R, _, _, h => by simpa [RX] using h
 | .no, c, R, _, _, h => by simpa [RX] using h
 | .fz s rows, c, R, hE, _, h => by
  simp only [RX] at h ⊢
  obtain ⟨hR, hu, base, cap, hc, hh⟩ := h
  refine ⟨hR, hu, base, cap, hc, ?_⟩
  rcases hh with hh | ⟨b, off, hb, hl, hf⟩
  ·exact .inl hh
  ·exact .inr ⟨b, off, hb, hl, iF.mono rows b off (hE.sub (by simp)) hf⟩
 | .cX s rows, c, R, hE, _, h => by
  simp only [RX] at h ⊢
  obtain ⟨hu, base, cap, hc, hh⟩ := h
  refine ⟨hu, base, cap, hc, ?_⟩
  rcases hh with hh | ⟨b, off, cs, ty, R', hb, hw, hl, ho, hf, hr, hR⟩
  ·exact .inl hh
  ·subst hR
   have h2 := hE.2 b (by simp)
   exact .inr ⟨b, off, cs, ty, R', hb, h2.1.trans hw, hl, ho, h2.2 hf, bX.mono rows cs off R' (hE.sub (fun _ h => by simp [h])) hr, rfl⟩
 | .ptr o s i k, c, R, _, hβ, h => by
  simp only [RX] at h ⊢
  rw [hβ o (by simp [X.dA])]; exact h
 | .aY o s lo n, c, R, _, hβ, h => by
  simp only [RX] at h ⊢
  rw [hβ o (by simp [X.dA])]; exact h
 | .mref o, c, R, _, hβ, h => by
  simp only [RX] at h ⊢
  rw [hβ o (by simp [X.dA])]; exact h
 | .fp row k, c, R, hE, _, h => by
  simp only [RX] at h ⊢
  obtain ⟨hR, b, off, hc, hf⟩ := h
  exact ⟨hR, b, off, hc, RF.mono row b off (hE.sub (by simp)) hf⟩
 | .agg xs, c, R, hE, hβ, h => by
  simp only [RX] at h ⊢
  obtain ⟨cs, hc, hs⟩ := h
  exact ⟨cs, hc, bt.mono xs _ R hE (fun o ho => hβ o (by simp [X.dA, ho])) hs⟩
 | .tup xs, c, R, hE, hβ, h => by
  simp only [RX] at h ⊢
  obtain ⟨cs, hc, hs⟩ := h
  exact ⟨cs, hc, dU.mono xs _ R hE (fun o ho => hβ o (by simp [X.dA, ho])) hs⟩
 | .gN fn a b, c, R, hE, hβ, h => by
  simp only [RX] at h ⊢
  obtain ⟨hR, f, cc, hc, h1, h2⟩ := h
  exact ⟨hR, f, cc, hc, dU.mono a _ [] (hE.sub (by simp)) (fun o ho => hβ o (by simp [X.dA, ho])) h1, dU.mono b _ [] (hE.sub (by simp)) (fun o ho => hβ o (by simp [X.dA, ho])) h2⟩
theorem bt.mono {E E' : Env} : ∀ (xs : List X) (cs : List Value) (R : List Nat), E.On E' R → (∀ o, X.cH o xs = true → E'.β o = E.β o) → bt E xs cs R → bt E' xs cs R
 | [], _, _, _, _, h => by simpa [bt] using h
 | x :: r, cs, R, hE, hβ, h => by
  simp only [bt] at h ⊢
  obtain ⟨c, cG, R₁, R₂, hc, hs, h1, h2, hR⟩ := h
  subst hR
  exact ⟨c, cG, R₁, R₂, hc, hs, RX.mono x c R₁ (hE.sub (fun _ h => bU h)) (fun o ho => hβ o (by simp [X.cH, ho])) h1,
   bt.mono r cG R₂ (hE.sub (fun _ h => bK h)) (fun o ho => hβ o (by simp [X.cH, ho])) h2, rfl⟩
theorem dU.mono {E E' : Env} : ∀ (xs : List X) (cs : List Value) (R : List Nat), E.On E' R → (∀ o, X.cH o xs = true → E'.β o = E.β o) → dU E xs cs R → dU E' xs cs R
 | [], _, _, _, _, h => by simpa [dU] using h
 | x :: r, cs, R, hE, hβ, h => by
  simp only [dU] at h ⊢
  obtain ⟨c, cG, R₁, R₂, hc, h1, h2, hR⟩ := h
  subst hR
  exact ⟨c, cG, R₁, R₂, hc, RX.mono x c R₁ (hE.sub (fun _ h => bU h)) (fun o ho => hβ o (by simp [X.cH, ho])) h1,
   dU.mono r cG R₂ (hE.sub (fun _ h => bK h)) (fun o ho => hβ o (by simp [X.cH, ho])) h2, rfl⟩
theorem RF.mono {E E' : Env} : ∀ (xs : List X) (b off : Nat), E.On E' [] → RF E xs b off → RF E' xs b off
 | [], _, _, _, _ => by simp [RF]
 | x :: r, b, off, hE, h => by
  simp only [RF] at h ⊢
  obtain ⟨⟨u, hu, hs, hn, hx⟩, hr⟩ := h
  exact ⟨⟨u, hE.1 _ _ _ hu, hs, hn, RX.mono x u [] hE (fun o ho => by rw [X.mF hn] at ho; cases ho) hx⟩, RF.mono r b (off + 1) hE hr⟩
theorem iF.mono {E E' : Env} : ∀ (rs : List (List X)) (b off : Nat), E.On E' [] → iF E rs b off → iF E' rs b off
 | [], _, _, _, _ => by simp [iF]
 | r :: rs, b, off, hE, h => by
  simp only [iF] at h ⊢
  exact ⟨RF.mono r b off hE h.1, iF.mono rs b _ hE h.2⟩
theorem RO.mono {E E' : Env} : ∀ (xs : List X) (cs : Array Value) (off : Nat) (R : List Nat), E.On E' R → (∀ o, X.cH o xs = true → E'.β o = E.β o) → RO E xs cs off R → RO E' xs cs off R
 | [], _, _, _, _, _, h => by simpa [RO] using h
 | x :: r, cs, off, R, hE, hβ, h => by
  simp only [RO] at h ⊢
  obtain ⟨u, R₁, R₂, hu, hs, h1, h2, hR⟩ := h
  subst hR
  exact ⟨u, R₁, R₂, hu, hs, RX.mono x u R₁ (hE.sub (fun _ h => bU h)) (fun o ho => hβ o (by simp [X.cH, ho])) h1,
   RO.mono r cs (off + 1) R₂ (hE.sub (fun _ h => bK h)) (fun o ho => hβ o (by simp [X.cH, ho])) h2, rfl⟩
theorem bX.mono {E E' : Env} : ∀ (rs : List (List X)) (cs : Array Value) (off : Nat) (R : List Nat), E.On E' R → bX E rs cs off R → bX E' rs cs off R
 | [], _, _, _, _, h => by simpa [bX] using h
 | r :: rs, cs, off, R, hE, h => by
  simp only [bX] at h ⊢
  obtain ⟨R₁, R₂, hn, h1, h2, hR⟩ := h
  subst hR
  exact ⟨R₁, R₂, hn, RO.mono r cs off R₁ (hE.sub (fun _ h => bU h)) (fun o ho => by rw [X.eB hn] at ho; cases ho) h1,
   bX.mono rs cs _ R₂ (hE.sub (fun _ h => bK h)) h2, rfl⟩
end
end Go.AW
namespace Go.AW
open Go
def look {α : Type} : List (Nat × α) → Nat → Option α
 | [], _ => none
 | (t, x) :: r, s => bif Nat.beq t s then some x else look r s
structure St where
 aA : List (Nat × X)
 aC : List (Nat × Obj)
def dN (E : Env) (o : Nat) : Obj → List Nat → Prop
 | .cells xs, R => X.bj xs = true ∧ ∃ B cs ty, E.β o = some B ∧ E.w.heap[B.b]? = some (.cells cs ty (0, 0)) ∧ (∀ i, E.φ B.b i = none) ∧ B.off + xs.length ≤ cs.size ∧ RO E xs cs B.off [] ∧ R = [B.b]
 | .rows s rs, R => bJ s rs ∧ ((E.β o = none ∧ rs = [] ∧ R = []) ∨ ∃ B cs ty R', E.β o = some B ∧ E.w.heap[B.b]? = some (.cells cs ty (0, 0)) ∧ (∀ i, E.φ B.b i = none) ∧
   rs.length ≤ B.cap ∧ B.off + B.cap * s ≤ cs.size ∧ bX E rs cs B.off R' ∧ R = B.b :: R')
 | .uT es, R => ∃ B pd clock, E.β o = some B ∧ E.w.heap[B.b]? = some (.map pd clock) ∧ (∀ i, E.φ B.b i = none) ∧ pd.toList.map (fun e => (e.key, e.val)) = es ∧ R = [B.b]
 | .gone, R => R = []
inductive Own where
 | slot (s : Nat)
 | obj (o : Nat)
 deriving DecidableEq
structure eg where
 n : Nat
 F : List Nat
structure Ctx where
 K : Nat → Prop
 w0 : World
 φ0 : Fz
 β0 : Nat → Option DA
 fn : eg
 ds : List Deferred
structure Inv (G : Ctx) (E : Env) (RR : Own → List Nat) (st : St) (a : Act) : Prop where
 lq : ∀ b i v, E.φ b i = some v → E.w.cell? ⟨b, i, none⟩ = some v
 aA : ∀ s x, look st.aA s = some x → RX E x (a.tmps.getD s undef) (RR (.slot s))
 aC : ∀ o ob, look st.aC o = some ob → dN E o ob (RR (.obj o))
 nodup : ∀ p, (RR p).Nodup
 apart : ∀ p q, p ≠ q → ∀ b ∈ RR p, b ∉ RR q
 own : ∀ p b, b ∈ RR p → b < E.w.heap.size ∧ ¬ G.K b
 ao : ∀ b, G.K b → E.w.heap[b]? = G.w0.heap[b]?
 size : G.w0.heap.size ≤ E.w.heap.size
 small : ∀ b, G.K b → b < G.w0.heap.size
 os : E.w.os = G.w0.os
 tape : E.w.tape = G.w0.tape
 output : E.w.output = G.w0.output
 φ0 : ∀ b i v, G.φ0 b i = some v → E.φ b i = some v
 grow : ∀ b i v, E.φ b i = some v → G.φ0 b i = some v ∨ ¬ G.K b
 fixed : ∀ o, G.fn.F.elem o = true → E.β o = G.β0 o
 tmps : a.tmps.size = G.fn.n
 defers : a.defers = G.ds
def bZ (G : Ctx) (st : St) (a : Act) (w : World) : Prop := ∃ E RR, E.w = w ∧ Inv G E RR st a
def lh (G : Ctx) (Q : Exit → St → Prop) (e : Exit) (a : Act) (w : World) : Prop := ∃ st, bZ G st a w ∧ Q e st
def ab (P : Program) (N : eg) (c : Code) (st : St) (Q : Exit → St → Prop) : Prop :=
 ∀ G : Ctx, G.fn = N → ∀ a w, bZ G st a w → c.wp P (lh G Q) a w
def aa (P : Program) (N : eg) (all : Array Oper) (rest : List Oper) (st : St) (Q : Exit → St → Prop) : Prop :=
 ∀ G : Ctx, G.fn = N → ∀ a w, bZ G st a w → wpList P all (lh G Q) rest a w
def ka (K : St → Prop) (Q : Exit → St → Prop) : Exit → St → Prop
 | .normal, st => K st
 | e, st => Q e st
def lT (id : Nat) (Q : Exit → St → Prop) : Exit → St → Prop
 | .exit id', st => bif Nat.beq id' id then Q .normal st else Q (.exit id') st
 | e, st => Q e st
def bw (st : St) : Operand → Option X
 | .tmp t => look st.aA t
 | .const v => some (.v v)
 | .func f => some (.v (.func (.func f) #[] #[]))
 | .global _ => none
def Le (st bc : St) : Prop :=
 (∀ s x, look bc.aA s = some x → look st.aA s = some x) ∧ (∀ o x, look bc.aC o = some x → look st.aC o = some x)
theorem Le.refl (st : St) : Le st st := ⟨fun _ _ h => h, fun _ _ h => h⟩
theorem Le.holds {G : Ctx} {st bc : St} {a : Act} {w : World} (h : Le st bc) (hh : bZ G st a w) : bZ G bc a w := by
 obtain ⟨E, RR, hw, hi⟩ := hh
 exact ⟨E, RR, hw, { hi with aA := fun s x hx => hi.aA s x (h.1 s x hx), aC := fun o x hx => hi.aC o x (h.2 o x hx) }⟩
def fB {α : Type} (l l' : List (Nat × α)) : Prop := ∀ s x, look l' s = some x → look l s = some x
theorem fB.nil {α : Type} {l : List (Nat × α)} : fB l [] := fun _ _ h => by cases h
theorem fB.cons {α : Type} {l l' : List (Nat × α)} {s : Nat} {x : α} (h : look l s = some x) (hr : fB l l') : fB l ((s, x) :: l') := by
 intro t y hy
 unfold look at hy
 cases hb : Nat.beq s t with
 | true => rw [hb] at hy; simp at hy; subst hy; rw [Nat.eq_of_beq_eq_true hb] at h; exact h
 | false => rw [hb] at hy; exact hr t y hy
theorem Le.mk {st : St} {sl : List (Nat × X)} {ob : List (Nat × Obj)} (h : fB st.aA sl) (h' : fB st.aC ob) : Le st ⟨sl, ob⟩ := ⟨h, h'⟩
section control
variable {P : Program} {N : eg} {st bc : St} {Q Q' : Exit → St → Prop}
theorem lh.mono {G : Ctx} {e : Exit} {a : Act} {w : World} (h : ∀ st, Q e st → Q' e st) (hp : lh G Q e a w) : lh G Q' e a w :=
 let ⟨st, hh, hq⟩ := hp; ⟨st, hh, h st hq⟩
theorem ab.mono {c : Code} (h : ab P N c st Q) (hq : ∀ e st, Q e st → Q' e st) : ab P N c st Q' :=
 fun G hn a w hh => wp_mono (h G hn a w hh) fun e _ _ hp => lh.mono (hq e) hp
theorem ab.le {c : Code} (hl : Le st bc) (h : ab P N c bc Q) : ab P N c st Q :=
 fun G hn a w hh => h G hn a w (hl.holds hh)
theorem aa.le {all : Array Oper} {rest : List Oper} (hl : Le st bc) (h : aa P N all rest bc Q) : aa P N all rest st Q :=
 fun G hn a w hh => h G hn a w (hl.holds hh)
theorem ab.skip (h : Q .normal st) : ab P N .skip st Q := fun _ _ _ _ hh => wp_skip ⟨st, hh, h⟩
theorem ab.exit {id : Nat} (h : Q (.exit id) st) : ab P N (.exit id) st Q := fun _ _ _ _ hh => wp_exit ⟨st, hh, h⟩
theorem ab.ret (h : Q .ret st) : ab P N .ret st Q := fun _ _ _ _ hh => wp_ret ⟨st, hh, h⟩
theorem ab.seq {x y : Code} (h : ab P N x st (ka (fun bc => ab P N y bc Q) Q)) : ab P N (.seq x y) st Q := by
 intro G hn a w hh
 refine wp_seq (wp_mono (h G hn a w hh) ?_)
 rintro e a' w' ⟨bc, gR, hq⟩
 cases e <;> first | exact hq G hn a' w' gR | exact ⟨bc, gR, hq⟩
theorem ab.block {id : Nat} {c : Code} (h : ab P N c st (lT id Q)) : ab P N (.block id c) st Q := by
 intro G hn a w hh
 refine wp_block (wp_mono (h G hn a w hh) ?_)
 rintro e a' w' ⟨bc, gR, hq⟩
 cases e with
 | exit id' =>
  simp only [lT] at hq
  simp only [Exit.inBlock]
  cases hb : Nat.beq id' id with
  | true =>
   rw [hb] at hq
   rw [if_pos (Nat.eq_of_beq_eq_true hb)]
   exact ⟨bc, gR, hq⟩
  | false =>
   rw [hb] at hq
   rw [if_neg (Nat.ne_of_beq_eq_false hb)]
   exact ⟨bc, gR, hq⟩
 | _ => exact ⟨bc, gR, hq⟩
theorem Inv.eval {G : Ctx} {E : Env} {RR : Own → List Nat} {a : Act} (hi : Inv G E RR st a) {o : Operand} {x : X} (h : bw st o = some x) : ∃ R, RX E x (a.eval o) R := by
 cases o with
 | tmp t => exact ⟨_, hi.aA t x h⟩
 | const v => simp only [bw, Option.some.injEq] at h; subst h; exact ⟨[], by simp [RX, Act.eval]⟩
 | func f => simp only [bw, Option.some.injEq] at h; subst h; exact ⟨[], by simp [RX, Act.eval]⟩
 | global g => cases h
theorem Inv.val {G : Ctx} {E : Env} {RR : Own → List Nat} {a : Act} (hi : Inv G E RR st a) {o : Operand} {u : Value} (h : bw st o = some (.v u)) : a.eval o = u := by
 obtain ⟨R, hR⟩ := hi.eval h
 simp only [RX] at hR
 exact hR.1
theorem ab.cond {c : Operand} {x y : Code} {b : Bool} (hc : bw st c = some (.v (.bool b))) (ht : b = true → ab P N x st Q) (hf : b = false → ab P N y st Q) :
  ab P N (.cond c x y) st Q := by
 intro G hn a w hh
 obtain ⟨E, RR, rfl, hi⟩ := hh
 exact wp_cond_split (hi.val hc) (fun h => ht h G hn a E.w ⟨E, RR, rfl, hi⟩) (fun h => hf h G hn a E.w ⟨E, RR, rfl, hi⟩)
theorem pE {c : Code} {ι : Type} {R : Exit → Act → World → Prop} (J : ι → Act → World → Prop) (μ : ι → Nat)
  (round : ∀ i a w, J i a w → c.wp P (Exit.then (fun a' w' => ∃ j, J j a' w' ∧ μ j < μ i) R) a w) {i : ι} {a : Act} {w : World} (h₀ : J i a w) : (Code.loop c).wp P R a w := by
 intro b k cs
 have key : ∀ n i a w, μ i = n → J i a w →
   ∃ e a' w', R e a' w' ∧ Arrives P (lone (b.at a (.code c :: .inLoop c :: k)) cs w) b k cs e a' w' := by
  intro n
  induction n using Nat.strongRecOn with
  | _ n ih =>
   intro i a w hn hI
   obtain ⟨e, a₁, w₁, hq, tk⟩ := round i a w hI b (.inLoop c :: k) cs
   cases e with
   | normal =>
    obtain ⟨j, Qc, gM⟩ := hq
    obtain ⟨e₂, a₂, w₂, Qd, Hj⟩ := ih (μ j) (hn ▸ gM) j a₁ w₁ rfl Qc
    exact ⟨e₂, a₂, w₂, Qd, .of_steps (Steps.trans tk (.one step_inLoop)) Hj⟩
   | exit id => exact ⟨_, a₁, w₁, hq, .pass (x := .inLoop c) rfl (fun _ _ => .inl (by simp)) tk⟩
   | goto l => exact ⟨_, a₁, w₁, hq, .pass (x := .inLoop c) rfl (fun _ _ => .inl (by simp)) tk⟩
   | ret => exact ⟨_, a₁, w₁, hq, .pass (x := .inLoop c) rfl (fun _ _ => .inl (by simp)) tk⟩
   | panic ch => exact ⟨_, a₁, w₁, hq, .pass (x := .inLoop c) rfl (fun _ _ => .inl (by simp)) tk⟩
   | outgrown => exact ⟨_, a₁, w₁, hq, .pass (x := .inLoop c) rfl (fun _ _ => .inl (by simp)) tk⟩
 obtain ⟨e, a', w', hq, tk⟩ := key _ i a w rfl h₀
 exact ⟨e, a', w', hq, .of_steps (.one step_loop) tk⟩
theorem ab.loop {ι : Type} {c : Code} (S : ι → St) (I : ι → Prop) (μ : ι → Nat) (i : ι) (hi : I i) (hs : Le st (S i))
  (round : ∀ i, I i → ab P N c (S i) (ka (fun bc => ∃ j, I j ∧ μ j < μ i ∧ Le bc (S j)) Q)) : ab P N (.loop c) st Q := by
 intro G hn a w hh
 refine pE (fun i a w => I i ∧ bZ G (S i) a w) μ ?_ ⟨hi, hs.holds hh⟩
 rintro i a w ⟨hI, hh⟩
 refine wp_mono (round i hI G hn a w hh) ?_
 rintro e a' w' ⟨bc, gR, hq⟩
 cases e with
 | normal => obtain ⟨j, hj, gM, hle⟩ := hq; exact ⟨j, ⟨hj, hle.holds gR⟩, gM⟩
 | _ => exact ⟨bc, gR, hq⟩
theorem ab.region {id : Nat} {l : List Oper} (h : aa P N l.toArray l st Q) : ab P N (.region id l.toArray false) st Q :=
 fun G hn a w hh => wp_region_lit (h G hn a w hh)
theorem aa.nil {all : Array Oper} (h : Q .normal st) : aa P N all [] st Q := fun _ _ _ _ hh => ⟨st, hh, h⟩
end control
end Go.AW
namespace Go.AW
open Go
def TY.shape (P : Program) (t : TypeId) : Option (Option Nat) :=
 match P.underlying t, P.info? t with
 | some (.struct _), some i => some (some i.size)
 | some (.array _ _), some i => some (some i.size)
 | some _, some _ => some none
 | _, _ => none
def TY.slice (P : Program) (t : TypeId) : Option (Nat × Nat × Nat) :=
 match P.underlying t with
 | some (.slice e) => (P.info? e).map fun i => (e, i.size, i.bytes)
 | _ => none
def TY.array (P : Program) (t : TypeId) : Option (Nat × Nat × Nat) :=
 match P.underlying t with
 | some (.array n e) => (P.info? e).map fun i => (n, e, i.size)
 | _ => none
def TY.jY (P : Program) (t : TypeId) (f : Nat) : Option (Nat × TypeId) :=
 match P.underlying t with
 | some (.struct fs) => match fs[f]? with
  | some fd => match P.info? fd.type with
   | some i => bif Nat.beq i.size 0 then none else some (fd.offset, fd.type)
   | none => none
  | none => none
 | _ => none
def TY.zero (P : Program) (t : TypeId) : Option (List Value) := (P.info? t).bind fun i => i.zero.map (·.cells.toList)
def TY.isInt (P : Program) (t : TypeId) : Option IntKind := match P.underlying t with | some (.int k) => some k | _ => none
def St.put (st : St) (d : Nat) (x : X) : St := { st with aA := (d, x) :: st.aA }
mutual
theorem RX.free {E : Env} : ∀ {x : X} {c : Value} {R : List Nat}, x.free = true → RX E x c R → R = []
 | .v _, _, _, _, h => by simp only [RX] at h; exact h.2
 | .no, _, _, _, h => by simpa [RX] using h
 | .fz .., _, _, _, h => by simp only [RX] at h; exact h.1
 | .ptr .., _, _, _, h => by simp only [RX] at h; exact h.1
 | .aY .., _, _, _, h => by simp only [RX] at h; exact h.1
 | .mref _, _, _, _, h => by simp only [RX] at h; exact h.1
 | .fp .., _, _, _, h => by simp only [RX] at h; exact h.1
 | .gN .., _, _, _, h => by simp only [RX] at h; exact h.1
 | .cX .., _, _, hf, _ => by simp [X.free] at hf
 | .agg xs, _, _, hf, h => by
  simp only [RX] at h
  obtain ⟨_, _, h⟩ := h
  exact bt.free (xs := xs) hf h
 | .tup xs, _, _, hf, h => by
  simp only [RX] at h
  obtain ⟨_, _, h⟩ := h
  exact dU.free (xs := xs) hf h
theorem bt.free {E : Env} : ∀ {xs : List X} {cs : List Value} {R : List Nat}, X.bj xs = true → bt E xs cs R → R = []
 | [], _, _, _, h => by simp only [bt] at h; exact h.2
 | x :: r, _, _, hf, h => by
  simp only [bt] at h
  obtain ⟨c, cG, R₁, R₂, _, _, h1, h2, hR⟩ := h
  simp only [X.bj, Bool.and_eq_true] at hf
  rw [hR, RX.free hf.1 h1, bt.free hf.2 h2]; rfl
theorem dU.free {E : Env} : ∀ {xs : List X} {cs : List Value} {R : List Nat}, X.bj xs = true → dU E xs cs R → R = []
 | [], _, _, _, h => by simp only [dU] at h; exact h.2
 | x :: r, _, _, hf, h => by
  simp only [dU] at h
  obtain ⟨c, cG, R₁, R₂, _, h1, h2, hR⟩ := h
  simp only [X.bj, Bool.and_eq_true] at hf
  rw [hR, RX.free hf.1 h1, dU.free hf.2 h2]; rfl
end
theorem RO.free {E : Env} : ∀ {xs : List X} {cs : Array Value} {off : Nat} {R : List Nat}, X.bj xs = true → RO E xs cs off R → R = []
 | [], _, _, _, _, h => by simpa [RO] using h
 | x :: r, _, _, _, hf, h => by
  simp only [RO] at h
  obtain ⟨c, R₁, R₂, _, _, h1, h2, hR⟩ := h
  simp only [X.bj, Bool.and_eq_true] at hf
  rw [hR, RX.free hf.1 h1, RO.free hf.2 h2]; rfl
def eZ (RR : Own → List Nat) (p : Own) (R : List Nat) : Own → List Nat := fun q => if q = p then R else RR q
theorem y8 {a : Act} {d : Nat} {u : Value} (hd : d < a.tmps.size) : (a.put (some d) u).tmps.getD d undef = u := by
 simp [Act.put, Array.getD, hd]
theorem tl {a : Act} {d s : Nat} {u : Value} (h : d ≠ s) : (a.put (some d) u).tmps.getD s undef = a.tmps.getD s undef := by
 simp only [Act.put, Array.getD_eq_getD_getElem?, Array.getElem?_setIfInBounds_ne h]
section
variable {P : Program} {N : eg} {G : Ctx} {E : Env} {RR : Own → List Nat} {st : St} {a : Act} {Q : Exit → St → Prop}
theorem Inv.put (hi : Inv G E RR st a) {d : Nat} {x : X} {u : Value} {R : List Nat} (hd : d < G.fn.n) (hx : RX E x u R) (hn : R.Nodup)
  (hR : ∀ b ∈ R, b < E.w.heap.size ∧ ¬ G.K b ∧ ∀ p, p ≠ .slot d → b ∉ RR p) : Inv G E (eZ RR (.slot d) R) (st.put d x) (a.put (some d) u) := by
 refine { hi with aA := ?_, aC := ?_, nodup := ?_, apart := ?_, own := ?_, tmps := ?_, defers := ?_ }
 ·intro s y hy
  simp only [St.put, look] at hy
  cases hb : Nat.beq d s with
  | true =>
   have := Nat.eq_of_beq_eq_true hb
   subst this
   rw [hb] at hy
   simp only [cond_true, Option.some.injEq] at hy
   subst hy
   rw [y8 (by rw [hi.tmps]; exact hd)]
   simpa [eZ] using hx
  | false =>
   have fc := Nat.ne_of_beq_eq_false hb
   rw [hb] at hy
   rw [tl fc]
   have : eZ RR (.slot d) R (.slot s) = RR (.slot s) := by simp [eZ, Ne.symm fc]
   rw [this]
   exact hi.aA s y hy
 ·intro o ob ho
  have : eZ RR (.slot d) R (.obj o) = RR (.obj o) := by simp [eZ]
  rw [this]; exact hi.aC o ob ho
 ·intro p
  unfold eZ
  split
  ·exact hn
  ·exact hi.nodup p
 ·intro p q lr b hb
  unfold eZ at hb ⊢
  split at hb
  ·rename_i hp
   subst hp
   rw [if_neg (Ne.symm lr)]
   exact (hR b hb).2.2 q (Ne.symm lr)
  ·split
   ·rename_i hp hq
    subst hq
    intro fS
    exact (hR b fS).2.2 p lr hb
   ·exact hi.apart p q lr b hb
 ·intro p b hb
  unfold eZ at hb
  split at hb
  ·exact ⟨(hR b hb).1, (hR b hb).2.1⟩
  ·exact hi.own p b hb
 ·simp [Act.put, hi.tmps]
 ·simp [Act.put, hi.defers]
theorem Inv.fT (hi : Inv G E RR st a) {d : Nat} {x : X} {u : Value} (hd : d < G.fn.n) (hx : RX E x u []) : Inv G E (eZ RR (.slot d) []) (st.put d x) (a.put (some d) u) :=
 hi.put hd hx List.nodup_nil (fun _ hb => by cases hb)
def Yields (P : Program) (N : eg) (st : St) (o : Oper) (x : X) : Prop :=
 ∀ (G : Ctx) (E : Env) (RR : Own → List Nat) (a : Act), G.fn = N → Inv G E RR st a → ∃ u, (execOp a.eval o).run P E.w = .ok (.value u) E.w ∧ RX E x u []
theorem aa.val {all : Array Oper} {rest : List Oper} {d : Nat} {op : Op} {ty : TypeId} {pos : String} {af : Array Edge} {x : X}
  (hy : Yields P N st ⟨some d, op, ty, pos, af, none⟩ x) (hd : d < N.n) (k : aa P N all rest (st.put d x) Q) : aa P N all (⟨some d, op, ty, pos, af, none⟩ :: rest) st Q := by
 intro G hn a w hh
 obtain ⟨E, RR, rfl, hi⟩ := hh
 obtain ⟨u, hr, hx⟩ := hy G E RR a hn hi
 refine wpList_plain rfl fun K hK => ?_
 simp only [Oper.wp, hr, Oper.upon_value]
 exact hK _ _ (k G hn _ _ ⟨E, _, rfl, hi.fT (hn ▸ hd) hx⟩)
theorem aa.split {all : Array Oper} {rest : List Oper} {d : Nat} {b : Bool} (hx : look st.aA d = some (.v (.bool b)))
  (ht : b = true → aa P N all rest (st.put d (.v (.bool true))) Q) (hf : b = false → aa P N all rest (st.put d (.v (.bool false))) Q) : aa P N all rest st Q := by
 have : Le st (st.put d (.v (.bool b))) := ⟨fB.cons hx (fun _ _ h => h), fun _ _ h => h⟩
 cases b
 ·exact (hf rfl).le this
 ·exact (ht rfl).le this
theorem aa.aQ {all : Array Oper} {rest : List Oper} {dst : Option Nat} {op : Op} {ty : TypeId} {pos : String} {af : Array Edge} {j d : Nat} {want : Bool}
  (hj : (all[j]?).bind (·.dst) = some d) (hd : d < N.n) (hx : look st.aA d = some (.v (.bool want)))
  (k : aa P N all (⟨dst, op, ty, pos, af, none⟩ :: rest) st Q) : aa P N all (⟨dst, op, ty, pos, af, some (j, want)⟩ :: rest) st Q := by
 intro G hn a w hh
 have hk := k G hn a w hh
 obtain ⟨E, RR, rfl, hi⟩ := hh
 have hs := hi.aA d _ hx
 simp only [RX] at hs
 have ez : d < a.tmps.size := by rw [hi.tmps, hn]; exact hd
 have hv : a.tmps[d]? = some (.bool want) := by
  have := hs.1
  simp only [Array.getD, ez, dif_pos] at this
  rw [Array.getElem?_eq_getElem ez]
  exact congrArg some this
 have hw : Region.wanted ⟨dst, op, ty, pos, af, some (j, want)⟩ (yielded all a.tmps) = true := by
  simp [Region.wanted, yielded, hj, hv]
 unfold wpList at hk ⊢
 rw [if_pos hw]
 rw [if_pos (by simp [Region.wanted])] at hk
 exact hk
end
end Go.AW
namespace Go.AW
open Go
section
variable {P : Program} {N : eg} {st : St} {dst : Option Nat} {ty : TypeId} {pos : String} {af : Array Edge} {g : Option (Nat × Bool)}
theorem il {α β : Type} {s : Sem α} {f : α → Sem β} {w w' : World} {u : α} {r : Result β} (h : s.run P w = .ok u w') (h' : (f u).run P w' = r) : (s.bind f).run P w = r := by
 rw [show (s.bind f) = (s >>= f) from rfl, Sem.run_bind, h]; exact h'
theorem cT {s : Sem Value} {w w' : World} {u : Value} (h : s.run P w = .ok u w') : (do let x ← s; pure (Next.value x) : Sem Next).run P w = .ok (.value u) w' :=
 il h rfl
theorem y9 {s : Sem Unit} {w w' : World} (h : s.run P w = .ok () w') : (do s; pure Next.skip : Sem Next).run P w = .ok .skip w' :=
 il h rfl
theorem Y.zf {x : Operand} {y : X} (hx : bw st x = some y) (hf : y.free = true) : Yields P N st ⟨dst, .move x, ty, pos, af, g⟩ y := by
 intro G E RR a _ hi
 obtain ⟨R, h⟩ := hi.eval hx
 have := RX.free hf h
 subst this
 exact ⟨_, rfl, h⟩
theorem Y.qf {x : Operand} {y : X} (hx : bw st x = some y) (hf : y.free = true) : Yields P N st ⟨dst, .assign x, ty, pos, af, g⟩ y := by
 intro G E RR a _ hi
 obtain ⟨R, h⟩ := hi.eval hx
 have := RX.free hf h
 subst this
 exact ⟨_, rfl, h⟩
theorem Y.zp {c x y : Operand} {b : Bool} {z : X} (hc : bw st c = some (.v (.bool b))) (hz : bw st (if b then x else y) = some z) (hf : z.free = true) :
  Yields P N st ⟨dst, .pick c x y, ty, pos, af, g⟩ z := by
 intro G E RR a _ hi
 obtain ⟨R, h⟩ := hi.eval hz
 have := RX.free hf h
 subst this
 refine ⟨a.eval (if b then x else y), ?_, h⟩
 have nv := hi.val hc
 simp only [execOp, nv]
 cases b <;> rfl
theorem Y.qg {op : BinOp} {t t' : TypeId} {x y : Operand} {u v r : Value} (hx : bw st x = some (.v u)) (hy : bw st y = some (.v v))
  (hr : ∀ w, (do eqGuard op t x y u v; binOp op t u v : Sem Value).run P w = .ok r w) : Yields P N st ⟨dst, .binOp op t x y t', ty, pos, af, g⟩ (.v r) := by
 intro G E RR a _ hi
 refine ⟨r, ?_, by simp [RX]⟩
 show (do let x ← (do eqGuard op t x y (a.eval x) (a.eval y); binOp op t (a.eval x) (a.eval y) : Sem Value); pure (Next.value x) : Sem Next).run P E.w = _
 rw [hi.val hx, hi.val hy]
 exact cT (hr _)
section ints
variable {t t' : TypeId} {x y : Operand} {k : IntKind} {a b r : Int}
theorem Y.qa (hx : bw st x = some (.v (.int k a))) (hy : bw st y = some (.v (.int k b))) (hr : k.wrap (a + b) = r) : Yields P N st ⟨dst, .binOp .add t x y t', ty, pos, af, g⟩ (.v (.int k r)) :=
 Y.qg hx hy fun w => by subst hr; simp [eqGuard, binOp, Op.intArith]
theorem Y.wc (hx : bw st x = some (.v (.int k a))) (hy : bw st y = some (.v (.int k b))) (hr : k.wrap (a - b) = r) : Yields P N st ⟨dst, .binOp .sub t x y t', ty, pos, af, g⟩ (.v (.int k r)) :=
 Y.qg hx hy fun w => by subst hr; simp [eqGuard, binOp, Op.intArith]
theorem Y.zg (hx : bw st x = some (.v (.int k a))) (hy : bw st y = some (.v (.int k b))) (hr : k.wrap (a * b) = r) : Yields P N st ⟨dst, .binOp .mul t x y t', ty, pos, af, g⟩ (.v (.int k r)) :=
 Y.qg hx hy fun w => by subst hr; simp [eqGuard, binOp, Op.intArith]
theorem Y.zq (hx : bw st x = some (.v (.int k a))) (hy : bw st y = some (.v (.int k b))) (h0 : b ≠ 0) (hr : k.wrap (a.tdiv b) = r) : Yields P N st ⟨dst, .binOp .quo t x y t', ty, pos, af, g⟩ (.v (.int k r)) :=
 Y.qg hx hy fun w => by subst hr; simp [eqGuard, binOp, Op.intDiv, h0]
theorem Y.zt (hx : bw st x = some (.v (.int k a))) (hy : bw st y = some (.v (.int k b))) (h0 : b ≠ 0) (hr : a.tmod b = r) : Yields P N st ⟨dst, .binOp .rem t x y t', ty, pos, af, g⟩ (.v (.int k r)) :=
 Y.qg hx hy fun w => by subst hr; simp [eqGuard, binOp, Op.intDiv, h0]
theorem Y.qd (hx : bw st x = some (.v (.int k a))) (hy : bw st y = some (.v (.int k b))) (hr : k.wrap (BitVec.ofInt k.bits a &&& BitVec.ofInt k.bits b).toNat = r) : Yields P N st ⟨dst, .binOp .and t x y t', ty, pos, af, g⟩ (.v (.int k r)) :=
 Y.qg hx hy fun w => by subst hr; simp [eqGuard, binOp, Op.intBits]
theorem Y.or (hx : bw st x = some (.v (.int k a))) (hy : bw st y = some (.v (.int k b))) (hr : k.wrap (BitVec.ofInt k.bits a ||| BitVec.ofInt k.bits b).toNat = r) : Yields P N st ⟨dst, .binOp .or t x y t', ty, pos, af, g⟩ (.v (.int k r)) :=
 Y.qg hx hy fun w => by subst hr; simp [eqGuard, binOp, Op.intBits]
theorem Y.wf (hx : bw st x = some (.v (.int k a))) (hy : bw st y = some (.v (.int k b))) (hr : k.wrap (BitVec.ofInt k.bits a ^^^ BitVec.ofInt k.bits b).toNat = r) : Yields P N st ⟨dst, .binOp .xor t x y t', ty, pos, af, g⟩ (.v (.int k r)) :=
 Y.qg hx hy fun w => by subst hr; simp [eqGuard, binOp, Op.intBits]
theorem Y.zw {k' : IntKind} (hx : bw st x = some (.v (.int k a))) (hy : bw st y = some (.v (.int k' b))) (h0 : 0 ≤ b) (hr : k.wrap (a * 2 ^ (min b.toNat k.bits)) = r) : Yields P N st ⟨dst, .binOp .shl t x y t', ty, pos, af, g⟩ (.v (.int k r)) :=
 Y.qg hx hy fun w => by subst hr; simp [eqGuard, binOp, Op.shift, Int.not_lt.2 h0]
theorem Y.zx {k' : IntKind} (hx : bw st x = some (.v (.int k a))) (hy : bw st y = some (.v (.int k' b))) (h0 : 0 ≤ b) (hr : a.fdiv (2 ^ (min b.toNat k.bits)) = r) : Yields P N st ⟨dst, .binOp .shr t x y t', ty, pos, af, g⟩ (.v (.int k r)) :=
 Y.qg hx hy fun w => by subst hr; simp [eqGuard, binOp, Op.shift, Int.not_lt.2 h0]
theorem Y.zb (hx : bw st x = some (.v (.int k a))) (hy : bw st y = some (.v (.int k b))) : Yields P N st ⟨dst, .binOp .lss t x y t', ty, pos, af, g⟩ (.v (.bool (decide (a < b)))) :=
 Y.qg hx hy fun w => by simp [eqGuard, binOp, Op.intCmp]
theorem Y.qy (hx : bw st x = some (.v (.int k a))) (hy : bw st y = some (.v (.int k b))) : Yields P N st ⟨dst, .binOp .leq t x y t', ty, pos, af, g⟩ (.v (.bool (decide (a ≤ b)))) :=
 Y.qg hx hy fun w => by simp [eqGuard, binOp, Op.intCmp]
theorem Y.qq (hx : bw st x = some (.v (.int k a))) (hy : bw st y = some (.v (.int k b))) : Yields P N st ⟨dst, .binOp .gtr t x y t', ty, pos, af, g⟩ (.v (.bool (decide (b < a)))) :=
 Y.qg hx hy fun w => by simp [eqGuard, binOp, Op.intCmp]
theorem Y.qp (hx : bw st x = some (.v (.int k a))) (hy : bw st y = some (.v (.int k b))) : Yields P N st ⟨dst, .binOp .geq t x y t', ty, pos, af, g⟩ (.v (.bool (decide (b ≤ a)))) :=
 Y.qg hx hy fun w => by simp [eqGuard, binOp, Op.intCmp]
theorem Y.ql (hx : bw st x = some (.v (.int k a))) (hy : bw st y = some (.v (.int k b))) : Yields P N st ⟨dst, .binOp .eql t x y t', ty, pos, af, g⟩ (.v (.bool (decide (a = b)))) :=
 Y.qg hx hy fun w => by simp [eqGuard, binOp, Op.intCmp, BEq.beq]
theorem Y.zl (hx : bw st x = some (.v (.int k a))) (hy : bw st y = some (.v (.int k b))) : Yields P N st ⟨dst, .binOp .neq t x y t', ty, pos, af, g⟩ (.v (.bool (decide (a ≠ b)))) :=
 Y.qg hx hy fun w => by simp [eqGuard, binOp, Op.intCmp, bne, BEq.beq]
end ints
theorem run_equal_bool {t : TypeId} {a b : Bool} (ht : P.underlying t = some .bool) (w : World) : (Op.equal t (.bool a) (.bool b)).run P w = .ok (a == b) w := by
 show (Op.equalIn (9999 + 1) t (.bool a) (.bool b)).run P w = _
 generalize 9999 = d
 simp [Op.equalIn, run_underlying ht]
theorem Y.qm {t t' : TypeId} {x y : Operand} {a b : Bool} (ht : P.underlying t = some .bool) (hx : bw st x = some (.v (.bool a))) (hy : bw st y = some (.v (.bool b))) :
  Yields P N st ⟨dst, .binOp .eql t x y t', ty, pos, af, g⟩ (.v (.bool (a == b))) :=
 Y.qg hx hy fun w => by
  show (do let z ← Op.equal t (.bool a) (.bool b); pure (Value.bool z) : Sem Value).run P w = _
  exact il (run_equal_bool ht w) rfl
theorem Y.zm {t t' : TypeId} {x y : Operand} {a b : Bool} (ht : P.underlying t = some .bool) (hx : bw st x = some (.v (.bool a))) (hy : bw st y = some (.v (.bool b))) :
  Yields P N st ⟨dst, .binOp .neq t x y t', ty, pos, af, g⟩ (.v (.bool (a != b))) :=
 Y.qg hx hy fun w => by
  show (do let z ← Op.equal t (.bool a) (.bool b); pure (Value.bool (!z)) : Sem Value).run P w = _
  exact il (run_equal_bool ht w) rfl
theorem Y.un {op : UnOp} {t : TypeId} {x : Operand} {u r : Value} (hx : bw st x = some (.v u)) (hr : ∀ w, (Op.unary op u).run P w = .ok r w) : Yields P N st ⟨dst, .unOp op t x, ty, pos, af, g⟩ (.v r) := by
 intro G E RR a _ hi
 refine ⟨r, ?_, by simp [RX]⟩
 show (do let x ← Op.unary op (a.eval x); pure (Next.value x) : Sem Next).run P E.w = _
 rw [hi.val hx]
 exact cT (hr _)
theorem Y.zo {t : TypeId} {x : Operand} {b : Bool} (hx : bw st x = some (.v (.bool b))) : Yields P N st ⟨dst, .unOp .not t x, ty, pos, af, g⟩ (.v (.bool (!b))) :=
 Y.un hx fun _ => rfl
theorem Y.zj {t : TypeId} {x : Operand} {k : IntKind} {n r : Int} (hx : bw st x = some (.v (.int k n))) (hr : k.wrap (0 - n) = r) : Yields P N st ⟨dst, .unOp .neg t x, ty, pos, af, g⟩ (.v (.int k r)) :=
 Y.un hx fun _ => by subst hr; rfl
theorem Y.qj {s d : TypeId} {x : Operand} {k k' : IntKind} {n r : Int} (hs : TY.isInt P s = some k') (hd : TY.isInt P d = some k) (hx : bw st x = some (.v (.int k' n))) (hr : k.wrap n = r) :
  Yields P N st ⟨dst, .convert s d x, ty, pos, af, g⟩ (.v (.int k r)) := by
 intro G E RR a _ hi
 refine ⟨.int k r, ?_, by simp [RX]⟩
 show (do let x ← convert s d (a.eval x); pure (Next.value x) : Sem Next).run P E.w = _
 rw [hi.val hx]
 refine cT ?_
 have h1 : P.underlying s = some (.int k') := by unfold TY.isInt at hs; split at hs <;> simp_all
 have h2 : P.underlying d = some (.int k) := by unfold TY.isInt at hd; split at hd <;> simp_all
 simp [convert, run_underlying h1, run_underlying h2, Conv.intToInt, hr]
end
end Go.AW
namespace Go.AW
open Go
theorem cy {w : World} {b i : Nat} {cs : Array Value} {ty : TypeId} {fr : Nat × Nat} (h : w.heap[b]? = some (.cells cs ty fr)) : w.cell? ⟨b, i, none⟩ = cs[i]? := by
 simp [World.cell?, h]
theorem fO (b off n : Nat) : (⟨b, off, none⟩ : Addr).add n = ⟨b, off + n, none⟩ := by
 unfold Addr.add
 split
 ·rename_i h; subst h; rfl
 ·rfl
section
variable {E : Env}
theorem RF.get : ∀ {row : List X} {b off k : Nat} {x : X}, RF E row b off → row[k]? = some x → ∃ u, E.φ b (off + k) = some u ∧ iE u ∧ x.nr = true ∧ RX E x u []
 | [], _, _, _, _, _, h => by simp at h
 | y :: r, b, off, 0, x, h, hx => by
  simp only [RF] at h
  simp only [List.getElem?_cons_zero, Option.some.injEq] at hx
  subst hx
  exact h.1
 | y :: r, b, off, k + 1, x, h, hx => by
  simp only [RF] at h
  obtain ⟨u, hu⟩ := RF.get (k := k) h.2 (by simpa using hx)
  exact ⟨u, by rw [show off + (k + 1) = off + 1 + k by omega]; exact hu⟩
theorem RF.drop : ∀ {row : List X} {b off : Nat} (k : Nat), RF E row b off → RF E (row.drop k) b (off + k)
 | [], _, _, _, _ => by simp [RF]
 | y :: r, b, off, 0, h => h
 | y :: r, b, off, k + 1, h => by
  simp only [RF] at h
  simp only [List.drop_succ_cons]
  rw [show off + (k + 1) = off + 1 + k by omega]
  exact RF.drop k h.2
theorem RF.take : ∀ {row : List X} {b off : Nat} (k : Nat), RF E row b off → RF E (row.take k) b off
 | [], _, _, _, _ => by simp [RF]
 | y :: r, b, off, 0, h => by simp [RF]
 | y :: r, b, off, k + 1, h => by
  simp only [RF, List.take_succ_cons] at h ⊢
  exact ⟨h.1, RF.take k h.2⟩
theorem RF.cells : ∀ {row : List X} {b off : Nat}, RF E row b off → ∃ cs : List Value, cs.length = row.length ∧ (∀ j v, cs[j]? = some v → E.φ b (off + j) = some v) ∧ bt E row cs []
 | [], _, _, _ => ⟨[], rfl, by simp, by simp [bt]⟩
 | y :: r, b, off, h => by
  simp only [RF] at h
  obtain ⟨⟨u, hu, hs, _, hx⟩, hr⟩ := h
  obtain ⟨cs, hl, hc, fR⟩ := RF.cells hr
  refine ⟨u :: cs, by simp [hl], ?_, ?_⟩
  ·intro j v hv
   cases j with
   | zero => simp at hv; subst hv; exact hu
   | succ j => rw [show off + (j + 1) = off + 1 + j by omega]; exact hc j v (by simpa using hv)
  ·simp only [bt]
   exact ⟨u, cs, [], [], rfl, hs, hx, fR, rfl⟩
theorem iF.get : ∀ {rows : List (List X)} {s b off i : Nat} {row : List X}, bJ s rows → iF E rows b off → rows[i]? = some row → RF E row b (off + i * s)
 | [], _, _, _, _, _, _, _, h => by simp at h
 | r :: rs, s, b, off, 0, row, hu, h, hr => by
  simp only [iF] at h
  simp only [List.getElem?_cons_zero, Option.some.injEq] at hr
  subst hr
  simpa using h.1
 | r :: rs, s, b, off, i + 1, row, hu, h, hr => by
  simp only [iF] at h
  have h1 := hu r (by simp)
  have := iF.get (i := i) (s := s) (fun q hq => hu q (by simp [hq])) h.2 (by simpa using hr)
  rw [h1] at this
  rw [show off + (i + 1) * s = off + s + i * s by rw [Nat.add_mul]; omega]
  exact this
theorem iF.drop : ∀ {rows : List (List X)} {s b off : Nat} (k : Nat), bJ s rows → k ≤ rows.length → iF E rows b off → iF E (rows.drop k) b (off + k * s)
 | _, _, _, _, 0, _, _, h => by simpa using h
 | [], _, _, _, k + 1, _, hk, _ => by simp at hk
 | r :: rs, s, b, off, k + 1, hu, hk, h => by
  simp only [iF] at h
  have h1 := hu r (by simp)
  rw [h1] at h
  simp only [List.drop_succ_cons]
  rw [show off + (k + 1) * s = off + s + k * s by rw [Nat.add_mul]; omega]
  exact iF.drop k (fun q hq => hu q (by simp [hq])) (by simpa using hk) h.2
theorem iF.take : ∀ {rows : List (List X)} {b off : Nat} (k : Nat), iF E rows b off → iF E (rows.take k) b off
 | [], _, _, _, _ => by simp [iF]
 | _ :: _, _, _, 0, _ => by simp [iF]
 | r :: rs, b, off, k + 1, h => by
  simp only [iF, List.take_succ_cons] at h ⊢
  exact ⟨h.1, iF.take k h.2⟩
theorem bJ.drop {s : Nat} {rows : List (List X)} (k : Nat) (h : bJ s rows) : bJ s (rows.drop k) := fun r hr => h r (List.mem_of_mem_drop hr)
theorem bJ.take {s : Nat} {rows : List (List X)} (k : Nat) (h : bJ s rows) : bJ s (rows.take k) := fun r hr => h r (List.mem_of_mem_take hr)
theorem RO.get : ∀ {xs : List X} {cs : Array Value} {off k : Nat} {R : List Nat} {x : X}, RO E xs cs off R → xs[k]? = some x →
  ∃ u R₁, cs[off + k]? = some u ∧ iE u ∧ RX E x u R₁ ∧ ∀ b ∈ R₁, b ∈ R
 | [], _, _, _, _, _, _, h => by simp at h
 | y :: r, cs, off, 0, R, x, h, hx => by
  simp only [RO] at h
  simp only [List.getElem?_cons_zero, Option.some.injEq] at hx
  subst hx
  obtain ⟨u, R₁, R₂, hu, hs, h1, _, rfl⟩ := h
  exact ⟨u, R₁, hu, hs, h1, fun b hb => bU hb⟩
 | y :: r, cs, off, k + 1, R, x, h, hx => by
  simp only [RO] at h
  obtain ⟨_, R₁, R₂, _, _, _, h2, rfl⟩ := h
  obtain ⟨u, R₃, hu, hs, h3, cP⟩ := RO.get (k := k) h2 (by simpa using hx)
  exact ⟨u, R₃, by rw [show off + (k + 1) = off + 1 + k by omega]; exact hu, hs, h3, fun b hb => bK (cP b hb)⟩
theorem RO.drop : ∀ {xs : List X} {cs : Array Value} {off : Nat} {R : List Nat} (k : Nat), RO E xs cs off R → ∃ R', RO E (xs.drop k) cs (off + k) R' ∧ ∀ b ∈ R', b ∈ R
 | [], cs, off, R, k, h => ⟨[], by simp [RO], by simp⟩
 | y :: r, cs, off, R, 0, h => ⟨R, h, fun _ h => h⟩
 | y :: r, cs, off, R, k + 1, h => by
  simp only [RO] at h
  obtain ⟨_, R₁, R₂, _, _, _, h2, rfl⟩ := h
  obtain ⟨R', h', hs⟩ := RO.drop k h2
  refine ⟨R', ?_, fun b hb => bK (hs b hb)⟩
  simp only [List.drop_succ_cons]
  rw [show off + (k + 1) = off + 1 + k by omega]; exact h'
theorem RO.take : ∀ {xs : List X} {cs : Array Value} {off : Nat} {R : List Nat} (k : Nat), RO E xs cs off R → ∃ R', RO E (xs.take k) cs off R' ∧ ∀ b ∈ R', b ∈ R
 | [], cs, off, R, k, h => ⟨[], by simp [RO], by simp⟩
 | y :: r, cs, off, R, 0, h => ⟨[], by simp [RO], by simp⟩
 | y :: r, cs, off, R, k + 1, h => by
  simp only [RO] at h
  obtain ⟨u, R₁, R₂, hu, hs, h1, h2, rfl⟩ := h
  obtain ⟨R', h', KA⟩ := RO.take k h2
  refine ⟨R₁ ++ R', ?_, ?_⟩
  ·simp only [List.take_succ_cons, RO]
   exact ⟨u, R₁, R', hu, hs, h1, h', rfl⟩
  ·intro b hb
   rcases List.mem_append.1 hb with hb | hb
   ·exact bU hb
   ·exact bK (KA b hb)
theorem RO.cells : ∀ {xs : List X} {cs : Array Value} {off : Nat} {R : List Nat}, RO E xs cs off R → ∃ vs : List Value, vs.length = xs.length ∧ (∀ j v, vs[j]? = some v → cs[off + j]? = some v) ∧ bt E xs vs R
 | [], _, _, R, h => ⟨[], rfl, by simp, by simp only [RO] at h; simp [bt, h]⟩
 | y :: r, cs, off, R, h => by
  simp only [RO] at h
  obtain ⟨u, R₁, R₂, hu, hs, h1, h2, rfl⟩ := h
  obtain ⟨vs, hl, hc, fR⟩ := RO.cells h2
  refine ⟨u :: vs, by simp [hl], ?_, ?_⟩
  ·intro j v hv
   cases j with
   | zero => simp at hv; subst hv; exact hu
   | succ j => rw [show off + (j + 1) = off + 1 + j by omega]; exact hc j v (by simpa using hv)
  ·simp only [bt]
   exact ⟨u, vs, R₁, R₂, rfl, hs, h1, fR, rfl⟩
theorem bX.get : ∀ {rows : List (List X)} {s : Nat} {cs : Array Value} {off i : Nat} {R : List Nat} {row : List X}, bJ s rows → bX E rows cs off R → rows[i]? = some row →
  ∃ R₁, X.ga row = true ∧ RO E row cs (off + i * s) R₁ ∧ ∀ b ∈ R₁, b ∈ R
 | [], _, _, _, _, _, _, _, _, h => by simp at h
 | r :: rs, s, cs, off, 0, R, row, hu, h, hr => by
  simp only [bX] at h
  simp only [List.getElem?_cons_zero, Option.some.injEq] at hr
  subst hr
  obtain ⟨R₁, R₂, hn, h1, _, rfl⟩ := h
  exact ⟨R₁, hn, by simpa using h1, fun b hb => bU hb⟩
 | r :: rs, s, cs, off, i + 1, R, row, hu, h, hr => by
  simp only [bX] at h
  obtain ⟨R₁, R₂, hn, _, h2, rfl⟩ := h
  have h1 := hu r (by simp)
  obtain ⟨R₃, pF, h3, hs⟩ := bX.get (i := i) (s := s) (fun q hq => hu q (by simp [hq])) h2 (by simpa using hr)
  rw [h1] at h3
  exact ⟨R₃, pF, by rw [show off + (i + 1) * s = off + s + i * s by rw [Nat.add_mul]; omega]; exact h3, fun b hb => bK (hs b hb)⟩
end
def rowAt (st : St) : X → Option (List X)
 | .fp row _ => some row
 | .ptr o s i _ => match look st.aC o with
  | some (.cells xs) => bif Nat.beq i 0 then some xs else none
  | some (.rows s' rs) => bif Nat.beq s s' then rs[i]? else none
  | _ => none
 | _ => none
def jZ : X → Nat
 | .fp _ k => k
 | .ptr _ _ _ k => k
 | _ => 0
section
variable {P : Program} {N : eg} {G : Ctx} {E : Env} {RR : Own → List Nat} {st : St} {a : Act}
theorem Inv.behind (hi : Inv G E RR st a) {p : X} {c : Value} {R : List Nat} {row : List X} (hp : RX E p c R) (hr : rowAt st p = some row) :
  ∃ b off, c = .pointer (some ⟨b, off + jZ p, none⟩) ∧ ∀ k m, k + m ≤ row.length →
   ∃ vs : List Value, ∃ R', vs.length = m ∧ (∀ j v, vs[j]? = some v → E.w.cell? ⟨b, off + (k + j), none⟩ = some v) ∧ bt E ((row.drop k).take m) vs R' := by
 cases p with
 | fp row' k' =>
  simp only [rowAt, Option.some.injEq] at hr
  subst hr
  simp only [RX] at hp
  obtain ⟨_, b, off, hc, hf⟩ := hp
  refine ⟨b, off, hc, fun k m O6 => ?_⟩
  obtain ⟨vs, hl, hv, hx⟩ := RF.cells (RF.take m (RF.drop k hf))
  refine ⟨vs, [], by rw [hl]; simp; omega, fun j v hj => ?_, hx⟩
  rw [← Nat.add_assoc]
  exact hi.lq _ _ _ (hv j v hj)
 | ptr o s i k' =>
  simp only [RX] at hp
  obtain ⟨_, B, hB, hc⟩ := hp
  simp only [rowAt] at hr
  split at hr
  ·rename_i xs ho
   have h0 := hi.aC o _ ho
   simp only [dN] at h0
   obtain ⟨_, B', cs, ty, im, hw, _, _, j4, _⟩ := h0
   rw [hB] at im
   obtain rfl := Option.some.inj im
   cases nj : Nat.beq i 0 with
   | false => simp [nj] at hr
   | true =>
    have := Nat.eq_of_beq_eq_true nj
    subst this
    simp only [nj, cond_true, Option.some.injEq] at hr
    subst hr
    refine ⟨B.b, B.off, by simpa [jZ] using hc, fun k m O6 => ?_⟩
    obtain ⟨R₁, h1, _⟩ := RO.drop k j4
    obtain ⟨R₂, h2, _⟩ := RO.take m h1
    obtain ⟨vs, hl, hv, hx⟩ := RO.cells h2
    refine ⟨vs, R₂, by rw [hl]; simp; omega, fun j v hj => ?_, hx⟩
    rw [cy hw, ← Nat.add_assoc]
    exact hv j v hj
  ·rename_i s' rs ho
   have h0 := hi.aC o _ ho
   simp only [dN] at h0
   obtain ⟨hu, h0⟩ := h0
   cases E5 : Nat.beq s s' with
   | false => simp [E5] at hr
   | true =>
    have := Nat.eq_of_beq_eq_true E5
    subst this
    simp only [E5, cond_true] at hr
    rcases h0 with ⟨_, h0, _⟩ | ⟨B', cs, ty, R', im, hw, _, _, _, j4, _⟩
    ·subst h0; simp at hr
    ·rw [hB] at im
     obtain rfl := Option.some.inj im
     obtain ⟨R₁, _, h1, _⟩ := bX.get hu j4 hr
     refine ⟨B.b, B.off + i * s, by rw [hc]; simp [jZ, Nat.add_assoc], fun k m O6 => ?_⟩
     obtain ⟨R₂, h2, _⟩ := RO.drop k h1
     obtain ⟨R₃, h3, _⟩ := RO.take m h2
     obtain ⟨vs, hl, hv, hx⟩ := RO.cells h3
     refine ⟨vs, R₃, by rw [hl]; simp; omega, fun j v hj => ?_, hx⟩
     rw [cy hw, ← Nat.add_assoc]
     exact hv j v hj
  ·cases hr
 | _ => simp [rowAt] at hr
end
end Go.AW
namespace Go.AW
open Go
section
variable {P : Program} {N : eg} {st : St} {dst : Option Nat} {ty : TypeId} {pos : String} {af : Array Edge} {g : Option (Nat × Bool)}
theorem TY.jm {t : TypeId} (h : TY.shape P t = some none) (w : World) : (isAgg t).run P w = .ok false w ∧ ∃ d, P.underlying t = some d := by
 unfold TY.shape at h
 cases hu : P.underlying t with
 | none => simp [hu] at h
 | some d =>
  refine ⟨?_, d, rfl⟩
  rw [hu] at h
  simp only [isAgg, Sem.run_bind, run_underlying hu, Result.andThen_ok]
  cases d <;> first | rfl | (cases hi : P.info? t <;> simp [hi] at h)
theorem TY.k9 {t : TypeId} {m : Nat} (h : TY.shape P t = some (some m)) (w : World) : (isAgg t).run P w = .ok true w ∧ (sizeOf t).run P w = .ok m w := by
 unfold TY.shape at h
 cases hu : P.underlying t with
 | none => simp [hu] at h
 | some d =>
  cases hi : P.info? t with
  | none => rw [hu, hi] at h; cases d <;> simp at h
  | some i =>
   rw [hu, hi] at h
   have hs : (sizeOf t).run P w = .ok i.size w := by simp [sizeOf, typeInfo, hi]
   have ha : ∀ d', P.underlying t = some d' → (match d' with | .struct _ | .array _ _ => true | _ => false) = true → (isAgg t).run P w = .ok true w := by
    intro d' Qe hm
    simp only [isAgg, Sem.run_bind, run_underlying Qe, Result.andThen_ok]
    cases d' <;> simp at hm <;> rfl
   cases d <;> simp at h <;> subst h <;> exact ⟨ha _ hu rfl, hs⟩
theorem getElem?_drop_take_one {α : Type} {l : List α} {k : Nat} {x : α} (h : l[k]? = some x) : (l.drop k).take 1 = [x] := by
 have hk : k < l.length := by
  rcases Nat.lt_or_ge k l.length with h' | h'
  ·exact h'
  ·simp [List.getElem?_eq_none h'] at h
 rw [List.drop_eq_getElem_cons hk]
 simp only [List.take_succ_cons, List.take_zero]
 rw [List.getElem?_eq_getElem hk] at h
 rw [Option.some.inj h]
theorem Y.qz {t : TypeId} {x : Operand} {p y : X} {row : List X} (ht : TY.shape P t = some none) (hx : bw st x = some p) (hr : rowAt st p = some row) (hy : row[jZ p]? = some y) (hf : y.free = true) :
  Yields P N st ⟨dst, .load t x, ty, pos, af, g⟩ y := by
 intro G E RR a _ hi
 obtain ⟨R, hp⟩ := hi.eval hx
 obtain ⟨b, off, hc, g7⟩ := hi.behind hp hr
 have hk : jZ p < row.length := by
  rcases Nat.lt_or_ge (jZ p) row.length with h' | h'
  ·exact h'
  ·simp [List.getElem?_eq_none h'] at hy
 obtain ⟨vs, R', hl, hv, fR⟩ := g7 (jZ p) 1 om
 rw [getElem?_drop_take_one hy] at fR
 simp only [bt] at fR
 obtain ⟨c, cG, R₁, R₂, E6, _, h1, ⟨rfl, rfl⟩, rfl⟩ := fR
 subst E6
 have h0 := RX.free hf h1
 subst h0
 refine ⟨c, ?_, h1⟩
 show (do let z ← Instr.loadAt t (a.eval x); pure (Next.value z) : Sem Next).run P E.w = _
 rw [hc]
 refine cT ?_
 have g8 := hv 0 c rfl
 simp only [Instr.loadAt, Instr.sureAddr, loadVar, Sem.run_bind, Sem.run_pure, Result.andThen_ok, (TY.jm ht E.w).1]
 simp only [Nat.add_zero] at g8
 simp [g8]
theorem Y.za {t : TypeId} {x : Operand} {p : X} {row : List X} {m : Nat} {ys : List X} (ht : TY.shape P t = some (some m)) (hx : bw st x = some p) (hr : rowAt st p = some row) (hm : jZ p + m ≤ row.length)
  (tm : (row.drop (jZ p)).take m = ys) (hf : X.bj ys = true) : Yields P N st ⟨dst, .load t x, ty, pos, af, g⟩ (.agg ys) := by
 intro G E RR a _ hi
 obtain ⟨R, hp⟩ := hi.eval hx
 obtain ⟨b, off, hc, g7⟩ := hi.behind hp hr
 obtain ⟨vs, R', hl, hv, fR⟩ := g7 (jZ p) m hm
 rw [tm] at fR
 have h0 := bt.free hf fR
 subst h0
 refine ⟨.agg vs.toArray, ?_, by simp only [RX]; exact ⟨_, rfl, fR⟩⟩
 show (do let z ← Instr.loadAt t (a.eval x); pure (Next.value z) : Sem Next).run P E.w = _
 rw [hc]
 refine cT ?_
 obtain ⟨h1, h2⟩ := TY.k9 ht E.w
 have h3 : (loadCells ⟨b, off + jZ p, none⟩ m).run P E.w = .ok vs.toArray E.w := by
  rw [← hl]
  exact run_loadCells_list (w := E.w) _ vs fun j v hj => by rw [fO, Nat.add_assoc]; exact hv j v hj
 simp only [Instr.loadAt, Instr.sureAddr, loadVar, Sem.run_bind, Sem.run_pure, Result.andThen_ok, h1, if_true, h2, h3]
theorem run_sizeOf {t : TypeId} {i : TypeInfo} (h : P.info? t = some i) (w : World) : (sizeOf t).run P w = .ok i.size w := by simp [sizeOf, typeInfo, h]
theorem TY.w9 {t : TypeId} {f off : Nat} {ft : TypeId} (h : TY.jY P t f = some (off, ft)) (b o : Nat) (w : World) :
  (Instr.fieldAt t (.pointer (some ⟨b, o, none⟩)) f).run P w = .ok (.pointer (some ⟨b, o + off, none⟩)) w := by
 unfold TY.jY at h
 cases hu : P.underlying t with
 | none => simp [hu] at h
 | some d =>
  rw [hu] at h
  cases d with
  | struct fs =>
   simp only at h
   cases hf : fs[f]? with
   | none => simp [hf] at h
   | some fd =>
    rw [hf] at h
    simp only at h
    cases hi : P.info? fd.type with
    | none => simp [hi] at h
    | some i =>
     rw [hi] at h
     simp only at h
     cases hz : Nat.beq i.size 0 with
     | true => simp [hz] at h
     | false =>
      have Qf : i.size ≠ 0 := Nat.ne_of_beq_eq_false hz
      rw [hz] at h
      simp only [cond_false, Option.some.injEq, Prod.mk.injEq] at h
      simp only [Instr.fieldAt, Sem.run_bind, run_underlying hu, Result.andThen_ok, hf, Instr.sureAddr, Sem.run_pure, fieldPlace, run_sizeOf hi, Qf, if_false, fO, h.1]
  | _ => simp at h
def X.on (n : Nat) : X → Option X
 | .fp row k => some (.fp row (k + n))
 | .ptr o s i k => some (.ptr o s i (k + n))
 | _ => none
theorem RX.on {E : Env} {p q : X} {n : Nat} {c : Value} {R : List Nat} (hq : p.on n = some q) (h : RX E p c R) : ∃ b off, c = .pointer (some ⟨b, off, none⟩) ∧ RX E q (.pointer (some ⟨b, off + n, none⟩)) [] := by
 cases p with
 | fp row k =>
  simp only [X.on, Option.some.injEq] at hq
  subst hq
  simp only [RX] at h ⊢
  obtain ⟨_, b, off, hc, hf⟩ := h
  exact ⟨b, _, hc, trivial, b, off, by rw [Nat.add_assoc], hf⟩
 | ptr o s i k =>
  simp only [X.on, Option.some.injEq] at hq
  subst hq
  simp only [RX] at h ⊢
  obtain ⟨_, B, hB, hc⟩ := h
  exact ⟨_, _, hc, trivial, B, hB, by simp only [Nat.add_assoc]⟩
 | _ => simp [X.on] at hq
theorem Y.qo {t : TypeId} {x : Operand} {p q : X} {f off : Nat} {ft : TypeId} (ht : TY.jY P t f = some (off, ft)) (hx : bw st x = some p) (hq : p.on off = some q) :
  Yields P N st ⟨dst, .fieldAddr t x f, ty, pos, af, g⟩ q := by
 intro G E RR a _ hi
 obtain ⟨R, hp⟩ := hi.eval hx
 obtain ⟨b, o, hc, h⟩ := hp.on hq
 refine ⟨_, ?_, h⟩
 show (do let z ← Instr.fieldAt t (a.eval x) f; pure (Next.value z) : Sem Next).run P E.w = _
 rw [hc]
 exact cT (TY.w9 ht b o E.w)
theorem TY.cI {t e s cE : Nat} (h : TY.slice P t = some (e, s, cE)) : P.underlying t = some (.slice e) ∧ ∃ i, P.info? e = some i ∧ i.size = s ∧ i.bytes = cE := by
 unfold TY.slice at h
 split at h
 ·rename_i e' hu
  cases hi : P.info? e' with
  | none => simp [hi] at h
  | some i =>
   simp only [hi, Option.map_some, Option.some.injEq, Prod.mk.injEq] at h
   obtain ⟨rfl, h2, h3⟩ := h
   exact ⟨hu, i, hi, h2, h3⟩
 ·cases h
theorem TY.pG {t n e s : Nat} (h : TY.array P t = some (n, e, s)) : P.underlying t = some (.array n e) ∧ ∃ i, P.info? e = some i ∧ i.size = s := by
 unfold TY.array at h
 split at h
 ·rename_i n' e' hu
  cases hi : P.info? e' with
  | none => simp [hi] at h
  | some i =>
   simp only [hi, Option.map_some, Option.some.injEq, Prod.mk.injEq] at h
   obtain ⟨rfl, rfl, h3⟩ := h
   exact ⟨hu, i, hi, h3⟩
 ·cases h
theorem j8 {t e s cE : Nat} (ht : TY.slice P t = some (e, s, cE)) {b off len cap m : Nat} {k : IntKind} {n : Int} (hn : n = (m : Int)) (hm : m < len) (w : World) :
  (Instr.indexAt t (.slice (some ⟨b, off, none⟩) len cap) (.int k n)).run P w = .ok (.pointer (some ⟨b, off + m * s, none⟩)) w := by
 obtain ⟨hu, i, hi, hs, _⟩ := TY.cI ht
 subst hn
 simp [Instr.indexAt, asIntOf, run_underlying hu, hm, run_sizeOf hi, hs, fO]
theorem Y.qr {t e s cE : Nat} {x ix : Operand} {rows : List (List X)} {row : List X} {k : IntKind} {n : Int} {m : Nat} (ht : TY.slice P t = some (e, s, cE)) (hx : bw st x = some (.fz s rows))
  (uU : bw st ix = some (.v (.int k n))) (hn : n = (m : Int)) (hr : rows[m]? = some row) : Yields P N st ⟨dst, .indexAddr t x ix, ty, pos, af, g⟩ (.fp row 0) := by
 intro G E RR a _ hi
 obtain ⟨R, hp⟩ := hi.eval hx
 have hm : m < rows.length := by
  rcases Nat.lt_or_ge m rows.length with h' | h'
  ·exact h'
  ·simp [List.getElem?_eq_none h'] at hr
 simp only [RX] at hp
 obtain ⟨_, hu, base, cap, hc, h⟩ := hp
 rcases h with ⟨h, _⟩ | ⟨b, off, rfl, hl, hf⟩
 ·subst h; simp at hr
 ·refine ⟨.pointer (some ⟨b, off + m * s, none⟩), ?_, ?_⟩
  ·show (do let z ← Instr.indexAt t (a.eval x) (a.eval ix); pure (Next.value z) : Sem Next).run P E.w = _
   rw [hc, hi.val uU]
   exact cT (j8 ht hn hm E.w)
  ·simp only [RX]
   exact ⟨trivial, b, off + m * s, rfl, iF.get hu hf hr⟩
theorem Y.qs {t e s cE : Nat} {x ix : Operand} {o lo len : Nat} {k : IntKind} {n : Int} {m : Nat} (ht : TY.slice P t = some (e, s, cE)) (hx : bw st x = some (.aY o s lo len))
  (uU : bw st ix = some (.v (.int k n))) (hn : n = (m : Int)) (hm : m < len) : Yields P N st ⟨dst, .indexAddr t x ix, ty, pos, af, g⟩ (.ptr o s (lo + m) 0) := by
 intro G E RR a _ hi
 obtain ⟨R, hp⟩ := hi.eval hx
 simp only [RX] at hp
 obtain ⟨_, base, cap, hc, h⟩ := hp
 rcases h with ⟨_, _, h, _⟩ | ⟨B, hB, _, hl, hb⟩
 ·omega
 ·have fS : base = some ⟨B.b, B.off + lo * s, none⟩ := hb.resolve_left om
  subst fS
  refine ⟨.pointer (some ⟨B.b, B.off + lo * s + m * s, none⟩), ?_, ?_⟩
  ·show (do let z ← Instr.indexAt t (a.eval x) (a.eval ix); pure (Next.value z) : Sem Next).run P E.w = _
   rw [hc, hi.val uU]
   exact cT (j8 ht hn hm E.w)
  ·simp only [RX]
   exact ⟨trivial, B, hB, by rw [Nat.add_mul]; simp [Nat.add_assoc]⟩
theorem Y.qt {t len e s : Nat} {x ix : Operand} {p q : X} {k : IntKind} {n : Int} {m : Nat} (ht : TY.array P t = some (len, e, s)) (hx : bw st x = some p)
  (uU : bw st ix = some (.v (.int k n))) (hn : n = (m : Int)) (hm : m < len) (hq : p.on (m * s) = some q) : Yields P N st ⟨dst, .indexAddr t x ix, ty, pos, af, g⟩ q := by
 intro G E RR a _ hi
 obtain ⟨R, hp⟩ := hi.eval hx
 obtain ⟨b, o, hc, h⟩ := hp.on hq
 refine ⟨_, ?_, h⟩
 show (do let z ← Instr.indexAt t (a.eval x) (a.eval ix); pure (Next.value z) : Sem Next).run P E.w = _
 rw [hc, hi.val uU]
 refine cT ?_
 obtain ⟨hu, i, fU, hs⟩ := TY.pG ht
 subst hn
 simp [Instr.indexAt, Instr.sureAddr, asIntOf, run_underlying hu, hm, run_sizeOf fU, hs, fO]
theorem bt.get {E : Env} : ∀ {xs : List X} {cs : List Value} {R : List Nat} {k : Nat} {x : X}, bt E xs cs R → xs[k]? = some x → ∃ u R₁, cs[k]? = some u ∧ iE u ∧ RX E x u R₁
 | [], _, _, _, _, _, h => by simp at h
 | y :: r, cs, R, 0, x, h, hx => by
  simp only [bt] at h
  simp only [List.getElem?_cons_zero, Option.some.injEq] at hx
  subst hx
  obtain ⟨c, cG, R₁, R₂, rfl, hs, h1, _, _⟩ := h
  exact ⟨c, R₁, rfl, hs, h1⟩
 | y :: r, cs, R, k + 1, x, h, hx => by
  simp only [bt] at h
  obtain ⟨c, cG, R₁, R₂, rfl, _, _, h2, _⟩ := h
  obtain ⟨u, R₃, hu, hs, h3⟩ := bt.get (k := k) h2 (by simpa using hx)
  exact ⟨u, R₃, by simpa using hu, hs, h3⟩
theorem bt.length {E : Env} : ∀ {xs : List X} {cs : List Value} {R : List Nat}, bt E xs cs R → cs.length = xs.length
 | [], _, _, h => by simp only [bt] at h; rw [h.1]; rfl
 | x :: r, _, _, h => by
  simp only [bt] at h
  obtain ⟨c, cG, R₁, R₂, rfl, _, _, h2, _⟩ := h
  simp [bt.length h2]
theorem bt.drop {E : Env} : ∀ {xs : List X} {cs : List Value} {R : List Nat} (k : Nat), bt E xs cs R → ∃ R', bt E (xs.drop k) (cs.drop k) R'
 | [], cs, R, k, h => by simp only [bt] at h; exact ⟨[], by simp [bt, h.1]⟩
 | y :: r, cs, R, 0, h => ⟨R, h⟩
 | y :: r, cs, R, k + 1, h => by
  simp only [bt] at h
  obtain ⟨c, cG, R₁, R₂, rfl, _, _, h2, _⟩ := h
  simpa using bt.drop k h2
theorem bt.take {E : Env} : ∀ {xs : List X} {cs : List Value} {R : List Nat} (k : Nat), bt E xs cs R → ∃ R', bt E (xs.take k) (cs.take k) R'
 | [], cs, R, k, h => by simp only [bt] at h; exact ⟨[], by simp [bt, h.1]⟩
 | y :: r, cs, R, 0, h => ⟨[], by simp [bt]⟩
 | y :: r, cs, R, k + 1, h => by
  simp only [bt] at h
  obtain ⟨c, cG, R₁, R₂, rfl, hs, h1, h2, _⟩ := h
  obtain ⟨R', h'⟩ := bt.take k h2
  exact ⟨R₁ ++ R', by simp only [List.take_succ_cons, bt]; exact ⟨c, _, R₁, R', rfl, hs, h1, h', rfl⟩⟩
theorem Y.qu {t : TypeId} {x ix : Operand} {b : ByteArray} {k : IntKind} {n : Int} {m : Nat} (ht : P.underlying t = some .string) (hx : bw st x = some (.v (.string b)))
  (uU : bw st ix = some (.v (.int k n))) (hn : n = (m : Int)) (hm : m < b.size) : Yields P N st ⟨dst, .index t x ix, ty, pos, af, g⟩ (.v (.int .u8 (b[m].toNat : Int))) := by
 intro G E RR a _ hi
 refine ⟨.int .u8 (b[m].toNat : Int), ?_, by simp [RX]⟩
 show (do let z ← Instr.index t (a.eval x) (a.eval ix); pure (Next.value z) : Sem Next).run P E.w = _
 rw [hi.val hx, hi.val uU]
 refine cT ?_
 subst hn
 have h0 : (0 : Int) ≤ (m : Int) := by omega
 simp [Instr.index, asIntOf, run_underlying ht, h0, getElem?_pos b m hm]
end
end Go.AW
namespace Go.AW
open Go
section
variable {P : Program} {N : eg} {st : St} {dst : Option Nat} {ty : TypeId} {pos : String} {af : Array Edge} {g : Option (Nat × Bool)}
theorem gj {b : Builtin} {args : Array Operand} {nk : Array TypeId} {a : Act} {w w' : World} {r : Next}
  (h : (builtin b nk ty (args.map fun | .const _ => true | _ => false) (args.map a.eval)).run P w = .ok r w') :
  (execOp a.eval ⟨dst, .call ⟨.builtin b, args, nk⟩, ty, pos, af, g⟩).run P w = .ok r w' := h
def X.len : X → Option Nat
 | .fz _ rows => some rows.length
 | .cX _ rows => some rows.length
 | .aY _ _ _ n => some n
 | .v (.slice none n _) => some n
 | _ => none
theorem RX.len {E : Env} {x : X} {c : Value} {R : List Nat} {n : Nat} (hn : x.len = some n) (h : RX E x c R) : ∃ base cap, c = .slice base n cap := by
 cases x with
 | fz s rows =>
  simp only [X.len, Option.some.injEq] at hn; subst hn
  simp only [RX] at h
  obtain ⟨_, _, base, cap, hc, _⟩ := h
  exact ⟨base, cap, hc⟩
 | cX s rows =>
  simp only [X.len, Option.some.injEq] at hn; subst hn
  simp only [RX] at h
  obtain ⟨_, base, cap, hc, _⟩ := h
  exact ⟨base, cap, hc⟩
 | aY o s lo m =>
  simp only [X.len, Option.some.injEq] at hn; subst hn
  simp only [RX] at h
  obtain ⟨_, base, cap, hc, _⟩ := h
  exact ⟨base, cap, hc⟩
 | v u =>
  simp only [RX] at h
  cases u with
  | slice b m c' =>
   cases b with
   | none => simp only [X.len, Option.some.injEq] at hn; subst hn; exact ⟨none, c', h.1⟩
   | some b => simp [X.len] at hn
  | _ => simp [X.len] at hn
 | _ => simp [X.len] at hn
theorem Y.qw {t e s cE : Nat} {x : Operand} {y : X} {n : Nat} (ht : TY.slice P t = some (e, s, cE)) (hx : bw st x = some y) (hn : y.len = some n) :
  Yields P N st ⟨dst, .call ⟨.builtin .len, #[x], #[t]⟩, ty, pos, af, g⟩ (.v (.int .i64 (n : Int))) := by
 intro G E RR a _ hi
 obtain ⟨R, hp⟩ := hi.eval hx
 obtain ⟨base, cap, hc⟩ := hp.len hn
 refine ⟨.int .i64 (n : Int), gj ?_, by simp [RX]⟩
 obtain ⟨hu, _⟩ := TY.cI ht
 simp [builtin, Builtin.len_, hc, run_underlying hu, goInt]
theorem Y.qx {t : TypeId} {x : Operand} {b : ByteArray} (ht : P.underlying t = some .string) (hx : bw st x = some (.v (.string b))) :
  Yields P N st ⟨dst, .call ⟨.builtin .len, #[x], #[t]⟩, ty, pos, af, g⟩ (.v (.int .i64 (b.size : Int))) := by
 intro G E RR a _ hi
 refine ⟨.int .i64 (b.size : Int), gj ?_, by simp [RX]⟩
 have hc := hi.val hx
 simp [builtin, Builtin.len_, hc, run_underlying ht, goInt]
def bound (st : St) (d : Nat) : Option Operand → Option Nat → Prop
 | none, m => m = none ∨ m = some d
 | some x, some m => ∃ k, bw st x = some (.v (.int k (m : Int)))
 | some _, none => False
theorem run_sliceBound {k : IntKind} {m y : Nat} {code : BoundsCode} (h : m ≤ y) (w : World) : (Instr.sliceBound (.int k (m : Int)) y code).run P w = .ok m w := by
 have h1 : (0 : Int) ≤ (m : Int) ∧ (m : Int) ≤ (y : Int) := by omega
 simp only [Instr.sliceBound, asIntOf, Sem.run_bind, Sem.run_pure, Result.andThen_ok, h1, and_self, if_true, Int.toNat_natCast]
inductive Bd (st : St) : Option Operand → Nat → Nat → Prop where
 | none (d : Nat) : Bd st none d d
 | some {x : Operand} {k : IntKind} {m d : Nat} (h : bw st x = some (.v (.int k (m : Int)))) : Bd st (some x) d m
theorem gb {G : Ctx} {E : Env} {RR : Own → List Nat} {a : Act} (hi : Inv G E RR st a) {lo gy : Option Operand} {len cap l h : Nat}
  (hl : Bd st lo 0 l) (hh : Bd st gy len h) (h1 : l ≤ h) (h2 : h ≤ cap) (Qg : Bool) (w : World) :
  (Instr.sliceBounds Qg len cap (lo.map a.eval) (gy.map a.eval) none).run P w = .ok (l, h, cap) w := by
 cases hl with
 | none =>
  cases hh with
  | none => simp [Instr.sliceBounds]
  | some hx => simp [Instr.sliceBounds, hi.val hx, run_sliceBound h2]
 | some hy =>
  cases hh with
  | none => simp [Instr.sliceBounds, hi.val hy, run_sliceBound h1]
  | some hx => simp [Instr.sliceBounds, hi.val hx, hi.val hy, run_sliceBound h1, run_sliceBound h2]
theorem Y.zz {t e s cE : Nat} {x : Operand} {lo gy : Option Operand} {rows : List (List X)} {l h : Nat} {kb : List (List X)} (ht : TY.slice P t = some (e, s, cE)) (hx : bw st x = some (.fz s rows))
  (hl : Bd st lo 0 l) (hh : Bd st gy rows.length h) (h1 : l ≤ h) (h2 : h ≤ rows.length) (hr : (rows.take h).drop l = kb) :
  Yields P N st ⟨dst, .slice t x lo gy none, ty, pos, af, g⟩ (.fz s kb) := by
 intro G E RR a _ hi
 obtain ⟨R, hp⟩ := hi.eval hx
 simp only [RX] at hp
 obtain ⟨_, hu, base, cap, hc, cJ⟩ := hp
 obtain ⟨wA, i, fU, ez, _⟩ := TY.cI ht
 subst hr
 have lv : h ≤ cap := by
  rcases cJ with ⟨h', sm⟩ | ⟨_, _, _, wB, _⟩
  ·subst h'; simp at h2; omega
  ·omega
 refine ⟨.slice (if cap = l then base else base.map (·.add (l * s))) (h - l) (cap - l), ?_, ?_⟩
 ·show (do let z ← Instr.sliceAt t (a.eval x) (lo.map a.eval) (gy.map a.eval) none; pure (Next.value z) : Sem Next).run P E.w = _
  rw [hc]
  refine cT ?_
  simp only [Instr.sliceAt, Sem.run_bind, run_underlying wA, Result.andThen_ok, Instr.slice, gb hi hl hh h1 lv, run_sizeOf fU, ez]
  rfl
 ·have hlen : ((rows.take h).drop l).length = h - l := by simp; omega
  simp only [RX, hlen]
  refine ⟨trivial, (hu.take h).drop l, _, _, rfl, ?_⟩
  rcases cJ with ⟨h', sm⟩ | ⟨b, off, hb, wB, hf⟩
  ·exact .inl ⟨by subst h'; simp, om⟩
  ·refine .inr ?_
   subst hb
   by_cases sn : cap = l
   ·refine ⟨b, off, by rw [if_pos sn], om, ?_⟩
    have : (rows.take h).drop l = [] := by
     apply List.eq_nil_of_length_eq_zero
     rw [hlen]; omega
    rw [this]; simp [iF]
   ·refine ⟨b, off + l * s, by rw [if_neg sn]; simp [fO], om, ?_⟩
    exact iF.drop l (hu.take h) (by simp; omega) (hf.take h)
theorem Y.wb {t e s cE : Nat} {x : Operand} {lo gy : Option Operand} {o O7 n l h : Nat} (ht : TY.slice P t = some (e, s, cE)) (hx : bw st x = some (.aY o s O7 n))
  (hl : Bd st lo 0 l) (hh : Bd st gy n h) (h1 : l ≤ h) (h2 : h ≤ n) : Yields P N st ⟨dst, .slice t x lo gy none, ty, pos, af, g⟩ (.aY o s (O7 + l) (h - l)) := by
 intro G E RR a _ hi
 obtain ⟨R, hp⟩ := hi.eval hx
 simp only [RX] at hp
 obtain ⟨_, base, cap, hc, cJ⟩ := hp
 obtain ⟨wA, i, fU, ez, _⟩ := TY.cI ht
 have lv : h ≤ cap := by
  rcases cJ with ⟨_, _, h', _⟩ | ⟨_, _, _, h', _⟩ <;> omega
 refine ⟨.slice (if cap = l then base else base.map (·.add (l * s))) (h - l) (cap - l), ?_, ?_⟩
 ·show (do let z ← Instr.sliceAt t (a.eval x) (lo.map a.eval) (gy.map a.eval) none; pure (Next.value z) : Sem Next).run P E.w = _
  rw [hc]
  refine cT ?_
  simp only [Instr.sliceAt, Sem.run_bind, run_underlying wA, Result.andThen_ok, Instr.slice, gb hi hl hh h1 lv, run_sizeOf fU, ez]
  rfl
 ·simp only [RX]
  refine ⟨trivial, _, _, rfl, ?_⟩
  rcases cJ with ⟨hβ, x4, hn, sm⟩ | ⟨B, hβ, Hk, hn, hb⟩
  ·exact .inl ⟨hβ, om, om, om⟩
  ·refine .inr ⟨B, hβ, om, om, ?_⟩
   by_cases sn : cap = l
   ·left; omega
   ·right
    have := hb.resolve_left om
    rw [if_neg sn, this]
    simp only [Option.map_some, fO, Nat.add_mul, Nat.add_assoc]
theorem dU.get {E : Env} : ∀ {xs : List X} {cs : List Value} {R : List Nat} {k : Nat} {x : X}, dU E xs cs R → xs[k]? = some x → ∃ u R₁, cs[k]? = some u ∧ RX E x u R₁
 | [], _, _, _, _, _, h => by simp at h
 | y :: r, cs, R, 0, x, h, hx => by
  simp only [dU] at h
  simp only [List.getElem?_cons_zero, Option.some.injEq] at hx
  subst hx
  obtain ⟨c, cG, R₁, R₂, rfl, h1, _, _⟩ := h
  exact ⟨c, R₁, rfl, h1⟩
 | y :: r, cs, R, k + 1, x, h, hx => by
  simp only [dU] at h
  obtain ⟨c, cG, R₁, R₂, rfl, _, h2, _⟩ := h
  obtain ⟨u, R₃, hu, h3⟩ := dU.get (k := k) h2 (by simpa using hx)
  exact ⟨u, R₃, by simpa using hu, h3⟩
theorem Y.qn {x : Operand} {xs : List X} {y : X} {k : Nat} (hx : bw st x = some (.tup xs)) (hy : xs[k]? = some y) (hf : y.free = true) : Yields P N st ⟨dst, .extract x k, ty, pos, af, g⟩ y := by
 intro G E RR a _ hi
 obtain ⟨R, hp⟩ := hi.eval hx
 simp only [RX] at hp
 obtain ⟨cs, hc, fR⟩ := hp
 obtain ⟨u, R₁, hu, h1⟩ := dU.get fR hy
 have h0 := RX.free hf h1
 subst h0
 refine ⟨u, ?_, h1⟩
 show (do let z ← Instr.extract (a.eval x) k; pure (Next.value z) : Sem Next).run P E.w = _
 rw [hc]
 refine cT ?_
 have Bu : cs[k]? = some u := by simpa using hu
 simp only [Instr.extract, Bu]; rfl
theorem Y.zn {x : Operand} {p q : X} (hx : bw st x = some p) (hq : p.on 0 = some q) : Yields P N st ⟨dst, .nilCheck x, ty, pos, af, g⟩ q := by
 intro G E RR a _ hi
 obtain ⟨R, hp⟩ := hi.eval hx
 obtain ⟨b, off, hc, h⟩ := hp.on hq
 refine ⟨_, ?_, h⟩
 simp only [execOp, hc]; rfl
def X.one : X → Bool
 | .v (.agg _) | .v (.tuple _) => false
 | .v _ | .fz .. | .cX .. | .ptr .. | .aY .. | .mref _ | .fp .. | .gN .. => true
 | .no | .agg _ | .tup _ => false
theorem RX.one {E : Env} {x : X} {c : Value} {R : List Nat} (ho : x.one = true) (h : RX E x c R) : iE c := by
 cases x with
 | v u =>
  simp only [RX] at h
  rw [h.1]
  cases u <;> first | trivial | (simp [X.one] at ho)
 | fz s rows => simp only [RX] at h; obtain ⟨_, _, _, _, rfl, _⟩ := h; trivial
 | cX s rows => simp only [RX] at h; obtain ⟨_, _, _, rfl, _⟩ := h; trivial
 | ptr o s i k => simp only [RX] at h; obtain ⟨_, _, _, rfl⟩ := h; trivial
 | aY o s lo n => simp only [RX] at h; obtain ⟨_, _, _, rfl, _⟩ := h; trivial
 | mref o => simp only [RX] at h; obtain ⟨_, _, _, rfl⟩ := h; trivial
 | fp row k => simp only [RX] at h; obtain ⟨_, _, _, rfl, _⟩ := h; trivial
 | gN fn f c => simp only [RX] at h; obtain ⟨_, _, _, rfl, _⟩ := h; trivial
 | _ => simp [X.one] at ho
def X.flat : X → Option (List X)
 | .agg xs => some xs
 | x => bif x.one then some [x] else none
theorem so {c : Value} (h : iE c) : c.cells = #[c] := by
 cases c <;> first | rfl | exact h.elim
theorem RX.flat {E : Env} {x : X} {c : Value} {R : List Nat} {ys : List X} (hf : x.flat = some ys) (h : RX E x c R) : bt E ys c.cells.toList R := by
 by_cases hx : ∃ xs, x = .agg xs
 ·obtain ⟨xs, rfl⟩ := hx
  simp only [X.flat, Option.some.injEq] at hf
  subst hf
  simp only [RX] at h
  obtain ⟨cs, rfl, h⟩ := h
  exact h
 ·have h1 : x.one = true ∧ ys = [x] := by
   unfold X.flat at hf
   split at hf
   ·exact absurd ⟨_, rfl⟩ hx
   ·cases ho : x.one with
    | false => simp [ho] at hf
    | true => simp [ho] at hf; exact ⟨rfl, hf.symm⟩
  obtain ⟨ho, rfl⟩ := h1
  have hs := h.one ho
  rw [so hs]
  simp only [bt]
  exact ⟨c, [], R, [], rfl, hs, h, ⟨rfl, rfl⟩, by simp⟩
end
end Go.AW
namespace Go.AW
open Go
theorem dN.mono {E E' : Env} {o : Nat} {ob : Obj} {R : List Nat} (hE : E.On E' R) (ho : E'.β o = E.β o) (hm : ∀ xs, ob = .cells xs → ∀ q, X.cH q xs = true → E'.β q = E.β q) (h : dN E o ob R) : dN E' o ob R := by
 cases ob with
 | cells xs =>
  simp only [dN] at h ⊢
  obtain ⟨pw, B, cs, ty, hB, hw, hf, hl, hR, rfl⟩ := h
  have h2 := hE.2 B.b (by simp)
  exact ⟨pw, B, cs, ty, ho.trans hB, h2.1.trans hw, h2.2 hf, hl, RO.mono xs cs _ [] (hE.sub (fun _ h => by cases h)) (hm xs rfl) hR, rfl⟩
 | rows s rs =>
  simp only [dN] at h ⊢
  obtain ⟨hu, h⟩ := h
  refine ⟨hu, ?_⟩
  rcases h with ⟨h1, h2, h3⟩ | ⟨B, cs, ty, R', hB, hw, hf, hl, hc, hR, rfl⟩
  ·exact .inl ⟨ho.trans h1, h2, h3⟩
  ·have h2 := hE.2 B.b (by simp)
   exact .inr ⟨B, cs, ty, R', ho.trans hB, h2.1.trans hw, h2.2 hf, hl, hc, bX.mono rs cs _ R' (hE.sub (fun _ h => by simp [h])) hR, rfl⟩
 | uT es =>
  simp only [dN] at h ⊢
  obtain ⟨B, pd, clock, hB, hw, hf, he, rfl⟩ := h
  have h2 := hE.2 B.b (by simp)
  exact ⟨B, pd, clock, ho.trans hB, h2.1.trans hw, h2.2 hf, he, rfl⟩
 | gone => simpa [dN] using h
structure cz (G : Ctx) (E E' : Env) (T : Nat → Prop) : Prop where
 φ : E'.φ = E.φ
 free : ∀ b, T b → ∀ i, E.φ b i = none
 out : ∀ b, T b → ¬ G.K b
 same : ∀ b, b < E.w.heap.size → ¬ T b → E'.w.heap[b]? = E.w.heap[b]?
 size : E.w.heap.size ≤ E'.w.heap.size
 os : E'.w.os = E.w.os
 tape : E'.w.tape = E.w.tape
 output : E'.w.output = E.w.output
section
variable {G : Ctx} {E E' : Env} {RR : Own → List Nat} {st : St} {a : Act} {T : Nat → Prop}
theorem cz.on (hm : cz G E E' T) (hi : Inv G E RR st a) {p : Own} (hT : ∀ b ∈ RR p, ¬ T b) : E.On E' (RR p) :=
 ⟨fun b i v h => by rw [hm.φ]; exact h, fun b hb => ⟨hm.same b (hi.own p b hb).1 (hT b hb), fun h => by rw [hm.φ]; exact h⟩⟩
theorem cz.lq (hm : cz G E E' T) (hi : Inv G E RR st a) : ∀ b i v, E'.φ b i = some v → E'.w.cell? ⟨b, i, none⟩ = some v := by
 intro b i v h
 rw [hm.φ] at h
 have h0 := hi.lq b i v h
 have gM := World.block_lt_of_cell? E.w _ h0
 have hT : ¬ T b := fun hT => by rw [hm.free b hT i] at h; cases h
 have := hm.same b gM hT
 rw [World.cell?_of_block this]; exact h0
theorem cz.ao (hm : cz G E E' T) (hi : Inv G E RR st a) : ∀ b, G.K b → E'.w.heap[b]? = G.w0.heap[b]? := by
 intro b hK
 have gM : b < E.w.heap.size := Nat.lt_of_lt_of_le (hi.small b hK) hi.size
 rw [hm.same b gM (fun hT => hm.out b hT hK)]
 exact hi.ao b hK
theorem cz.slot (hm : cz G E E' T) (hi : Inv G E RR st a) {s : Nat} {x : X} (hx : look st.aA s = some x) (hT : ∀ b ∈ RR (.slot s), ¬ T b) (hβ : ∀ o, x.dA o = true → E'.β o = E.β o) :
  RX E' x (a.tmps.getD s undef) (RR (.slot s)) :=
 RX.mono x _ _ (hm.on hi hT) hβ (hi.aA s x hx)
theorem cz.obj (hm : cz G E E' T) (hi : Inv G E RR st a) {o : Nat} {ob : Obj} (hx : look st.aC o = some ob) (hT : ∀ b ∈ RR (.obj o), ¬ T b) (ho : E'.β o = E.β o)
  (hβ : ∀ xs, ob = .cells xs → ∀ q, X.cH q xs = true → E'.β q = E.β q) : dN E' o ob (RR (.obj o)) :=
 dN.mono (hm.on hi hT) ho hβ (hi.aC o ob hx)
theorem cz.own (hm : cz G E E' T) (hi : Inv G E RR st a) : ∀ p b, b ∈ RR p → b < E'.w.heap.size ∧ ¬ G.K b :=
 fun p b hb => ⟨Nat.lt_of_lt_of_le (hi.own p b hb).1 hm.size, (hi.own p b hb).2⟩
theorem Inv.wC (hi : Inv G E RR st a) (hm : cz G E E' (fun _ => False)) (hβ : E'.β = E.β) : Inv G E' RR st a :=
 {hi with
  lq := hm.lq hi
  aA := fun s x hx => hm.slot hi hx (fun _ _ h => h) (fun o _ => by rw [hβ])
  aC := fun o ob ho => hm.obj hi ho (fun _ _ h => h) (by rw [hβ]) (fun _ _ _ _ => by rw [hβ])
  own := hm.own hi
  ao := hm.ao hi
  size := Nat.le_trans hi.size hm.size
  os := hm.os.trans hi.os
  tape := hm.tape.trans hi.tape
  output := hm.output.trans hi.output
  φ0 := fun b i v h => by rw [hm.φ]; exact hi.φ0 b i v h
  grow := fun b i v h => by rw [hm.φ] at h; exact hi.grow b i v h
  fixed := fun o h => by rw [hβ]; exact hi.fixed o h }
theorem cz.alloc (G : Ctx) (E : Env) (o : Go.Obj) : cz G E { E with w := E.w.alloc o } (fun _ => False) where
 φ := rfl
 free := fun _ h => h.elim
 out := fun _ h => h.elim
 same := fun b hb _ => by
  show (E.w.heap.push o)[b]? = _
  rw [Array.getElem?_push, if_neg om]
 size := by simp
 os := rfl
 tape := rfl
 output := rfl
theorem cz.drew (G : Ctx) (E : Env) : cz G E { E with w := E.w.drew } (fun _ => False) where
 φ := rfl
 free := fun _ h => h.elim
 out := fun _ h => h.elim
 same := fun _ _ _ => rfl
 size := Nat.le_refl _
 os := rfl
 tape := rfl
 output := rfl
theorem cz.trans {kd : Env} {T' : Nat → Prop} (h : cz G E E' T) (h' : cz G E' kd T') (cP : ∀ b, T' b → T b ∨ (E.w.heap.size ≤ b)) : cz G E kd T where
 φ := h'.φ.trans h.φ
 free := h.free
 out := h.out
 same := fun b hb hT => by
  have h1 := h.same b hb hT
  rw [← h1]
  refine h'.same b (Nat.lt_of_lt_of_le hb h.size) (fun Qh => ?_)
  rcases cP b Qh with h2 | h2
  ·exact hT h2
  ·omega
 size := Nat.le_trans h.size h'.size
 os := h'.os.trans h.os
 tape := h'.tape.trans h.tape
 output := h'.output.trans h.output
theorem cz.setRow (G : Ctx) (E : Env) (b : Nat) (cs : Array Value) (hf : ∀ i, E.φ b i = none) (hK : ¬ G.K b) : cz G E { E with w := E.w.setRow b cs } (fun c => c = b) where
 φ := rfl
 free := fun c h => by subst h; exact hf
 out := fun c h => by subst h; exact hK
 same := fun c _ h => setRow_other E.w b c cs h
 size := by simp
 os := rfl
 tape := rfl
 output := rfl
theorem Inv.relabel (hi : Inv G E RR st a) {d : Nat} {x : X} {R : List Nat} (hx : RX E x (a.tmps.getD d undef) R) (hn : R.Nodup)
  (hR : ∀ b ∈ R, b < E.w.heap.size ∧ ¬ G.K b ∧ ∀ p, p ≠ .slot d → b ∉ RR p) : Inv G E (eZ RR (.slot d) R) (st.put d x) a := by
 refine { hi with aA := ?_, aC := ?_, nodup := ?_, apart := ?_, own := ?_ }
 ·intro s y hy
  simp only [St.put, look] at hy
  cases hb : Nat.beq d s with
  | true =>
   have := Nat.eq_of_beq_eq_true hb
   subst this
   rw [hb] at hy
   simp only [cond_true, Option.some.injEq] at hy
   subst hy
   simpa [eZ] using hx
  | false =>
   have fc := Nat.ne_of_beq_eq_false hb
   rw [hb] at hy
   have : eZ RR (.slot d) R (.slot s) = RR (.slot s) := by simp [eZ, Ne.symm fc]
   rw [this]
   exact hi.aA s y hy
 ·intro o ob ho
  have : eZ RR (.slot d) R (.obj o) = RR (.obj o) := by simp [eZ]
  rw [this]; exact hi.aC o ob ho
 ·intro p
  unfold eZ
  split
  ·exact hn
  ·exact hi.nodup p
 ·intro p q lr b hb
  unfold eZ at hb ⊢
  split at hb
  ·rename_i hp
   subst hp
   rw [if_neg (Ne.symm lr)]
   exact (hR b hb).2.2 q (Ne.symm lr)
  ·split
   ·rename_i hp hq
    subst hq
    intro fS
    exact (hR b fS).2.2 p lr hb
   ·exact hi.apart p q lr b hb
 ·intro p b hb
  unfold eZ at hb
  split at hb
  ·exact ⟨(hR b hb).1, (hR b hb).2.1⟩
  ·exact hi.own p b hb
theorem Inv.no (hi : Inv G E RR st a) (d : Nat) : Inv G E (eZ RR (.slot d) []) (st.put d .no) a :=
 hi.relabel (by simp [RX]) List.nodup_nil (fun _ h => by cases h)
def St.dO (st : St) (o : Nat) (ob : Obj) : St := { st with aC := (o, ob) :: st.aC }
theorem Inv.dO (hi : Inv G E RR st a) {o : Nat} {ob : Obj} {R : List Nat} (hx : dN E o ob R) (hn : R.Nodup)
  (hR : ∀ b ∈ R, b < E.w.heap.size ∧ ¬ G.K b ∧ ∀ p, p ≠ .obj o → b ∉ RR p) : Inv G E (eZ RR (.obj o) R) (st.dO o ob) a := by
 refine { hi with aA := ?_, aC := ?_, nodup := ?_, apart := ?_, own := ?_ }
 ·intro s y hy
  have : eZ RR (.obj o) R (.slot s) = RR (.slot s) := by simp [eZ]
  rw [this]; exact hi.aA s y hy
 ·intro q uH ho
  simp only [St.dO, look] at ho
  cases hb : Nat.beq o q with
  | true =>
   have := Nat.eq_of_beq_eq_true hb
   subst this
   rw [hb] at ho
   simp only [cond_true, Option.some.injEq] at ho
   subst ho
   simpa [eZ] using hx
  | false =>
   have fc := Nat.ne_of_beq_eq_false hb
   rw [hb] at ho
   have : eZ RR (.obj o) R (.obj q) = RR (.obj q) := by simp [eZ, Ne.symm fc]
   rw [this]
   exact hi.aC q uH ho
 ·intro p
  unfold eZ
  split
  ·exact hn
  ·exact hi.nodup p
 ·intro p q lr b hb
  unfold eZ at hb ⊢
  split at hb
  ·rename_i hp
   subst hp
   rw [if_neg (Ne.symm lr)]
   exact (hR b hb).2.2 q (Ne.symm lr)
  ·split
   ·rename_i hp hq
    subst hq
    intro fS
    exact (hR b fS).2.2 p lr hb
   ·exact hi.apart p q lr b hb
 ·intro p b hb
  unfold eZ at hb
  split at hb
  ·exact ⟨(hR b hb).1, (hR b hb).2.1⟩
  ·exact hi.own p b hb
end
def kX (o : Nat) (x : X) : X := bif x.dA o then .no else x
def sq (o : Nat) (l : List (Nat × X)) : List (Nat × X) := l.map fun p => (p.1, kX o p.2)
def Obj.wD (o : Nat) : Obj → Obj
 | .cells xs => .cells (xs.map (kX o))
 | ob => ob
def uV (o : Nat) (l : List (Nat × Obj)) : List (Nat × Obj) := l.map fun p => (p.1, p.2.wD o)
def St.kill (st : St) (o : Nat) : St := ⟨sq o st.aA, uV o st.aC⟩
theorem lx {α β : Type} (f : α → β) : ∀ (l : List (Nat × α)) (s : Nat), look (l.map fun p => (p.1, f p.2)) s = (look l s).map f
 | [], _ => rfl
 | (t, x) :: r, s => by
  simp only [List.map_cons, look]
  cases Nat.beq t s with
  | true => rfl
  | false => exact lx f r s
theorem uW (o : Nat) {x : X} (h : x.free = true) : (kX o x).free = true := by
 unfold kX
 cases x.dA o with
 | true => rfl
 | false => exact h
theorem pH (o : Nat) : ∀ {xs : List X}, X.bj xs = true → X.bj (xs.map (kX o)) = true
 | [], _ => rfl
 | x :: r, h => by
  simp only [X.bj, Bool.and_eq_true] at h
  simp only [List.map_cons, X.bj, uW o h.1, pH o h.2, Bool.and_self]
theorem RO.kill {E : Env} {o : Nat} : ∀ {xs : List X} {cs : Array Value} {off : Nat}, X.bj xs = true → RO E xs cs off [] → RO E (xs.map (kX o)) cs off []
 | [], _, _, _, h => h
 | x :: r, cs, off, hf, h => by
  simp only [RO] at h
  obtain ⟨u, R₁, R₂, hu, hs, h1, h2, hR⟩ := h
  simp only [X.bj, Bool.and_eq_true] at hf
  have KB := RX.free hf.1 h1
  have KC := RO.free hf.2 h2
  subst KB; subst KC
  have h3 := RO.kill (o := o) hf.2 h2
  simp only [List.map_cons, RO]
  refine ⟨u, [], [], hu, hs, ?_, h3, rfl⟩
  unfold kX
  cases x.dA o with
  | true => simp [RX]
  | false => exact h1
theorem mG (o : Nat) : ∀ (xs : List X) (q : Nat), X.cH q (xs.map (kX o)) = true → q ≠ o ∧ X.cH q xs = true
 | [], _, h => by simp [X.cH] at h
 | x :: r, q, h => by
  simp only [List.map_cons, X.cH, Bool.or_eq_true] at h ⊢
  rcases h with h | h
  ·unfold kX at h
   cases hk : x.dA o with
   | true => simp [hk, X.dA] at h
   | false =>
    rw [hk] at h
    simp only [cond_false] at h
    exact ⟨fun hq => by (subst hq; rw [hk] at h; cases h), .inl h⟩
  ·exact ⟨(mG o r q h).1, .inr (mG o r q h).2⟩
section
variable {G : Ctx} {E E' : Env} {RR : Own → List Nat} {st : St} {a : Act} {T : Nat → Prop}
theorem Inv.tp (hi : Inv G E RR st a) {o b : Nat} (h : b ∈ RR (.obj o) ∨ E.w.heap.size ≤ b) : ∀ p, p ≠ .obj o → b ∉ RR p := by
 intro p hp hb
 rcases h with h | h
 ·exact hi.apart p _ hp b hb h
 ·have := (hi.own p b hb).1; omega
def fM (st : St) (RR : Own → List Nat) (o : Nat) (R : List Nat) : Own → List Nat
 | .obj q => if q = o then R else RR (.obj q)
 | .slot s => match look st.aA s with
  | some x => bif x.dA o then [] else RR (.slot s)
  | none => RR (.slot s)
theorem kA (st : St) (RR : Own → List Nat) (o : Nat) (R : List Nat) (s : Nat) : fM st RR o R (.slot s) = [] ∨ fM st RR o R (.slot s) = RR (.slot s) := by
 cases hs : look st.aA s with
 | none => exact .inr (by simp [fM, hs])
 | some x => cases hk : x.dA o with
  | true => exact .inl (by simp [fM, hs, hk])
  | false => exact .inr (by simp [fM, hs, hk])
theorem Inv.m4 (hi : Inv G E RR st a) (hm : cz G E E' T) {o : Nat} {ob : Obj} {R : List Nat} (hT : ∀ b, T b → b ∈ RR (.obj o)) (hβ : ∀ q, q ≠ o → E'.β q = E.β q) (KD : G.fn.F.elem o = true → E'.β o = E.β o)
  (hx : dN E' o ob R) (hn : R.Nodup) (hR : ∀ b ∈ R, b < E'.w.heap.size ∧ ¬ G.K b ∧ ∀ p, p ≠ .obj o → b ∉ RR p) :
  Inv G E' (fM st RR o R) ((st.kill o).dO o ob) a := by
 have hold : ∀ p, p ≠ .obj o → ∀ b ∈ RR p, ¬ T b := fun p hp b hb DB => hi.apart p (.obj o) hp b hb (hT b DB)
 have cP : ∀ p, p ≠ .obj o → ∀ b ∈ fM st RR o R p, b ∈ RR p := by
  intro p hp b hb
  cases p with
  | obj q =>
   have : q ≠ o := fun e => hp (by rw [e])
   simpa [fM, this] using hb
  | slot s =>
   rcases kA st RR o R s with h | h
   ·rw [h] at hb; cases hb
   ·rw [h] at hb; exact hb
 have tq : fM st RR o R (.obj o) = R := by simp [fM]
 have mH : ∀ p, p ≠ .obj o → ∀ b ∈ RR p, b ∉ R := by
  intro p hp b hb E7
  exact (hR b E7).2.2 p hp hb
 have KE : ∀ b i v, G.φ0 b i = some v → E'.φ b i = some v := fun b i v h => by rw [hm.φ]; exact hi.φ0 b i v h
 have yA : ∀ b i v, E'.φ b i = some v → G.φ0 b i = some v ∨ ¬ G.K b := fun b i v h => by rw [hm.φ] at h; exact hi.grow b i v h
 refine { hi with lq := hm.lq hi, aA := ?_, aC := ?_, nodup := ?_, apart := ?_, own := ?_, ao := hm.ao hi, size := Nat.le_trans hi.size hm.size, os := hm.os.trans hi.os, tape := hm.tape.trans hi.tape, output := hm.output.trans hi.output, φ0 := KE, grow := yA, fixed := ?_ }
 ·intro s y hy
  have hl : look (sq o st.aA) s = some y := hy
  unfold sq at hl
  rw [lx (kX o)] at hl
  cases hs : look st.aA s with
  | none => simp [hs] at hl
  | some x =>
   rw [hs] at hl
   simp only [Option.map_some, Option.some.injEq] at hl
   subst hl
   cases hk : x.dA o with
   | true => simp [fM, hs, hk, kX, RX]
   | false =>
    have : fM st RR o R (.slot s) = RR (.slot s) := by simp [fM, hs, hk]
    rw [this]
    simp only [kX, hk, cond_false]
    exact hm.slot hi hs (hold _ (by simp)) (fun q hq => hβ q (fun e => by subst e; rw [hk] at hq; cases hq))
 ·intro q uH ho
  simp only [St.dO, look] at ho
  cases hb : Nat.beq o q with
  | true =>
   have := Nat.eq_of_beq_eq_true hb
   subst this
   rw [hb] at ho
   simp only [cond_true, Option.some.injEq] at ho
   subst ho
   rw [tq]; exact hx
  | false =>
   have fc := Nat.ne_of_beq_eq_false hb
   rw [hb] at ho
   have hl : look (uV o st.aC) q = some uH := ho
   unfold uV at hl
   rw [lx (Obj.wD o)] at hl
   have hr : fM st RR o R (.obj q) = RR (.obj q) := by simp [fM, Ne.symm fc]
   rw [hr]
   cases hs : look st.aC q with
   | none => simp [hs] at hl
   | some Hl =>
    rw [hs] at hl
    simp only [Option.map_some, Option.some.injEq] at hl
    subst hl
    have lk := hi.aC q Hl hs
    have iG := hm.on hi (p := .obj q) (hold _ (by simpa using Ne.symm fc))
    cases Hl with
    | cells xs =>
     simp only [Obj.wD, dN] at lk ⊢
     obtain ⟨pw, B, cs, ty, hB, hw, hf, hlen, j4, iH⟩ := lk
     have h2 := iG.2 B.b (by rw [iH]; simp)
     exact ⟨pH o pw, B, cs, ty, (hβ q (Ne.symm fc)).trans hB, h2.1.trans hw, h2.2 hf, by simpa using hlen,
      RO.mono _ cs _ [] (iG.sub (fun _ h => by cases h)) (fun p hp => hβ p (mG o xs p hp).1) (RO.kill pw j4), iH⟩
    | rows s rs => exact dN.mono iG (hβ q (Ne.symm fc)) (fun xs h => by cases h) lk
    | uT es => exact dN.mono iG (hβ q (Ne.symm fc)) (fun xs h => by cases h) lk
    | gone => simpa [dN, Obj.wD] using lk
 ·intro p
  by_cases hp : p = .obj o
  ·subst hp; rw [tq]; exact hn
  ·cases p with
   | obj q =>
    have : q ≠ o := fun e => hp (by rw [e])
    simpa [fM, this] using hi.nodup (.obj q)
   | slot s =>
    rcases kA st RR o R s with h | h
    ·rw [h]; exact List.nodup_nil
    ·rw [h]; exact hi.nodup _
 ·intro p q lr b hb fS
  by_cases hp : p = .obj o
  ·subst hp
   rw [tq] at hb
   have hq : q ≠ .obj o := Ne.symm lr
   exact mH q hq b (cP q hq b fS) hb
  ·by_cases hq : q = .obj o
   ·subst hq
    rw [tq] at fS
    exact mH p hp b (cP p hp b hb) fS
   ·exact hi.apart p q lr b (cP p hp b hb) (cP q hq b fS)
 ·intro p b hb
  by_cases hp : p = .obj o
  ·subst hp
   rw [tq] at hb
   exact ⟨(hR b hb).1, (hR b hb).2.1⟩
  ·exact hm.own hi p b (cP p hp b hb)
 ·intro q hq
  by_cases O8 : q = o
  ·subst O8; rw [KD hq]; exact hi.fixed q hq
  ·rw [hβ q O8]; exact hi.fixed q hq
theorem Inv.yB (hi : Inv G E RR st a) (hm : cz G E E' T) {o : Nat} {ob : Obj} {R : List Nat} (hT : ∀ b, T b → b ∈ RR (.obj o)) (hβ : E'.β = E.β)
  (hx : dN E' o ob R) (hn : R.Nodup) (hR : ∀ b ∈ R, b < E'.w.heap.size ∧ ¬ G.K b ∧ ∀ p, p ≠ .obj o → b ∉ RR p) :
  Inv G E' (eZ RR (.obj o) R) (st.dO o ob) a := by
 have hold : ∀ p, p ≠ .obj o → ∀ b ∈ RR p, ¬ T b := fun p hp b hb DB => hi.apart p (.obj o) hp b hb (hT b DB)
 have mH : ∀ p, p ≠ .obj o → ∀ b ∈ RR p, b ∉ R := by
  intro p hp b hb E7
  exact (hR b E7).2.2 p hp hb
 have KE : ∀ b i v, G.φ0 b i = some v → E'.φ b i = some v := fun b i v h => by rw [hm.φ]; exact hi.φ0 b i v h
 have yA : ∀ b i v, E'.φ b i = some v → G.φ0 b i = some v ∨ ¬ G.K b := fun b i v h => by rw [hm.φ] at h; exact hi.grow b i v h
 refine { hi with lq := hm.lq hi, aA := ?_, aC := ?_, nodup := ?_, apart := ?_, own := ?_, ao := hm.ao hi, size := Nat.le_trans hi.size hm.size, os := hm.os.trans hi.os, tape := hm.tape.trans hi.tape, output := hm.output.trans hi.output, φ0 := KE, grow := yA, fixed := fun q hq => by rw [hβ]; exact hi.fixed q hq }
 ·intro s y hy
  have : eZ RR (.obj o) R (.slot s) = RR (.slot s) := by simp [eZ]
  rw [this]
  exact hm.slot hi hy (hold _ (by simp)) (fun q _ => by rw [hβ])
 ·intro q uH ho
  simp only [St.dO, look] at ho
  cases hb : Nat.beq o q with
  | true =>
   have := Nat.eq_of_beq_eq_true hb
   subst this
   rw [hb] at ho
   simp only [cond_true, Option.some.injEq] at ho
   subst ho
   simpa [eZ] using hx
  | false =>
   have fc := Nat.ne_of_beq_eq_false hb
   rw [hb] at ho
   have : eZ RR (.obj o) R (.obj q) = RR (.obj q) := by simp [eZ, Ne.symm fc]
   rw [this]
   exact hm.obj hi ho (hold _ (by simpa using Ne.symm fc)) (by rw [hβ]) (fun _ _ _ _ => by rw [hβ])
 ·intro p
  unfold eZ
  split
  ·exact hn
  ·exact hi.nodup p
 ·intro p q lr b hb fS
  unfold eZ at hb fS
  split at hb
  ·rename_i hp
   subst hp
   rw [if_neg (Ne.symm lr)] at fS
   exact mH q (Ne.symm lr) b fS hb
  ·rename_i hp
   split at fS
   ·exact mH p hp b hb fS
   ·exact hi.apart p q lr b hb fS
 ·intro p b hb
  unfold eZ at hb
  split at hb
  ·exact ⟨(hR b hb).1, (hR b hb).2.1⟩
  ·exact hm.own hi p b hb
end
end Go.AW
namespace Go.AW
open Go
section
variable {E : Env}
theorem RO.ext : ∀ {xs : List X} {cs cG : Array Value} {off : Nat} {R : List Nat}, (∀ j, j < xs.length → cG[off + j]? = cs[off + j]?) → RO E xs cs off R → RO E xs cG off R
 | [], _, _, _, _, _, h => by simpa [RO] using h
 | x :: r, cs, cG, off, R, he, h => by
  simp only [RO] at h ⊢
  obtain ⟨u, R₁, R₂, hu, hs, h1, h2, hR⟩ := h
  refine ⟨u, R₁, R₂, ?_, hs, h1, RO.ext (fun j hj => ?_) h2, hR⟩
  ·have := he 0 (by simp)
   rw [Nat.add_zero] at this
   rw [this]; exact hu
  ·have := he (j + 1) (by simp; omega)
   rw [show off + 1 + j = off + (j + 1) by omega]; exact this
theorem bX.ext : ∀ {rs : List (List X)} {cs cG : Array Value} {off : Nat} {R : List Nat}, (∀ j, j < rs.flatten.length → cG[off + j]? = cs[off + j]?) → bX E rs cs off R → bX E rs cG off R
 | [], _, _, _, _, _, h => by simpa [bX] using h
 | x :: r, cs, cG, off, R, he, h => by
  simp only [bX] at h ⊢
  obtain ⟨R₁, R₂, hn, h1, h2, hR⟩ := h
  refine ⟨R₁, R₂, hn, RO.ext (fun j hj => he j (by simp; omega)) h1, bX.ext (fun j hj => ?_) h2, hR⟩
  have := he (x.length + j) (by simp at hj ⊢; omega)
  rw [Nat.add_assoc]; exact this
theorem RO.app : ∀ {xs ys : List X} {cs : Array Value} {off : Nat} {R₁ R₂ : List Nat}, RO E xs cs off R₁ → RO E ys cs (off + xs.length) R₂ → RO E (xs ++ ys) cs off (R₁ ++ R₂)
 | [], ys, cs, off, R₁, R₂, h, h' => by simp only [RO] at h; subst h; simpa using h'
 | x :: r, ys, cs, off, R₁, R₂, h, h' => by
  simp only [RO] at h
  obtain ⟨u, R₃, R₄, hu, hs, h1, h2, rfl⟩ := h
  simp only [List.cons_append, RO]
  refine ⟨u, R₃, R₄ ++ R₂, hu, hs, h1, RO.app h2 ?_, by simp⟩
  rw [show off + 1 + r.length = off + (x :: r).length by simp; omega]; exact h'
theorem RO.nw : ∀ {xs ys : List X} {cs : Array Value} {off : Nat} {R : List Nat}, RO E (xs ++ ys) cs off R → ∃ R₁ R₂, RO E xs cs off R₁ ∧ RO E ys cs (off + xs.length) R₂ ∧ R = R₁ ++ R₂
 | [], ys, cs, off, R, h => ⟨[], R, by simp [RO], by simpa using h, rfl⟩
 | x :: r, ys, cs, off, R, h => by
  simp only [List.cons_append, RO] at h
  obtain ⟨u, R₃, R₄, hu, hs, h1, h2, rfl⟩ := h
  obtain ⟨R₁, R₂, h3, h4, rfl⟩ := RO.nw h2
  refine ⟨R₃ ++ R₁, R₂, ?_, ?_, by simp⟩
  ·simp only [RO]; exact ⟨u, R₃, R₁, hu, hs, h1, h3, rfl⟩
  ·rw [show off + (x :: r).length = off + 1 + r.length by simp; omega]; exact h4
theorem bX.app : ∀ {xs ys : List (List X)} {cs : Array Value} {off : Nat} {R₁ R₂ : List Nat}, bX E xs cs off R₁ → bX E ys cs (off + xs.flatten.length) R₂ → bX E (xs ++ ys) cs off (R₁ ++ R₂)
 | [], ys, cs, off, R₁, R₂, h, h' => by simp only [bX] at h; subst h; simpa using h'
 | x :: r, ys, cs, off, R₁, R₂, h, h' => by
  simp only [bX] at h
  obtain ⟨R₃, R₄, hn, h1, h2, rfl⟩ := h
  simp only [List.cons_append, bX]
  refine ⟨R₃, R₄ ++ R₂, hn, h1, bX.app h2 ?_, by simp⟩
  rw [show off + x.length + r.flatten.length = off + (x :: r).flatten.length by simp; omega]; exact h'
theorem bX.nw : ∀ {xs ys : List (List X)} {cs : Array Value} {off : Nat} {R : List Nat}, bX E (xs ++ ys) cs off R → ∃ R₁ R₂, bX E xs cs off R₁ ∧ bX E ys cs (off + xs.flatten.length) R₂ ∧ R = R₁ ++ R₂
 | [], ys, cs, off, R, h => ⟨[], R, by simp [bX], by simpa using h, rfl⟩
 | x :: r, ys, cs, off, R, h => by
  simp only [List.cons_append, bX] at h
  obtain ⟨R₃, R₄, hn, h1, h2, rfl⟩ := h
  obtain ⟨R₁, R₂, h3, h4, rfl⟩ := bX.nw h2
  refine ⟨R₃ ++ R₁, R₂, ?_, ?_, by simp⟩
  ·simp only [bX]; exact ⟨R₃, R₁, hn, h1, h3, rfl⟩
  ·rw [show off + (x :: r).flatten.length = off + x.length + r.flatten.length by simp; omega]; exact h4
theorem RO.of : ∀ {xs : List X} {vs : List Value} {cs : Array Value} {off : Nat} {R : List Nat}, bt E xs vs R → (∀ j v, vs[j]? = some v → cs[off + j]? = some v) → RO E xs cs off R
 | [], _, _, _, _, h, _ => by simp only [bt] at h; simp [RO, h.2]
 | x :: r, vs, cs, off, R, h, hv => by
  simp only [bt] at h
  obtain ⟨c, cG, R₁, R₂, rfl, hs, h1, h2, rfl⟩ := h
  simp only [RO]
  refine ⟨c, R₁, R₂, ?_, hs, h1, RO.of h2 (fun j v hj => ?_), rfl⟩
  ·simpa using hv 0 c rfl
  ·rw [show off + 1 + j = off + (j + 1) by omega]; exact hv (j + 1) v (by simpa using hj)
theorem length_flatten {s : Nat} : ∀ {rs : List (List X)}, bJ s rs → rs.flatten.length = rs.length * s
 | [], _ => by simp
 | r :: rs, h => by
  have h1 := h r (by simp)
  have := length_flatten (rs := rs) (fun q hq => h q (by simp [hq]))
  simp only [List.flatten_cons, List.length_append, h1, this, List.length_cons, Nat.add_mul]
  omega
end
def iR {α : Type} (xs : List α) (k : Nat) (ys : List α) : List α := xs.take k ++ ys ++ xs.drop (k + ys.length)
theorem j9 {α : Type} {xs ys : List α} {k : Nat} (h : k + ys.length ≤ xs.length) : (iR xs k ys).length = xs.length := by
 simp [iR]; omega
def jn (cs : Array Value) (k : Nat) (vs : List Value) : Array Value := (cs.toList.take k ++ vs ++ cs.toList.drop (k + vs.length)).toArray
theorem lU {cs : Array Value} {k : Nat} {vs : List Value} (h : k + vs.length ≤ cs.size) : (jn cs k vs).size = cs.size := by
 simp [jn]; omega
theorem wE {cs : Array Value} {k j : Nat} {vs : List Value} (h : k + vs.length ≤ cs.size) (hj : j < vs.length) : (jn cs k vs)[k + j]? = vs[j]? := by
 have hk : k ≤ cs.toList.length := by simp; omega
 simp only [jn, List.getElem?_toArray, List.append_assoc]
 rw [List.getElem?_append_right (by simp; omega)]
 have : k + j - (List.take k cs.toList).length = j := by simp; omega
 rw [this, List.getElem?_append_left hj]
theorem ly {cs : Array Value} {k j : Nat} {vs : List Value} (h : k + vs.length ≤ cs.size) (hj : j < k ∨ k + vs.length ≤ j) : (jn cs k vs)[j]? = cs[j]? := by
 have hk : k ≤ cs.toList.length := by simp; omega
 have hl : (List.take k cs.toList).length = k := by simp; omega
 simp only [jn, List.getElem?_toArray, List.append_assoc]
 rcases hj with hj | hj
 ·rw [List.getElem?_append_left om, List.getElem?_take_of_lt hj]; simp
 ·rw [List.getElem?_append_right om, List.getElem?_append_right om, hl, List.getElem?_drop]
  have : k + vs.length + (j - k - vs.length) = j := by omega
  rw [this]; simp
section
variable {E : Env}
theorem RO.put {xs ys : List X} {cs : Array Value} {off k : Nat} {R R₂ : List Nat} {vs : List Value} (h : RO E xs cs off R) (hk : k + ys.length ≤ xs.length) (hy : bt E ys vs R₂) (hc : off + xs.length ≤ cs.size) :
  ∃ R₁, RO E (iR xs k ys) (jn cs (off + k) vs) off R₁ ∧ (∀ b ∈ R₁, b ∈ R ∨ b ∈ R₂) ∧ ((R ++ R₂).Nodup → R₁.Nodup) := by
 have hl := bt.length hy
 have pe : off + k + vs.length ≤ cs.size := by omega
 have h0 : xs = xs.take k ++ ((xs.drop k).take ys.length ++ xs.drop (k + ys.length)) := by
  conv => lhs; rw [← List.take_append_drop k xs, ← List.take_append_drop ys.length (xs.drop k), List.drop_drop]
 rw [h0] at h
 obtain ⟨Ra, Rb, h1, h2, rfl⟩ := RO.nw h
 obtain ⟨Rc, Rd, h3, h4, rfl⟩ := RO.nw h2
 have O9 : (xs.take k).length = k := by simp; omega
 have KF : ((xs.drop k).take ys.length).length = ys.length := by simp; omega
 rw [O9, KF] at h4
 refine ⟨Ra ++ R₂ ++ Rd, ?_, ?_, ?_⟩
 ·unfold iR
  refine RO.app (RO.app (RO.ext (fun j hj => ly pe (.inl om)) h1) ?_) ?_
  ·rw [O9]
   refine RO.of hy fun j v hj => ?_
   have lV : j < vs.length := by
    rcases Nat.lt_or_ge j vs.length with h' | h'
    ·exact h'
    ·simp [List.getElem?_eq_none h'] at hj
   rw [wE pe lV]; exact hj
  ·have : off + (List.take k xs ++ ys).length = off + k + ys.length := by simp; omega
   rw [this]
   exact RO.ext (fun j _ => ly pe (.inr om)) h4
 ·intro b hb
  simp only [List.mem_append] at hb ⊢
  rcases hb with (hb | hb) | hb
  ·exact .inl (.inl hb)
  ·exact .inr hb
  ·exact .inl (.inr (.inr hb))
 ·intro hn
  simp only [List.nodup_append, List.mem_append] at hn ⊢
  obtain ⟨⟨ha, ⟨nv, hd, Hm⟩, E8⟩, KG, hx⟩ := hn
  refine ⟨⟨ha, KG, fun a uX b hb => hx a (.inl uX) b hb⟩, hd, ?_⟩
  intro a uX b hb
  rcases uX with uX | uX
  ·exact E8 a uX b (.inr hb)
  ·intro e; subst e; exact hx a (.inr (.inr hb)) a uX rfl
theorem bX.set {rs : List (List X)} {row ys : List X} {cs : Array Value} {off s i k : Nat} {R R₂ : List Nat} {vs : List Value} (hu : bJ s rs) (h : bX E rs cs off R) (hr : rs[i]? = some row)
  (hk : k + ys.length ≤ row.length) (hy : bt E ys vs R₂) (hn : X.ga ys = true) (hc : off + rs.length * s ≤ cs.size) :
  ∃ R₁, bX E (rs.set i (iR row k ys)) (jn cs (off + (i * s + k)) vs) off R₁ ∧ (∀ b ∈ R₁, b ∈ R ∨ b ∈ R₂) ∧ ((R ++ R₂).Nodup → R₁.Nodup) := by
 have hi : i < rs.length := by
  rcases Nat.lt_or_ge i rs.length with h' | h'
  ·exact h'
  ·simp [List.getElem?_eq_none h'] at hr
 have hl := bt.length hy
 have og : row.length = s := hu row (List.mem_of_getElem? hr)
 have Qi : rs[i] = row := by rw [List.getElem?_eq_getElem hi] at hr; exact Option.some.inj hr
 have h0 : rs = rs.take i ++ (row :: rs.drop (i + 1)) := by
  conv => lhs; rw [← List.take_append_drop i rs, List.drop_eq_getElem_cons hi, Qi]
 have KH : rs.set i (iR row k ys) = rs.take i ++ (iR row k ys :: rs.drop (i + 1)) := by
  rw [List.set_eq_take_append_cons_drop, if_pos hi]
 rw [h0] at h
 obtain ⟨Ra, Rb, h1, h2, rfl⟩ := bX.nw h
 have rp : (rs.take i).flatten.length = i * s := by
  rw [length_flatten (hu.take i), List.length_take, Nat.min_eq_left (Nat.le_of_lt hi)]
 rw [rp] at h2
 simp only [bX] at h2
 obtain ⟨Rc, Rd, yp, h3, h4, rfl⟩ := h2
 have Kf : i * s + s ≤ rs.length * s := by
  have : (i + 1) * s ≤ rs.length * s := Nat.mul_le_mul_right s hi
  rw [Nat.add_mul] at this; omega
 have pe : off + (i * s + k) + vs.length ≤ cs.size := by omega
 obtain ⟨Re, h5, cP, jA⟩ := RO.put h3 hk hy om
 rw [KH]
 refine ⟨Ra ++ (Re ++ Rd), ?_, ?_, ?_⟩
 ·refine bX.app (bX.ext (fun j hj => ly pe (.inl om)) h1) ?_
  rw [rp]
  simp only [bX]
  have Qj : (iR row k ys).length = row.length := j9 hk
  refine ⟨Re, Rd, ?_, ?_, ?_, rfl⟩
  ·have h7 : ∀ (xs ys : List X), X.ga xs = true → X.ga ys = true → X.ga (xs ++ ys) = true := by
    intro xs
    induction xs with
    | nil => intro ys _ h; exact h
    | cons x r ih => intro ys hx hy; simp only [X.ga, Bool.and_eq_true, List.cons_append] at hx ⊢; exact ⟨hx.1, ih ys hx.2 hy⟩
   have h8 : ∀ (xs : List X) (n : Nat), X.ga xs = true → X.ga (xs.take n) = true := by
    intro xs
    induction xs with
    | nil => intro n _; simp [X.ga]
    | cons x r ih =>
     intro n hx
     cases n with
     | zero => simp [X.ga]
     | succ n => simp only [X.ga, Bool.and_eq_true, List.take_succ_cons] at hx ⊢; exact ⟨hx.1, ih n hx.2⟩
   have h9 : ∀ (xs : List X) (n : Nat), X.ga xs = true → X.ga (xs.drop n) = true := by
    intro xs
    induction xs with
    | nil => intro n _; simp [X.ga]
    | cons x r ih =>
     intro n hx
     cases n with
     | zero => simpa using hx
     | succ n => simp only [X.ga, Bool.and_eq_true, List.drop_succ_cons] at hx ⊢; exact ih n hx.2
   exact h7 _ _ (h7 _ _ (h8 _ _ yp) hn) (h9 _ _ yp)
  ·rw [Nat.add_assoc] at h5; exact h5
  ·rw [Qj]
   exact bX.ext (fun j _ => ly pe (.inr om)) h4
 ·intro b hb
  simp only [List.mem_append] at hb ⊢
  rcases hb with hb | hb | hb
  ·exact .inl (.inl hb)
  ·rcases cP b hb with h' | h'
   ·exact .inl (.inr (.inl h'))
   ·exact .inr h'
  ·exact .inl (.inr (.inr hb))
 ·intro lz
  simp only [List.nodup_append, List.mem_append] at lz jA ⊢
  obtain ⟨⟨ha, ⟨nv, hd, Hm⟩, E8⟩, KG, hx⟩ := lz
  have Qk := jA ⟨nv, KG, fun a uX b hb => hx a (.inr (.inl uX)) b hb⟩
  refine ⟨ha, ⟨Qk, hd, ?_⟩, ?_⟩
  ·intro a uX b hb
   rcases cP a uX with h' | h'
   ·exact Hm a h' b hb
   ·intro e; subst e; exact hx a (.inr (.inr hb)) a h' rfl
  ·intro a uX b hb
   rcases hb with hb | hb
   ·rcases cP b hb with h' | h'
    ·exact E8 a uX b (.inl h')
    ·exact hx a (.inl uX) b h'
   ·exact E8 a uX b (.inr hb)
theorem bJ.set {s i : Nat} {rs : List (List X)} {row : List X} (hu : bJ s rs) (h : row.length = s) : bJ s (rs.set i row) := by
 intro r hr
 rcases List.mem_or_eq_of_mem_set hr with h' | h'
 ·exact hu r h'
 ·rw [h']; exact h
end
end Go.AW
namespace Go.AW
open Go
def X.ry : List X → Bool
 | [] => true
 | x :: r => x.one && X.ry r
theorem wF : ∀ (z : List Value), X.bj (z.map X.v) = true
 | [] => rfl
 | _ :: r => by simp [X.bj, X.free, wF r]
theorem yC : ∀ (z : List Value), X.ga (z.map X.v) = true
 | [] => rfl
 | _ :: r => by simp [X.ga, X.nr, yC r]
theorem rG {E : Env} : ∀ {z : List Value}, X.ry (z.map X.v) = true → bt E (z.map X.v) z []
 | [], _ => by simp [bt]
 | c :: r, h => by
  simp only [List.map_cons, X.ry, Bool.and_eq_true] at h
  simp only [List.map_cons, bt]
  have hx : RX E (X.v c) c [] := by simp [RX]
  exact ⟨c, r, [], [], rfl, hx.one h.1, hx, rG h.2, rfl⟩
theorem bt.lW {E : Env} : ∀ {xs : List X} {vs : List Value} {R : List Nat}, bt E xs vs R → ∀ v ∈ vs, v.oneCell' = true
 | [], _, _, h, v, hv => by simp only [bt] at h; rw [h.1] at hv; cases hv
 | x :: r, _, _, h, v, hv => by
  simp only [bt] at h
  obtain ⟨c, cG, R₁, R₂, rfl, hs, _, h2, _⟩ := h
  rcases List.mem_cons.1 hv with h' | h'
  ·subst h'; cases v <;> first | rfl | exact hs.elim
  ·exact bt.lW h2 v h'
def Sh (N : eg) (st bc : St) : Prop := ∀ G : Ctx, G.fn = N → ∀ a w, bZ G st a w → bZ G bc a w
section
variable {P : Program} {N : eg} {st bc : St} {Q : Exit → St → Prop} {all : Array Oper} {rest : List Oper} {d : Nat} {ty : TypeId} {pos : String} {af : Array Edge}
theorem aa.sh (h : Sh N st bc) (k : aa P N all rest bc Q) : aa P N all rest st Q := fun G hn a w hh => k G hn a w (h G hn a w hh)
theorem ab.sh {c : Code} (h : Sh N st bc) (k : ab P N c bc Q) : ab P N c st Q := fun G hn a w hh => k G hn a w (h G hn a w hh)
theorem aa.yD {op : Op} (h : ∀ (G : Ctx) (E : Env) (RR : Own → List Nat) (a : Act), G.fn = N → Inv G E RR st a →
   ∃ u E' fe, (execOp a.eval ⟨some d, op, ty, pos, af, none⟩).run P E.w = .ok (.value u) E'.w ∧ Inv G E' fe bc (a.put (some d) u))
  (k : aa P N all rest bc Q) : aa P N all (⟨some d, op, ty, pos, af, none⟩ :: rest) st Q := by
 intro G hn a w hh
 obtain ⟨E, RR, rfl, hi⟩ := hh
 obtain ⟨u, E', fe, hr, gy⟩ := h G E RR a hn hi
 refine wpList_plain rfl fun K hK => ?_
 simp only [Oper.wp, hr, Oper.upon_value]
 exact hK _ _ (k G hn _ _ ⟨E', fe, rfl, gy⟩)
theorem aa.E9 {op : Op} (h : ∀ (G : Ctx) (E : Env) (RR : Own → List Nat) (a : Act), G.fn = N → Inv G E RR st a →
   ∃ E' fe, (execOp a.eval ⟨none, op, ty, pos, af, none⟩).run P E.w = .ok .skip E'.w ∧ Inv G E' fe bc a)
  (k : aa P N all rest bc Q) : aa P N all (⟨none, op, ty, pos, af, none⟩ :: rest) st Q := by
 intro G hn a w hh
 obtain ⟨E, RR, rfl, hi⟩ := hh
 obtain ⟨E', fe, hr, gy⟩ := h G E RR a hn hi
 refine wpList_plain rfl fun K hK => ?_
 simp only [Oper.wp, hr, Oper.upon_skip]
 exact hK _ _ (k G hn _ _ ⟨E', fe, rfl, gy⟩)
theorem TY.eV {t : TypeId} {z : List Value} (h : TY.zero P t = some z) : ∃ i z0, P.info? t = some i ∧ i.zero = some z0 ∧ z0.cells.toList = z := by
 unfold TY.zero at h
 cases hi : P.info? t with
 | none => simp [hi] at h
 | some i =>
  rw [hi] at h
  simp only [Option.bind_some] at h
  cases hz : i.zero with
  | none => simp [hz] at h
  | some z0 =>
   rw [hz] at h
   simp only [Option.map_some, Option.some.injEq] at h
   exact ⟨i, z0, rfl, hz, h⟩
def Env.withVar (E : Env) (o : Nat) (cs : Array Value) (t : TypeId) : Env :=
 {E with w := E.w.alloc (.cells cs t), β := fun q => if q = o then some ⟨E.w.heap.size, 0, 0⟩ else E.β q }
theorem heap_alloc (w : World) (o : Go.Obj) : (w.alloc o).heap[w.heap.size]? = some o := by
 show (w.heap.push o)[w.heap.size]? = _
 simp
theorem Inv.newVar {G : Ctx} {E : Env} {RR : Own → List Nat} {a : Act} (hi : Inv G E RR st a) {o : Nat} {ys : List X} {vs : List Value} {t : TypeId} (hF : G.fn.F.elem o = false) (hy : bt E ys vs []) (hf : X.bj ys = true) (hm : X.cH o ys = false) :
  ∃ fe, Inv G (E.withVar o vs.toArray t) fe ((st.kill o).dO o (.cells ys)) a := by
 refine ⟨_, hi.m4 (E' := E.withVar o vs.toArray t) (T := fun _ => False) (o := o) (R := [E.w.heap.size]) ?_ (fun _ h => h.elim) (fun q hq => by simp [Env.withVar, hq]) (fun h => by rw [hF] at h; cases h) ?_ (by simp) ?_⟩
 ·exact { cz.alloc G E (.cells vs.toArray t) with φ := rfl }
 ·have iG : E.On (E.withVar o vs.toArray t) [] := ⟨fun _ _ _ h => h, fun _ h => by cases h⟩
  have Bv : bt (E.withVar o vs.toArray t) ys vs [] := bt.mono ys vs [] iG (fun q hq => by
   have : q ≠ o := fun e => by subst e; rw [hm] at hq; cases hq
   simp [Env.withVar, this]) hy
  simp only [dN]
  refine ⟨hf, ⟨E.w.heap.size, 0, 0⟩, vs.toArray, t, by simp [Env.withVar], heap_alloc _ _, fun i => ?_, by simp [bt.length hy], ?_, rfl⟩
  ·show E.φ E.w.heap.size i = none
   cases h : E.φ E.w.heap.size i with
   | none => rfl
   | some v => exact absurd (World.block_lt_of_cell? E.w _ (hi.lq _ _ _ h)) (by simp)
  ·exact RO.of Bv (fun j v hj => by simpa using hj)
 ·intro b hb
  simp only [List.mem_singleton] at hb
  subst hb
  refine ⟨by simp [Env.withVar], fun hK => ?_, hi.tp (.inr (Nat.le_refl _))⟩
  have := hi.small _ hK
  have := hi.size
  omega
theorem aa.alloc {t : TypeId} {z : List Value} (o : Nat) (hz : TY.zero P t = some z) (h1 : X.ry (z.map X.v) = true) (hF : N.F.elem o = false) (hd : d < N.n)
  (k : aa P N all rest (((st.kill o).dO o (.cells (z.map X.v))).put d (.ptr o 0 0 0)) Q) : aa P N all (⟨some d, .alloc t, ty, pos, af, none⟩ :: rest) st Q := by
 refine aa.yD (fun G E RR a hn hi => ?_) k
 have hm : ∀ z : List Value, X.cH o (z.map X.v) = false := by
  intro z
  induction z with
  | nil => rfl
  | cons c r ih => simp [X.cH, X.dA, ih]
 obtain ⟨fe, gy⟩ := hi.newVar (o := o) (t := t) (by rw [hn]; exact hF) (rG h1) (wF z) (hm z)
 refine ⟨.pointer (some ⟨E.w.heap.size, 0, none⟩), _, _, ?_, gy.fT (x := .ptr o 0 0 0) (by rw [hn]; exact hd) ?_⟩
 ·obtain ⟨i, z0, nj, yq, yr⟩ := TY.eV hz
  show (do let x ← Instr.alloc t true (.tuple #[]); pure (Next.value x) : Sem Next).run P E.w = _
  refine cT ?_
  have tr : z0.cells = z.toArray := by rw [← yr]
  simp [Instr.alloc, zeroValue, typeInfo, nj, yq, Go.newVar, newRow, Env.withVar, tr]
 ·simp only [RX]
  exact ⟨trivial, ⟨E.w.heap.size, 0, 0⟩, by simp [Env.withVar], by simp⟩
theorem aa.box {t : TypeId} {x : Operand} {y : X} {ys : List X} (o : Nat) (hx : bw st x = some y) (hy : y.flat = some ys) (hf : X.bj ys = true) (hm : X.cH o ys = false) (hF : N.F.elem o = false) (hd : d < N.n)
  (k : aa P N all rest (((st.kill o).dO o (.cells ys)).put d (.ptr o 0 0 0)) Q) : aa P N all (⟨some d, .box t x, ty, pos, af, none⟩ :: rest) st Q := by
 refine aa.yD (fun G E RR a hn hi => ?_) k
 obtain ⟨R, x5⟩ := hi.eval hx
 have rp := x5.flat hy
 have h0 := bt.free hf rp
 subst h0
 obtain ⟨fe, gy⟩ := hi.newVar (o := o) (t := t) (by rw [hn]; exact hF) rp hf hm
 refine ⟨.pointer (some ⟨E.w.heap.size, 0, none⟩), _, _, ?_, gy.fT (x := .ptr o 0 0 0) (by rw [hn]; exact hd) ?_⟩
 ·show (do let z ← Instr.box t (a.eval x); pure (Next.value z) : Sem Next).run P E.w = _
  refine cT ?_
  simp [Instr.box, Go.newVar, newRow, Env.withVar]
 ·simp only [RX]
  exact ⟨trivial, ⟨E.w.heap.size, 0, 0⟩, by simp [Env.withVar], by simp⟩
end
end Go.AW
namespace Go.AW
open Go
section
variable {E : Env}
theorem bt.app : ∀ {xs ys : List X} {cs ds : List Value} {R₁ R₂ : List Nat}, bt E xs cs R₁ → bt E ys ds R₂ → bt E (xs ++ ys) (cs ++ ds) (R₁ ++ R₂)
 | [], _, _, _, _, _, h, h' => by simp only [bt] at h; obtain ⟨rfl, rfl⟩ := h; simpa using h'
 | x :: r, ys, cs, ds, R₁, R₂, h, h' => by
  simp only [bt] at h
  obtain ⟨c, cG, R₃, R₄, rfl, hs, h1, h2, rfl⟩ := h
  simp only [List.cons_append, bt]
  exact ⟨c, cG ++ ds, R₃, R₄ ++ R₂, rfl, hs, h1, bt.app h2 h', by simp⟩
theorem bt.Hn {xs : List X} {cs : List Value} (k : Nat) (h : bt E xs cs []) : bt E (xs.take k) (cs.take k) [] := by
 induction xs generalizing cs k with
 | nil => simp only [bt] at h; simp [bt, h.1]
 | cons x r ih =>
  simp only [bt] at h
  obtain ⟨c, cG, R₁, R₂, rfl, hs, h1, h2, hR⟩ := h
  have EA := List.append_eq_nil_iff.1 hR.symm
  obtain ⟨rfl, rfl⟩ := EA
  cases k with
  | zero => simp [bt]
  | succ k => simp only [List.take_succ_cons, bt]; exact ⟨c, _, [], [], rfl, hs, h1, ih k h2, rfl⟩
theorem bt.Ho {xs : List X} {cs : List Value} (k : Nat) (h : bt E xs cs []) : bt E (xs.drop k) (cs.drop k) [] := by
 induction xs generalizing cs k with
 | nil => simp only [bt] at h; simp [bt, h.1]
 | cons x r ih =>
  have h' := h
  simp only [bt] at h
  obtain ⟨c, cG, R₁, R₂, rfl, hs, h1, h2, hR⟩ := h
  have EA := List.append_eq_nil_iff.1 hR.symm
  obtain ⟨rfl, rfl⟩ := EA
  cases k with
  | zero => exact h'
  | succ k => simp only [List.drop_succ_cons]; exact ih k h2
theorem bt.fT {xs ys : List X} {cs vs : List Value} {k : Nat} (h : bt E xs cs []) (h' : bt E ys vs []) : bt E (iR xs k ys) (iR cs k vs) [] := by
 unfold iR
 rw [← bt.length h']
 have := bt.app (bt.app (bt.Hn k h) h') (bt.Ho (k + vs.length) h)
 simpa using this
end
def rH (place : Nat → Option (Nat × Nat)) (cells : List X) : List (Nat × X) → Option (List X)
 | [] => some cells
 | (i, x) :: rest =>
  match place i, x.flat with
  | some (off, size), some ys => bif Nat.beq ys.length size && Nat.ble (off + size) cells.length then rH place (iR cells off ys) rest else none
  | _, _ => none
def mI (st : St) : List (Nat × Operand) → Option (List (Nat × X))
 | [] => some []
 | (i, x) :: r => match bw st x, mI st r with
  | some y, some l => bif y.free then some ((i, y) :: l) else none
  | _, _ => none
theorem rI (off : Nat) : ∀ (l : List Value) (k : Nat) (cs : Array Value), ((l.zipIdx k).foldl (fun cs (p : Value × Nat) => cs.setIfInBounds (off + p.2) p.1) cs).size = cs.size ∧
  ∀ j, ((l.zipIdx k).foldl (fun cs (p : Value × Nat) => cs.setIfInBounds (off + p.2) p.1) cs)[j]? = if off + k ≤ j ∧ j < off + k + l.length ∧ j < cs.size then l[j - off - k]? else cs[j]?
 | [], k, cs => by
  refine ⟨rfl, fun j => ?_⟩
  rw [if_neg (by simp; omega)]
  rfl
 | v :: r, k, cs => by
  obtain ⟨h1, h2⟩ := rI off r (k + 1) (cs.setIfInBounds (off + k) v)
  simp only [List.zipIdx_cons, List.foldl_cons]
  refine ⟨by rw [h1]; simp, fun j => ?_⟩
  rw [h2 j]
  simp only [Array.size_setIfInBounds, List.length_cons]
  by_cases hj : off + (k + 1) ≤ j ∧ j < off + (k + 1) + r.length ∧ j < cs.size
  ·rw [if_pos hj, if_pos om, show j - off - k = (j - off - (k + 1)) + 1 by omega]
   simp
  ·rw [if_neg hj]
   by_cases rJ : j = off + k
   ·subst rJ
    by_cases gM : off + k < cs.size
    ·rw [if_pos om, show off + k - off - k = 0 by omega]
     simp [Array.getElem?_setIfInBounds_self_of_lt gM]
    ·rw [if_neg om]
     simp [gM]
   ·rw [if_neg om, Array.getElem?_setIfInBounds_ne om]
theorem uY (off : Nat) (v cs : Array Value) (h : off + v.size ≤ cs.size) : (v.zipIdx.foldl (fun cs (p : Value × Nat) => cs.setIfInBounds (off + p.2) p.1) cs).toList = iR cs.toList off v.toList := by
 have hf : v.zipIdx.foldl (fun cs (p : Value × Nat) => cs.setIfInBounds (off + p.2) p.1) cs = (v.toList.zipIdx 0).foldl (fun cs (p : Value × Nat) => cs.setIfInBounds (off + p.2) p.1) cs := by
  rw [← Array.foldl_toList, Array.toList_zipIdx]
 rw [hf]
 obtain ⟨h1, h2⟩ := rI off v.toList 0 cs
 apply List.ext_getElem?
 intro j
 rw [Array.getElem?_toList, h2 j]
 have Hp : v.toList.length = v.size := by simp
 simp only [Nat.add_zero, Nat.sub_zero, Hp, iR, List.append_assoc]
 have hl : (List.take off cs.toList).length = off := by simp; omega
 by_cases hj : j < off
 ·rw [if_neg om, List.getElem?_append_left om, List.getElem?_take_of_lt hj]; simp
 ·by_cases KL : j < off + v.size
  ·rw [if_pos om, List.getElem?_append_right om, hl, List.getElem?_append_left om]
  ·rw [if_neg om, List.getElem?_append_right om, List.getElem?_append_right om, hl, List.getElem?_drop]
   have : off + v.size + (j - off - v.toList.length) = j := by omega
   rw [this]; simp
section
variable {P : Program} {N : eg} {G : Ctx} {E : Env} {RR : Own → List Nat} {st : St} {a : Act}
theorem oh (hi : Inv G E RR st a) (place : Nat → Option (Nat × Nat)) : ∀ (parts : List (Nat × Operand)) (xs : List X) (cs : Array Value) (yt : List (Nat × X)) (ys : List X), bt E xs cs.toList [] → mI st parts = some yt →
  rH place xs yt = some ys → ∃ cG, Instr.fill place cs (parts.map fun p => (p.1, a.eval p.2)) = some cG ∧ bt E ys cG.toList []
 | [], xs, cs, yt, ys, h, hp, hf => by
  simp only [mI, Option.some.injEq] at hp
  subst hp
  simp only [rH, Option.some.injEq] at hf
  subst hf
  exact ⟨cs, rfl, h⟩
 | (i, x) :: r, xs, cs, yt, ys, h, hp, hf => by
  simp only [mI] at hp
  cases hx : bw st x with
  | none => simp [hx] at hp
  | some y =>
   cases hr : mI st r with
   | none => simp [hx, hr] at hp
   | some l =>
    rw [hx, hr] at hp
    simp only at hp
    cases ke : y.free with
    | false => simp [ke] at hp
    | true =>
     rw [ke] at hp
     simp only [cond_true, Option.some.injEq] at hp
     subst hp
     simp only [rH] at hf
     cases uZ : place i with
     | none => simp [uZ] at hf
     | some os =>
      obtain ⟨off, size⟩ := os
      cases rp : y.flat with
      | none => simp [uZ, rp] at hf
      | some zs =>
       rw [uZ, rp] at hf
       simp only at hf
       cases hb : Nat.beq zs.length size && Nat.ble (off + size) xs.length with
       | false => simp [hb] at hf
       | true =>
        rw [hb] at hf
        simp only [cond_true] at hf
        simp only [Bool.and_eq_true] at hb
        have ez : zs.length = size := Nat.eq_of_beq_eq_true hb.1
        have hle : off + size ≤ xs.length := Nat.le_of_ble_eq_true hb.2
        obtain ⟨R, hv⟩ := hi.eval hx
        have h0 := RX.free ke hv
        subst h0
        have uI := hv.flat rp
        have sn : (a.eval x).cells.size = size := by have := bt.length uI; simp at this; omega
        have tt : cs.size = xs.length := by have := bt.length h; simpa using this
        have va := bt.fT (k := off) h uI
        have Hq := uY off (a.eval x).cells cs om
        obtain ⟨cG, ss, tm⟩ := oh hi place r (iR xs off zs) ((a.eval x).cells.zipIdx.foldl (fun cs (p : Value × Nat) => cs.setIfInBounds (off + p.2) p.1) cs) l ys (by rw [Hq]; exact va) hr hf
        refine ⟨cG, ?_, tm⟩
        simp only [List.map_cons, Instr.fill, uZ, sn]
        rw [if_neg (by simp; omega)]
        exact ss
def TY.jP (P : Program) (t : TypeId) : Option (List (Nat × Nat)) :=
 match P.underlying t with
 | some (.struct fs) => fs.toList.mapM fun f => (P.info? f.type).map fun i => (f.offset, i.size)
 | _ => none
theorem tu {fs : List Field} {pl : List (Nat × Nat)} (h : (fs.mapM fun f => (P.info? f.type).map fun i => (f.offset, i.size)) = some pl) (w : World) :
  (fs.mapM fun f => (do pure (f.offset, ← sizeOf f.type) : Sem (Nat × Nat))).run P w = .ok pl w := by
 induction fs generalizing pl with
 | nil => simp at h; subst h; rfl
 | cons f r ih =>
  rw [List.mapM_cons] at h
  cases hf : P.info? f.type with
  | none => simp [hf] at h
  | some i =>
   rw [hf] at h
   cases hr : (r.mapM fun f => (P.info? f.type).map fun i => (f.offset, i.size)) with
   | none => simp [hr] at h
   | some l =>
    rw [hr] at h
    simp at h
    subst h
    rw [List.mapM_cons]
    simp only [Sem.run_bind, run_sizeOf hf, Result.andThen_ok, Sem.run_pure, ih hr]
theorem Y.qh {dst : Option Nat} {ty : TypeId} {pos : String} {af : Array Edge} {g : Option (Nat × Bool)} {t : TypeId} {parts : Array (Nat × Operand)} {pl : List (Nat × Nat)} {z : List Value} {yt : List (Nat × X)} {ys : List X}
  (hp : TY.jP P t = some pl) (hz : TY.zero P t = some z) (h1 : X.ry (z.map X.v) = true) (hx : mI st parts.toList = some yt) (hf : rH (pl[·]?) (z.map X.v) yt = some ys) :
  Yields P N st ⟨dst, .build t parts, ty, pos, af, g⟩ (.agg ys) := by
 intro G E RR a _ hi
 obtain ⟨i, z0, nj, yq, yr⟩ := TY.eV hz
 have tr : z0.cells = z.toArray := by rw [← yr]
 have fR : bt E (z.map X.v) z0.cells.toList [] := by rw [yr]; exact rG h1
 obtain ⟨cG, ss, tm⟩ := oh hi (pl[·]?) parts.toList _ z0.cells yt ys fR hx hf
 refine ⟨.agg cG, ?_, by simp only [RX]; exact ⟨cG, rfl, tm⟩⟩
 show (do let v ← Instr.build t (parts.map fun (i, x) => (i, a.eval x)); Pure.pure (Next.value v) : Sem Next).run P E.w = _
 refine cT ?_
 unfold TY.jP at hp
 cases hu : P.underlying t with
 | none => simp [hu] at hp
 | some d =>
  cases d with
  | struct fs =>
   rw [hu] at hp
   simp only at hp
   have hm := tu hp E.w
   have Ql : (fs.mapM fun f => (do Pure.pure (f.offset, ← sizeOf f.type) : Sem (Nat × Nat))).run P E.w = .ok pl.toArray E.w := by
    rw [Array.mapM_eq_mapM_toList]
    simp only [Sem.run_map, hm]
    rfl
   have uZ : (fun (i : Nat) => pl.toArray[i]?) = fun i => pl[i]? := by funext i; simp
   have Kg : (parts.map fun (i, x) => (i, a.eval x)).toList = parts.toList.map fun p => (p.1, a.eval p.2) := by simp
   simp only [Instr.build, Sem.run_bind, zeroValue, typeInfo, run_program, nj, yq, Result.andThen_ok, Sem.run_pure, run_underlying hu, Ql, uZ, Kg, ss]
  | _ => simp [hu] at hp
end
end Go.AW
namespace Go.AW
open Go
section
variable {P : Program} {N : eg} {st : St} {Q : Exit → St → Prop} {all : Array Oper} {rest : List Oper} {d : Nat} {ty : TypeId} {pos : String} {af : Array Edge}
theorem bX.vb {E : Env} {s : Nat} {cs : Array Value} : ∀ {rs : List (List X)} {off : Nat}, bJ s rs →
  (∀ i row, rs[i]? = some row → X.ga row = true ∧ RO E row cs (off + i * s) []) → bX E rs cs off []
 | [], _, _, _ => by simp [bX]
 | r :: rs, off, hu, h => by
  simp only [bX]
  have h0 := h 0 r rfl
  refine ⟨[], [], h0.1, by simpa using h0.2, ?_, rfl⟩
  rw [hu r (by simp)]
  refine bX.vb (fun q hq => hu q (by simp [hq])) fun i row hr => ?_
  have := h (i + 1) row (by simpa using hr)
  rw [show off + s + i * s = off + (i + 1) * s by rw [Nat.add_mul]; omega]
  exact this
theorem bt.EB {E : Env} {xs : List X} {vs : List Value} {cs : Array Value} {off : Nat} {R : List Nat} (h : bt E xs vs R) (hv : ∀ j, j < xs.length → cs[off + j]? = vs[j]?) : RO E xs cs off R :=
 RO.of h fun j v hj => by
  have lV : j < xs.length := by
   rw [← bt.length h]
   rcases Nat.lt_or_ge j vs.length with h' | h'
   ·exact h'
   ·simp [List.getElem?_eq_none h'] at hj
  rw [hv j lV]; exact hj
theorem Inv.newRow {G : Ctx} {E : Env} {RR : Own → List Nat} {a : Act} (hi : Inv G E RR st a) {cs : Array Value} {e : TypeId} {s cap : Nat} {rows : List (List X)} (hu : bJ s rows) (hl : rows.length ≤ cap) (hc : cap * s ≤ cs.size)
  (hr : bX { E with w := E.w.alloc (.cells cs e) } rows cs 0 []) (hd : d < G.fn.n) :
  ∃ fe, Inv G { E with w := E.w.alloc (.cells cs e) } fe (st.put d (.cX s rows)) (a.put (some d) (.slice (some ⟨E.w.heap.size, 0, none⟩) rows.length cap)) := by
 have gy := hi.wC (cz.alloc G E (.cells cs e)) rfl
 refine ⟨_, gy.put (R := [E.w.heap.size]) hd ?_ (by simp) ?_⟩
 ·simp only [RX]
  refine ⟨hu, _, _, rfl, .inr ⟨E.w.heap.size, 0, cs, e, [], rfl, heap_alloc _ _, hl, om, fun i => ?_, hr, rfl⟩⟩
  show E.φ E.w.heap.size i = none
  cases h : E.φ E.w.heap.size i with
  | none => rfl
  | some v => exact absurd (World.block_lt_of_cell? E.w _ (hi.lq _ _ _ h)) (by simp)
 ·intro b hb
  simp only [List.mem_singleton] at hb
  subst hb
  refine ⟨by simp, fun hK => ?_, fun p _ hb => ?_⟩
  ·have := hi.small _ hK
   have := hi.size
   omega
  ·exact absurd (hi.own p _ hb).1 (by simp)
theorem yE {i k s : Nat} (hk : k < s) : (i * s + k) % s = k := by
 rw [Nat.mul_comm, Nat.mul_add_mod, Nat.mod_eq_of_lt hk]
theorem aa.makeSlice {t e s cE n : Nat} {l c : Operand} {k k' : IntKind} {z : List Value} (ht : TY.slice P t = some (e, s, cE)) (hz : TY.zero P e = some z) (oP : z.length = s) (h1 : X.ry (z.map X.v) = true)
  (hl : bw st l = some (.v (.int k (n : Int)))) (hc : bw st c = some (.v (.int k' (n : Int)))) (hb : cE * n ≤ 281474976710656) (Qm : n ≤ 9223372036854775807) (hd : d < N.n)
  (kk : aa P N all rest (st.put d (.cX s (List.replicate n (z.map X.v)))) Q) : aa P N all (⟨some d, .makeSlice t l c, ty, pos, af, none⟩ :: rest) st Q := by
 refine aa.yD (fun G E RR a hn hi => ?_) kk
 obtain ⟨hu, i, fU, hs, BN⟩ := TY.cI ht
 obtain ⟨i', z0, nj, yq, yr⟩ := TY.eV hz
 rw [fU] at nj
 obtain rfl := Option.some.inj nj
 have tr : z0.cells = z.toArray := by rw [← yr]
 have gS := run_make (P := P) E.w t e i z0 hu fU yq k k' (n : Int) (n : Int) om om (by rw [BN]; have := Int.ofNat_le.2 hb; rw [Int.natCast_mul] at this; exact this) om
 simp only [Int.toNat_natCast, hs, tr] at gS
 have ez := size_madeCells z.toArray (n * s)
 have hU : bJ s (List.replicate n (z.map X.v)) := by
  intro r hr
  rw [(List.mem_replicate.1 hr).2]; simpa using oP
 obtain ⟨fe, gy⟩ := hi.newRow (cs := madeCells z.toArray (n * s)) (e := e) (s := s) (cap := n) (d := d) hU (Nat.le_of_eq List.length_replicate) (by rw [ez]; exact Nat.le_refl _) (by
  refine bX.vb hU fun j row hr => ?_
  have hj : j < n := by
   rcases Nat.lt_or_ge j n with h' | h'
   ·exact h'
   ·rw [List.getElem?_eq_none (by rw [List.length_replicate]; exact h')] at hr; cases hr
  have : row = z.map X.v := by
   have := List.mem_of_getElem? hr
   exact (List.mem_replicate.1 this).2
  subst this
  refine ⟨yC z, bt.EB (rG h1) fun q hq => ?_⟩
  have BO : q < s := by simpa [oP] using hq
  have gM : j * s + q < n * s := by
   have : (j + 1) * s ≤ n * s := Nat.mul_le_mul_right s hj
   rw [Nat.add_mul] at this; omega
  have EC : q < z.length := by omega
  simp only [Nat.zero_add, madeCells]
  rw [Array.getElem?_map, Array.getElem?_range, if_pos gM]
  simp only [Option.map_some, List.size_toArray, oP, yE BO]
  rw [List.getElem?_eq_getElem EC]
  simp [EC]) (by rw [hn]; exact hd)
 simp only [List.length_replicate] at gy
 refine ⟨_, _, _, ?_, gy⟩
 show (do let v ← Instr.makeSlice t (a.eval l) (a.eval c); Pure.pure (Next.value v) : Sem Next).run P E.w = _
 rw [hi.val hl, hi.val hc]
 exact cT gS
theorem aa.buildSlice {t e s cE len : Nat} {parts : Array (Nat × Operand)} {z : List Value} {yt : List (Nat × X)} {flat : List X} (rows : List (List X)) (ht : TY.slice P t = some (e, s, cE)) (hz : TY.zero P e = some z) (oP : Nat.beq z.length s = true)
  (h1 : X.ry (z.map X.v) = true) (hx : mI st parts.toList = some yt) (hf : rH (fun i => some (i * s, s)) ((List.replicate len (z.map X.v)).flatten) yt = some flat) (hr : rows.flatten = flat) (hU : bJ s rows) (hlen : rows.length = len)
  (yp : X.ga flat = true) (OA : Nat.ble (len * s) 16777216 = true) (hd : d < N.n)
  (kk : aa P N all rest (st.put d (.cX s rows)) Q) : aa P N all (⟨some d, .buildSlice t len parts, ty, pos, af, none⟩ :: rest) st Q := by
 refine aa.yD (fun G E RR a hn hi => ?_) kk
 obtain ⟨hu, i, fU, hs, BN⟩ := TY.cI ht
 obtain ⟨i', z0, nj, yq, yr⟩ := TY.eV hz
 rw [fU] at nj
 obtain rfl := Option.some.inj nj
 have tr : z0.cells = z.toArray := by rw [← yr]
 have ED : z.length = s := Nat.eq_of_beq_eq_true oP
 let z1 : Array Value := (Array.range (len * s)).map fun i => z.toArray[i % z.toArray.size]!
 have KM : z1.toList = (List.replicate len z).flatten := by
  apply List.ext_getElem?
  intro j
  have Qn : ((List.replicate len z).flatten).length = len * s := by simp [ED]
  by_cases hj : j < len * s
  ·have Kh : 0 < s := by
    rcases Nat.eq_zero_or_pos s with h' | h'
    ·subst h'; simp at hj
    ·exact h'
   have hq : j % s < s := Nat.mod_lt _ Kh
   have SV : j / s < len := by rw [Nat.div_lt_iff_lt_mul Kh]; exact hj
   have h2 : ((List.replicate len z).flatten)[j]? = z[j % s]? := by
    have : ∀ (n j : Nat), j < n * s → ((List.replicate n z).flatten)[j]? = z[j % s]? := by
     intro n
     induction n with
     | zero => intro j hj; simp at hj
     | succ n ih =>
      intro j hj
      rw [List.replicate_succ, List.flatten_cons]
      by_cases GG : j < s
      ·rw [List.getElem?_append_left om, Nat.mod_eq_of_lt GG]
      ·rw [List.getElem?_append_right om, ED, ih (j - s) (by rw [Nat.add_mul] at hj; omega)]
       rw [Nat.mod_eq_sub_mod (by omega : j ≥ s)]
    exact this len j hj
   rw [h2]
   have EC : j % s < z.length := by omega
   have OB : z[j % s]? = some z[j % s] := List.getElem?_eq_getElem EC
   simp [z1, hj, ED, OB]
  ·have e1 : ((List.replicate len z).flatten)[j]? = none := List.getElem?_eq_none (by rw [Qn]; omega)
   have e2 : z1.toList[j]? = none := List.getElem?_eq_none (by rw [Array.length_toList]; simp only [z1, Array.size_map, Array.size_range]; omega)
   rw [e1, e2]
 have Qo : bt E ((List.replicate len (z.map X.v)).flatten) z1.toList [] := by
  rw [KM]
  clear hf KM z1 hlen OA
  induction len with
  | zero => simp [bt]
  | succ n ih => rw [List.replicate_succ, List.flatten_cons, List.replicate_succ, List.flatten_cons]; exact bt.app (rG h1) ih
 obtain ⟨cG, ss, tm⟩ := oh hi (fun i => some (i * s, s)) parts.toList _ z1 yt flat Qo hx hf
 have rp : flat.length = len * s := by rw [← hr, length_flatten hU, hlen]
 have Qp : cG.size = len * s := by have := bt.length tm; simp at this; omega
 obtain ⟨fe, gy⟩ := hi.newRow (cs := cG) (e := e) (s := s) (cap := len) (d := d) hU om om (by
  have Hr : bt { E with w := E.w.alloc (.cells cG e) } flat cG.toList [] := bt.mono (E := E) _ _ _ ⟨fun _ _ _ h => h, fun _ h => by cases h⟩ (fun _ _ => rfl) tm
  have rz : RO { E with w := E.w.alloc (.cells cG e) } flat cG 0 [] := RO.of Hr fun j v hj => by simpa using hj
  rw [← hr] at rz yp
  clear hr ss tm Hr rp hf hlen
  have key : ∀ (rs : List (List X)) (off : Nat), X.ga rs.flatten = true → RO { E with w := E.w.alloc (.cells cG e) } rs.flatten cG off [] → bX { E with w := E.w.alloc (.cells cG e) } rs cG off [] := by
   intro rs
   induction rs with
   | nil => intro off _ _; simp [bX]
   | cons r rs ih =>
    intro off hn h
    rw [List.flatten_cons] at h hn
    obtain ⟨R₁, R₂, h1, h2, hR⟩ := RO.nw h
    have EA := List.append_eq_nil_iff.1 hR.symm
    obtain ⟨rfl, rfl⟩ := EA
    have Qq : ∀ (xs ys : List X), X.ga (xs ++ ys) = true → X.ga xs = true ∧ X.ga ys = true := by
     intro xs
     induction xs with
     | nil => intro ys h; exact ⟨rfl, h⟩
     | cons x r ih => intro ys h; simp only [List.cons_append, X.ga, Bool.and_eq_true] at h ⊢; exact ⟨⟨h.1, (ih ys h.2).1⟩, (ih ys h.2).2⟩
    obtain ⟨Hs, KN⟩ := Qq _ _ hn
    simp only [bX]
    exact ⟨[], [], Hs, h1, ih _ KN h2, rfl⟩
  exact key rows 0 yp rz) (by rw [hn]; exact hd)
 rw [hlen] at gy
 refine ⟨_, _, _, ?_, gy⟩
 show (do let v ← Instr.buildSlice t len (parts.map fun (i, x) => (i, a.eval x)); Pure.pure (Next.value v) : Sem Next).run P E.w = _
 refine cT ?_
 have Kg : (parts.map fun (i, x) => (i, a.eval x)).toList = parts.toList.map fun p => (p.1, a.eval p.2) := by simp
 have KO : ¬ (len * s > 2 ^ 24) := by have := Nat.le_of_ble_eq_true OA; simp; omega
 by_cases h0 : len * s = 0
 ·have KP : z1 = (Array.range (len * s)).map (fun i => (#[] : Array Value)[i % (#[] : Array Value).size]!) := by simp [z1, h0]
  have BP : ¬ ((0 : Nat) > 2 ^ 24) := by decide
  rw [KP, h0] at ss
  simp only [Instr.buildSlice, Sem.run_bind, run_underlying hu, Result.andThen_ok, run_sizeOf fU, hs, h0, BP, if_false, if_true, Sem.run_pure, Kg, ss, Go.newRow, run_newObj_alloc]
 ·simp only [z1] at ss
  simp only [Instr.buildSlice, Sem.run_bind, run_underlying hu, Result.andThen_ok, run_sizeOf fU, hs, KO, if_false, h0, zeroValue, typeInfo, run_program, fU, yq, Sem.run_pure, tr, Kg, ss, Go.newRow, run_newObj_alloc]
end
end Go.AW
namespace Go.AW
open Go
def TY.size (P : Program) (t : TypeId) : Option Nat := (P.info? t).map (·.size)
section
variable {P : Program} {N : eg} {st : St} {Q : Exit → St → Prop} {all : Array Oper} {rest : List Oper} {d : Nat} {ty : TypeId} {pos : String} {af : Array Edge}
theorem l3 {t : TypeId} {m b off : Nat} {v : Value} {cs : Array Value} {tb : TypeId} {w : World} (ht : TY.size P t = some m) (hm : v.cells.size = m) (hw : w.heap[b]? = some (.cells cs tb (0, 0))) (pe : off + m ≤ cs.size)
  (h1 : ∀ u ∈ v.cells.toList, u.oneCell' = true) : (Instr.storeAt t (.pointer (some ⟨b, off, none⟩)) v).run P w = .ok () (w.setRow b (jn cs off v.cells.toList)) := by
 unfold TY.size at ht
 cases hi : P.info? t with
 | none => simp [hi] at ht
 | some i =>
  rw [hi] at ht
  simp only [Option.map_some, Option.some.injEq] at ht
  have yF := run_storeCells_at P b off tb v.cells.toList 0 cs w hw (by simp; omega) h1
  simp only [Nat.add_zero] at yF
  simp only [Instr.storeAt, Instr.sureAddr, storeVar, Sem.run_bind, Sem.run_pure, Result.andThen_ok, run_sizeOf hi, ht, hm, ne_eq, not_true_eq_false, if_false]
  exact yF
theorem Inv.r3 {G : Ctx} {E : Env} {RR : Own → List Nat} {a : Act} (hi : Inv G E RR st a) {p : Own} {b : Nat} (h : b ∈ RR p) : ¬ G.K b := (hi.own p b h).2
theorem aa.aw {t : TypeId} {x y : Operand} {o s k m : Nat} {v : X} {ys xs : List X} (ht : TY.size P t = some m) (hx : bw st x = some (.ptr o s 0 k)) (hy : bw st y = some v) (rp : v.flat = some ys) (hf : X.bj ys = true) (hm : ys.length = m)
  (ho : look st.aC o = some (.cells xs)) (hk : k + m ≤ xs.length) (GH : X.bj (iR xs k ys) = true) (kk : aa P N all rest (st.dO o (.cells (iR xs k ys))) Q) :
  aa P N all (⟨none, .store t x y, ty, pos, af, none⟩ :: rest) st Q := by
 refine aa.E9 (fun G E RR a hn hi => ?_) kk
 obtain ⟨R, hv⟩ := hi.eval hy
 have uI := hv.flat rp
 have h0 := bt.free hf uI
 subst h0
 obtain ⟨R', hp⟩ := hi.eval hx
 simp only [RX] at hp
 obtain ⟨_, B, hB, hc⟩ := hp
 simp only [Nat.zero_mul, Nat.zero_add] at hc
 have aS := hi.aC o _ ho
 simp only [dN] at aS
 obtain ⟨pw, B', cs, tb, im, hw, hφ, hlen, j4, iH⟩ := aS
 rw [hB] at im
 obtain rfl := Option.some.inj im
 have vc := bt.length uI
 have ez : (a.eval y).cells.size = m := by simp at vc; omega
 have gS := l3 (P := P) (off := B.off + k) ht ez hw om (bt.lW uI)
 have lu : B.b ∈ RR (.obj o) := by rw [iH]; simp
 have Bw := cz.setRow G E B.b (jn cs (B.off + k) (a.eval y).cells.toList) hφ (hi.r3 lu)
 have iG : E.On { E with w := E.w.setRow B.b (jn cs (B.off + k) (a.eval y).cells.toList) } [] := ⟨fun _ _ _ h => h, fun _ h => by cases h⟩
 have yG := bt.mono _ _ _ iG (fun _ _ => rfl) uI
 have yH := RO.mono _ _ _ _ iG (fun _ _ => rfl) j4
 obtain ⟨R₁, va, cP, _⟩ := RO.put (k := k) yH om yG om
 have Qr : R₁ = [] := by
  cases R₁ with
  | nil => rfl
  | cons b r => rcases cP b (by simp) with h | h <;> cases h
 subst Qr
 refine ⟨_, _, ?_, hi.yB (E' := { E with w := E.w.setRow B.b (jn cs (B.off + k) (a.eval y).cells.toList) }) Bw (o := o) (R := [B.b]) (fun b h => by subst h; exact lu) rfl ?_ (by simp) ?_⟩
 ·show (do Instr.storeAt t (a.eval x) (a.eval y); Pure.pure Next.skip : Sem Next).run P E.w = _
  rw [hc]
  exact y9 gS
 ·simp only [dN]
  have Qs : (iR xs k ys).length = xs.length := j9 om
  exact ⟨GH, B, _, tb, hB, setRow_heap E.w B.b cs _ tb _ hw, hφ, by rw [Qs, lU (by simp at vc ⊢; omega)]; exact hlen, va, rfl⟩
 ·intro b hb
  simp only [List.mem_singleton] at hb
  subst hb
  exact ⟨by simpa using (hi.own _ _ lu).1, hi.r3 lu, hi.tp (.inl lu)⟩
theorem aa.EE {t : TypeId} {x y : Operand} {o s i k m : Nat} {v : X} {ys row : List X} {rs : List (List X)} (ht : TY.size P t = some m) (hx : bw st x = some (.ptr o s i k)) (hy : bw st y = some v) (rp : v.flat = some ys) (hf : X.bj ys = true)
  (hn : X.ga ys = true) (hm : ys.length = m) (ho : look st.aC o = some (.rows s rs)) (hr : rs[i]? = some row) (hk : k + m ≤ row.length) (kk : aa P N all rest (st.dO o (.rows s (rs.set i (iR row k ys)))) Q) :
  aa P N all (⟨none, .store t x y, ty, pos, af, none⟩ :: rest) st Q := by
 refine aa.E9 (fun G E RR a Qt hi => ?_) kk
 obtain ⟨R, hv⟩ := hi.eval hy
 have uI := hv.flat rp
 have h0 := bt.free hf uI
 subst h0
 obtain ⟨R', hp⟩ := hi.eval hx
 simp only [RX] at hp
 obtain ⟨_, B, hB, hc⟩ := hp
 have aS := hi.aC o _ ho
 have jA := hi.nodup (.obj o)
 simp only [dN] at aS
 obtain ⟨hu, aS⟩ := aS
 rcases aS with ⟨_, h, _⟩ | ⟨B', cs, tb, R', im, hw, hφ, lv, hlen, j4, iH⟩
 ·subst h; simp at hr
 rw [hB] at im
 obtain rfl := Option.some.inj im
 have vc := bt.length uI
 have ez : (a.eval y).cells.size = m := by simp at vc; omega
 have Ki : rs.length * s ≤ B.cap * s := Nat.mul_le_mul_right s lv
 have yI : i < rs.length := by
  rcases Nat.lt_or_ge i rs.length with h' | h'
  ·exact h'
  ·simp [List.getElem?_eq_none h'] at hr
 have og : row.length = s := hu row (List.mem_of_getElem? hr)
 have Kf : i * s + s ≤ rs.length * s := by
  have : (i + 1) * s ≤ rs.length * s := Nat.mul_le_mul_right s yI
  rw [Nat.add_mul] at this; omega
 have gS := l3 (P := P) (off := B.off + (i * s + k)) ht ez hw om (bt.lW uI)
 have lu : B.b ∈ RR (.obj o) := by rw [iH]; simp
 have Bw := cz.setRow G E B.b (jn cs (B.off + (i * s + k)) (a.eval y).cells.toList) hφ (hi.r3 lu)
 rw [iH] at jA
 have lz := List.nodup_cons.1 jA
 have iG : E.On { E with w := E.w.setRow B.b (jn cs (B.off + (i * s + k)) (a.eval y).cells.toList) } R' :=
  ⟨fun _ _ _ h => h, fun b hb => ⟨setRow_other E.w B.b b _ (fun e => lz.1 (by rw [← e]; exact hb)), fun h => h⟩⟩
 have yG := bt.mono _ _ _ (iG.sub (fun _ h => by cases h)) (fun _ _ => rfl) uI
 have yH := bX.mono _ _ _ _ iG j4
 obtain ⟨R₁, va, cP, oo⟩ := bX.set (i := i) (k := k) hu yH hr om yG hn om
 have DC : ∀ b ∈ R₁, b ∈ R' := fun b hb => (cP b hb).resolve_right (fun h => by cases h)
 refine ⟨_, _, ?_, hi.yB (E' := { E with w := E.w.setRow B.b (jn cs (B.off + (i * s + k)) (a.eval y).cells.toList) }) Bw (o := o) (R := B.b :: R₁) (fun b h => by subst h; exact lu) rfl ?_ ?_ ?_⟩
 ·show (do Instr.storeAt t (a.eval x) (a.eval y); Pure.pure Next.skip : Sem Next).run P E.w = _
  rw [hc]
  exact y9 gS
 ·simp only [dN]
  refine ⟨hu.set (by rw [j9 om]; exact og), .inr ⟨B, _, tb, R₁, hB, setRow_heap E.w B.b cs _ tb _ hw, hφ, by simpa using lv, by rw [lU (by simp at vc ⊢; omega)]; exact hlen, va, rfl⟩⟩
 ·exact List.nodup_cons.2 ⟨fun h => lz.1 (DC _ h), oo (by simpa using lz.2)⟩
 ·intro b hb
  have fS : b ∈ RR (.obj o) := by
   rw [iH]
   rcases List.mem_cons.1 hb with h | h
   ·simp [h]
   ·exact List.mem_cons.2 (.inr (DC b h))
  exact ⟨by simpa using (hi.own _ _ fS).1, hi.r3 fS, hi.tp (.inl fS)⟩
theorem aa.EF {t : TypeId} {x : Operand} {o s i k GI tv : Nat} {rows row : List (List X)} {BQ : List X} {rs : List (List X)} (ht : TY.size P t = some 1) (hx : bw st x = some (.ptr o s i k)) (hy : look st.aA tv = some (.cX GI rows)) (_h : row = row)
  (ho : look st.aC o = some (.rows s rs)) (hr : rs[i]? = some BQ) (hk : k + 1 ≤ BQ.length) (kk : aa P N all rest ((st.put tv .no).dO o (.rows s (rs.set i (iR BQ k [.cX GI rows])))) Q) :
  aa P N all (⟨none, .store t x (.tmp tv), ty, pos, af, none⟩ :: rest) st Q := by
 refine aa.E9 (fun G E RR a Qt hi => ?_) kk
 have hv := hi.aA tv _ hy
 have uI : bt E [X.cX GI rows] (a.eval (.tmp tv)).cells.toList (RR (.slot tv)) := hv.flat rfl
 obtain ⟨R', hp⟩ := hi.eval hx
 simp only [RX] at hp
 obtain ⟨_, B, hB, hc⟩ := hp
 have aS := hi.aC o _ ho
 have jA := hi.nodup (.obj o)
 simp only [dN] at aS
 obtain ⟨hu, aS⟩ := aS
 rcases aS with ⟨_, h, _⟩ | ⟨B', cs, tb, R', im, hw, hφ, lv, hlen, j4, iH⟩
 ·subst h; simp at hr
 rw [hB] at im
 obtain rfl := Option.some.inj im
 have vc := bt.length uI
 have ez : (a.eval (.tmp tv)).cells.size = 1 := by simpa using vc
 have Ki : rs.length * s ≤ B.cap * s := Nat.mul_le_mul_right s lv
 have yI : i < rs.length := by
  rcases Nat.lt_or_ge i rs.length with h' | h'
  ·exact h'
  ·simp [List.getElem?_eq_none h'] at hr
 have og : BQ.length = s := hu BQ (List.mem_of_getElem? hr)
 have Kf : i * s + s ≤ rs.length * s := by
  have : (i + 1) * s ≤ rs.length * s := Nat.mul_le_mul_right s yI
  rw [Nat.add_mul] at this; omega
 have gS := l3 (P := P) (off := B.off + (i * s + k)) ht ez hw om (bt.lW uI)
 have lu : B.b ∈ RR (.obj o) := by rw [iH]; simp
 have Bw := cz.setRow G E B.b (jn cs (B.off + (i * s + k)) (a.eval (.tmp tv)).cells.toList) hφ (hi.r3 lu)
 rw [iH] at jA
 have lz := List.nodup_cons.1 jA
 have yJ : ∀ b ∈ RR (.slot tv), b ∉ RR (.obj o) := fun b hb fS => hi.apart _ _ (by simp) b hb fS
 have iG : ∀ yK, (∀ b ∈ yK, b ≠ B.b) → E.On { E with w := E.w.setRow B.b (jn cs (B.off + (i * s + k)) (a.eval (.tmp tv)).cells.toList) } yK :=
  fun yK h => ⟨fun _ _ _ h => h, fun b hb => ⟨setRow_other E.w B.b b _ (h b hb), fun h => h⟩⟩
 have yG := bt.mono _ _ _ (iG (RR (.slot tv)) (fun b hb e => yJ b hb (by rw [e]; exact lu))) (fun _ _ => rfl) uI
 have yH := bX.mono _ _ _ _ (iG R' (fun b hb e => lz.1 (by rw [← e]; exact hb))) j4
 obtain ⟨R₁, va, cP, oo⟩ := bX.set (i := i) (k := k) hu yH hr (by simpa using hk) yG rfl om
 have kY := hi.no tv
 have Ht : (R' ++ RR (.slot tv)).Nodup := by
  rw [List.nodup_append]
  refine ⟨lz.2, hi.nodup _, fun x hx y hy e => yJ y hy ?_⟩
  rw [← e, iH]; exact List.mem_cons.2 (.inr hx)
 have vd : eZ RR (.slot tv) [] (.obj o) = RR (.obj o) := by simp [eZ]
 refine ⟨_, _, ?_, kY.yB (E' := { E with w := E.w.setRow B.b (jn cs (B.off + (i * s + k)) (a.eval (.tmp tv)).cells.toList) }) Bw (o := o) (R := B.b :: R₁) (fun b h => by subst h; rw [vd]; exact lu) rfl ?_ ?_ ?_⟩
 ·show (do Instr.storeAt t (a.eval x) (a.eval (.tmp tv)); Pure.pure Next.skip : Sem Next).run P E.w = _
  rw [hc]
  exact y9 gS
 ·simp only [dN]
  refine ⟨hu.set (by rw [j9 (by simpa using hk)]; exact og), .inr ⟨B, _, tb, R₁, hB, setRow_heap E.w B.b cs _ tb _ hw, hφ, by simpa using lv, by rw [lU (by simp at vc ⊢; omega)]; exact hlen, va, rfl⟩⟩
 ·refine List.nodup_cons.2 ⟨fun h => ?_, oo Ht⟩
  rcases cP _ h with h' | h'
  ·exact lz.1 h'
  ·exact yJ _ h' lu
 ·intro b hb
  have cJ : b ∈ RR (.obj o) ∨ b ∈ RR (.slot tv) := by
   rw [iH]
   rcases List.mem_cons.1 hb with h | h
   ·exact .inl (by simp [h])
   ·rcases cP b h with h' | h'
    ·exact .inl (List.mem_cons.2 (.inr h'))
    ·exact .inr h'
  have DD : b < E.w.heap.size ∧ ¬ G.K b := by rcases cJ with h | h <;> exact hi.own _ _ h
  refine ⟨by simpa using DD.1, DD.2, fun p hp x6 => ?_⟩
  have EG : p ≠ .slot tv ∧ b ∈ RR p := by
   unfold eZ at x6
   split at x6
   ·cases x6
   ·rename_i h; exact ⟨h, x6⟩
  rcases cJ with h | h
  ·exact hi.apart _ _ hp b EG.2 h
  ·exact hi.apart _ _ EG.1 b EG.2 h
theorem Sh.Hu {s : Nat} {rows : List (List X)} (o : Nat) (hx : look st.aA d = some (.cX s rows)) (hF : N.F.elem o = false) : Sh N st (((st.kill o).dO o (.rows s rows)).put d (.aY o s 0 rows.length)) := by
 intro G hn a w hh
 obtain ⟨E, RR, rfl, hi⟩ := hh
 have hv := hi.aA d _ hx
 have jA := hi.nodup (.slot d)
 simp only [RX] at hv
 obtain ⟨hu, base, cap, hc, cJ⟩ := hv
 have kY := hi.no d
 have DE : ∀ (E' : Env) (fe : Own → List Nat), Inv G E' fe (((st.put d .no).kill o).dO o (.rows s rows)) a → (∃ R, R = [] ∧ RX E' (.aY o s 0 rows.length) (a.tmps.getD d undef) R) →
   bZ G (((st.kill o).dO o (.rows s rows)).put d (.aY o s 0 rows.length)) a E'.w := by
  intro E' fe h3 ⟨R, hR, j5⟩
  subst hR
  have h4 := h3.relabel (d := d) j5 List.nodup_nil (fun _ h => by cases h)
  refine ⟨E', eZ fe (.slot d) [], rfl, ?_⟩
  refine { h4 with aA := fun q y hy => h4.aA q y ?_, aC := fun q y hy => h4.aC q y hy }
  simp only [St.put, St.dO, St.kill, sq, List.map_cons, look] at hy ⊢
  cases hb : Nat.beq d q with
  | true => rw [hb] at hy; simpa using hy
  | false => rw [hb] at hy; simpa using hy
 have hβ : ∀ (bk : Option DA), cz G E { E with β := fun q => if q = o then bk else E.β q } (fun _ => False) := fun _ =>
  ⟨rfl, fun _ h => h.elim, fun _ h => h.elim, fun _ _ _ => rfl, Nat.le_refl _, rfl, rfl, rfl⟩
 rcases cJ with ⟨h1, h2, h3⟩ | ⟨b, off, cs, ty, R', hb, hw, hl, ho, hφ, j4, iH⟩
 ·have h4 := kY.m4 (hβ none) (o := o) (ob := .rows s rows) (R := []) (fun _ h => h.elim) (fun q hq => by simp [hq]) (fun h => by rw [hn, hF] at h; cases h)
   (by simp only [dN]; exact ⟨hu, .inl ⟨by simp, h1, trivial⟩⟩) List.nodup_nil (fun _ h => by cases h)
  refine DE { E with β := fun q => if q = o then none else E.β q } _ h4 ⟨[], rfl, ?_⟩
  simp only [RX]
  exact ⟨trivial, base, cap, hc, .inl ⟨by simp, trivial, by simp [h1], h2⟩⟩
 ·rw [iH] at jA
  have lz := List.nodup_cons.1 jA
  have iG : E.On { E with β := fun q => if q = o then some ⟨b, off, cap⟩ else E.β q } R' := ⟨fun _ _ _ h => h, fun _ _ => ⟨rfl, fun h => h⟩⟩
  have h4 := kY.m4 (hβ (some ⟨b, off, cap⟩)) (o := o) (ob := .rows s rows) (R := b :: R') (fun _ h => h.elim) (fun q hq => by simp [hq]) (fun h => by rw [hn, hF] at h; cases h)
   (by simp only [dN]; exact ⟨hu, .inr ⟨⟨b, off, cap⟩, cs, ty, R', by simp, hw, hφ, hl, ho, bX.mono _ _ _ _ iG j4, rfl⟩⟩) jA
   (fun c nv => by
    have hm : c ∈ RR (.slot d) := by rw [iH]; exact nv
    refine ⟨(hi.own _ _ hm).1, (hi.own _ _ hm).2, fun p hp sm => ?_⟩
    unfold eZ at sm
    split at sm
    ·cases sm
    ·rename_i h; exact hi.apart _ _ h c sm hm)
  refine DE { E with β := fun q => if q = o then some ⟨b, off, cap⟩ else E.β q } _ h4 ⟨[], rfl, ?_⟩
  simp only [RX]
  exact ⟨trivial, base, cap, hc, .inr ⟨⟨b, off, cap⟩, by simp, by simp, hl, .inr (by simpa using hb)⟩⟩
theorem Sh.cK {s o n : Nat} {rows : List (List X)} (hx : look st.aA d = some (.aY o s 0 n)) (ho : look st.aC o = some (.rows s rows)) (hl : n = rows.length) (hF : N.F.elem o = false) :
  Sh N st (((st.kill o).dO o (.rows 0 [])).put d (.cX s rows)) := by
 intro G hn a w hh
 obtain ⟨E, RR, rfl, hi⟩ := hh
 subst hl
 have hv := hi.aA d _ hx
 have aS := hi.aC o _ ho
 have jA := hi.nodup (.obj o)
 simp only [RX] at hv
 obtain ⟨_, base, cap, hc, cJ⟩ := hv
 simp only [dN] at aS
 obtain ⟨hu, aS⟩ := aS
 have hβ : cz G E { E with β := fun q => if q = o then none else E.β q } (fun _ => False) :=
  ⟨rfl, fun _ h => h.elim, fun _ h => h.elim, fun _ _ _ => rfl, Nat.le_refl _, rfl, rfl, rfl⟩
 have h4 := hi.m4 hβ (o := o) (ob := .rows 0 []) (R := []) (fun _ h => h.elim) (fun q hq => by simp [hq]) (fun h => by rw [hn, hF] at h; cases h)
  (by simp only [dN]; exact ⟨fun _ h => (by cases h), .inl ⟨by simp, trivial, trivial⟩⟩) List.nodup_nil (fun _ h => by cases h)
 have Hv : ∀ c ∈ RR (.obj o), c < E.w.heap.size ∧ ¬ G.K c ∧ ∀ p, p ≠ .slot d → c ∉ fM st RR o [] p := by
  intro c nv
  refine ⟨(hi.own _ _ nv).1, (hi.own _ _ nv).2, fun p _ sm => ?_⟩
  cases p with
  | obj q =>
   by_cases hq : q = o
   ·subst hq; simp [fM] at sm
   ·have : c ∈ RR (.obj q) := by simpa [fM, hq] using sm
    exact hi.apart (.obj q) (.obj o) (by simpa using hq) c this nv
  | slot q =>
   rcases kA st RR o [] q with h | h
   ·rw [h] at sm; cases sm
   ·rw [h] at sm; exact hi.apart (.slot q) (.obj o) (by simp) c sm nv
 have Qu : ∃ R, RX { E with β := fun q => if q = o then none else E.β q } (.cX s rows) (a.tmps.getD d undef) R ∧ R.Nodup ∧ ∀ b ∈ R, b ∈ RR (.obj o) := by
  simp only [RX]
  rcases aS with ⟨h1, h2, h3⟩ | ⟨B, cs, ty, R', hB, hw, hφ, lv, ez, j4, iH⟩
  ·rcases cJ with ⟨_, _, _, h5⟩ | ⟨B, hB, _⟩
   ·exact ⟨[], ⟨hu, base, cap, hc, .inl ⟨h2, h5, rfl⟩⟩, List.nodup_nil, fun _ h => by cases h⟩
   ·rw [h1] at hB; cases hB
  ·rcases cJ with ⟨h1, _⟩ | ⟨B', im, x4, pF, hb⟩
   ·rw [hB] at h1; cases h1
   ·rw [hB] at im
    obtain rfl := Option.some.inj im
    have iG : E.On { E with β := fun q => if q = o then none else E.β q } R' := ⟨fun _ _ _ h => h, fun _ _ => ⟨rfl, fun h => h⟩⟩
    rcases hb with hb | hb
    ·refine ⟨[], ⟨hu, base, cap, hc, .inl ⟨List.eq_nil_of_length_eq_zero om, hb, rfl⟩⟩, List.nodup_nil, fun _ h => by cases h⟩
    ·refine ⟨RR (.obj o), ⟨hu, base, cap, hc, .inr ⟨B.b, B.off, cs, ty, R', by simpa using hb, hw, om, by rw [show cap = B.cap by omega]; exact ez, hφ, bX.mono _ _ _ _ iG j4, iH⟩⟩, jA, fun _ h => h⟩
 obtain ⟨R, pI, x7, Qv⟩ := Qu
 exact ⟨{ E with β := fun q => if q = o then none else E.β q }, _, rfl, h4.relabel pI x7 (fun c hc => Hv c (Qv c hc))⟩
end
end Go.AW
namespace Go.AW
open Go
structure Src (E : Env) (s : Nat) (new : List (List X)) (c : Value) (R : List Nat) : Prop where
 ex : ∃ base cap, ∃ vs : List Value, c = .slice (some base) new.length cap ∧ vs.length = new.length * s ∧ (∀ j v, vs[j]? = some v → E.w.cell? (base.add j) = some v) ∧ (∀ v ∈ vs, v.oneCell' = true) ∧
  ∀ (E' : Env) (cs : Array Value) (off : Nat), E.On E' R → (∀ j, j < vs.length → cs[off + j]? = vs[j]?) → bX E' new cs off R
 cX : bJ s new
theorem bX.kB {E : Env} : ∀ {rs : List (List X)} {cs : Array Value} {off : Nat} {R : List Nat}, bX E rs cs off R → ∃ vs : List Value, vs.length = rs.flatten.length ∧ (∀ j v, vs[j]? = some v → cs[off + j]? = some v) ∧ (∀ v ∈ vs, v.oneCell' = true)
 | [], _, _, _, _ => ⟨[], rfl, by simp, by simp⟩
 | r :: rs, cs, off, R, h => by
  simp only [bX] at h
  obtain ⟨R₁, R₂, _, h1, h2, _⟩ := h
  obtain ⟨vs, hl, hv, hx⟩ := RO.cells h1
  obtain ⟨KQ, wB, KR, mr⟩ := bX.kB h2
  refine ⟨vs ++ KQ, by simp [hl, wB], ?_, ?_⟩
  ·intro j v hj
   by_cases lV : j < vs.length
   ·rw [List.getElem?_append_left lV] at hj; exact hv j v hj
   ·rw [List.getElem?_append_right om] at hj
    have := KR _ v hj
    rw [show off + j = off + r.length + (j - vs.length) by omega]; exact this
  ·intro v KS
   rcases List.mem_append.1 KS with h' | h'
   ·exact bt.lW hx v h'
   ·exact mr v h'
theorem iF.kB {E : Env} : ∀ {rs : List (List X)} {b off : Nat}, iF E rs b off → ∃ vs : List Value, vs.length = rs.flatten.length ∧ (∀ j v, vs[j]? = some v → E.φ b (off + j) = some v) ∧ (∀ v ∈ vs, v.oneCell' = true) ∧
   ∀ (E' : Env) (cs : Array Value) (o : Nat), E.On E' [] → (∀ j, j < vs.length → cs[o + j]? = vs[j]?) → bX E' rs cs o []
 | [], _, _, _ => ⟨[], rfl, by simp, by simp, fun _ _ _ _ _ => by simp [bX]⟩
 | r :: rs, b, off, h => by
  simp only [iF] at h
  obtain ⟨vs, hl, hv, hx⟩ := RF.cells h.1
  obtain ⟨KQ, wB, KR, mr, Qw⟩ := iF.kB h.2
  have yp : ∀ (row : List X) (b off : Nat), RF E row b off → X.ga row = true := by
   intro row
   induction row with
   | nil => intro _ _ _; rfl
   | cons x t ih =>
    intro b off h
    simp only [RF] at h
    obtain ⟨⟨_, _, _, hn, _⟩, h2⟩ := h
    simp only [X.ga, hn, ih b _ h2, Bool.and_self]
  refine ⟨vs ++ KQ, by simp [hl, wB], ?_, ?_, ?_⟩
  ·intro j v hj
   by_cases lV : j < vs.length
   ·rw [List.getElem?_append_left lV] at hj; exact hv j v hj
   ·rw [List.getElem?_append_right om] at hj
    have := KR _ v hj
    rw [show off + j = off + r.length + (j - vs.length) by omega]; exact this
  ·intro v KS
   rcases List.mem_append.1 KS with h' | h'
   ·exact bt.lW hx v h'
   ·exact mr v h'
  ·intro E' cs o hE tt
   simp only [bX]
   refine ⟨[], [], yp r b off h.1, ?_, ?_, rfl⟩
   ·refine bt.EB (bt.mono _ _ _ hE (fun q hq => by rw [X.eB (yp r b off h.1)] at hq; cases hq) hx) fun j hj => ?_
    rw [tt j (by simp; omega), List.getElem?_append_left om]
   ·refine Qw E' cs _ hE fun j hj => ?_
    have := tt (vs.length + j) (by simp; omega)
    rw [List.getElem?_append_right om] at this
    rw [← hl, Nat.add_assoc, this]
    congr 1
    omega
section
variable {P : Program} {N : eg} {G : Ctx} {E : Env} {RR : Own → List Nat} {st : St} {a : Act}
theorem Src.Hw {s : Nat} {new : List (List X)} {c : Value} {R : List Nat} (h : RX E (.cX s new) c R) (fc : 0 < new.length) : ∃ R', Src E s new c R' ∧ (∀ b ∈ R', b ∈ R) ∧ (R.Nodup → R'.Nodup) := by
 simp only [RX] at h
 obtain ⟨hu, base, cap, hc, h⟩ := h
 rcases h with ⟨h1, _⟩ | ⟨b, off, cs, ty, R', hb, hw, hl, ho, hφ, j4, hR⟩
 ·subst h1; simp at fc
 obtain ⟨vs, Hp, hv, ve⟩ := bX.kB j4
 refine ⟨R', ⟨⟨⟨b, off, none⟩, cap, vs, by rw [hc, hb], by rw [Hp, length_flatten hu], fun j v hj => by rw [fO, cy hw]; exact hv j v hj, ve, ?_⟩, hu⟩, fun c hc => by rw [hR]; simp [hc], fun h => by rw [hR] at h; exact (List.nodup_cons.1 h).2⟩
 intro E' cG pJ hE tt
 have h1 := bX.mono _ _ _ _ hE j4
 -- move the cells from off to pJ
 have key : ∀ (rs : List (List X)) (o1 o2 : Nat) (R : List Nat), (∀ j, j < rs.flatten.length → cG[o2 + j]? = cs[o1 + j]?) → bX E' rs cs o1 R → bX E' rs cG o2 R := by
  have EH : ∀ (xs : List X) (o1 o2 : Nat) (R : List Nat), (∀ j, j < xs.length → cG[o2 + j]? = cs[o1 + j]?) → RO E' xs cs o1 R → RO E' xs cG o2 R := by
   intro xs
   induction xs with
   | nil => intro _ _ _ _ h; simpa [RO] using h
   | cons x r ih =>
    intro o1 o2 R he h
    simp only [RO] at h ⊢
    obtain ⟨u, R₁, R₂, hu, hs, h1, h2, hR⟩ := h
    refine ⟨u, R₁, R₂, ?_, hs, h1, ih _ _ _ (fun j hj => ?_) h2, hR⟩
    ·have := he 0 (by simp)
     simp only [Nat.add_zero] at this
     rw [this]; exact hu
    ·have := he (j + 1) (by simp; omega)
     rw [show o2 + 1 + j = o2 + (j + 1) by omega, show o1 + 1 + j = o1 + (j + 1) by omega]; exact this
  intro rs
  induction rs with
  | nil => intro _ _ _ _ h; simpa [bX] using h
  | cons x r ih =>
   intro o1 o2 R he h
   simp only [bX] at h ⊢
   obtain ⟨R₁, R₂, hn, h1, h2, hR⟩ := h
   refine ⟨R₁, R₂, hn, EH _ _ _ _ (fun j hj => he j (by simp; omega)) h1, ih _ _ _ (fun j hj => ?_) h2, hR⟩
   have := he (x.length + j) (by simp at hj ⊢; omega)
   rw [Nat.add_assoc, Nat.add_assoc]; exact this
 refine key new off pJ R' (fun j hj => ?_) h1
 rw [tt j om]
 have lV : j < vs.length := by omega
 rw [List.getElem?_eq_getElem lV]
 exact (hv j _ (List.getElem?_eq_getElem lV)).symm
theorem Src.KT (hi : Inv G E RR st a) {s : Nat} {new : List (List X)} {c : Value} {R : List Nat} (h : RX E (.fz s new) c R) (fc : 0 < new.length) : Src E s new c [] := by
 simp only [RX] at h
 obtain ⟨_, hu, base, cap, hc, h⟩ := h
 rcases h with ⟨h1, _⟩ | ⟨b, off, hb, hl, hf⟩
 ·subst h1; simp at fc
 obtain ⟨vs, Hp, hv, ve, hr⟩ := iF.kB hf
 exact ⟨⟨⟨b, off, none⟩, cap, vs, by rw [hc, hb], by rw [Hp, length_flatten hu], fun j v hj => by rw [fO]; exact hi.lq _ _ _ (hv j v hj), ve, hr⟩, hu⟩
theorem pK {t e s cE n cap m ty : Nat} {base : Option Addr} {b2 : Addr} {c2 : Nat} {iI news z : List Value} (ht : TY.slice P t = some (e, s, cE)) (hz : TY.zero P e = some z) (oP : z.length = s) (hm : 0 < m)
  (mu : iI.length = n * s) (hold : ∀ j v, iI[j]? = some v → ∃ b off, base = some ⟨b, off, none⟩ ∧ E.w.cell? ⟨b, off + j, none⟩ = some v) (BR : base = none → n = 0 ∧ cap = 0)
  (wG : news.length = m * s) (mH : ∀ j v, news[j]? = some v → E.w.cell? (b2.add j) = some v) (ve : ∀ v ∈ news, v.oneCell' = true) (oq : (n + m) * cE ≤ 140737488355328) (yu : n + m ≤ 4611686018427387904)
  (wH : n + m ≤ cap → ∃ b off cs tb, base = some ⟨b, off, none⟩ ∧ E.w.heap[b]? = some (.cells cs tb (0, 0)) ∧ off + cap * s ≤ cs.size) :
  (∃ b off cs tb, base = some ⟨b, off, none⟩ ∧ E.w.heap[b]? = some (.cells cs tb (0, 0)) ∧ n + m ≤ cap ∧ off + cap * s ≤ cs.size ∧
   (Builtin.append_ #[t, t] ty #[.slice base n cap, .slice (some b2) m c2]).run P E.w = .ok (.slice base (n + m) cap) (E.w.setRow b (jn cs (off + n * s) news))) ∨
  (∃ pL rest, n + m ≤ pL ∧ rest.size = (pL - (n + m)) * s ∧
   (Builtin.append_ #[t, t] ty #[.slice base n cap, .slice (some b2) m c2]).run P E.w = .ok (.slice (some ⟨E.w.heap.size, 0, none⟩) (n + m) pL) (E.w.drew.alloc (.cells ((iI ++ news).toArray ++ rest) e))) := by
 obtain ⟨hu, i, fU, hs, BN⟩ := TY.cI ht
 obtain ⟨i', z0, nj, yq, yr⟩ := TY.eV hz
 rw [fU] at nj
 obtain rfl := Option.some.inj nj
 have KU : z0.cells.size = s := by
  have : z0.cells.toList.length = z.length := by rw [yr]
  simpa [oP] using this
 by_cases hr : n + m ≤ cap
 ·obtain ⟨b, off, cs, tb, hb, hw, ez⟩ := wH hr
  refine .inl ⟨b, off, cs, tb, hb, hw, hr, ez, ?_⟩
  have KV : (n + m) * s ≤ cap * s := Nat.mul_le_mul_right s hr
  rw [Nat.add_mul] at KV
  have hf := run_firstCells_some (P := P) E.w i.size m b2 m c2 news (by rw [hs]; exact wG) mH
  have yF := run_storeCells_at P b (off + n * s) tb news 0 cs E.w hw om ve
  simp only [Nat.add_zero] at yF
  subst hb
  rw [hs] at hf
  simp [Builtin.append_, run_underlying hu, sizeOf, typeInfo, fU, Builtin.lenOf, hr, hf, fO, hs, yF, jn]
 ·refine .inr ?_
  have pe : Builtin.nextslicecap (n + m) cap * i.bytes ≤ 281474976710656 := growslice_fits om (by rw [BN]; omega)
  have OC : ∀ k, (Builtin.zeroCells z0.cells k).size = k * s := fun k => by rw [size_zeroCells, KU]
  cases rK : base with
  | none =>
   obtain ⟨rfl, rfl⟩ := BR rK
   have holds : iI = [] := List.eq_nil_of_length_eq_zero (by simpa using mu)
   subst holds
   refine ⟨grownCap E.w m 0 e, _, by have := grownCap_ge E.w m 0 e; omega, OC _, ?_⟩
   have := run_append_nil (P := P) E.w t ty e i z0 hu fU yq b2 m c2 news (by rw [hs]; exact wG) mH hm om (by
    have : m * cE ≤ 140737488355328 := by simpa using oq
    rw [BN]; omega)
   simpa using this
  | some bb =>
   have Hx : ∀ j v, iI[j]? = some v → E.w.cell? (bb.add j) = some v := by
    intro j v hj
    obtain ⟨b, off, hb, hc⟩ := hold j v hj
    rw [rK] at hb
    obtain rfl := Option.some.inj hb
    rw [fO]; exact hc
   refine ⟨grownCap E.w (n + m) cap e, _, grownCap_ge E.w (n + m) cap e, OC _, ?_⟩
   have := run_append_grow (P := P) E.w t ty e i z0 hu fU yq bb n cap iI (by rw [hs]; exact mu) Hx b2 m c2 news (by rw [hs]; exact wG) mH om om pe
   rw [this]
   simp
theorem bX.vf {E : Env} {rs : List (List X)} {cs : Array Value} {off s lo n : Nat} {R : List Nat} (hu : bJ s rs) (h : bX E rs cs off R) (hl : lo + n ≤ rs.length) :
  ∃ R', bX E ((rs.drop lo).take n) cs (off + lo * s) R' ∧ (∀ b ∈ R', b ∈ R) ∧ (R.Nodup → R'.Nodup) := by
 have h0 : rs = rs.take lo ++ ((rs.drop lo).take n ++ rs.drop (lo + n)) := by
  conv => lhs; rw [← List.take_append_drop lo rs, ← List.take_append_drop n (rs.drop lo), List.drop_drop]
 rw [h0] at h
 obtain ⟨R₁, R₂, h1, h2, rfl⟩ := bX.nw h
 obtain ⟨R₃, R₄, h3, h4, rfl⟩ := bX.nw h2
 rw [length_flatten (hu.take lo), List.length_take, Nat.min_eq_left om] at h3
 refine ⟨R₃, h3, fun b hb => by simp [hb], fun hn => ?_⟩
 have := (List.nodup_append.1 hn).2.1
 exact (List.nodup_append.1 this).1
theorem Inv.append (hi : Inv G E RR st a) {t e s cE ty : Nat} {z : List Value} {o lo n : Nat} {rs new : List (List X)} {c c2 : Value} {R2 : List Nat} (ht : TY.slice P t = some (e, s, cE)) (hz : TY.zero P e = some z) (oP : z.length = s)
  (hx : RX E (.aY o s lo n) c []) (ho : look st.aC o = some (.rows s rs)) (mJ : lo + n ≤ rs.length) (yL : Src E s new c2 R2) (hm : 0 < new.length) (x7 : R2.Nodup) (ot : ∀ b ∈ R2, b < E.w.heap.size ∧ ¬ G.K b ∧ ∀ p, b ∉ RR p)
  (oq : (n + new.length) * cE ≤ 140737488355328) (yu : n + new.length ≤ 4611686018427387904) (hF : G.fn.F.elem o = false) :
  ∃ u E' fe, (Builtin.append_ #[t, t] ty #[c, c2]).run P E.w = .ok u E'.w ∧ Inv G E' fe ((st.kill o).dO o (.rows s (((rs.drop lo).take n) ++ new))) a ∧ RX E' (.aY o s 0 (n + new.length)) u [] := by
 have aS := hi.aC o _ ho
 have jA := hi.nodup (.obj o)
 simp only [RX] at hx
 obtain ⟨_, base, cap, rfl, cJ⟩ := hx
 simp only [dN] at aS
 obtain ⟨hu, aS⟩ := aS
 obtain ⟨⟨b2, Qx, news, rfl, wG, mH, ve, Hy⟩, wA⟩ := yL
 have uJ : ((rs.drop lo).take n).length = n := by simp; omega
 have hU : bJ s (((rs.drop lo).take n) ++ new) := by
  intro r hr
  rcases List.mem_append.1 hr with h | h
  ·exact (hu.drop lo).take n r h
  ·exact wA r h
 have Hz : ∀ b ∈ R2, b ∉ RR (.obj o) := fun b hb => (ot b hb).2.2 _
 -- the KW cells, as values, and what lies in them
 have hold : ∃ (iI : List Value) (R1 : List Nat), iI.length = n * s ∧ (∀ j v, iI[j]? = some v → ∃ b off, base = some ⟨b, off, none⟩ ∧ E.w.cell? ⟨b, off + j, none⟩ = some v) ∧ (∀ b ∈ R1, b ∈ RR (.obj o)) ∧ R1.Nodup ∧
   (base = none → n = 0 ∧ cap = 0) ∧
   (∀ (E' : Env) (cG : Array Value) (pJ : Nat), E.On E' R1 → (∀ j, j < iI.length → cG[pJ + j]? = iI[j]?) → bX E' ((rs.drop lo).take n) cG pJ R1) ∧
   (n + new.length ≤ cap → ∃ B cs tb, E.β o = some B ∧ base = some ⟨B.b, B.off + lo * s, none⟩ ∧ E.w.heap[B.b]? = some (.cells cs tb (0, 0)) ∧ B.off + lo * s + cap * s ≤ cs.size ∧ (∀ i, E.φ B.b i = none) ∧ B.b ∈ RR (.obj o) ∧ B.b ∉ R1) := by
  by_cases l4 : cap = 0
  ·have BR : n = 0 := by rcases cJ with ⟨_, _, h, _⟩ | ⟨_, _, _, h, _⟩ <;> omega
   subst BR
   refine ⟨[], [], by simp, by simp, by simp, List.nodup_nil, fun _ => ⟨rfl, l4⟩, fun _ _ _ _ _ => by simp [bX], fun h => by omega⟩
  ·rcases cJ with ⟨_, _, _, h⟩ | ⟨B, hB, Hk, pF, hb⟩
   ·exact absurd h l4
   have fS := hb.resolve_left l4
   rcases aS with ⟨h1, _⟩ | ⟨B', cs, tb, R', im, hw, hφ, sm, ez, j4, iH⟩
   ·rw [hB] at h1; cases h1
   rw [hB] at im
   obtain rfl := Option.some.inj im
   rw [iH] at jA
   obtain ⟨tw, lz⟩ := List.nodup_cons.1 jA
   obtain ⟨R1, x8, cP, EI⟩ := bX.vf hu j4 mJ
   obtain ⟨iI, mu, H7, _⟩ := bX.kB x8
   rw [length_flatten ((hu.drop lo).take n), uJ] at mu
   refine ⟨iI, R1, mu, fun j v hj => ⟨B.b, B.off + lo * s, fS, by rw [cy hw]; exact H7 j v hj⟩, fun b hb => by rw [iH]; simp [cP b hb], EI lz, (fun h => by rw [fS] at h; cases h), ?_, ?_⟩
   ·intro E' cG pJ hE tt
    have h1 := bX.mono _ _ _ _ hE x8
    have key : ∀ (rs : List (List X)) (o1 o2 : Nat) (R : List Nat), (∀ j, j < rs.flatten.length → cG[o2 + j]? = cs[o1 + j]?) → bX E' rs cs o1 R → bX E' rs cG o2 R := by
     have EH : ∀ (xs : List X) (o1 o2 : Nat) (R : List Nat), (∀ j, j < xs.length → cG[o2 + j]? = cs[o1 + j]?) → RO E' xs cs o1 R → RO E' xs cG o2 R := by
      intro xs
      induction xs with
      | nil => intro _ _ _ _ h; simpa [RO] using h
      | cons x r ih =>
       intro o1 o2 R he h
       simp only [RO] at h ⊢
       obtain ⟨u, R₁, R₂, hu, hs, h1, h2, hR⟩ := h
       refine ⟨u, R₁, R₂, ?_, hs, h1, ih _ _ _ (fun j hj => ?_) h2, hR⟩
       ·have := he 0 (by simp)
        simp only [Nat.add_zero] at this
        rw [this]; exact hu
       ·have := he (j + 1) (by simp; omega)
        rw [show o2 + 1 + j = o2 + (j + 1) by omega, show o1 + 1 + j = o1 + (j + 1) by omega]; exact this
     intro rs
     induction rs with
     | nil => intro _ _ _ _ h; simpa [bX] using h
     | cons x r ih =>
      intro o1 o2 R he h
      simp only [bX] at h ⊢
      obtain ⟨R₁, R₂, hn, h1, h2, hR⟩ := h
      refine ⟨R₁, R₂, hn, EH _ _ _ _ (fun j hj => he j (by simp; omega)) h1, ih _ _ _ (fun j hj => ?_) h2, hR⟩
      have := he (x.length + j) (by simp at hj ⊢; omega)
      rw [Nat.add_assoc, Nat.add_assoc]; exact this
    refine key _ (B.off + lo * s) pJ R1 (fun j hj => ?_) h1
    have lV : j < iI.length := by
     rw [length_flatten ((hu.drop lo).take n), uJ] at hj
     omega
    rw [tt j lV, List.getElem?_eq_getElem lV]
    exact (H7 j _ (List.getElem?_eq_getElem lV)).symm
   ·intro _
    refine ⟨B, cs, tb, hB, fS, hw, ?_, hφ, by rw [iH]; simp, fun h => tw (cP _ h)⟩
    have : B.cap = lo + cap := Hk.symm
    rw [this, Nat.add_mul] at ez
    omega
 obtain ⟨iI, R1, mu, H7, pI, KX, BR, DF, wH⟩ := hold
 have oo : (R1 ++ R2).Nodup := by
  rw [List.nodup_append]
  exact ⟨KX, x7, fun x hx y hy e => Hz y hy (by rw [← e]; exact pI x hx)⟩
 rcases pK (P := P) (E := E) (ty := ty) ht hz oP hm mu H7 BR wG mH ve oq yu (fun h => by
   obtain ⟨B, cs, tb, _, h2, h3, h4, _⟩ := wH h
   exact ⟨B.b, B.off + lo * s, cs, tb, h2, h3, h4⟩) with ⟨b, off, cs, tb, rK, hw, pe, ez, gS⟩ | ⟨pL, rest, OD, H8, gS⟩
 ·-- in place
  obtain ⟨B, OE, SW, hB, vg, pf, HA, hφ, lu, HB⟩ := wH pe
  rw [rK] at vg
  simp only [Option.some.injEq, Addr.mk.injEq, and_true] at vg
  obtain ⟨rfl, rfl⟩ := vg
  rw [hw] at pf
  simp only [Option.some.injEq, Go.Obj.cells.injEq] at pf
  obtain ⟨rfl, rfl, _⟩ := pf
  have KV : (n + new.length) * s ≤ cap * s := Nat.mul_le_mul_right s pe
  rw [Nat.add_mul] at KV
  have KY : B.off + lo * s + n * s + news.length ≤ cs.size := by omega
  let E' : Env := { E with w := E.w.setRow B.b (jn cs (B.off + lo * s + n * s) news), β := fun q => if q = o then some ⟨B.b, B.off + lo * s, cap⟩ else E.β q }
  have HC : B.b ∉ R2 := fun h => Hz _ h lu
  have iG : ∀ yK, (∀ b ∈ yK, b ≠ B.b) → E.On E' yK := fun yK h => ⟨fun _ _ _ h => h, fun b hb => ⟨setRow_other E.w B.b b _ (h b hb), fun h => h⟩⟩
  have Bw : cz G E E' (fun c => c = B.b) := { cz.setRow G E B.b (jn cs (B.off + lo * s + n * s) news) hφ (hi.r3 lu) with φ := rfl }
  have yM : bX E' (((rs.drop lo).take n) ++ new) (jn cs (B.off + lo * s + n * s) news) (B.off + lo * s) (R1 ++ R2) := by
   refine bX.app (DF E' _ _ (iG R1 (fun b hb e => HB (by rw [← e]; exact hb))) fun j hj => ?_) ?_
   ·rw [ly KY (.inl om)]
    have := H7 j _ (List.getElem?_eq_getElem hj)
    obtain ⟨b, off, hb, hc⟩ := this
    rw [rK] at hb
    simp only [Option.some.injEq, Addr.mk.injEq, and_true] at hb
    obtain ⟨rfl, rfl⟩ := hb
    rw [cy hw] at hc
    rw [hc, List.getElem?_eq_getElem hj]
   ·rw [length_flatten ((hu.drop lo).take n), uJ]
    exact Hy E' _ _ (iG R2 (fun b hb e => HC (by rw [← e]; exact hb))) fun j hj => wE KY hj
  refine ⟨_, E', _, gS, hi.m4 Bw (o := o) (R := B.b :: (R1 ++ R2)) (fun b h => by subst h; exact lu) (fun q hq => by simp [E', hq]) (fun h => by rw [hF] at h; cases h) ?_ ?_ ?_, ?_⟩
  ·simp only [dN]
   refine ⟨hU, .inr ⟨⟨B.b, B.off + lo * s, cap⟩, _, tb, R1 ++ R2, by simp [E'], setRow_heap E.w B.b cs _ tb _ hw, hφ, by simp [uJ]; omega, by rw [lU KY]; exact ez, yM, rfl⟩⟩
  ·refine List.nodup_cons.2 ⟨fun h => ?_, oo⟩
   rcases List.mem_append.1 h with h | h
   ·exact HB h
   ·exact HC h
  ·intro b hb
   have hs : E'.w.heap.size = E.w.heap.size := by simp [E']
   rw [hs]
   rcases List.mem_cons.1 hb with h | h
   ·subst h; exact ⟨(hi.own _ _ lu).1, hi.r3 lu, hi.tp (.inl lu)⟩
   ·rcases List.mem_append.1 h with h | h
    ·exact ⟨(hi.own _ _ (pI b h)).1, hi.r3 (pI b h), hi.tp (.inl (pI b h))⟩
    ·exact ⟨(ot b h).1, (ot b h).2.1, fun p _ => (ot b h).2.2 p⟩
  ·simp only [RX]
   exact ⟨trivial, _, cap, rfl, .inr ⟨⟨B.b, B.off + lo * s, cap⟩, by simp [E'], by simp, om, .inr (by simpa using rK)⟩⟩
 ·-- in a new block
  let E' : Env := { E with w := E.w.drew.alloc (.cells ((iI ++ news).toArray ++ rest) e), β := fun q => if q = o then some ⟨E.w.heap.size, 0, pL⟩ else E.β q }
  have Bw : cz G E E' (fun _ => False) := by
   have h1 := (cz.drew G E).trans (cz.alloc G { E with w := E.w.drew } (.cells ((iI ++ news).toArray ++ rest) e)) (fun _ h => h.elim)
   exact { h1 with φ := rfl }
  have iG : ∀ yK, (∀ b ∈ yK, b < E.w.heap.size) → E.On E' yK := fun yK h => ⟨fun _ _ _ h => h, fun b hb => ⟨Bw.same b (h b hb) (fun h => h), fun h => h⟩⟩
  have tz : ∀ j, j < (iI ++ news).length → ((iI ++ news).toArray ++ rest)[0 + j]? = (iI ++ news)[j]? := by
   intro j hj
   rw [Nat.zero_add, Array.getElem?_append_left (by simpa using hj)]
   simp
  have ez : ((iI ++ news).toArray ++ rest).size = pL * s := by
   simp [H8, mu, wG]
   have : pL * s = (n + new.length) * s + (pL - (n + new.length)) * s := by rw [← Nat.add_mul]; congr 1; omega
   rw [this, Nat.add_mul]
  have yM : bX E' (((rs.drop lo).take n) ++ new) ((iI ++ news).toArray ++ rest) 0 (R1 ++ R2) := by
   refine bX.app (DF E' _ _ (iG R1 (fun b hb => (hi.own _ _ (pI b hb)).1)) fun j hj => ?_) ?_
   ·rw [tz j (by simp; omega), List.getElem?_append_left hj]
   ·rw [length_flatten ((hu.drop lo).take n), uJ]
    refine Hy E' _ _ (iG R2 (fun b hb => (ot b hb).1)) fun j hj => ?_
    have := tz (iI.length + j) (by simp; omega)
    rw [List.getElem?_append_right om] at this
    rw [show 0 + n * s + j = 0 + (iI.length + j) by omega, this]
    congr 1; omega
  have HD : E.w.heap.size ∉ R1 ++ R2 := by
   intro h
   rcases List.mem_append.1 h with h | h
   ·have := (hi.own _ _ (pI _ h)).1; omega
   ·have := (ot _ h).1; omega
  have KA : E'.w.heap.size = E.w.heap.size + 1 := by simp [E']
  refine ⟨_, E', _, gS, hi.m4 Bw (o := o) (R := E.w.heap.size :: (R1 ++ R2)) (fun _ h => h.elim) (fun q hq => by simp [E', hq]) (fun h => by rw [hF] at h; cases h) ?_ ?_ ?_, ?_⟩
  ·simp only [dN]
   refine ⟨hU, .inr ⟨⟨E.w.heap.size, 0, pL⟩, _, e, R1 ++ R2, by simp [E'], ?_, fun i => ?_, by simp [uJ]; omega, by rw [ez]; simp, yM, rfl⟩⟩
   ·have := heap_alloc E.w.drew (.cells ((iI ++ news).toArray ++ rest) e)
    exact this
   ·show E.φ E.w.heap.size i = none
    cases h : E.φ E.w.heap.size i with
    | none => rfl
    | some v => exact absurd (World.block_lt_of_cell? E.w _ (hi.lq _ _ _ h)) (by simp)
  ·exact List.nodup_cons.2 ⟨HD, oo⟩
  ·intro b hb
   rw [KA]
   rcases List.mem_cons.1 hb with h | h
   ·subst h
    refine ⟨om, fun hK => ?_, hi.tp (.inr (Nat.le_refl _))⟩
    have := hi.small _ hK
    have := hi.size
    omega
   ·rcases List.mem_append.1 h with h | h
    ·exact ⟨by have := (hi.own _ _ (pI b h)).1; omega, hi.r3 (pI b h), hi.tp (.inl (pI b h))⟩
    ·exact ⟨by have := (ot b h).1; omega, (ot b h).2.1, fun p _ => (ot b h).2.2 p⟩
  ·simp only [RX]
   exact ⟨trivial, _, pL, rfl, .inr ⟨⟨E.w.heap.size, 0, pL⟩, by simp [E'], by simp, om, .inr (by simp)⟩⟩
end
end Go.AW
namespace Go.AW
open Go
section
variable {P : Program} {N : eg} {G : Ctx} {E : Env} {RR : Own → List Nat} {st : St} {a : Act}
theorem Inv.trim (hi : Inv G E RR st a) {o s lo n : Nat} {rs : List (List X)} {c : Value} (hx : RX E (.aY o s lo n) c []) (ho : look st.aC o = some (.rows s rs)) (mJ : lo + n ≤ rs.length) (hF : G.fn.F.elem o = false) :
  ∃ E' fe, E'.w = E.w ∧ Inv G E' fe ((st.kill o).dO o (.rows s ((rs.drop lo).take n))) a ∧ RX E' (.aY o s 0 n) c [] := by
 have aS := hi.aC o _ ho
 have jA := hi.nodup (.obj o)
 simp only [RX] at hx
 obtain ⟨_, base, cap, rfl, cJ⟩ := hx
 simp only [dN] at aS
 obtain ⟨hu, aS⟩ := aS
 have hβ : ∀ (bk : Option DA), cz G E { E with β := fun q => if q = o then bk else E.β q } (fun _ => False) := fun _ =>
  ⟨rfl, fun _ h => h.elim, fun _ h => h.elim, fun _ _ _ => rfl, Nat.le_refl _, rfl, rfl, rfl⟩
 have uJ : ((rs.drop lo).take n).length = n := by simp; omega
 by_cases l4 : cap = 0
 ·have BR : n = 0 := by rcases cJ with ⟨_, _, h, _⟩ | ⟨_, _, _, h, _⟩ <;> omega
  subst BR
  refine ⟨{ E with β := fun q => if q = o then none else E.β q }, _, rfl, hi.m4 (hβ none) (o := o) (R := []) (fun _ h => h.elim) (fun q hq => by simp [hq]) (fun h => by rw [hF] at h; cases h) ?_ List.nodup_nil (fun _ h => by cases h), ?_⟩
  ·simp only [dN]; exact ⟨fun _ h => (by simp at h), .inl ⟨by simp, by simp, trivial⟩⟩
  ·simp only [RX]; exact ⟨trivial, base, cap, rfl, .inl ⟨by simp, trivial, trivial, l4⟩⟩
 ·rcases cJ with ⟨_, _, _, h⟩ | ⟨B, hB, Hk, pF, hb⟩
  ·exact absurd h l4
  have fS := hb.resolve_left l4
  rcases aS with ⟨h1, _⟩ | ⟨B', cs, tb, R', im, hw, hφ, sm, ez, j4, iH⟩
  ·rw [hB] at h1; cases h1
  rw [hB] at im
  obtain rfl := Option.some.inj im
  rw [iH] at jA
  obtain ⟨tw, lz⟩ := List.nodup_cons.1 jA
  obtain ⟨R1, x8, cP, EI⟩ := bX.vf hu j4 mJ
  have iG : E.On { E with β := fun q => if q = o then some ⟨B.b, B.off + lo * s, cap⟩ else E.β q } R1 := ⟨fun _ _ _ h => h, fun _ _ => ⟨rfl, fun h => h⟩⟩
  refine ⟨{ E with β := fun q => if q = o then some ⟨B.b, B.off + lo * s, cap⟩ else E.β q }, _, rfl, hi.m4 (hβ (some ⟨B.b, B.off + lo * s, cap⟩)) (o := o) (R := B.b :: R1) (fun _ h => h.elim) (fun q hq => by simp [hq]) (fun h => by rw [hF] at h; cases h) ?_ (List.nodup_cons.2 ⟨fun h => tw (cP _ h), EI lz⟩) ?_, ?_⟩
  ·simp only [dN]
   refine ⟨(hu.drop lo).take n, .inr ⟨⟨B.b, B.off + lo * s, cap⟩, cs, tb, R1, by simp, hw, hφ, by simp [uJ]; omega, ?_, bX.mono _ _ _ _ iG x8, rfl⟩⟩
   have : B.cap = lo + cap := Hk.symm
   rw [this, Nat.add_mul] at ez
   simp only; omega
  ·intro b yv
   have hm : b ∈ RR (.obj o) := by
    rw [iH]
    rcases List.mem_cons.1 yv with h | h
    ·simp [h]
    ·simp [cP b h]
   exact ⟨(hi.own _ _ hm).1, hi.r3 hm, hi.tp (.inl hm)⟩
  ·simp only [RX]
   exact ⟨trivial, base, cap, rfl, .inr ⟨⟨B.b, B.off + lo * s, cap⟩, by simp, by simp, pF, .inr (by simpa using fS)⟩⟩
theorem Sh.trim {d o s lo n : Nat} {rs : List (List X)} (hx : look st.aA d = some (.aY o s lo n)) (ho : look st.aC o = some (.rows s rs)) (mJ : lo + n ≤ rs.length) (hF : N.F.elem o = false) :
  Sh N st (((st.kill o).dO o (.rows s ((rs.drop lo).take n))).put d (.aY o s 0 n)) := by
 intro G hn a w hh
 obtain ⟨E, RR, rfl, hi⟩ := hh
 have hv := hi.aA d _ hx
 have h0 : RR (.slot d) = [] := RX.free (x := .aY o s lo n) rfl hv
 rw [h0] at hv
 obtain ⟨E', fe, hw, h1, h2⟩ := hi.trim hv ho mJ (by rw [hn]; exact hF)
 exact ⟨E', _, hw, h1.relabel h2 List.nodup_nil (fun _ h => by cases h)⟩
theorem Inv.nil (hi : Inv G E RR st a) (o s : Nat) (hF : G.fn.F.elem o = false) : ∃ E' fe, E'.w = E.w ∧ Inv G E' fe ((st.kill o).dO o (.rows s [])) a ∧ RX E' (.aY o s 0 0) (.slice none 0 0) [] := by
 have hβ : cz G E { E with β := fun q => if q = o then none else E.β q } (fun _ => False) :=
  ⟨rfl, fun _ h => h.elim, fun _ h => h.elim, fun _ _ _ => rfl, Nat.le_refl _, rfl, rfl, rfl⟩
 refine ⟨{ E with β := fun q => if q = o then none else E.β q }, _, rfl, hi.m4 hβ (o := o) (R := []) (fun _ h => h.elim) (fun q hq => by simp [hq]) (fun h => by rw [hF] at h; cases h) ?_ List.nodup_nil (fun _ h => by cases h), ?_⟩
 ·simp only [dN]; exact ⟨fun _ h => (by cases h), .inl ⟨by simp, trivial, trivial⟩⟩
 ·simp only [RX]; exact ⟨trivial, none, 0, rfl, .inl ⟨by simp, by trivial, by trivial, by trivial⟩⟩
theorem Sh.nil {d : Nat} (o s : Nat) (hx : look st.aA d = some (.v (.slice none 0 0))) (hF : N.F.elem o = false) : Sh N st (((st.kill o).dO o (.rows s [])).put d (.aY o s 0 0)) := by
 intro G hn a w hh
 obtain ⟨E, RR, rfl, hi⟩ := hh
 have hv := hi.aA d _ hx
 simp only [RX] at hv
 obtain ⟨E', fe, hw, h1, h2⟩ := hi.nil o s (by rw [hn]; exact hF)
 refine ⟨E', _, hw, h1.relabel (d := d) (by rw [hv.1]; exact h2) List.nodup_nil (fun _ h => by cases h)⟩
theorem Sh.KZ {d : Nat} (s : Nat) (hx : look st.aA d = some (.v (.slice none 0 0))) : Sh N st (st.put d (.fz s [])) := by
 intro G hn a w hh
 obtain ⟨E, RR, rfl, hi⟩ := hh
 have hv := hi.aA d _ hx
 simp only [RX] at hv
 refine ⟨E, _, rfl, hi.relabel (d := d) (R := []) ?_ List.nodup_nil (fun _ h => by cases h)⟩
 rw [hv.1]
 simp only [RX]
 exact ⟨trivial, fun _ h => (by cases h), none, 0, rfl, .inl ⟨by trivial, by trivial⟩⟩
theorem Sh.r4 {d : Nat} (s : Nat) (hx : look st.aA d = some (.v (.slice none 0 0))) : Sh N st (st.put d (.cX s [])) := by
 intro G hn a w hh
 obtain ⟨E, RR, rfl, hi⟩ := hh
 have hv := hi.aA d _ hx
 simp only [RX] at hv
 refine ⟨E, _, rfl, hi.relabel (d := d) (R := []) ?_ List.nodup_nil (fun _ h => by cases h)⟩
 rw [hv.1]
 simp only [RX]
 exact ⟨fun _ h => (by cases h), none, 0, rfl, .inl ⟨by trivial, by trivial, by trivial⟩⟩
theorem kZ {t e s cE ty n cap : Nat} {base b2 : Option Addr} {c2 : Nat} (ht : TY.slice P t = some (e, s, cE)) (hc : n ≤ cap) (w : World) :
  (Builtin.append_ #[t, t] ty #[.slice base n cap, .slice b2 0 c2]).run P w = .ok (.slice base n cap) w := by
 obtain ⟨hu, i, fU, hs, BN⟩ := TY.cI ht
 have h0 : ∀ a : Addr, (storeCells a []).run P w = .ok () w := fun _ => rfl
 cases b2 with
 | none =>
  cases base with
  | none => simp [Builtin.append_, run_underlying hu, sizeOf, typeInfo, fU, Builtin.lenOf, hc, Builtin.firstCells]
  | some b => simp [Builtin.append_, run_underlying hu, sizeOf, typeInfo, fU, Builtin.lenOf, hc, Builtin.firstCells, h0]
 | some b' =>
  have hl : ∀ a : Addr, (loadCells a 0).run P w = .ok #[] w := fun _ => rfl
  cases base with
  | none => simp [Builtin.append_, run_underlying hu, sizeOf, typeInfo, fU, Builtin.lenOf, hc, Builtin.firstCells, hl]
  | some b => simp [Builtin.append_, run_underlying hu, sizeOf, typeInfo, fU, Builtin.lenOf, hc, Builtin.firstCells, h0, hl]
variable {Q : Exit → St → Prop} {all : Array Oper} {rest : List Oper} {d : Nat} {ty : TypeId} {pos : String} {af : Array Edge}
theorem g9 {x y : Operand} {t : Nat} {w w' : World} {u : Value} (h : (Builtin.append_ #[t, t] ty #[a.eval x, a.eval y]).run P w = .ok u w') :
  (execOp a.eval ⟨some d, .call ⟨.builtin .append, #[x, y], #[t, t]⟩, ty, pos, af, none⟩).run P w = .ok (.value u) w' := by
 refine gj (g := none) ?_
 have e : (#[x, y] : Array Operand).map a.eval = #[a.eval x, a.eval y] := by simp
 rw [e]
 exact cT h
theorem aa.append {t e s cE tv : Nat} {z : List Value} {x : Operand} {o lo n : Nat} {rs new : List (List X)} (ht : TY.slice P t = some (e, s, cE)) (hz : TY.zero P e = some z) (oP : Nat.beq z.length s = true)
  (hy : look st.aA tv = some (.cX s new)) (hx : bw (st.put tv .no) x = some (.aY o s lo n)) (ho : look st.aC o = some (.rows s rs)) (mJ : lo + n ≤ rs.length)
  (oq : (n + new.length) * cE ≤ 140737488355328) (yu : n + new.length ≤ 4611686018427387904) (hF : N.F.elem o = false) (hd : d < N.n)
  (k : aa P N all rest (((((st.put tv .no).kill o).dO o (.rows s (((rs.drop lo).take n) ++ new)))).put d (.aY o s 0 (n + new.length))) Q) :
  aa P N all (⟨some d, .call ⟨.builtin .append, #[x, .tmp tv], #[t, t]⟩, ty, pos, af, none⟩ :: rest) st Q := by
 refine aa.yD (fun G E RR a hn hi => ?_) k
 have hv := hi.aA tv _ hy
 have kY := hi.no tv
 obtain ⟨R, x5⟩ := kY.eval hx
 have h0 : R = [] := RX.free (x := .aY o s lo n) rfl x5
 subst h0
 have HE : G.fn.F.elem o = false := by rw [hn]; exact hF
 by_cases hm : 0 < new.length
 ·obtain ⟨R2, yL, cP, jA⟩ := Src.Hw hv hm
  obtain ⟨u, E', fe, gS, h1, h2⟩ := kY.append (ty := ty) ht hz (Nat.eq_of_beq_eq_true oP) x5 ho mJ yL hm (jA (hi.nodup _)) (fun b hb => by
   have fS := cP b hb
   refine ⟨(hi.own _ _ fS).1, (hi.own _ _ fS).2, fun p hp => ?_⟩
   unfold eZ at hp
   split at hp
   ·cases hp
   ·rename_i h; exact hi.apart _ _ h b hp fS) oq yu HE
  exact ⟨u, E', _, g9 gS, h1.fT (by rw [hn]; exact hd) h2⟩
 ·have mH : new = [] := List.eq_nil_of_length_eq_zero om
  subst mH
  obtain ⟨E', fe, hw, h1, h2⟩ := kY.trim x5 ho mJ HE
  simp only [List.append_nil, List.length_nil, Nat.add_zero]
  refine ⟨a.eval x, E', _, ?_, h1.fT (by rw [hn]; exact hd) h2⟩
  rw [hw]
  refine g9 ?_
  simp only [RX] at x5 hv
  obtain ⟨_, base, cap, hc, cJ⟩ := x5
  obtain ⟨_, b2, c2, La, _⟩ := hv
  have Lb : a.eval (.tmp tv) = .slice b2 0 c2 := La
  rw [hc, Lb]
  exact kZ ht (by rcases cJ with ⟨_, _, h3, h4⟩ | ⟨_, _, _, h3, _⟩ <;> omega) E.w
theorem aa.BS {t e s cE : Nat} {z : List Value} {x y : Operand} {o lo n : Nat} {rs new : List (List X)} (ht : TY.slice P t = some (e, s, cE)) (hz : TY.zero P e = some z) (oP : Nat.beq z.length s = true)
  (hy : bw st y = some (.fz s new)) (hx : bw st x = some (.aY o s lo n)) (ho : look st.aC o = some (.rows s rs)) (mJ : lo + n ≤ rs.length)
  (oq : (n + new.length) * cE ≤ 140737488355328) (yu : n + new.length ≤ 4611686018427387904) (hF : N.F.elem o = false) (hd : d < N.n)
  (k : aa P N all rest ((((st.kill o).dO o (.rows s (((rs.drop lo).take n) ++ new)))).put d (.aY o s 0 (n + new.length))) Q) :
  aa P N all (⟨some d, .call ⟨.builtin .append, #[x, y], #[t, t]⟩, ty, pos, af, none⟩ :: rest) st Q := by
 refine aa.yD (fun G E RR a hn hi => ?_) k
 obtain ⟨R', hv⟩ := hi.eval hy
 obtain ⟨R, x5⟩ := hi.eval hx
 have h0 : R = [] := RX.free (x := .aY o s lo n) rfl x5
 subst h0
 have HE : G.fn.F.elem o = false := by rw [hn]; exact hF
 by_cases hm : 0 < new.length
 ·have yL := Src.KT hi hv hm
  obtain ⟨u, E', fe, gS, h1, h2⟩ := hi.append (ty := ty) ht hz (Nat.eq_of_beq_eq_true oP) x5 ho mJ yL hm List.nodup_nil (fun _ h => by cases h) oq yu HE
  exact ⟨u, E', _, g9 gS, h1.fT (by rw [hn]; exact hd) h2⟩
 ·have mH : new = [] := List.eq_nil_of_length_eq_zero om
  subst mH
  obtain ⟨E', fe, hw, h1, h2⟩ := hi.trim x5 ho mJ HE
  simp only [List.append_nil, List.length_nil, Nat.add_zero]
  refine ⟨a.eval x, E', _, ?_, h1.fT (by rw [hn]; exact hd) h2⟩
  rw [hw]
  refine g9 ?_
  simp only [RX] at x5 hv
  obtain ⟨_, base, cap, hc, cJ⟩ := x5
  obtain ⟨_, _, b2, c2, La, _⟩ := hv
  rw [hc, La]
  exact kZ ht (by rcases cJ with ⟨_, _, h3, h4⟩ | ⟨_, _, _, h3, _⟩ <;> omega) E.w
end
end Go.AW
