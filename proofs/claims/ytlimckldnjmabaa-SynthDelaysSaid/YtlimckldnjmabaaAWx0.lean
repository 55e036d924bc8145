/- Part of the abstract walk: values as trees, objects by name, and what they say of the model's values and memory. -/
import Derived.WalkKit
set_option linter.unusedSimpArgs false
set_option linter.unusedVariables false
set_option linter.unusedSectionVars false
namespace Go.AW
open Go
theorem om {p : Prop} (h : p := by omega) : p := h
theorem aX {p : Prop} (h : p := by kernel_rfl) : p := h
theorem ah {p : Prop} (h : p := by decide) : p := h
theorem je {p : Prop} (h : p := by assumption) : p := h
theorem Qr {p : Prop} (h : p := by (simp only [List.length_append, List.length_cons, List.length_nil]; omega)) : p := h
theorem dJ {p : Prop} (h : p := by first | rfl | simp_all) : p := h
theorem bg {p : Prop} (h : p := by first | rfl | omega) : p := h
theorem aC {p : Prop} (h : p := by first | omega | simp [-List.getD_eq_getElem?_getD] <;> omega) : p := h
theorem pD {p : Prop} (h : p := by first | omega | (simp [-List.getD_eq_getElem?_getD]; done) | (simp [-List.getD_eq_getElem?_getD]; omega)) : p := h
theorem Qs {p : Prop} (h : p := by (constructor <;> (simp only [List.length_append, List.length_cons, List.length_nil]; omega))) : p := h
inductive X where
 | v (u : Value)
 | no
 | fz (s : Nat) (rows : List (List X))
 | di (s : Nat) (rows : List (List X))
 | ptr (o s i k : Nat)
 | aY (o s lo n : Nat)
 | mref (o : Nat)
 | fp (row : List X) (k : Nat)
 | agg (xs : List X)
 | tup (xs : List X)
 | gd (fn : Fn) (first mO : List X)
mutual
def X.nr : X → Bool
 | .v _ | .no | .fz .. | .di .. | .fp .. => true
 | .ptr .. | .aY .. | .mref _ => false
 | .agg xs => X.fm xs
 | .tup xs => X.fm xs
 | .gd _ a b => X.fm a && X.fm b
def X.fm : List X → Bool
 | [] => true
 | x :: r => x.nr && X.fm r
end
mutual
def X.dp (o : Nat) : X → Bool
 | .v _ | .no | .fz .. | .di .. | .fp .. => false
 | .ptr p .. => Nat.beq p o
 | .aY p .. => Nat.beq p o
 | .mref p => Nat.beq p o
 | .agg xs => X.c3 o xs
 | .tup xs => X.c3 o xs
 | .gd _ a b => X.c3 o a || X.c3 o b
def X.c3 (o : Nat) : List X → Bool
 | [] => false
 | x :: r => x.dp o || X.c3 o r
end
mutual
def X.free : X → Bool
 | .v _ | .no | .fz .. | .ptr .. | .aY .. | .mref _ | .fp .. | .gd .. => true
 | .di .. => false
 | .agg xs => X.bc xs
 | .tup xs => X.bc xs
def X.bc : List X → Bool
 | [] => true
 | x :: r => x.free && X.bc r
end
structure Bw where
 b : Nat
 off : Nat
 cap : Nat
abbrev Fz := Nat → Nat → Option Value
structure Env where
 φ : Fz
 β : Nat → Option Bw
 w : World
def gI : Value → Prop
 | .agg _ | .tuple _ => False
 | _ => True
def bG (s : Nat) (rows : List (List X)) : Prop := ∀ r ∈ rows, r.length = s
mutual
def RX (E : Env) : X → Value → List Nat → Prop
 | .v u, c, R => c = u ∧ R = []
 | .no, _, R => R = []
 | .fz s rows, c, R => R = [] ∧ bG s rows ∧ ∃ base cap, c = .slice base rows.length cap ∧
   ((rows = [] ∧ cap = 0) ∨ ∃ b off, base = some ⟨b, off, none⟩ ∧ rows.length ≤ cap ∧ gJ E rows b off)
 | .di s rows, c, R => bG s rows ∧ ∃ base cap, c = .slice base rows.length cap ∧
   ((rows = [] ∧ cap = 0 ∧ R = []) ∨ ∃ b off cs ty R', base = some ⟨b, off, none⟩ ∧ E.w.heap[b]? = some (.cells cs ty (0, 0)) ∧
    rows.length ≤ cap ∧ off + cap * s ≤ cs.size ∧ (∀ i, E.φ b i = none) ∧ bR E rows cs off R' ∧ R = b :: R')
 | .ptr o s i k, c, R => R = [] ∧ ∃ B, E.β o = some B ∧ c = .pointer (some ⟨B.b, B.off + (i * s + k), none⟩)
 | .aY o s lo n, c, R => R = [] ∧ ∃ base cap, c = .slice base n cap ∧
   ((E.β o = none ∧ lo = 0 ∧ n = 0 ∧ cap = 0) ∨ ∃ B, E.β o = some B ∧ lo + cap = B.cap ∧ n ≤ cap ∧ (cap = 0 ∨ base = some ⟨B.b, B.off + lo * s, none⟩))
 | .mref o, c, R => R = [] ∧ ∃ B, E.β o = some B ∧ c = .map (some B.b)
 | .fp row k, c, R => R = [] ∧ ∃ b off, c = .pointer (some ⟨b, off + k, none⟩) ∧ RF E row b off
 | .agg xs, c, R => ∃ cs, c = .agg cs ∧ br E xs cs.toList R
 | .tup xs, c, R => ∃ cs, c = .tuple cs ∧ dL E xs cs.toList R
 | .gd fn first mO, c, R => R = [] ∧ ∃ f cc, c = .func fn f cc ∧ dL E first f.toList [] ∧ dL E mO cc.toList []
def br (E : Env) : List X → List Value → List Nat → Prop
 | [], cs, R => cs = [] ∧ R = []
 | x :: r, cs, R => ∃ c c1 R₁ R₂, cs = c :: c1 ∧ gI c ∧ RX E x c R₁ ∧ br E r c1 R₂ ∧ R = R₁ ++ R₂
def dL (E : Env) : List X → List Value → List Nat → Prop
 | [], cs, R => cs = [] ∧ R = []
 | x :: r, cs, R => ∃ c c1 R₁ R₂, cs = c :: c1 ∧ RX E x c R₁ ∧ dL E r c1 R₂ ∧ R = R₁ ++ R₂
def RF (E : Env) : List X → Nat → Nat → Prop
 | [], _, _ => True
 | x :: r, b, off => (∃ u, E.φ b off = some u ∧ gI u ∧ x.nr = true ∧ RX E x u []) ∧ RF E r b (off + 1)
def gJ (E : Env) : List (List X) → Nat → Nat → Prop
 | [], _, _ => True
 | r :: rs, b, off => RF E r b off ∧ gJ E rs b (off + r.length)
def RO (E : Env) : List X → Array Value → Nat → List Nat → Prop
 | [], _, _, R => R = []
 | x :: r, cs, off, R => ∃ u R₁ R₂, cs[off]? = some u ∧ gI u ∧ RX E x u R₁ ∧ RO E r cs (off + 1) R₂ ∧ R = R₁ ++ R₂
def bR (E : Env) : List (List X) → Array Value → Nat → List Nat → Prop
 | [], _, _, R => R = []
 | r :: rs, cs, off, R => ∃ R₁ R₂, X.fm r = true ∧ RO E r cs off R₁ ∧ bR E rs cs (off + r.length) R₂ ∧ R = R₁ ++ R₂
end
inductive Obj where
 | cells (xs : List X)
 | rows (s : Nat) (rs : List (List X))
 | tk (es : List (Value × Value))
 | gone
end Go.AW
namespace Go.AW
open Go
theorem bO {α} {a : α} {l r : List α} (h : a ∈ l) : a ∈ l ++ r := List.mem_append.2 (.inl h)
theorem bI {α} {a : α} {l r : List α} (h : a ∈ r) : a ∈ l ++ r := List.mem_append.2 (.inr h)
def Env.On (E E' : Env) (R : List Nat) : Prop :=
 (∀ b i v, E.φ b i = some v → E'.φ b i = some v) ∧ ∀ b ∈ R, E'.w.heap[b]? = E.w.heap[b]? ∧ ((∀ i, E.φ b i = none) → ∀ i, E'.φ b i = none)
theorem Env.On.sub {E E' : Env} {R R' : List Nat} (h : E.On E' R) (hs : ∀ b ∈ R', b ∈ R) : E.On E' R' := ⟨h.1, fun b hb => h.2 b (hs b hb)⟩
mutual
theorem X.lD : ∀ {x : X}, x.nr = true → ∀ o, x.dp o = false
 | .v _, _, _ | .no, _, _ | .fz .., _, _ | .di .., _, _ | .fp .., _, _ => rfl
 | .agg xs, h, o => X.ei (xs := xs) h o
 | .tup xs, h, o => X.ei (xs := xs) h o
 | .gd _ a b, h, o => by
  simp only [X.nr, Bool.and_eq_true] at h
  simp only [X.dp, X.ei h.1 o, X.ei h.2 o, Bool.or_self]
theorem X.ei : ∀ {xs : List X}, X.fm xs = true → ∀ o, X.c3 o xs = false
 | [], _, _ => rfl
 | x :: r, h, o => by
  simp only [X.fm, Bool.and_eq_true] at h
  simp only [X.c3, X.lD h.1 o, X.ei h.2 o, Bool.or_self]
end
mutual
theorem RX.mono {E E' : Env} : ∀ (x : X) (c : Value) (R : List Nat), E.On E' R → (∀ o, x.dp o = true → E'.β o = E.β o) → RX E x c R → RX E' x c R
 | .v u, c, R, _, _, h => by simpa [RX] using h
 | .no, c, R, _, _, h => by simpa [RX] using h
 | .fz s rows, c, R, hE, _, h => by
  simp only [RX] at h ⊢
  obtain ⟨hR, hu, base, cap, hc, hh⟩ := h
  refine ⟨hR, hu, base, cap, hc, ?_⟩
  rcases hh with hh | ⟨b, off, hb, hl, hf⟩
  ·exact .inl hh
  ·exact .inr ⟨b, off, hb, hl, gJ.mono rows b off (hE.sub (by simp)) hf⟩
 | .di s rows, c, R, hE, _, h => by
  simp only [RX] at h ⊢
  obtain ⟨hu, base, cap, hc, hh⟩ := h
  refine ⟨hu, base, cap, hc, ?_⟩
  rcases hh with hh | ⟨b, off, cs, ty, R', hb, hw, hl, ho, hf, hr, hR⟩
  ·exact .inl hh
  ·subst hR
   have h2 := hE.2 b (by simp)
   exact .inr ⟨b, off, cs, ty, R', hb, h2.1.trans hw, hl, ho, h2.2 hf, bR.mono rows cs off R' (hE.sub (fun _ h => by simp [h])) hr, rfl⟩
 | .ptr o s i k, c, R, _, hβ, h => by
  simp only [RX] at h ⊢
  rw [hβ o (by simp [X.dp])]; exact h
 | .aY o s lo n, c, R, _, hβ, h => by
  simp only [RX] at h ⊢
  rw [hβ o (by simp [X.dp])]; exact h
 | .mref o, c, R, _, hβ, h => by
  simp only [RX] at h ⊢
  rw [hβ o (by simp [X.dp])]; exact h
 | .fp row k, c, R, hE, _, h => by
  simp only [RX] at h ⊢
  obtain ⟨hR, b, off, hc, hf⟩ := h
  exact ⟨hR, b, off, hc, RF.mono row b off (hE.sub (by simp)) hf⟩
 | .agg xs, c, R, hE, hβ, h => by
  simp only [RX] at h ⊢
  obtain ⟨cs, hc, hs⟩ := h
  exact ⟨cs, hc, br.mono xs _ R hE (fun o ho => hβ o (by simp [X.dp, ho])) hs⟩
 | .tup xs, c, R, hE, hβ, h => by
  simp only [RX] at h ⊢
  obtain ⟨cs, hc, hs⟩ := h
  exact ⟨cs, hc, dL.mono xs _ R hE (fun o ho => hβ o (by simp [X.dp, ho])) hs⟩
 | .gd fn a b, c, R, hE, hβ, h => by
  simp only [RX] at h ⊢
  obtain ⟨hR, f, cc, hc, h1, h2⟩ := h
  exact ⟨hR, f, cc, hc, dL.mono a _ [] (hE.sub (by simp)) (fun o ho => hβ o (by simp [X.dp, ho])) h1, dL.mono b _ [] (hE.sub (by simp)) (fun o ho => hβ o (by simp [X.dp, ho])) h2⟩
theorem br.mono {E E' : Env} : ∀ (xs : List X) (cs : List Value) (R : List Nat), E.On E' R → (∀ o, X.c3 o xs = true → E'.β o = E.β o) → br E xs cs R → br E' xs cs R
 | [], _, _, _, _, h => by simpa [br] using h
 | x :: r, cs, R, hE, hβ, h => by
  simp only [br] at h ⊢
  obtain ⟨c, c1, R₁, R₂, hc, hs, h1, h2, hR⟩ := h
  subst hR
  exact ⟨c, c1, R₁, R₂, hc, hs, RX.mono x c R₁ (hE.sub (fun _ h => bO h)) (fun o ho => hβ o (by simp [X.c3, ho])) h1,
   br.mono r c1 R₂ (hE.sub (fun _ h => bI h)) (fun o ho => hβ o (by simp [X.c3, ho])) h2, rfl⟩
theorem dL.mono {E E' : Env} : ∀ (xs : List X) (cs : List Value) (R : List Nat), E.On E' R → (∀ o, X.c3 o xs = true → E'.β o = E.β o) → dL E xs cs R → dL E' xs cs R
 | [], _, _, _, _, h => by simpa [dL] using h
 | x :: r, cs, R, hE, hβ, h => by
  simp only [dL] at h ⊢
  obtain ⟨c, c1, R₁, R₂, hc, h1, h2, hR⟩ := h
  subst hR
  exact ⟨c, c1, R₁, R₂, hc, RX.mono x c R₁ (hE.sub (fun _ h => bO h)) (fun o ho => hβ o (by simp [X.c3, ho])) h1,
   dL.mono r c1 R₂ (hE.sub (fun _ h => bI h)) (fun o ho => hβ o (by simp [X.c3, ho])) h2, rfl⟩
theorem RF.mono {E E' : Env} : ∀ (xs : List X) (b off : Nat), E.On E' [] → RF E xs b off → RF E' xs b off
 | [], _, _, _, _ => by simp [RF]
 | x :: r, b, off, hE, h => by
  simp only [RF] at h ⊢
  obtain ⟨⟨u, hu, hs, hn, hx⟩, hr⟩ := h
  exact ⟨⟨u, hE.1 _ _ _ hu, hs, hn, RX.mono x u [] hE (fun o ho => by rw [X.lD hn] at ho; cases ho) hx⟩, RF.mono r b (off + 1) hE hr⟩
theorem gJ.mono {E E' : Env} : ∀ (rs : List (List X)) (b off : Nat), E.On E' [] → gJ E rs b off → gJ E' rs b off
 | [], _, _, _, _ => by simp [gJ]
 | r :: rs, b, off, hE, h => by
  simp only [gJ] at h ⊢
  exact ⟨RF.mono r b off hE h.1, gJ.mono rs b _ hE h.2⟩
theorem RO.mono {E E' : Env} : ∀ (xs : List X) (cs : Array Value) (off : Nat) (R : List Nat), E.On E' R → (∀ o, X.c3 o xs = true → E'.β o = E.β o) → RO E xs cs off R → RO E' xs cs off R
 | [], _, _, _, _, _, h => by simpa [RO] using h
 | x :: r, cs, off, R, hE, hβ, h => by
  simp only [RO] at h ⊢
  obtain ⟨u, R₁, R₂, hu, hs, h1, h2, hR⟩ := h
  subst hR
  exact ⟨u, R₁, R₂, hu, hs, RX.mono x u R₁ (hE.sub (fun _ h => bO h)) (fun o ho => hβ o (by simp [X.c3, ho])) h1,
   RO.mono r cs (off + 1) R₂ (hE.sub (fun _ h => bI h)) (fun o ho => hβ o (by simp [X.c3, ho])) h2, rfl⟩
theorem bR.mono {E E' : Env} : ∀ (rs : List (List X)) (cs : Array Value) (off : Nat) (R : List Nat), E.On E' R → bR E rs cs off R → bR E' rs cs off R
 | [], _, _, _, _, h => by simpa [bR] using h
 | r :: rs, cs, off, R, hE, h => by
  simp only [bR] at h ⊢
  obtain ⟨R₁, R₂, hn, h1, h2, hR⟩ := h
  subst hR
  exact ⟨R₁, R₂, hn, RO.mono r cs off R₁ (hE.sub (fun _ h => bO h)) (fun o ho => by rw [X.ei hn] at ho; cases ho) h1,
   bR.mono rs cs _ R₂ (hE.sub (fun _ h => bI h)) h2, rfl⟩
end
end Go.AW
namespace Go.AW
open Go
def look {α : Type} : List (Nat × α) → Nat → Option α
 | [], _ => none
 | (t, x) :: r, s => bif Nat.beq t s then some x else look r s
structure St where
 a7 : List (Nat × X)
 aA : List (Nat × Obj)
def dD (E : Env) (o : Nat) : Obj → List Nat → Prop
 | .cells xs, R => X.bc xs = true ∧ ∃ B cs ty, E.β o = some B ∧ E.w.heap[B.b]? = some (.cells cs ty (0, 0)) ∧ (∀ i, E.φ B.b i = none) ∧ B.off + xs.length ≤ cs.size ∧ RO E xs cs B.off [] ∧ R = [B.b]
 | .rows s rs, R => bG s rs ∧ ((E.β o = none ∧ rs = [] ∧ R = []) ∨ ∃ B cs ty R', E.β o = some B ∧ E.w.heap[B.b]? = some (.cells cs ty (0, 0)) ∧ (∀ i, E.φ B.b i = none) ∧
   rs.length ≤ B.cap ∧ B.off + B.cap * s ≤ cs.size ∧ bR E rs cs B.off R' ∧ R = B.b :: R')
 | .tk es, R => ∃ B nT clock, E.β o = some B ∧ E.w.heap[B.b]? = some (.map nT clock) ∧ (∀ i, E.φ B.b i = none) ∧ nT.toList.map (fun e => (e.key, e.val)) = es ∧ R = [B.b]
 | .gone, R => R = []
inductive Own where
 | slot (s : Nat)
 | obj (o : Nat)
 deriving DecidableEq
structure dV where
 n : Nat
 F : List Nat
structure Ctx where
 K : Nat → Prop
 w0 : World
 φ0 : Fz
 β0 : Nat → Option Bw
 fn : dV
 ds : List Deferred
structure Inv (G : Ctx) (E : Env) (RR : Own → List Nat) (st : St) (a : Act) : Prop where
 kh : ∀ b i v, E.φ b i = some v → E.w.cell? ⟨b, i, none⟩ = some v
 a7 : ∀ s x, look st.a7 s = some x → RX E x (a.tmps.getD s undef) (RR (.slot s))
 aA : ∀ o ob, look st.aA o = some ob → dD E o ob (RR (.obj o))
 nodup : ∀ p, (RR p).Nodup
 apart : ∀ p q, p ≠ q → ∀ b ∈ RR p, b ∉ RR q
 own : ∀ p b, b ∈ RR p → b < E.w.heap.size ∧ ¬ G.K b
 ao : ∀ b, G.K b → E.w.heap[b]? = G.w0.heap[b]?
 size : G.w0.heap.size ≤ E.w.heap.size
 small : ∀ b, G.K b → b < G.w0.heap.size
 os : E.w.os = G.w0.os
 tape : E.w.tape = G.w0.tape
 output : E.w.output = G.w0.output
 φ0 : ∀ b i v, G.φ0 b i = some v → E.φ b i = some v
 grow : ∀ b i v, E.φ b i = some v → G.φ0 b i = some v ∨ ¬ G.K b
 fixed : ∀ o, G.fn.F.elem o = true → E.β o = G.β0 o
 tmps : a.tmps.size = G.fn.n
 defers : a.defers = G.ds
def bT (G : Ctx) (st : St) (a : Act) (w : World) : Prop := ∃ E RR, E.w = w ∧ Inv G E RR st a
def kb (G : Ctx) (Q : Exit → St → Prop) (e : Exit) (a : Act) (w : World) : Prop := ∃ st, bT G st a w ∧ Q e st
def ae (P : Program) (N : dV) (c : Code) (st : St) (Q : Exit → St → Prop) : Prop :=
 ∀ G : Ctx, G.fn = N → ∀ a w, bT G st a w → c.wp P (kb G Q) a w
def aa (P : Program) (N : dV) (all : Array Oper) (rest : List Oper) (st : St) (Q : Exit → St → Prop) : Prop :=
 ∀ G : Ctx, G.fn = N → ∀ a w, bT G st a w → wpList P all (kb G Q) rest a w
def jr (K : St → Prop) (Q : Exit → St → Prop) : Exit → St → Prop
 | .normal, st => K st
 | e, st => Q e st
def kR (id : Nat) (Q : Exit → St → Prop) : Exit → St → Prop
 | .exit id', st => bif Nat.beq id' id then Q .normal st else Q (.exit id') st
 | e, st => Q e st
def bx (st : St) : Operand → Option X
 | .tmp t => look st.a7 t
 | .const v => some (.v v)
 | .func f => some (.v (.func (.func f) #[] #[]))
 | .global _ => none
def Le (st aW : St) : Prop :=
 (∀ s x, look aW.a7 s = some x → look st.a7 s = some x) ∧ (∀ o x, look aW.aA o = some x → look st.aA o = some x)
theorem Le.refl (st : St) : Le st st := ⟨fun _ _ h => h, fun _ _ h => h⟩
theorem Le.holds {G : Ctx} {st aW : St} {a : Act} {w : World} (h : Le st aW) (hh : bT G st a w) : bT G aW a w := by
 obtain ⟨E, RR, hw, hi⟩ := hh
 exact ⟨E, RR, hw, { hi with a7 := fun s x hx => hi.a7 s x (h.1 s x hx), aA := fun o x hx => hi.aA o x (h.2 o x hx) }⟩
def eO {α : Type} (l l' : List (Nat × α)) : Prop := ∀ s x, look l' s = some x → look l s = some x
theorem eO.nil {α : Type} {l : List (Nat × α)} : eO l [] := fun _ _ h => by cases h
theorem eO.cons {α : Type} {l l' : List (Nat × α)} {s : Nat} {x : α} (h : look l s = some x) (hr : eO l l') : eO l ((s, x) :: l') := by
 intro t y hy
 unfold look at hy
 cases hb : Nat.beq s t with
 | true => rw [hb] at hy; simp at hy; subst hy; rw [Nat.eq_of_beq_eq_true hb] at h; exact h
 | false => rw [hb] at hy; exact hr t y hy
theorem Le.mk {st : St} {sl : List (Nat × X)} {ob : List (Nat × Obj)} (h : eO st.a7 sl) (h' : eO st.aA ob) : Le st ⟨sl, ob⟩ := ⟨h, h'⟩
section control
variable {P : Program} {N : dV} {st aW : St} {Q Q' : Exit → St → Prop}
theorem kb.mono {G : Ctx} {e : Exit} {a : Act} {w : World} (h : ∀ st, Q e st → Q' e st) (hp : kb G Q e a w) : kb G Q' e a w :=
 let ⟨st, hh, hq⟩ := hp; ⟨st, hh, h st hq⟩
theorem ae.mono {c : Code} (h : ae P N c st Q) (hq : ∀ e st, Q e st → Q' e st) : ae P N c st Q' :=
 fun G hn a w hh => wp_mono (h G hn a w hh) fun e _ _ hp => kb.mono (hq e) hp
theorem ae.le {c : Code} (hl : Le st aW) (h : ae P N c aW Q) : ae P N c st Q :=
 fun G hn a w hh => h G hn a w (hl.holds hh)
theorem aa.le {all : Array Oper} {rest : List Oper} (hl : Le st aW) (h : aa P N all rest aW Q) : aa P N all rest st Q :=
 fun G hn a w hh => h G hn a w (hl.holds hh)
theorem ae.skip (h : Q .normal st) : ae P N .skip st Q := fun _ _ _ _ hh => wp_skip ⟨st, hh, h⟩
theorem ae.exit {id : Nat} (h : Q (.exit id) st) : ae P N (.exit id) st Q := fun _ _ _ _ hh => wp_exit ⟨st, hh, h⟩
theorem ae.ret (h : Q .ret st) : ae P N .ret st Q := fun _ _ _ _ hh => wp_ret ⟨st, hh, h⟩
theorem ae.seq {x y : Code} (h : ae P N x st (jr (fun aW => ae P N y aW Q) Q)) : ae P N (.seq x y) st Q := by
 intro G hn a w hh
 refine wp_seq (wp_mono (h G hn a w hh) ?_)
 rintro e a' w' ⟨aW, gf, hq⟩
 cases e <;> first | exact hq G hn a' w' gf | exact ⟨aW, gf, hq⟩
theorem ae.block {id : Nat} {c : Code} (h : ae P N c st (kR id Q)) : ae P N (.block id c) st Q := by
 intro G hn a w hh
 refine wp_block (wp_mono (h G hn a w hh) ?_)
 rintro e a' w' ⟨aW, gf, hq⟩
 cases e with
 | exit id' =>
  simp only [kR] at hq
  simp only [Exit.inBlock]
  cases hb : Nat.beq id' id with
  | true =>
   rw [hb] at hq
   rw [if_pos (Nat.eq_of_beq_eq_true hb)]
   exact ⟨aW, gf, hq⟩
  | false =>
   rw [hb] at hq
   rw [if_neg (Nat.ne_of_beq_eq_false hb)]
   exact ⟨aW, gf, hq⟩
 | _ => exact ⟨aW, gf, hq⟩
theorem Inv.eval {G : Ctx} {E : Env} {RR : Own → List Nat} {a : Act} (hi : Inv G E RR st a) {o : Operand} {x : X} (h : bx st o = some x) : ∃ R, RX E x (a.eval o) R := by
 cases o with
 | tmp t => exact ⟨_, hi.a7 t x h⟩
 | const v => simp only [bx, Option.some.injEq] at h; subst h; exact ⟨[], by simp [RX, Act.eval]⟩
 | func f => simp only [bx, Option.some.injEq] at h; subst h; exact ⟨[], by simp [RX, Act.eval]⟩
 | global g => cases h
theorem Inv.val {G : Ctx} {E : Env} {RR : Own → List Nat} {a : Act} (hi : Inv G E RR st a) {o : Operand} {u : Value} (h : bx st o = some (.v u)) : a.eval o = u := by
 obtain ⟨R, hR⟩ := hi.eval h
 simp only [RX] at hR
 exact hR.1
theorem ae.cond {c : Operand} {x y : Code} {b : Bool} (hc : bx st c = some (.v (.bool b))) (ht : b = true → ae P N x st Q) (hf : b = false → ae P N y st Q) :
  ae P N (.cond c x y) st Q := by
 intro G hn a w hh
 obtain ⟨E, RR, rfl, hi⟩ := hh
 exact wp_cond_split (hi.val hc) (fun h => ht h G hn a E.w ⟨E, RR, rfl, hi⟩) (fun h => hf h G hn a E.w ⟨E, RR, rfl, hi⟩)
theorem o3 {c : Code} {ι : Type} {R : Exit → Act → World → Prop} (J : ι → Act → World → Prop) (μ : ι → Nat)
  (round : ∀ i a w, J i a w → c.wp P (Exit.then (fun a' w' => ∃ j, J j a' w' ∧ μ j < μ i) R) a w) {i : ι} {a : Act} {w : World} (h₀ : J i a w) : (Code.loop c).wp P R a w := by
 intro b k cs
 have key : ∀ n i a w, μ i = n → J i a w →
   ∃ e a' w', R e a' w' ∧ Arrives P (lone (b.at a (.code c :: .inLoop c :: k)) cs w) b k cs e a' w' := by
  intro n
  induction n using Nat.strongRecOn with
  | _ n ih =>
   intro i a w hn hI
   obtain ⟨e, a₁, w₁, hq, o4⟩ := round i a w hI b (.inLoop c :: k) cs
   cases e with
   | normal =>
    obtain ⟨j, NJ, gK⟩ := hq
    obtain ⟨e₂, a₂, w₂, NK, EJ⟩ := ih (μ j) (hn ▸ gK) j a₁ w₁ rfl NJ
    exact ⟨e₂, a₂, w₂, NK, .of_steps (Steps.trans o4 (.one step_inLoop)) EJ⟩
   | exit id => exact ⟨_, a₁, w₁, hq, .pass (x := .inLoop c) rfl (fun _ _ => .inl (by simp)) o4⟩
   | goto l => exact ⟨_, a₁, w₁, hq, .pass (x := .inLoop c) rfl (fun _ _ => .inl (by simp)) o4⟩
   | ret => exact ⟨_, a₁, w₁, hq, .pass (x := .inLoop c) rfl (fun _ _ => .inl (by simp)) o4⟩
   | panic ch => exact ⟨_, a₁, w₁, hq, .pass (x := .inLoop c) rfl (fun _ _ => .inl (by simp)) o4⟩
   | outgrown => exact ⟨_, a₁, w₁, hq, .pass (x := .inLoop c) rfl (fun _ _ => .inl (by simp)) o4⟩
 obtain ⟨e, a', w', hq, o4⟩ := key _ i a w rfl h₀
 exact ⟨e, a', w', hq, .of_steps (.one step_loop) o4⟩
theorem ae.loop {ι : Type} {c : Code} (S : ι → St) (I : ι → Prop) (μ : ι → Nat) (i : ι) (hi : I i) (hs : Le st (S i))
  (round : ∀ i, I i → ae P N c (S i) (jr (fun aW => ∃ j, I j ∧ μ j < μ i ∧ Le aW (S j)) Q)) : ae P N (.loop c) st Q := by
 intro G hn a w hh
 refine o3 (fun i a w => I i ∧ bT G (S i) a w) μ ?_ ⟨hi, hs.holds hh⟩
 rintro i a w ⟨hI, hh⟩
 refine wp_mono (round i hI G hn a w hh) ?_
 rintro e a' w' ⟨aW, gf, hq⟩
 cases e with
 | normal => obtain ⟨j, hj, gK, hle⟩ := hq; exact ⟨j, ⟨hj, hle.holds gf⟩, gK⟩
 | _ => exact ⟨aW, gf, hq⟩
theorem ae.region {id : Nat} {l : List Oper} (h : aa P N l.toArray l st Q) : ae P N (.region id l.toArray false) st Q :=
 fun G hn a w hh => wp_region_lit (h G hn a w hh)
theorem aa.nil {all : Array Oper} (h : Q .normal st) : aa P N all [] st Q := fun _ _ _ _ hh => ⟨st, hh, h⟩
end control
end Go.AW
namespace Go.AW
open Go
def TY.shape (P : Program) (t : TypeId) : Option (Option Nat) :=
 match P.underlying t, P.info? t with
 | some (.struct _), some i => some (some i.size)
 | some (.array _ _), some i => some (some i.size)
 | some _, some _ => some none
 | _, _ => none
def TY.slice (P : Program) (t : TypeId) : Option (Nat × Nat × Nat) :=
 match P.underlying t with
 | some (.slice e) => (P.info? e).map fun i => (e, i.size, i.bytes)
 | _ => none
def TY.array (P : Program) (t : TypeId) : Option (Nat × Nat × Nat) :=
 match P.underlying t with
 | some (.array n e) => (P.info? e).map fun i => (n, e, i.size)
 | _ => none
def TY.iI (P : Program) (t : TypeId) (f : Nat) : Option (Nat × TypeId) :=
 match P.underlying t with
 | some (.struct fs) => match fs[f]? with
  | some fd => match P.info? fd.type with
   | some i => bif Nat.beq i.size 0 then none else some (fd.offset, fd.type)
   | none => none
  | none => none
 | _ => none
def TY.zero (P : Program) (t : TypeId) : Option (List Value) := (P.info? t).bind fun i => i.zero.map (·.cells.toList)
def TY.isInt (P : Program) (t : TypeId) : Option IntKind := match P.underlying t with | some (.int k) => some k | _ => none
def St.put (st : St) (d : Nat) (x : X) : St := { st with a7 := (d, x) :: st.a7 }
mutual
theorem RX.free {E : Env} : ∀ {x : X} {c : Value} {R : List Nat}, x.free = true → RX E x c R → R = []
 | .v _, _, _, _, h => by simp only [RX] at h; exact h.2
 | .no, _, _, _, h => by simpa [RX] using h
 | .fz .., _, _, _, h => by simp only [RX] at h; exact h.1
 | .ptr .., _, _, _, h => by simp only [RX] at h; exact h.1
 | .aY .., _, _, _, h => by simp only [RX] at h; exact h.1
 | .mref _, _, _, _, h => by simp only [RX] at h; exact h.1
 | .fp .., _, _, _, h => by simp only [RX] at h; exact h.1
 | .gd .., _, _, _, h => by simp only [RX] at h; exact h.1
 | .di .., _, _, hf, _ => by simp [X.free] at hf
 | .agg xs, _, _, hf, h => by
  simp only [RX] at h
  obtain ⟨_, _, h⟩ := h
  exact br.free (xs := xs) hf h
 | .tup xs, _, _, hf, h => by
  simp only [RX] at h
  obtain ⟨_, _, h⟩ := h
  exact dL.free (xs := xs) hf h
theorem br.free {E : Env} : ∀ {xs : List X} {cs : List Value} {R : List Nat}, X.bc xs = true → br E xs cs R → R = []
 | [], _, _, _, h => by simp only [br] at h; exact h.2
 | x :: r, _, _, hf, h => by
  simp only [br] at h
  obtain ⟨c, c1, R₁, R₂, _, _, h1, h2, hR⟩ := h
  simp only [X.bc, Bool.and_eq_true] at hf
  rw [hR, RX.free hf.1 h1, br.free hf.2 h2]; rfl
theorem dL.free {E : Env} : ∀ {xs : List X} {cs : List Value} {R : List Nat}, X.bc xs = true → dL E xs cs R → R = []
 | [], _, _, _, h => by simp only [dL] at h; exact h.2
 | x :: r, _, _, hf, h => by
  simp only [dL] at h
  obtain ⟨c, c1, R₁, R₂, _, h1, h2, hR⟩ := h
  simp only [X.bc, Bool.and_eq_true] at hf
  rw [hR, RX.free hf.1 h1, dL.free hf.2 h2]; rfl
end
theorem RO.free {E : Env} : ∀ {xs : List X} {cs : Array Value} {off : Nat} {R : List Nat}, X.bc xs = true → RO E xs cs off R → R = []
 | [], _, _, _, _, h => by simpa [RO] using h
 | x :: r, _, _, _, hf, h => by
  simp only [RO] at h
  obtain ⟨c, R₁, R₂, _, _, h1, h2, hR⟩ := h
  simp only [X.bc, Bool.and_eq_true] at hf
  rw [hR, RX.free hf.1 h1, RO.free hf.2 h2]; rfl
def e9 (RR : Own → List Nat) (p : Own) (R : List Nat) : Own → List Nat := fun q => if q = p then R else RR q
theorem wH {a : Act} {d : Nat} {u : Value} (hd : d < a.tmps.size) : (a.put (some d) u).tmps.getD d undef = u := by
 simp [Act.put, Array.getD, hd]
theorem rO {a : Act} {d s : Nat} {u : Value} (h : d ≠ s) : (a.put (some d) u).tmps.getD s undef = a.tmps.getD s undef := by
 simp only [Act.put, Array.getD_eq_getD_getElem?, Array.getElem?_setIfInBounds_ne h]
section
variable {P : Program} {N : dV} {G : Ctx} {E : Env} {RR : Own → List Nat} {st : St} {a : Act} {Q : Exit → St → Prop}
theorem Inv.put (hi : Inv G E RR st a) {d : Nat} {x : X} {u : Value} {R : List Nat} (hd : d < G.fn.n) (hx : RX E x u R) (hn : R.Nodup)
  (hR : ∀ b ∈ R, b < E.w.heap.size ∧ ¬ G.K b ∧ ∀ p, p ≠ .slot d → b ∉ RR p) : Inv G E (e9 RR (.slot d) R) (st.put d x) (a.put (some d) u) := by
 refine { hi with a7 := ?_, aA := ?_, nodup := ?_, apart := ?_, own := ?_, tmps := ?_, defers := ?_ }
 ·intro s y hy
  simp only [St.put, look] at hy
  cases hb : Nat.beq d s with
  | true =>
   have := Nat.eq_of_beq_eq_true hb
   subst this
   rw [hb] at hy
   simp only [cond_true, Option.some.injEq] at hy
   subst hy
   rw [wH (by rw [hi.tmps]; exact hd)]
   simpa [e9] using hx
  | false =>
   have eB := Nat.ne_of_beq_eq_false hb
   rw [hb] at hy
   rw [rO eB]
   have : e9 RR (.slot d) R (.slot s) = RR (.slot s) := by simp [e9, Ne.symm eB]
   rw [this]
   exact hi.a7 s y hy
 ·intro o ob ho
  have : e9 RR (.slot d) R (.obj o) = RR (.obj o) := by simp [e9]
  rw [this]; exact hi.aA o ob ho
 ·intro p
  unfold e9
  split
  ·exact hn
  ·exact hi.nodup p
 ·intro p q kj b hb
  unfold e9 at hb ⊢
  split at hb
  ·rename_i hp
   subst hp
   rw [if_neg (Ne.symm kj)]
   exact (hR b hb).2.2 q (Ne.symm kj)
  ·split
   ·rename_i hp hq
    subst hq
    intro fe
    exact (hR b fe).2.2 p kj hb
   ·exact hi.apart p q kj b hb
 ·intro p b hb
  unfold e9 at hb
  split at hb
  ·exact ⟨(hR b hb).1, (hR b hb).2.1⟩
  ·exact hi.own p b hb
 ·simp [Act.put, hi.tmps]
 ·simp [Act.put, hi.defers]
theorem Inv.fg (hi : Inv G E RR st a) {d : Nat} {x : X} {u : Value} (hd : d < G.fn.n) (hx : RX E x u []) : Inv G E (e9 RR (.slot d) []) (st.put d x) (a.put (some d) u) :=
 hi.put hd hx List.nodup_nil (fun _ hb => by cases hb)
def Yields (P : Program) (N : dV) (st : St) (o : Oper) (x : X) : Prop :=
 ∀ (G : Ctx) (E : Env) (RR : Own → List Nat) (a : Act), G.fn = N → Inv G E RR st a → ∃ u, (execOp a.eval o).run P E.w = .ok (.value u) E.w ∧ RX E x u []
theorem aa.val {all : Array Oper} {rest : List Oper} {d : Nat} {op : Op} {ty : TypeId} {pos : String} {af : Array Edge} {x : X}
  (hy : Yields P N st ⟨some d, op, ty, pos, af, none⟩ x) (hd : d < N.n) (k : aa P N all rest (st.put d x) Q) : aa P N all (⟨some d, op, ty, pos, af, none⟩ :: rest) st Q := by
 intro G hn a w hh
 obtain ⟨E, RR, rfl, hi⟩ := hh
 obtain ⟨u, hr, hx⟩ := hy G E RR a hn hi
 refine wpList_plain rfl fun K hK => ?_
 simp only [Oper.wp, hr, Oper.upon_value]
 exact hK _ _ (k G hn _ _ ⟨E, _, rfl, hi.fg (hn ▸ hd) hx⟩)
theorem aa.split {all : Array Oper} {rest : List Oper} {d : Nat} {b : Bool} (hx : look st.a7 d = some (.v (.bool b)))
  (ht : b = true → aa P N all rest (st.put d (.v (.bool true))) Q) (hf : b = false → aa P N all rest (st.put d (.v (.bool false))) Q) : aa P N all rest st Q := by
 have : Le st (st.put d (.v (.bool b))) := ⟨eO.cons hx (fun _ _ h => h), fun _ _ h => h⟩
 cases b
 ·exact (hf rfl).le this
 ·exact (ht rfl).le this
theorem aa.aO {all : Array Oper} {rest : List Oper} {dst : Option Nat} {op : Op} {ty : TypeId} {pos : String} {af : Array Edge} {j d : Nat} {want : Bool}
  (hj : (all[j]?).bind (·.dst) = some d) (hd : d < N.n) (hx : look st.a7 d = some (.v (.bool want)))
  (k : aa P N all (⟨dst, op, ty, pos, af, none⟩ :: rest) st Q) : aa P N all (⟨dst, op, ty, pos, af, some (j, want)⟩ :: rest) st Q := by
 intro G hn a w hh
 have hk := k G hn a w hh
 obtain ⟨E, RR, rfl, hi⟩ := hh
 have hs := hi.a7 d _ hx
 simp only [RX] at hs
 have et : d < a.tmps.size := by rw [hi.tmps, hn]; exact hd
 have hv : a.tmps[d]? = some (.bool want) := by
  have := hs.1
  simp only [Array.getD, et, dif_pos] at this
  rw [Array.getElem?_eq_getElem et]
  exact congrArg some this
 have hw : Region.wanted ⟨dst, op, ty, pos, af, some (j, want)⟩ (yielded all a.tmps) = true := by
  simp [Region.wanted, yielded, hj, hv]
 unfold wpList at hk ⊢
 rw [if_pos hw]
 rw [if_pos (by simp [Region.wanted])] at hk
 exact hk
end
end Go.AW
namespace Go.AW
open Go
section
variable {P : Program} {N : dV} {st : St} {dst : Option Nat} {ty : TypeId} {pos : String} {af : Array Edge} {g : Option (Nat × Bool)}
theorem iq {α β : Type} {s : Sem α} {f : α → Sem β} {w w' : World} {u : α} {r : Result β} (h : s.run P w = .ok u w') (h' : (f u).run P w' = r) : (s.bind f).run P w = r := by
 rw [show (s.bind f) = (s >>= f) from rfl, Sem.run_bind, h]; exact h'
theorem cE {s : Sem Value} {w w' : World} {u : Value} (h : s.run P w = .ok u w') : (do let x ← s; pure (Next.value x) : Sem Next).run P w = .ok (.value u) w' :=
 iq h rfl
theorem wI {s : Sem Unit} {w w' : World} (h : s.run P w = .ok () w') : (do s; pure Next.skip : Sem Next).run P w = .ok .skip w' :=
 iq h rfl
theorem Y.zf {x : Operand} {y : X} (hx : bx st x = some y) (hf : y.free = true) : Yields P N st ⟨dst, .move x, ty, pos, af, g⟩ y := by
 intro G E RR a _ hi
 obtain ⟨R, h⟩ := hi.eval hx
 have := RX.free hf h
 subst this
 exact ⟨_, rfl, h⟩
theorem Y.qe {x : Operand} {y : X} (hx : bx st x = some y) (hf : y.free = true) : Yields P N st ⟨dst, .assign x, ty, pos, af, g⟩ y := by
 intro G E RR a _ hi
 obtain ⟨R, h⟩ := hi.eval hx
 have := RX.free hf h
 subst this
 exact ⟨_, rfl, h⟩
theorem Y.zl {c x y : Operand} {b : Bool} {z : X} (hc : bx st c = some (.v (.bool b))) (hz : bx st (if b then x else y) = some z) (hf : z.free = true) :
  Yields P N st ⟨dst, .pick c x y, ty, pos, af, g⟩ z := by
 intro G E RR a _ hi
 obtain ⟨R, h⟩ := hi.eval hz
 have := RX.free hf h
 subst this
 refine ⟨a.eval (if b then x else y), ?_, h⟩
 have mo := hi.val hc
 simp only [execOp, mo]
 cases b <;> rfl
theorem Y.qf {op : BinOp} {t t' : TypeId} {x y : Operand} {u v r : Value} (hx : bx st x = some (.v u)) (hy : bx st y = some (.v v))
  (hr : ∀ w, (do eqGuard op t x y u v; binOp op t u v : Sem Value).run P w = .ok r w) : Yields P N st ⟨dst, .binOp op t x y t', ty, pos, af, g⟩ (.v r) := by
 intro G E RR a _ hi
 refine ⟨r, ?_, by simp [RX]⟩
 show (do let x ← (do eqGuard op t x y (a.eval x) (a.eval y); binOp op t (a.eval x) (a.eval y) : Sem Value); pure (Next.value x) : Sem Next).run P E.w = _
 rw [hi.val hx, hi.val hy]
 exact cE (hr _)
section ints
variable {t t' : TypeId} {x y : Operand} {k : IntKind} {a b r : Int}
theorem Y.qa (hx : bx st x = some (.v (.int k a))) (hy : bx st y = some (.v (.int k b))) (hr : k.wrap (a + b) = r) : Yields P N st ⟨dst, .binOp .add t x y t', ty, pos, af, g⟩ (.v (.int k r)) :=
 Y.qf hx hy fun w => by subst hr; simp [eqGuard, binOp, Op.intArith]
theorem Y.zw (hx : bx st x = some (.v (.int k a))) (hy : bx st y = some (.v (.int k b))) (hr : k.wrap (a - b) = r) : Yields P N st ⟨dst, .binOp .sub t x y t', ty, pos, af, g⟩ (.v (.int k r)) :=
 Y.qf hx hy fun w => by subst hr; simp [eqGuard, binOp, Op.intArith]
theorem Y.zg (hx : bx st x = some (.v (.int k a))) (hy : bx st y = some (.v (.int k b))) (hr : k.wrap (a * b) = r) : Yields P N st ⟨dst, .binOp .mul t x y t', ty, pos, af, g⟩ (.v (.int k r)) :=
 Y.qf hx hy fun w => by subst hr; simp [eqGuard, binOp, Op.intArith]
theorem Y.zm (hx : bx st x = some (.v (.int k a))) (hy : bx st y = some (.v (.int k b))) (h0 : b ≠ 0) (hr : k.wrap (a.tdiv b) = r) : Yields P N st ⟨dst, .binOp .quo t x y t', ty, pos, af, g⟩ (.v (.int k r)) :=
 Y.qf hx hy fun w => by subst hr; simp [eqGuard, binOp, Op.intDiv, h0]
theorem Y.zo (hx : bx st x = some (.v (.int k a))) (hy : bx st y = some (.v (.int k b))) (h0 : b ≠ 0) (hr : a.tmod b = r) : Yields P N st ⟨dst, .binOp .rem t x y t', ty, pos, af, g⟩ (.v (.int k r)) :=
 Y.qf hx hy fun w => by subst hr; simp [eqGuard, binOp, Op.intDiv, h0]
theorem Y.qc (hx : bx st x = some (.v (.int k a))) (hy : bx st y = some (.v (.int k b))) (hr : k.wrap (BitVec.ofInt k.bits a &&& BitVec.ofInt k.bits b).toNat = r) : Yields P N st ⟨dst, .binOp .and t x y t', ty, pos, af, g⟩ (.v (.int k r)) :=
 Y.qf hx hy fun w => by subst hr; simp [eqGuard, binOp, Op.intBits]
theorem Y.or (hx : bx st x = some (.v (.int k a))) (hy : bx st y = some (.v (.int k b))) (hr : k.wrap (BitVec.ofInt k.bits a ||| BitVec.ofInt k.bits b).toNat = r) : Yields P N st ⟨dst, .binOp .or t x y t', ty, pos, af, g⟩ (.v (.int k r)) :=
 Y.qf hx hy fun w => by subst hr; simp [eqGuard, binOp, Op.intBits]
theorem Y.zy (hx : bx st x = some (.v (.int k a))) (hy : bx st y = some (.v (.int k b))) (hr : k.wrap (BitVec.ofInt k.bits a ^^^ BitVec.ofInt k.bits b).toNat = r) : Yields P N st ⟨dst, .binOp .xor t x y t', ty, pos, af, g⟩ (.v (.int k r)) :=
 Y.qf hx hy fun w => by subst hr; simp [eqGuard, binOp, Op.intBits]
theorem Y.zq {k' : IntKind} (hx : bx st x = some (.v (.int k a))) (hy : bx st y = some (.v (.int k' b))) (h0 : 0 ≤ b) (hr : k.wrap (a * 2 ^ (min b.toNat k.bits)) = r) : Yields P N st ⟨dst, .binOp .shl t x y t', ty, pos, af, g⟩ (.v (.int k r)) :=
 Y.qf hx hy fun w => by subst hr; simp [eqGuard, binOp, Op.shift, Int.not_lt.2 h0]
theorem Y.zr {k' : IntKind} (hx : bx st x = some (.v (.int k a))) (hy : bx st y = some (.v (.int k' b))) (h0 : 0 ≤ b) (hr : a.fdiv (2 ^ (min b.toNat k.bits)) = r) : Yields P N st ⟨dst, .binOp .shr t x y t', ty, pos, af, g⟩ (.v (.int k r)) :=
 Y.qf hx hy fun w => by subst hr; simp [eqGuard, binOp, Op.shift, Int.not_lt.2 h0]
theorem Y.zb (hx : bx st x = some (.v (.int k a))) (hy : bx st y = some (.v (.int k b))) : Yields P N st ⟨dst, .binOp .lss t x y t', ty, pos, af, g⟩ (.v (.bool (decide (a < b)))) :=
 Y.qf hx hy fun w => by simp [eqGuard, binOp, Op.intCmp]
theorem Y.qy (hx : bx st x = some (.v (.int k a))) (hy : bx st y = some (.v (.int k b))) : Yields P N st ⟨dst, .binOp .leq t x y t', ty, pos, af, g⟩ (.v (.bool (decide (a ≤ b)))) :=
 Y.qf hx hy fun w => by simp [eqGuard, binOp, Op.intCmp]
theorem Y.qq (hx : bx st x = some (.v (.int k a))) (hy : bx st y = some (.v (.int k b))) : Yields P N st ⟨dst, .binOp .gtr t x y t', ty, pos, af, g⟩ (.v (.bool (decide (b < a)))) :=
 Y.qf hx hy fun w => by simp [eqGuard, binOp, Op.intCmp]
theorem Y.qp (hx : bx st x = some (.v (.int k a))) (hy : bx st y = some (.v (.int k b))) : Yields P N st ⟨dst, .binOp .geq t x y t', ty, pos, af, g⟩ (.v (.bool (decide (b ≤ a)))) :=
 Y.qf hx hy fun w => by simp [eqGuard, binOp, Op.intCmp]
theorem Y.qk (hx : bx st x = some (.v (.int k a))) (hy : bx st y = some (.v (.int k b))) : Yields P N st ⟨dst, .binOp .eql t x y t', ty, pos, af, g⟩ (.v (.bool (decide (a = b)))) :=
 Y.qf hx hy fun w => by simp [eqGuard, binOp, Op.intCmp, BEq.beq]
theorem Y.zi (hx : bx st x = some (.v (.int k a))) (hy : bx st y = some (.v (.int k b))) : Yields P N st ⟨dst, .binOp .neq t x y t', ty, pos, af, g⟩ (.v (.bool (decide (a ≠ b)))) :=
 Y.qf hx hy fun w => by simp [eqGuard, binOp, Op.intCmp, bne, BEq.beq]
end ints
theorem run_equal_bool {t : TypeId} {a b : Bool} (ht : P.underlying t = some .bool) (w : World) : (Op.equal t (.bool a) (.bool b)).run P w = .ok (a == b) w := by
 show (Op.equalIn (9999 + 1) t (.bool a) (.bool b)).run P w = _
 generalize 9999 = d
 simp [Op.equalIn, run_underlying ht]
theorem Y.ql {t t' : TypeId} {x y : Operand} {a b : Bool} (ht : P.underlying t = some .bool) (hx : bx st x = some (.v (.bool a))) (hy : bx st y = some (.v (.bool b))) :
  Yields P N st ⟨dst, .binOp .eql t x y t', ty, pos, af, g⟩ (.v (.bool (a == b))) :=
 Y.qf hx hy fun w => by
  show (do let z ← Op.equal t (.bool a) (.bool b); pure (Value.bool z) : Sem Value).run P w = _
  exact iq (run_equal_bool ht w) rfl
theorem Y.un {op : UnOp} {t : TypeId} {x : Operand} {u r : Value} (hx : bx st x = some (.v u)) (hr : ∀ w, (Op.unary op u).run P w = .ok r w) : Yields P N st ⟨dst, .unOp op t x, ty, pos, af, g⟩ (.v r) := by
 intro G E RR a _ hi
 refine ⟨r, ?_, by simp [RX]⟩
 show (do let x ← Op.unary op (a.eval x); pure (Next.value x) : Sem Next).run P E.w = _
 rw [hi.val hx]
 exact cE (hr _)
theorem Y.zk {t : TypeId} {x : Operand} {b : Bool} (hx : bx st x = some (.v (.bool b))) : Yields P N st ⟨dst, .unOp .not t x, ty, pos, af, g⟩ (.v (.bool (!b))) :=
 Y.un hx fun _ => rfl
theorem Y.qi {s d : TypeId} {x : Operand} {k k' : IntKind} {n r : Int} (hs : TY.isInt P s = some k') (hd : TY.isInt P d = some k) (hx : bx st x = some (.v (.int k' n))) (hr : k.wrap n = r) :
  Yields P N st ⟨dst, .convert s d x, ty, pos, af, g⟩ (.v (.int k r)) := by
 intro G E RR a _ hi
 refine ⟨.int k r, ?_, by simp [RX]⟩
 show (do let x ← convert s d (a.eval x); pure (Next.value x) : Sem Next).run P E.w = _
 rw [hi.val hx]
 refine cE ?_
 have h1 : P.underlying s = some (.int k') := by unfold TY.isInt at hs; split at hs <;> simp_all
 have h2 : P.underlying d = some (.int k) := by unfold TY.isInt at hd; split at hd <;> simp_all
 simp [convert, run_underlying h1, run_underlying h2, Conv.intToInt, hr]
end
end Go.AW
namespace Go.AW
open Go
theorem cp {w : World} {b i : Nat} {cs : Array Value} {ty : TypeId} {fr : Nat × Nat} (h : w.heap[b]? = some (.cells cs ty fr)) : w.cell? ⟨b, i, none⟩ = cs[i]? := by
 simp [World.cell?, h]
theorem eY (b off n : Nat) : (⟨b, off, none⟩ : Addr).add n = ⟨b, off + n, none⟩ := by
 unfold Addr.add
 split
 ·rename_i h; subst h; rfl
 ·rfl
section
variable {E : Env}
theorem RF.get : ∀ {row : List X} {b off k : Nat} {x : X}, RF E row b off → row[k]? = some x → ∃ u, E.φ b (off + k) = some u ∧ gI u ∧ x.nr = true ∧ RX E x u []
 | [], _, _, _, _, _, h => by simp at h
 | y :: r, b, off, 0, x, h, hx => by
  simp only [RF] at h
  simp only [List.getElem?_cons_zero, Option.some.injEq] at hx
  subst hx
  exact h.1
 | y :: r, b, off, k + 1, x, h, hx => by
  simp only [RF] at h
  obtain ⟨u, hu⟩ := RF.get (k := k) h.2 (by simpa using hx)
  exact ⟨u, by rw [show off + (k + 1) = off + 1 + k by omega]; exact hu⟩
theorem RF.drop : ∀ {row : List X} {b off : Nat} (k : Nat), RF E row b off → RF E (row.drop k) b (off + k)
 | [], _, _, _, _ => by simp [RF]
 | y :: r, b, off, 0, h => h
 | y :: r, b, off, k + 1, h => by
  simp only [RF] at h
  simp only [List.drop_succ_cons]
  rw [show off + (k + 1) = off + 1 + k by omega]
  exact RF.drop k h.2
theorem RF.take : ∀ {row : List X} {b off : Nat} (k : Nat), RF E row b off → RF E (row.take k) b off
 | [], _, _, _, _ => by simp [RF]
 | y :: r, b, off, 0, h => by simp [RF]
 | y :: r, b, off, k + 1, h => by
  simp only [RF, List.take_succ_cons] at h ⊢
  exact ⟨h.1, RF.take k h.2⟩
theorem RF.cells : ∀ {row : List X} {b off : Nat}, RF E row b off → ∃ cs : List Value, cs.length = row.length ∧ (∀ j v, cs[j]? = some v → E.φ b (off + j) = some v) ∧ br E row cs []
 | [], _, _, _ => ⟨[], rfl, by simp, by simp [br]⟩
 | y :: r, b, off, h => by
  simp only [RF] at h
  obtain ⟨⟨u, hu, hs, _, hx⟩, hr⟩ := h
  obtain ⟨cs, hl, hc, eU⟩ := RF.cells hr
  refine ⟨u :: cs, by simp [hl], ?_, ?_⟩
  ·intro j v hv
   cases j with
   | zero => simp at hv; subst hv; exact hu
   | succ j => rw [show off + (j + 1) = off + 1 + j by omega]; exact hc j v (by simpa using hv)
  ·simp only [br]
   exact ⟨u, cs, [], [], rfl, hs, hx, eU, rfl⟩
theorem gJ.get : ∀ {rows : List (List X)} {s b off i : Nat} {row : List X}, bG s rows → gJ E rows b off → rows[i]? = some row → RF E row b (off + i * s)
 | [], _, _, _, _, _, _, _, h => by simp at h
 | r :: rs, s, b, off, 0, row, hu, h, hr => by
  simp only [gJ] at h
  simp only [List.getElem?_cons_zero, Option.some.injEq] at hr
  subst hr
  simpa using h.1
 | r :: rs, s, b, off, i + 1, row, hu, h, hr => by
  simp only [gJ] at h
  have h1 := hu r (by simp)
  have := gJ.get (i := i) (s := s) (fun q hq => hu q (by simp [hq])) h.2 (by simpa using hr)
  rw [h1] at this
  rw [show off + (i + 1) * s = off + s + i * s by rw [Nat.add_mul]; omega]
  exact this
theorem gJ.drop : ∀ {rows : List (List X)} {s b off : Nat} (k : Nat), bG s rows → k ≤ rows.length → gJ E rows b off → gJ E (rows.drop k) b (off + k * s)
 | _, _, _, _, 0, _, _, h => by simpa using h
 | [], _, _, _, k + 1, _, hk, _ => by simp at hk
 | r :: rs, s, b, off, k + 1, hu, hk, h => by
  simp only [gJ] at h
  have h1 := hu r (by simp)
  rw [h1] at h
  simp only [List.drop_succ_cons]
  rw [show off + (k + 1) * s = off + s + k * s by rw [Nat.add_mul]; omega]
  exact gJ.drop k (fun q hq => hu q (by simp [hq])) (by simpa using hk) h.2
theorem gJ.take : ∀ {rows : List (List X)} {b off : Nat} (k : Nat), gJ E rows b off → gJ E (rows.take k) b off
 | [], _, _, _, _ => by simp [gJ]
 | _ :: _, _, _, 0, _ => by simp [gJ]
 | r :: rs, b, off, k + 1, h => by
  simp only [gJ, List.take_succ_cons] at h ⊢
  exact ⟨h.1, gJ.take k h.2⟩
theorem bG.drop {s : Nat} {rows : List (List X)} (k : Nat) (h : bG s rows) : bG s (rows.drop k) := fun r hr => h r (List.mem_of_mem_drop hr)
theorem bG.take {s : Nat} {rows : List (List X)} (k : Nat) (h : bG s rows) : bG s (rows.take k) := fun r hr => h r (List.mem_of_mem_take hr)
theorem RO.get : ∀ {xs : List X} {cs : Array Value} {off k : Nat} {R : List Nat} {x : X}, RO E xs cs off R → xs[k]? = some x →
  ∃ u R₁, cs[off + k]? = some u ∧ gI u ∧ RX E x u R₁ ∧ ∀ b ∈ R₁, b ∈ R
 | [], _, _, _, _, _, _, h => by simp at h
 | y :: r, cs, off, 0, R, x, h, hx => by
  simp only [RO] at h
  simp only [List.getElem?_cons_zero, Option.some.injEq] at hx
  subst hx
  obtain ⟨u, R₁, R₂, hu, hs, h1, _, rfl⟩ := h
  exact ⟨u, R₁, hu, hs, h1, fun b hb => bO hb⟩
 | y :: r, cs, off, k + 1, R, x, h, hx => by
  simp only [RO] at h
  obtain ⟨_, R₁, R₂, _, _, _, h2, rfl⟩ := h
  obtain ⟨u, R₃, hu, hs, h3, cF⟩ := RO.get (k := k) h2 (by simpa using hx)
  exact ⟨u, R₃, by rw [show off + (k + 1) = off + 1 + k by omega]; exact hu, hs, h3, fun b hb => bI (cF b hb)⟩
theorem RO.drop : ∀ {xs : List X} {cs : Array Value} {off : Nat} {R : List Nat} (k : Nat), RO E xs cs off R → ∃ R', RO E (xs.drop k) cs (off + k) R' ∧ ∀ b ∈ R', b ∈ R
 | [], cs, off, R, k, h => ⟨[], by simp [RO], by simp⟩
 | y :: r, cs, off, R, 0, h => ⟨R, h, fun _ h => h⟩
 | y :: r, cs, off, R, k + 1, h => by
  simp only [RO] at h
  obtain ⟨_, R₁, R₂, _, _, _, h2, rfl⟩ := h
  obtain ⟨R', h', hs⟩ := RO.drop k h2
  refine ⟨R', ?_, fun b hb => bI (hs b hb)⟩
  simp only [List.drop_succ_cons]
  rw [show off + (k + 1) = off + 1 + k by omega]; exact h'
theorem RO.take : ∀ {xs : List X} {cs : Array Value} {off : Nat} {R : List Nat} (k : Nat), RO E xs cs off R → ∃ R', RO E (xs.take k) cs off R' ∧ ∀ b ∈ R', b ∈ R
 | [], cs, off, R, k, h => ⟨[], by simp [RO], by simp⟩
 | y :: r, cs, off, R, 0, h => ⟨[], by simp [RO], by simp⟩
 | y :: r, cs, off, R, k + 1, h => by
  simp only [RO] at h
  obtain ⟨u, R₁, R₂, hu, hs, h1, h2, rfl⟩ := h
  obtain ⟨R', h', I3⟩ := RO.take k h2
  refine ⟨R₁ ++ R', ?_, ?_⟩
  ·simp only [List.take_succ_cons, RO]
   exact ⟨u, R₁, R', hu, hs, h1, h', rfl⟩
  ·intro b hb
   rcases List.mem_append.1 hb with hb | hb
   ·exact bO hb
   ·exact bI (I3 b hb)
theorem RO.cells : ∀ {xs : List X} {cs : Array Value} {off : Nat} {R : List Nat}, RO E xs cs off R → ∃ vs : List Value, vs.length = xs.length ∧ (∀ j v, vs[j]? = some v → cs[off + j]? = some v) ∧ br E xs vs R
 | [], _, _, R, h => ⟨[], rfl, by simp, by simp only [RO] at h; simp [br, h]⟩
 | y :: r, cs, off, R, h => by
  simp only [RO] at h
  obtain ⟨u, R₁, R₂, hu, hs, h1, h2, rfl⟩ := h
  obtain ⟨vs, hl, hc, eU⟩ := RO.cells h2
  refine ⟨u :: vs, by simp [hl], ?_, ?_⟩
  ·intro j v hv
   cases j with
   | zero => simp at hv; subst hv; exact hu
   | succ j => rw [show off + (j + 1) = off + 1 + j by omega]; exact hc j v (by simpa using hv)
  ·simp only [br]
   exact ⟨u, vs, R₁, R₂, rfl, hs, h1, eU, rfl⟩
theorem bR.get : ∀ {rows : List (List X)} {s : Nat} {cs : Array Value} {off i : Nat} {R : List Nat} {row : List X}, bG s rows → bR E rows cs off R → rows[i]? = some row →
  ∃ R₁, X.fm row = true ∧ RO E row cs (off + i * s) R₁ ∧ ∀ b ∈ R₁, b ∈ R
 | [], _, _, _, _, _, _, _, _, h => by simp at h
 | r :: rs, s, cs, off, 0, R, row, hu, h, hr => by
  simp only [bR] at h
  simp only [List.getElem?_cons_zero, Option.some.injEq] at hr
  subst hr
  obtain ⟨R₁, R₂, hn, h1, _, rfl⟩ := h
  exact ⟨R₁, hn, by simpa using h1, fun b hb => bO hb⟩
 | r :: rs, s, cs, off, i + 1, R, row, hu, h, hr => by
  simp only [bR] at h
  obtain ⟨R₁, R₂, hn, _, h2, rfl⟩ := h
  have h1 := hu r (by simp)
  obtain ⟨R₃, o5, h3, hs⟩ := bR.get (i := i) (s := s) (fun q hq => hu q (by simp [hq])) h2 (by simpa using hr)
  rw [h1] at h3
  exact ⟨R₃, o5, by rw [show off + (i + 1) * s = off + s + i * s by rw [Nat.add_mul]; omega]; exact h3, fun b hb => bI (hs b hb)⟩
end
def rowAt (st : St) : X → Option (List X)
 | .fp row _ => some row
 | .ptr o s i _ => match look st.aA o with
  | some (.cells xs) => bif Nat.beq i 0 then some xs else none
  | some (.rows s' rs) => bif Nat.beq s s' then rs[i]? else none
  | _ => none
 | _ => none
def jq : X → Nat
 | .fp _ k => k
 | .ptr _ _ _ k => k
 | _ => 0
section
variable {P : Program} {N : dV} {G : Ctx} {E : Env} {RR : Own → List Nat} {st : St} {a : Act}
theorem Inv.behind (hi : Inv G E RR st a) {p : X} {c : Value} {R : List Nat} {row : List X} (hp : RX E p c R) (hr : rowAt st p = some row) :
  ∃ b off, c = .pointer (some ⟨b, off + jq p, none⟩) ∧ ∀ k m, k + m ≤ row.length →
   ∃ vs : List Value, ∃ R', vs.length = m ∧ (∀ j v, vs[j]? = some v → E.w.cell? ⟨b, off + (k + j), none⟩ = some v) ∧ br E ((row.drop k).take m) vs R' := by
 cases p with
 | fp row' k' =>
  simp only [rowAt, Option.some.injEq] at hr
  subst hr
  simp only [RX] at hp
  obtain ⟨_, b, off, hc, hf⟩ := hp
  refine ⟨b, off, hc, fun k m LW => ?_⟩
  obtain ⟨vs, hl, hv, hx⟩ := RF.cells (RF.take m (RF.drop k hf))
  refine ⟨vs, [], by rw [hl]; simp; omega, fun j v hj => ?_, hx⟩
  rw [← Nat.add_assoc]
  exact hi.kh _ _ _ (hv j v hj)
 | ptr o s i k' =>
  simp only [RX] at hp
  obtain ⟨_, B, hB, hc⟩ := hp
  simp only [rowAt] at hr
  split at hr
  ·rename_i xs ho
   have h0 := hi.aA o _ ho
   simp only [dD] at h0
   obtain ⟨_, B', cs, ty, g7, hw, _, _, iJ, _⟩ := h0
   rw [hB] at g7
   obtain rfl := Option.some.inj g7
   cases me : Nat.beq i 0 with
   | false => simp [me] at hr
   | true =>
    have := Nat.eq_of_beq_eq_true me
    subst this
    simp only [me, cond_true, Option.some.injEq] at hr
    subst hr
    refine ⟨B.b, B.off, by simpa [jq] using hc, fun k m LW => ?_⟩
    obtain ⟨R₁, h1, _⟩ := RO.drop k iJ
    obtain ⟨R₂, h2, _⟩ := RO.take m h1
    obtain ⟨vs, hl, hv, hx⟩ := RO.cells h2
    refine ⟨vs, R₂, by rw [hl]; simp; omega, fun j v hj => ?_, hx⟩
    rw [cp hw, ← Nat.add_assoc]
    exact hv j v hj
  ·rename_i s' rs ho
   have h0 := hi.aA o _ ho
   simp only [dD] at h0
   obtain ⟨hu, h0⟩ := h0
   cases Cv : Nat.beq s s' with
   | false => simp [Cv] at hr
   | true =>
    have := Nat.eq_of_beq_eq_true Cv
    subst this
    simp only [Cv, cond_true] at hr
    rcases h0 with ⟨_, h0, _⟩ | ⟨B', cs, ty, R', g7, hw, _, _, _, iJ, _⟩
    ·subst h0; simp at hr
    ·rw [hB] at g7
     obtain rfl := Option.some.inj g7
     obtain ⟨R₁, _, h1, _⟩ := bR.get hu iJ hr
     refine ⟨B.b, B.off + i * s, by rw [hc]; simp [jq, Nat.add_assoc], fun k m LW => ?_⟩
     obtain ⟨R₂, h2, _⟩ := RO.drop k h1
     obtain ⟨R₃, h3, _⟩ := RO.take m h2
     obtain ⟨vs, hl, hv, hx⟩ := RO.cells h3
     refine ⟨vs, R₃, by rw [hl]; simp; omega, fun j v hj => ?_, hx⟩
     rw [cp hw, ← Nat.add_assoc]
     exact hv j v hj
  ·cases hr
 | _ => simp [rowAt] at hr
end
end Go.AW
namespace Go.AW
open Go
section
variable {P : Program} {N : dV} {st : St} {dst : Option Nat} {ty : TypeId} {pos : String} {af : Array Edge} {g : Option (Nat × Bool)}
theorem TY.gg {t : TypeId} (h : TY.shape P t = some none) (w : World) : (isAgg t).run P w = .ok false w ∧ ∃ d, P.underlying t = some d := by
 unfold TY.shape at h
 cases hu : P.underlying t with
 | none => simp [hu] at h
 | some d =>
  refine ⟨?_, d, rfl⟩
  rw [hu] at h
  simp only [isAgg, Sem.run_bind, run_underlying hu, Result.andThen_ok]
  cases d <;> first | rfl | (cases hi : P.info? t <;> simp [hi] at h)
theorem TY.j8 {t : TypeId} {m : Nat} (h : TY.shape P t = some (some m)) (w : World) : (isAgg t).run P w = .ok true w ∧ (sizeOf t).run P w = .ok m w := by
 unfold TY.shape at h
 cases hu : P.underlying t with
 | none => simp [hu] at h
 | some d =>
  cases hi : P.info? t with
  | none => rw [hu, hi] at h; cases d <;> simp at h
  | some i =>
   rw [hu, hi] at h
   have hs : (sizeOf t).run P w = .ok i.size w := by simp [sizeOf, typeInfo, hi]
   have ha : ∀ d', P.underlying t = some d' → (match d' with | .struct _ | .array _ _ => true | _ => false) = true → (isAgg t).run P w = .ok true w := by
    intro d' NL hm
    simp only [isAgg, Sem.run_bind, run_underlying NL, Result.andThen_ok]
    cases d' <;> simp at hm <;> rfl
   cases d <;> simp at h <;> subst h <;> exact ⟨ha _ hu rfl, hs⟩
theorem getElem?_drop_take_one {α : Type} {l : List α} {k : Nat} {x : α} (h : l[k]? = some x) : (l.drop k).take 1 = [x] := by
 have hk : k < l.length := by
  rcases Nat.lt_or_ge k l.length with h' | h'
  ·exact h'
  ·simp [List.getElem?_eq_none h'] at h
 rw [List.drop_eq_getElem_cons hk]
 simp only [List.take_succ_cons, List.take_zero]
 rw [List.getElem?_eq_getElem hk] at h
 rw [Option.some.inj h]
theorem Y.qz {t : TypeId} {x : Operand} {p y : X} {row : List X} (ht : TY.shape P t = some none) (hx : bx st x = some p) (hr : rowAt st p = some row) (hy : row[jq p]? = some y) (hf : y.free = true) :
  Yields P N st ⟨dst, .load t x, ty, pos, af, g⟩ y := by
 intro G E RR a _ hi
 obtain ⟨R, hp⟩ := hi.eval hx
 obtain ⟨b, off, hc, fO⟩ := hi.behind hp hr
 have hk : jq p < row.length := by
  rcases Nat.lt_or_ge (jq p) row.length with h' | h'
  ·exact h'
  ·simp [List.getElem?_eq_none h'] at hy
 obtain ⟨vs, R', hl, hv, eU⟩ := fO (jq p) 1 om
 rw [getElem?_drop_take_one hy] at eU
 simp only [br] at eU
 obtain ⟨c, c1, R₁, R₂, Cw, _, h1, ⟨rfl, rfl⟩, rfl⟩ := eU
 subst Cw
 have h0 := RX.free hf h1
 subst h0
 refine ⟨c, ?_, h1⟩
 show (do let z ← Instr.loadAt t (a.eval x); pure (Next.value z) : Sem Next).run P E.w = _
 rw [hc]
 refine cE ?_
 have fP := hv 0 c rfl
 simp only [Instr.loadAt, Instr.sureAddr, loadVar, Sem.run_bind, Sem.run_pure, Result.andThen_ok, (TY.gg ht E.w).1]
 simp only [Nat.add_zero] at fP
 simp [fP]
theorem Y.za {t : TypeId} {x : Operand} {p : X} {row : List X} {m : Nat} {ys : List X} (ht : TY.shape P t = some (some m)) (hx : bx st x = some p) (hr : rowAt st p = some row) (hm : jq p + m ≤ row.length)
  (rP : (row.drop (jq p)).take m = ys) (hf : X.bc ys = true) : Yields P N st ⟨dst, .load t x, ty, pos, af, g⟩ (.agg ys) := by
 intro G E RR a _ hi
 obtain ⟨R, hp⟩ := hi.eval hx
 obtain ⟨b, off, hc, fO⟩ := hi.behind hp hr
 obtain ⟨vs, R', hl, hv, eU⟩ := fO (jq p) m hm
 rw [rP] at eU
 have h0 := br.free hf eU
 subst h0
 refine ⟨.agg vs.toArray, ?_, by simp only [RX]; exact ⟨_, rfl, eU⟩⟩
 show (do let z ← Instr.loadAt t (a.eval x); pure (Next.value z) : Sem Next).run P E.w = _
 rw [hc]
 refine cE ?_
 obtain ⟨h1, h2⟩ := TY.j8 ht E.w
 have h3 : (loadCells ⟨b, off + jq p, none⟩ m).run P E.w = .ok vs.toArray E.w := by
  rw [← hl]
  exact run_loadCells_list (w := E.w) _ vs fun j v hj => by rw [eY, Nat.add_assoc]; exact hv j v hj
 simp only [Instr.loadAt, Instr.sureAddr, loadVar, Sem.run_bind, Sem.run_pure, Result.andThen_ok, h1, if_true, h2, h3]
theorem run_sizeOf {t : TypeId} {i : TypeInfo} (h : P.info? t = some i) (w : World) : (sizeOf t).run P w = .ok i.size w := by simp [sizeOf, typeInfo, h]
theorem TY.uE {t : TypeId} {f off : Nat} {ft : TypeId} (h : TY.iI P t f = some (off, ft)) (b o : Nat) (w : World) :
  (Instr.fieldAt t (.pointer (some ⟨b, o, none⟩)) f).run P w = .ok (.pointer (some ⟨b, o + off, none⟩)) w := by
 unfold TY.iI at h
 cases hu : P.underlying t with
 | none => simp [hu] at h
 | some d =>
  rw [hu] at h
  cases d with
  | struct fs =>
   simp only at h
   cases hf : fs[f]? with
   | none => simp [hf] at h
   | some fd =>
    rw [hf] at h
    simp only at h
    cases hi : P.info? fd.type with
    | none => simp [hi] at h
    | some i =>
     rw [hi] at h
     simp only at h
     cases hz : Nat.beq i.size 0 with
     | true => simp [hz] at h
     | false =>
      have NM : i.size ≠ 0 := Nat.ne_of_beq_eq_false hz
      rw [hz] at h
      simp only [cond_false, Option.some.injEq, Prod.mk.injEq] at h
      simp only [Instr.fieldAt, Sem.run_bind, run_underlying hu, Result.andThen_ok, hf, Instr.sureAddr, Sem.run_pure, fieldPlace, run_sizeOf hi, NM, if_false, eY, h.1]
  | _ => simp at h
def X.on (n : Nat) : X → Option X
 | .fp row k => some (.fp row (k + n))
 | .ptr o s i k => some (.ptr o s i (k + n))
 | _ => none
theorem RX.on {E : Env} {p q : X} {n : Nat} {c : Value} {R : List Nat} (hq : p.on n = some q) (h : RX E p c R) : ∃ b off, c = .pointer (some ⟨b, off, none⟩) ∧ RX E q (.pointer (some ⟨b, off + n, none⟩)) [] := by
 cases p with
 | fp row k =>
  simp only [X.on, Option.some.injEq] at hq
  subst hq
  simp only [RX] at h ⊢
  obtain ⟨_, b, off, hc, hf⟩ := h
  exact ⟨b, _, hc, trivial, b, off, by rw [Nat.add_assoc], hf⟩
 | ptr o s i k =>
  simp only [X.on, Option.some.injEq] at hq
  subst hq
  simp only [RX] at h ⊢
  obtain ⟨_, B, hB, hc⟩ := h
  exact ⟨_, _, hc, trivial, B, hB, by simp only [Nat.add_assoc]⟩
 | _ => simp [X.on] at hq
theorem Y.qo {t : TypeId} {x : Operand} {p q : X} {f off : Nat} {ft : TypeId} (ht : TY.iI P t f = some (off, ft)) (hx : bx st x = some p) (hq : p.on off = some q) :
  Yields P N st ⟨dst, .fieldAddr t x f, ty, pos, af, g⟩ q := by
 intro G E RR a _ hi
 obtain ⟨R, hp⟩ := hi.eval hx
 obtain ⟨b, o, hc, h⟩ := hp.on hq
 refine ⟨_, ?_, h⟩
 show (do let z ← Instr.fieldAt t (a.eval x) f; pure (Next.value z) : Sem Next).run P E.w = _
 rw [hc]
 exact cE (TY.uE ht b o E.w)
theorem TY.c7 {t e s cy : Nat} (h : TY.slice P t = some (e, s, cy)) : P.underlying t = some (.slice e) ∧ ∃ i, P.info? e = some i ∧ i.size = s ∧ i.bytes = cy := by
 unfold TY.slice at h
 split at h
 ·rename_i e' hu
  cases hi : P.info? e' with
  | none => simp [hi] at h
  | some i =>
   simp only [hi, Option.map_some, Option.some.injEq, Prod.mk.injEq] at h
   obtain ⟨rfl, h2, h3⟩ := h
   exact ⟨hu, i, hi, h2, h3⟩
 ·cases h
theorem TY.o6 {t n e s : Nat} (h : TY.array P t = some (n, e, s)) : P.underlying t = some (.array n e) ∧ ∃ i, P.info? e = some i ∧ i.size = s := by
 unfold TY.array at h
 split at h
 ·rename_i n' e' hu
  cases hi : P.info? e' with
  | none => simp [hi] at h
  | some i =>
   simp only [hi, Option.map_some, Option.some.injEq, Prod.mk.injEq] at h
   obtain ⟨rfl, rfl, h3⟩ := h
   exact ⟨hu, i, hi, h3⟩
 ·cases h
theorem iN {t e s cy : Nat} (ht : TY.slice P t = some (e, s, cy)) {b off len cap m : Nat} {k : IntKind} {n : Int} (hn : n = (m : Int)) (hm : m < len) (w : World) :
  (Instr.indexAt t (.slice (some ⟨b, off, none⟩) len cap) (.int k n)).run P w = .ok (.pointer (some ⟨b, off + m * s, none⟩)) w := by
 obtain ⟨hu, i, hi, hs, _⟩ := TY.c7 ht
 subst hn
 simp [Instr.indexAt, asIntOf, run_underlying hu, hm, run_sizeOf hi, hs, eY]
theorem Y.qr {t e s cy : Nat} {x ix : Operand} {rows : List (List X)} {row : List X} {k : IntKind} {n : Int} {m : Nat} (ht : TY.slice P t = some (e, s, cy)) (hx : bx st x = some (.fz s rows))
  (tl : bx st ix = some (.v (.int k n))) (hn : n = (m : Int)) (hr : rows[m]? = some row) : Yields P N st ⟨dst, .indexAddr t x ix, ty, pos, af, g⟩ (.fp row 0) := by
 intro G E RR a _ hi
 obtain ⟨R, hp⟩ := hi.eval hx
 have hm : m < rows.length := by
  rcases Nat.lt_or_ge m rows.length with h' | h'
  ·exact h'
  ·simp [List.getElem?_eq_none h'] at hr
 simp only [RX] at hp
 obtain ⟨_, hu, base, cap, hc, h⟩ := hp
 rcases h with ⟨h, _⟩ | ⟨b, off, rfl, hl, hf⟩
 ·subst h; simp at hr
 ·refine ⟨.pointer (some ⟨b, off + m * s, none⟩), ?_, ?_⟩
  ·show (do let z ← Instr.indexAt t (a.eval x) (a.eval ix); pure (Next.value z) : Sem Next).run P E.w = _
   rw [hc, hi.val tl]
   exact cE (iN ht hn hm E.w)
  ·simp only [RX]
   exact ⟨trivial, b, off + m * s, rfl, gJ.get hu hf hr⟩
theorem Y.qs {t e s cy : Nat} {x ix : Operand} {o lo len : Nat} {k : IntKind} {n : Int} {m : Nat} (ht : TY.slice P t = some (e, s, cy)) (hx : bx st x = some (.aY o s lo len))
  (tl : bx st ix = some (.v (.int k n))) (hn : n = (m : Int)) (hm : m < len) : Yields P N st ⟨dst, .indexAddr t x ix, ty, pos, af, g⟩ (.ptr o s (lo + m) 0) := by
 intro G E RR a _ hi
 obtain ⟨R, hp⟩ := hi.eval hx
 simp only [RX] at hp
 obtain ⟨_, base, cap, hc, h⟩ := hp
 rcases h with ⟨_, _, h, _⟩ | ⟨B, hB, _, hl, hb⟩
 ·omega
 ·have fe : base = some ⟨B.b, B.off + lo * s, none⟩ := hb.resolve_left om
  subst fe
  refine ⟨.pointer (some ⟨B.b, B.off + lo * s + m * s, none⟩), ?_, ?_⟩
  ·show (do let z ← Instr.indexAt t (a.eval x) (a.eval ix); pure (Next.value z) : Sem Next).run P E.w = _
   rw [hc, hi.val tl]
   exact cE (iN ht hn hm E.w)
  ·simp only [RX]
   exact ⟨trivial, B, hB, by rw [Nat.add_mul]; simp [Nat.add_assoc]⟩
theorem Y.qt {t len e s : Nat} {x ix : Operand} {p q : X} {k : IntKind} {n : Int} {m : Nat} (ht : TY.array P t = some (len, e, s)) (hx : bx st x = some p)
  (tl : bx st ix = some (.v (.int k n))) (hn : n = (m : Int)) (hm : m < len) (hq : p.on (m * s) = some q) : Yields P N st ⟨dst, .indexAddr t x ix, ty, pos, af, g⟩ q := by
 intro G E RR a _ hi
 obtain ⟨R, hp⟩ := hi.eval hx
 obtain ⟨b, o, hc, h⟩ := hp.on hq
 refine ⟨_, ?_, h⟩
 show (do let z ← Instr.indexAt t (a.eval x) (a.eval ix); pure (Next.value z) : Sem Next).run P E.w = _
 rw [hc, hi.val tl]
 refine cE ?_
 obtain ⟨hu, i, fh, hs⟩ := TY.o6 ht
 subst hn
 simp [Instr.indexAt, Instr.sureAddr, asIntOf, run_underlying hu, hm, run_sizeOf fh, hs, eY]
theorem br.get {E : Env} : ∀ {xs : List X} {cs : List Value} {R : List Nat} {k : Nat} {x : X}, br E xs cs R → xs[k]? = some x → ∃ u R₁, cs[k]? = some u ∧ gI u ∧ RX E x u R₁
 | [], _, _, _, _, _, h => by simp at h
 | y :: r, cs, R, 0, x, h, hx => by
  simp only [br] at h
  simp only [List.getElem?_cons_zero, Option.some.injEq] at hx
  subst hx
  obtain ⟨c, c1, R₁, R₂, rfl, hs, h1, _, _⟩ := h
  exact ⟨c, R₁, rfl, hs, h1⟩
 | y :: r, cs, R, k + 1, x, h, hx => by
  simp only [br] at h
  obtain ⟨c, c1, R₁, R₂, rfl, _, _, h2, _⟩ := h
  obtain ⟨u, R₃, hu, hs, h3⟩ := br.get (k := k) h2 (by simpa using hx)
  exact ⟨u, R₃, by simpa using hu, hs, h3⟩
theorem br.length {E : Env} : ∀ {xs : List X} {cs : List Value} {R : List Nat}, br E xs cs R → cs.length = xs.length
 | [], _, _, h => by simp only [br] at h; rw [h.1]; rfl
 | x :: r, _, _, h => by
  simp only [br] at h
  obtain ⟨c, c1, R₁, R₂, rfl, _, _, h2, _⟩ := h
  simp [br.length h2]
theorem br.drop {E : Env} : ∀ {xs : List X} {cs : List Value} {R : List Nat} (k : Nat), br E xs cs R → ∃ R', br E (xs.drop k) (cs.drop k) R'
 | [], cs, R, k, h => by simp only [br] at h; exact ⟨[], by simp [br, h.1]⟩
 | y :: r, cs, R, 0, h => ⟨R, h⟩
 | y :: r, cs, R, k + 1, h => by
  simp only [br] at h
  obtain ⟨c, c1, R₁, R₂, rfl, _, _, h2, _⟩ := h
  simpa using br.drop k h2
theorem br.take {E : Env} : ∀ {xs : List X} {cs : List Value} {R : List Nat} (k : Nat), br E xs cs R → ∃ R', br E (xs.take k) (cs.take k) R'
 | [], cs, R, k, h => by simp only [br] at h; exact ⟨[], by simp [br, h.1]⟩
 | y :: r, cs, R, 0, h => ⟨[], by simp [br]⟩
 | y :: r, cs, R, k + 1, h => by
  simp only [br] at h
  obtain ⟨c, c1, R₁, R₂, rfl, hs, h1, h2, _⟩ := h
  obtain ⟨R', h'⟩ := br.take k h2
  exact ⟨R₁ ++ R', by simp only [List.take_succ_cons, br]; exact ⟨c, _, R₁, R', rfl, hs, h1, h', rfl⟩⟩
theorem v5 {t : TypeId} {cs : Array Value} {off : Nat} {u : Value} (ht : TY.shape P t = some none) (hu : cs[off]? = some u) (w : World) : (part t cs off).run P w = .ok u w := by
 simp only [part, Sem.run_bind, (TY.gg ht w).1, Result.andThen_ok, hu]; rfl
theorem TY.wJ {t : TypeId} {f off : Nat} {ft : TypeId} (h : TY.iI P t f = some (off, ft)) : ∃ fs fd, P.underlying t = some (.struct fs) ∧ fs[f]? = some fd ∧ fd.offset = off ∧ fd.type = ft := by
 unfold TY.iI at h
 split at h
 ·rename_i fs hu
  split at h
  ·rename_i fd hf
   split at h
   ·rename_i i hi
    cases hz : Nat.beq i.size 0 with
    | true => simp [hz] at h
    | false => rw [hz] at h; simp only [cond_false, Option.some.injEq, Prod.mk.injEq] at h; exact ⟨fs, fd, hu, hf, h.1, h.2⟩
   ·cases h
  ·cases h
 ·cases h
theorem Y.qn {t : TypeId} {x : Operand} {xs : List X} {y : X} {f off : Nat} {ft : TypeId} (ht : TY.iI P t f = some (off, ft)) (hs : TY.shape P ft = some none) (hx : bx st x = some (.agg xs)) (hy : xs[off]? = some y) (hf : y.free = true) :
  Yields P N st ⟨dst, .field t x f, ty, pos, af, g⟩ y := by
 intro G E RR a _ hi
 obtain ⟨R, hp⟩ := hi.eval hx
 simp only [RX] at hp
 obtain ⟨cs, hc, eU⟩ := hp
 obtain ⟨u, R₁, hu, _, h1⟩ := br.get eU hy
 have h0 := RX.free hf h1
 subst h0
 refine ⟨u, ?_, h1⟩
 show (do let z ← Instr.field t (a.eval x) f; pure (Next.value z) : Sem Next).run P E.w = _
 rw [hc]
 refine cE ?_
 obtain ⟨fs, fd, tc, NN, ho, NO⟩ := TY.wJ ht
 have wy : cs[off]? = some u := by simpa using hu
 simp only [Instr.field, Sem.run_bind, run_underlying tc, Result.andThen_ok, NN, asAgg, Sem.run_pure, ho, NO]
 exact v5 hs wy E.w
theorem Y.qu {t : TypeId} {x ix : Operand} {b : ByteArray} {k : IntKind} {n : Int} {m : Nat} (ht : P.underlying t = some .string) (hx : bx st x = some (.v (.string b)))
  (tl : bx st ix = some (.v (.int k n))) (hn : n = (m : Int)) (hm : m < b.size) : Yields P N st ⟨dst, .index t x ix, ty, pos, af, g⟩ (.v (.int .u8 (b[m].toNat : Int))) := by
 intro G E RR a _ hi
 refine ⟨.int .u8 (b[m].toNat : Int), ?_, by simp [RX]⟩
 show (do let z ← Instr.index t (a.eval x) (a.eval ix); pure (Next.value z) : Sem Next).run P E.w = _
 rw [hi.val hx, hi.val tl]
 refine cE ?_
 subst hn
 have h0 : (0 : Int) ≤ (m : Int) := by omega
 simp [Instr.index, asIntOf, run_underlying ht, h0, getElem?_pos b m hm]
end
end Go.AW
namespace Go.AW
open Go
section
variable {P : Program} {N : dV} {st : St} {dst : Option Nat} {ty : TypeId} {pos : String} {af : Array Edge} {g : Option (Nat × Bool)}
theorem fC {b : Builtin} {args : Array Operand} {mh : Array TypeId} {a : Act} {w w' : World} {r : Next}
  (h : (builtin b mh ty (args.map fun | .const _ => true | _ => false) (args.map a.eval)).run P w = .ok r w') :
  (execOp a.eval ⟨dst, .call ⟨.builtin b, args, mh⟩, ty, pos, af, g⟩).run P w = .ok r w' := h
def X.len : X → Option Nat
 | .fz _ rows => some rows.length
 | .di _ rows => some rows.length
 | .aY _ _ _ n => some n
 | .v (.slice none n _) => some n
 | _ => none
theorem RX.len {E : Env} {x : X} {c : Value} {R : List Nat} {n : Nat} (hn : x.len = some n) (h : RX E x c R) : ∃ base cap, c = .slice base n cap := by
 cases x with
 | fz s rows =>
  simp only [X.len, Option.some.injEq] at hn; subst hn
  simp only [RX] at h
  obtain ⟨_, _, base, cap, hc, _⟩ := h
  exact ⟨base, cap, hc⟩
 | di s rows =>
  simp only [X.len, Option.some.injEq] at hn; subst hn
  simp only [RX] at h
  obtain ⟨_, base, cap, hc, _⟩ := h
  exact ⟨base, cap, hc⟩
 | aY o s lo m =>
  simp only [X.len, Option.some.injEq] at hn; subst hn
  simp only [RX] at h
  obtain ⟨_, base, cap, hc, _⟩ := h
  exact ⟨base, cap, hc⟩
 | v u =>
  simp only [RX] at h
  cases u with
  | slice b m c' =>
   cases b with
   | none => simp only [X.len, Option.some.injEq] at hn; subst hn; exact ⟨none, c', h.1⟩
   | some b => simp [X.len] at hn
  | _ => simp [X.len] at hn
 | _ => simp [X.len] at hn
theorem Y.qw {t e s cy : Nat} {x : Operand} {y : X} {n : Nat} (ht : TY.slice P t = some (e, s, cy)) (hx : bx st x = some y) (hn : y.len = some n) :
  Yields P N st ⟨dst, .call ⟨.builtin .len, #[x], #[t]⟩, ty, pos, af, g⟩ (.v (.int .i64 (n : Int))) := by
 intro G E RR a _ hi
 obtain ⟨R, hp⟩ := hi.eval hx
 obtain ⟨base, cap, hc⟩ := hp.len hn
 refine ⟨.int .i64 (n : Int), fC ?_, by simp [RX]⟩
 obtain ⟨hu, _⟩ := TY.c7 ht
 simp [builtin, Builtin.len_, hc, run_underlying hu, goInt]
theorem Y.qx {t : TypeId} {x : Operand} {b : ByteArray} (ht : P.underlying t = some .string) (hx : bx st x = some (.v (.string b))) :
  Yields P N st ⟨dst, .call ⟨.builtin .len, #[x], #[t]⟩, ty, pos, af, g⟩ (.v (.int .i64 (b.size : Int))) := by
 intro G E RR a _ hi
 refine ⟨.int .i64 (b.size : Int), fC ?_, by simp [RX]⟩
 have hc := hi.val hx
 simp [builtin, Builtin.len_, hc, run_underlying ht, goInt]
def bound (st : St) (d : Nat) : Option Operand → Option Nat → Prop
 | none, m => m = none ∨ m = some d
 | some x, some m => ∃ k, bx st x = some (.v (.int k (m : Int)))
 | some _, none => False
theorem run_sliceBound {k : IntKind} {m y : Nat} {code : BoundsCode} (h : m ≤ y) (w : World) : (Instr.sliceBound (.int k (m : Int)) y code).run P w = .ok m w := by
 have h1 : (0 : Int) ≤ (m : Int) ∧ (m : Int) ≤ (y : Int) := by omega
 simp only [Instr.sliceBound, asIntOf, Sem.run_bind, Sem.run_pure, Result.andThen_ok, h1, and_self, if_true, Int.toNat_natCast]
inductive Bd (st : St) : Option Operand → Nat → Nat → Prop where
 | none (d : Nat) : Bd st none d d
 | some {x : Operand} {k : IntKind} {m d : Nat} (h : bx st x = some (.v (.int k (m : Int)))) : Bd st (some x) d m
theorem fo {G : Ctx} {E : Env} {RR : Own → List Nat} {a : Act} (hi : Inv G E RR st a) {lo fL : Option Operand} {len cap l h : Nat}
  (hl : Bd st lo 0 l) (hh : Bd st fL len h) (h1 : l ≤ h) (h2 : h ≤ cap) (NP : Bool) (w : World) :
  (Instr.sliceBounds NP len cap (lo.map a.eval) (fL.map a.eval) none).run P w = .ok (l, h, cap) w := by
 cases hl with
 | none =>
  cases hh with
  | none => simp [Instr.sliceBounds]
  | some hx => simp [Instr.sliceBounds, hi.val hx, run_sliceBound h2]
 | some hy =>
  cases hh with
  | none => simp [Instr.sliceBounds, hi.val hy, run_sliceBound h1]
  | some hx => simp [Instr.sliceBounds, hi.val hx, hi.val hy, run_sliceBound h1, run_sliceBound h2]
theorem Y.zt {t e s cy : Nat} {x : Operand} {lo fL : Option Operand} {rows : List (List X)} {l h : Nat} {js : List (List X)} (ht : TY.slice P t = some (e, s, cy)) (hx : bx st x = some (.fz s rows))
  (hl : Bd st lo 0 l) (hh : Bd st fL rows.length h) (h1 : l ≤ h) (h2 : h ≤ rows.length) (hr : (rows.take h).drop l = js) :
  Yields P N st ⟨dst, .slice t x lo fL none, ty, pos, af, g⟩ (.fz s js) := by
 intro G E RR a _ hi
 obtain ⟨R, hp⟩ := hi.eval hx
 simp only [RX] at hp
 obtain ⟨_, hu, base, cap, hc, cA⟩ := hp
 obtain ⟨tc, i, fh, et, _⟩ := TY.c7 ht
 subst hr
 have kl : h ≤ cap := by
  rcases cA with ⟨h', qQ⟩ | ⟨_, _, _, uF, _⟩
  ·subst h'; simp at h2; omega
  ·omega
 refine ⟨.slice (if cap = l then base else base.map (·.add (l * s))) (h - l) (cap - l), ?_, ?_⟩
 ·show (do let z ← Instr.sliceAt t (a.eval x) (lo.map a.eval) (fL.map a.eval) none; pure (Next.value z) : Sem Next).run P E.w = _
  rw [hc]
  refine cE ?_
  simp only [Instr.sliceAt, Sem.run_bind, run_underlying tc, Result.andThen_ok, Instr.slice, fo hi hl hh h1 kl, run_sizeOf fh, et]
  rfl
 ·have hlen : ((rows.take h).drop l).length = h - l := by simp; omega
  simp only [RX, hlen]
  refine ⟨trivial, (hu.take h).drop l, _, _, rfl, ?_⟩
  rcases cA with ⟨h', qQ⟩ | ⟨b, off, hb, uF, hf⟩
  ·exact .inl ⟨by subst h'; simp, om⟩
  ·refine .inr ?_
   subst hb
   by_cases qR : cap = l
   ·refine ⟨b, off, by rw [if_pos qR], om, ?_⟩
    have : (rows.take h).drop l = [] := by
     apply List.eq_nil_of_length_eq_zero
     rw [hlen]; omega
    rw [this]; simp [gJ]
   ·refine ⟨b, off + l * s, by rw [if_neg qR]; simp [eY], om, ?_⟩
    exact gJ.drop l (hu.take h) (by simp; omega) (hf.take h)
theorem Y.zv {t e s cy : Nat} {x : Operand} {lo fL : Option Operand} {o LX n l h : Nat} (ht : TY.slice P t = some (e, s, cy)) (hx : bx st x = some (.aY o s LX n))
  (hl : Bd st lo 0 l) (hh : Bd st fL n h) (h1 : l ≤ h) (h2 : h ≤ n) : Yields P N st ⟨dst, .slice t x lo fL none, ty, pos, af, g⟩ (.aY o s (LX + l) (h - l)) := by
 intro G E RR a _ hi
 obtain ⟨R, hp⟩ := hi.eval hx
 simp only [RX] at hp
 obtain ⟨_, base, cap, hc, cA⟩ := hp
 obtain ⟨tc, i, fh, et, _⟩ := TY.c7 ht
 have kl : h ≤ cap := by
  rcases cA with ⟨_, _, h', _⟩ | ⟨_, _, _, h', _⟩ <;> omega
 refine ⟨.slice (if cap = l then base else base.map (·.add (l * s))) (h - l) (cap - l), ?_, ?_⟩
 ·show (do let z ← Instr.sliceAt t (a.eval x) (lo.map a.eval) (fL.map a.eval) none; pure (Next.value z) : Sem Next).run P E.w = _
  rw [hc]
  refine cE ?_
  simp only [Instr.sliceAt, Sem.run_bind, run_underlying tc, Result.andThen_ok, Instr.slice, fo hi hl hh h1 kl, run_sizeOf fh, et]
  rfl
 ·simp only [RX]
  refine ⟨trivial, _, _, rfl, ?_⟩
  rcases cA with ⟨hβ, v7, hn, qQ⟩ | ⟨B, hβ, EK, hn, hb⟩
  ·exact .inl ⟨hβ, om, om, om⟩
  ·refine .inr ⟨B, hβ, om, om, ?_⟩
   by_cases qR : cap = l
   ·left; omega
   ·right
    have := hb.resolve_left om
    rw [if_neg qR, this]
    simp only [Option.map_some, eY, Nat.add_mul, Nat.add_assoc]
theorem dL.get {E : Env} : ∀ {xs : List X} {cs : List Value} {R : List Nat} {k : Nat} {x : X}, dL E xs cs R → xs[k]? = some x → ∃ u R₁, cs[k]? = some u ∧ RX E x u R₁
 | [], _, _, _, _, _, h => by simp at h
 | y :: r, cs, R, 0, x, h, hx => by
  simp only [dL] at h
  simp only [List.getElem?_cons_zero, Option.some.injEq] at hx
  subst hx
  obtain ⟨c, c1, R₁, R₂, rfl, h1, _, _⟩ := h
  exact ⟨c, R₁, rfl, h1⟩
 | y :: r, cs, R, k + 1, x, h, hx => by
  simp only [dL] at h
  obtain ⟨c, c1, R₁, R₂, rfl, _, h2, _⟩ := h
  obtain ⟨u, R₃, hu, h3⟩ := dL.get (k := k) h2 (by simpa using hx)
  exact ⟨u, R₃, by simpa using hu, h3⟩
theorem Y.qm {x : Operand} {xs : List X} {y : X} {k : Nat} (hx : bx st x = some (.tup xs)) (hy : xs[k]? = some y) (hf : y.free = true) : Yields P N st ⟨dst, .extract x k, ty, pos, af, g⟩ y := by
 intro G E RR a _ hi
 obtain ⟨R, hp⟩ := hi.eval hx
 simp only [RX] at hp
 obtain ⟨cs, hc, eU⟩ := hp
 obtain ⟨u, R₁, hu, h1⟩ := dL.get eU hy
 have h0 := RX.free hf h1
 subst h0
 refine ⟨u, ?_, h1⟩
 show (do let z ← Instr.extract (a.eval x) k; pure (Next.value z) : Sem Next).run P E.w = _
 rw [hc]
 refine cE ?_
 have wy : cs[k]? = some u := by simpa using hu
 simp only [Instr.extract, wy]; rfl
theorem Y.zj {x : Operand} {p q : X} (hx : bx st x = some p) (hq : p.on 0 = some q) : Yields P N st ⟨dst, .nilCheck x, ty, pos, af, g⟩ q := by
 intro G E RR a _ hi
 obtain ⟨R, hp⟩ := hi.eval hx
 obtain ⟨b, off, hc, h⟩ := hp.on hq
 refine ⟨_, ?_, h⟩
 simp only [execOp, hc]; rfl
def X.one : X → Bool
 | .v (.agg _) | .v (.tuple _) => false
 | .v _ | .fz .. | .di .. | .ptr .. | .aY .. | .mref _ | .fp .. | .gd .. => true
 | .no | .agg _ | .tup _ => false
theorem RX.one {E : Env} {x : X} {c : Value} {R : List Nat} (ho : x.one = true) (h : RX E x c R) : gI c := by
 cases x with
 | v u =>
  simp only [RX] at h
  rw [h.1]
  cases u <;> first | trivial | (simp [X.one] at ho)
 | fz s rows => simp only [RX] at h; obtain ⟨_, _, _, _, rfl, _⟩ := h; trivial
 | di s rows => simp only [RX] at h; obtain ⟨_, _, _, rfl, _⟩ := h; trivial
 | ptr o s i k => simp only [RX] at h; obtain ⟨_, _, _, rfl⟩ := h; trivial
 | aY o s lo n => simp only [RX] at h; obtain ⟨_, _, _, rfl, _⟩ := h; trivial
 | mref o => simp only [RX] at h; obtain ⟨_, _, _, rfl⟩ := h; trivial
 | fp row k => simp only [RX] at h; obtain ⟨_, _, _, rfl, _⟩ := h; trivial
 | gd fn f c => simp only [RX] at h; obtain ⟨_, _, _, rfl, _⟩ := h; trivial
 | _ => simp [X.one] at ho
def X.flat : X → Option (List X)
 | .agg xs => some xs
 | x => bif x.one then some [x] else none
theorem qS {c : Value} (h : gI c) : c.cells = #[c] := by
 cases c <;> first | rfl | exact h.elim
theorem RX.flat {E : Env} {x : X} {c : Value} {R : List Nat} {ys : List X} (hf : x.flat = some ys) (h : RX E x c R) : br E ys c.cells.toList R := by
 by_cases hx : ∃ xs, x = .agg xs
 ·obtain ⟨xs, rfl⟩ := hx
  simp only [X.flat, Option.some.injEq] at hf
  subst hf
  simp only [RX] at h
  obtain ⟨cs, rfl, h⟩ := h
  exact h
 ·have h1 : x.one = true ∧ ys = [x] := by
   unfold X.flat at hf
   split at hf
   ·exact absurd ⟨_, rfl⟩ hx
   ·cases ho : x.one with
    | false => simp [ho] at hf
    | true => simp [ho] at hf; exact ⟨rfl, hf.symm⟩
  obtain ⟨ho, rfl⟩ := h1
  have hs := h.one ho
  rw [qS hs]
  simp only [br]
  exact ⟨c, [], R, [], rfl, hs, h, ⟨rfl, rfl⟩, by simp⟩
end
end Go.AW
namespace Go.AW
open Go
theorem dD.mono {E E' : Env} {o : Nat} {ob : Obj} {R : List Nat} (hE : E.On E' R) (ho : E'.β o = E.β o) (hm : ∀ xs, ob = .cells xs → ∀ q, X.c3 q xs = true → E'.β q = E.β q) (h : dD E o ob R) : dD E' o ob R := by
 cases ob with
 | cells xs =>
  simp only [dD] at h ⊢
  obtain ⟨oc, B, cs, ty, hB, hw, hf, hl, hR, rfl⟩ := h
  have h2 := hE.2 B.b (by simp)
  exact ⟨oc, B, cs, ty, ho.trans hB, h2.1.trans hw, h2.2 hf, hl, RO.mono xs cs _ [] (hE.sub (fun _ h => by cases h)) (hm xs rfl) hR, rfl⟩
 | rows s rs =>
  simp only [dD] at h ⊢
  obtain ⟨hu, h⟩ := h
  refine ⟨hu, ?_⟩
  rcases h with ⟨h1, h2, h3⟩ | ⟨B, cs, ty, R', hB, hw, hf, hl, hc, hR, rfl⟩
  ·exact .inl ⟨ho.trans h1, h2, h3⟩
  ·have h2 := hE.2 B.b (by simp)
   exact .inr ⟨B, cs, ty, R', ho.trans hB, h2.1.trans hw, h2.2 hf, hl, hc, bR.mono rs cs _ R' (hE.sub (fun _ h => by simp [h])) hR, rfl⟩
 | tk es =>
  simp only [dD] at h ⊢
  obtain ⟨B, nT, clock, hB, hw, hf, he, rfl⟩ := h
  have h2 := hE.2 B.b (by simp)
  exact ⟨B, nT, clock, ho.trans hB, h2.1.trans hw, h2.2 hf, he, rfl⟩
 | gone => simpa [dD] using h
structure ct (G : Ctx) (E E' : Env) (T : Nat → Prop) : Prop where
 φ : E'.φ = E.φ
 free : ∀ b, T b → ∀ i, E.φ b i = none
 out : ∀ b, T b → ¬ G.K b
 same : ∀ b, b < E.w.heap.size → ¬ T b → E'.w.heap[b]? = E.w.heap[b]?
 size : E.w.heap.size ≤ E'.w.heap.size
 os : E'.w.os = E.w.os
 tape : E'.w.tape = E.w.tape
 output : E'.w.output = E.w.output
section
variable {G : Ctx} {E E' : Env} {RR : Own → List Nat} {st : St} {a : Act} {T : Nat → Prop}
theorem ct.on (hm : ct G E E' T) (hi : Inv G E RR st a) {p : Own} (hT : ∀ b ∈ RR p, ¬ T b) : E.On E' (RR p) :=
 ⟨fun b i v h => by rw [hm.φ]; exact h, fun b hb => ⟨hm.same b (hi.own p b hb).1 (hT b hb), fun h => by rw [hm.φ]; exact h⟩⟩
theorem ct.kh (hm : ct G E E' T) (hi : Inv G E RR st a) : ∀ b i v, E'.φ b i = some v → E'.w.cell? ⟨b, i, none⟩ = some v := by
 intro b i v h
 rw [hm.φ] at h
 have h0 := hi.kh b i v h
 have gK := World.block_lt_of_cell? E.w _ h0
 have hT : ¬ T b := fun hT => by rw [hm.free b hT i] at h; cases h
 have := hm.same b gK hT
 rw [World.cell?_of_block this]; exact h0
theorem ct.ao (hm : ct G E E' T) (hi : Inv G E RR st a) : ∀ b, G.K b → E'.w.heap[b]? = G.w0.heap[b]? := by
 intro b hK
 have gK : b < E.w.heap.size := Nat.lt_of_lt_of_le (hi.small b hK) hi.size
 rw [hm.same b gK (fun hT => hm.out b hT hK)]
 exact hi.ao b hK
theorem ct.slot (hm : ct G E E' T) (hi : Inv G E RR st a) {s : Nat} {x : X} (hx : look st.a7 s = some x) (hT : ∀ b ∈ RR (.slot s), ¬ T b) (hβ : ∀ o, x.dp o = true → E'.β o = E.β o) :
  RX E' x (a.tmps.getD s undef) (RR (.slot s)) :=
 RX.mono x _ _ (hm.on hi hT) hβ (hi.a7 s x hx)
theorem ct.obj (hm : ct G E E' T) (hi : Inv G E RR st a) {o : Nat} {ob : Obj} (hx : look st.aA o = some ob) (hT : ∀ b ∈ RR (.obj o), ¬ T b) (ho : E'.β o = E.β o)
  (hβ : ∀ xs, ob = .cells xs → ∀ q, X.c3 q xs = true → E'.β q = E.β q) : dD E' o ob (RR (.obj o)) :=
 dD.mono (hm.on hi hT) ho hβ (hi.aA o ob hx)
theorem ct.own (hm : ct G E E' T) (hi : Inv G E RR st a) : ∀ p b, b ∈ RR p → b < E'.w.heap.size ∧ ¬ G.K b :=
 fun p b hb => ⟨Nat.lt_of_lt_of_le (hi.own p b hb).1 hm.size, (hi.own p b hb).2⟩
theorem Inv.uG (hi : Inv G E RR st a) (hm : ct G E E' (fun _ => False)) (hβ : E'.β = E.β) : Inv G E' RR st a :=
 {hi with
  kh := hm.kh hi
  a7 := fun s x hx => hm.slot hi hx (fun _ _ h => h) (fun o _ => by rw [hβ])
  aA := fun o ob ho => hm.obj hi ho (fun _ _ h => h) (by rw [hβ]) (fun _ _ _ _ => by rw [hβ])
  own := hm.own hi
  ao := hm.ao hi
  size := Nat.le_trans hi.size hm.size
  os := hm.os.trans hi.os
  tape := hm.tape.trans hi.tape
  output := hm.output.trans hi.output
  φ0 := fun b i v h => by rw [hm.φ]; exact hi.φ0 b i v h
  grow := fun b i v h => by rw [hm.φ] at h; exact hi.grow b i v h
  fixed := fun o h => by rw [hβ]; exact hi.fixed o h }
theorem ct.alloc (G : Ctx) (E : Env) (o : Go.Obj) : ct G E { E with w := E.w.alloc o } (fun _ => False) where
 φ := rfl
 free := fun _ h => h.elim
 out := fun _ h => h.elim
 same := fun b hb _ => by
  show (E.w.heap.push o)[b]? = _
  rw [Array.getElem?_push, if_neg om]
 size := by simp
 os := rfl
 tape := rfl
 output := rfl
theorem ct.drew (G : Ctx) (E : Env) : ct G E { E with w := E.w.drew } (fun _ => False) where
 φ := rfl
 free := fun _ h => h.elim
 out := fun _ h => h.elim
 same := fun _ _ _ => rfl
 size := Nat.le_refl _
 os := rfl
 tape := rfl
 output := rfl
theorem ct.trans {jt : Env} {T' : Nat → Prop} (h : ct G E E' T) (h' : ct G E' jt T') (cF : ∀ b, T' b → T b ∨ (E.w.heap.size ≤ b)) : ct G E jt T where
 φ := h'.φ.trans h.φ
 free := h.free
 out := h.out
 same := fun b hb hT => by
  have h1 := h.same b hb hT
  rw [← h1]
  refine h'.same b (Nat.lt_of_lt_of_le hb h.size) (fun NQ => ?_)
  rcases cF b NQ with h2 | h2
  ·exact hT h2
  ·omega
 size := Nat.le_trans h.size h'.size
 os := h'.os.trans h.os
 tape := h'.tape.trans h.tape
 output := h'.output.trans h.output
theorem ct.setRow (G : Ctx) (E : Env) (b : Nat) (cs : Array Value) (hf : ∀ i, E.φ b i = none) (hK : ¬ G.K b) : ct G E { E with w := E.w.setRow b cs } (fun c => c = b) where
 φ := rfl
 free := fun c h => by subst h; exact hf
 out := fun c h => by subst h; exact hK
 same := fun c _ h => setRow_other E.w b c cs h
 size := by simp
 os := rfl
 tape := rfl
 output := rfl
theorem Inv.relabel (hi : Inv G E RR st a) {d : Nat} {x : X} {R : List Nat} (hx : RX E x (a.tmps.getD d undef) R) (hn : R.Nodup)
  (hR : ∀ b ∈ R, b < E.w.heap.size ∧ ¬ G.K b ∧ ∀ p, p ≠ .slot d → b ∉ RR p) : Inv G E (e9 RR (.slot d) R) (st.put d x) a := by
 refine { hi with a7 := ?_, aA := ?_, nodup := ?_, apart := ?_, own := ?_ }
 ·intro s y hy
  simp only [St.put, look] at hy
  cases hb : Nat.beq d s with
  | true =>
   have := Nat.eq_of_beq_eq_true hb
   subst this
   rw [hb] at hy
   simp only [cond_true, Option.some.injEq] at hy
   subst hy
   simpa [e9] using hx
  | false =>
   have eB := Nat.ne_of_beq_eq_false hb
   rw [hb] at hy
   have : e9 RR (.slot d) R (.slot s) = RR (.slot s) := by simp [e9, Ne.symm eB]
   rw [this]
   exact hi.a7 s y hy
 ·intro o ob ho
  have : e9 RR (.slot d) R (.obj o) = RR (.obj o) := by simp [e9]
  rw [this]; exact hi.aA o ob ho
 ·intro p
  unfold e9
  split
  ·exact hn
  ·exact hi.nodup p
 ·intro p q kj b hb
  unfold e9 at hb ⊢
  split at hb
  ·rename_i hp
   subst hp
   rw [if_neg (Ne.symm kj)]
   exact (hR b hb).2.2 q (Ne.symm kj)
  ·split
   ·rename_i hp hq
    subst hq
    intro fe
    exact (hR b fe).2.2 p kj hb
   ·exact hi.apart p q kj b hb
 ·intro p b hb
  unfold e9 at hb
  split at hb
  ·exact ⟨(hR b hb).1, (hR b hb).2.1⟩
  ·exact hi.own p b hb
theorem Inv.no (hi : Inv G E RR st a) (d : Nat) : Inv G E (e9 RR (.slot d) []) (st.put d .no) a :=
 hi.relabel (by simp [RX]) List.nodup_nil (fun _ h => by cases h)
def St.dE (st : St) (o : Nat) (ob : Obj) : St := { st with aA := (o, ob) :: st.aA }
theorem Inv.dE (hi : Inv G E RR st a) {o : Nat} {ob : Obj} {R : List Nat} (hx : dD E o ob R) (hn : R.Nodup)
  (hR : ∀ b ∈ R, b < E.w.heap.size ∧ ¬ G.K b ∧ ∀ p, p ≠ .obj o → b ∉ RR p) : Inv G E (e9 RR (.obj o) R) (st.dE o ob) a := by
 refine { hi with a7 := ?_, aA := ?_, nodup := ?_, apart := ?_, own := ?_ }
 ·intro s y hy
  have : e9 RR (.obj o) R (.slot s) = RR (.slot s) := by simp [e9]
  rw [this]; exact hi.a7 s y hy
 ·intro q td ho
  simp only [St.dE, look] at ho
  cases hb : Nat.beq o q with
  | true =>
   have := Nat.eq_of_beq_eq_true hb
   subst this
   rw [hb] at ho
   simp only [cond_true, Option.some.injEq] at ho
   subst ho
   simpa [e9] using hx
  | false =>
   have eB := Nat.ne_of_beq_eq_false hb
   rw [hb] at ho
   have : e9 RR (.obj o) R (.obj q) = RR (.obj q) := by simp [e9, Ne.symm eB]
   rw [this]
   exact hi.aA q td ho
 ·intro p
  unfold e9
  split
  ·exact hn
  ·exact hi.nodup p
 ·intro p q kj b hb
  unfold e9 at hb ⊢
  split at hb
  ·rename_i hp
   subst hp
   rw [if_neg (Ne.symm kj)]
   exact (hR b hb).2.2 q (Ne.symm kj)
  ·split
   ·rename_i hp hq
    subst hq
    intro fe
    exact (hR b fe).2.2 p kj hb
   ·exact hi.apart p q kj b hb
 ·intro p b hb
  unfold e9 at hb
  split at hb
  ·exact ⟨(hR b hb).1, (hR b hb).2.1⟩
  ·exact hi.own p b hb
end
def jS (o : Nat) (x : X) : X := bif x.dp o then .no else x
def qT (o : Nat) (l : List (Nat × X)) : List (Nat × X) := l.map fun p => (p.1, jS o p.2)
def Obj.uH (o : Nat) : Obj → Obj
 | .cells xs => .cells (xs.map (jS o))
 | ob => ob
def tm (o : Nat) (l : List (Nat × Obj)) : List (Nat × Obj) := l.map fun p => (p.1, p.2.uH o)
def St.kill (st : St) (o : Nat) : St := ⟨qT o st.a7, tm o st.aA⟩
theorem km {α β : Type} (f : α → β) : ∀ (l : List (Nat × α)) (s : Nat), look (l.map fun p => (p.1, f p.2)) s = (look l s).map f
 | [], _ => rfl
 | (t, x) :: r, s => by
  simp only [List.map_cons, look]
  cases Nat.beq t s with
  | true => rfl
  | false => exact km f r s
theorem tp (o : Nat) {x : X} (h : x.free = true) : (jS o x).free = true := by
 unfold jS
 cases x.dp o with
 | true => rfl
 | false => exact h
theorem o7 (o : Nat) : ∀ {xs : List X}, X.bc xs = true → X.bc (xs.map (jS o)) = true
 | [], _ => rfl
 | x :: r, h => by
  simp only [X.bc, Bool.and_eq_true] at h
  simp only [List.map_cons, X.bc, tp o h.1, o7 o h.2, Bool.and_self]
theorem RO.kill {E : Env} {o : Nat} : ∀ {xs : List X} {cs : Array Value} {off : Nat}, X.bc xs = true → RO E xs cs off [] → RO E (xs.map (jS o)) cs off []
 | [], _, _, _, h => h
 | x :: r, cs, off, hf, h => by
  simp only [RO] at h
  obtain ⟨u, R₁, R₂, hu, hs, h1, h2, hR⟩ := h
  simp only [X.bc, Bool.and_eq_true] at hf
  have I4 := RX.free hf.1 h1
  have I5 := RO.free hf.2 h2
  subst I4; subst I5
  have h3 := RO.kill (o := o) hf.2 h2
  simp only [List.map_cons, RO]
  refine ⟨u, [], [], hu, hs, ?_, h3, rfl⟩
  unfold jS
  cases x.dp o with
  | true => simp [RX]
  | false => exact h1
theorem lE (o : Nat) : ∀ (xs : List X) (q : Nat), X.c3 q (xs.map (jS o)) = true → q ≠ o ∧ X.c3 q xs = true
 | [], _, h => by simp [X.c3] at h
 | x :: r, q, h => by
  simp only [List.map_cons, X.c3, Bool.or_eq_true] at h ⊢
  rcases h with h | h
  ·unfold jS at h
   cases hk : x.dp o with
   | true => simp [hk, X.dp] at h
   | false =>
    rw [hk] at h
    simp only [cond_false] at h
    exact ⟨fun hq => by (subst hq; rw [hk] at h; cases h), .inl h⟩
  ·exact ⟨(lE o r q h).1, .inr (lE o r q h).2⟩
section
variable {G : Ctx} {E E' : Env} {RR : Own → List Nat} {st : St} {a : Act} {T : Nat → Prop}
theorem Inv.rQ (hi : Inv G E RR st a) {o b : Nat} (h : b ∈ RR (.obj o) ∨ E.w.heap.size ≤ b) : ∀ p, p ≠ .obj o → b ∉ RR p := by
 intro p hp hb
 rcases h with h | h
 ·exact hi.apart p _ hp b hb h
 ·have := (hi.own p b hb).1; omega
def eV (st : St) (RR : Own → List Nat) (o : Nat) (R : List Nat) : Own → List Nat
 | .obj q => if q = o then R else RR (.obj q)
 | .slot s => match look st.a7 s with
  | some x => bif x.dp o then [] else RR (.slot s)
  | none => RR (.slot s)
theorem j9 (st : St) (RR : Own → List Nat) (o : Nat) (R : List Nat) (s : Nat) : eV st RR o R (.slot s) = [] ∨ eV st RR o R (.slot s) = RR (.slot s) := by
 cases hs : look st.a7 s with
 | none => exact .inr (by simp [eV, hs])
 | some x => cases hk : x.dp o with
  | true => exact .inl (by simp [eV, hs, hk])
  | false => exact .inr (by simp [eV, hs, hk])
theorem Inv.lx (hi : Inv G E RR st a) (hm : ct G E E' T) {o : Nat} {ob : Obj} {R : List Nat} (hT : ∀ b, T b → b ∈ RR (.obj o)) (hβ : ∀ q, q ≠ o → E'.β q = E.β q) (I6 : G.fn.F.elem o = true → E'.β o = E.β o)
  (hx : dD E' o ob R) (hn : R.Nodup) (hR : ∀ b ∈ R, b < E'.w.heap.size ∧ ¬ G.K b ∧ ∀ p, p ≠ .obj o → b ∉ RR p) :
  Inv G E' (eV st RR o R) ((st.kill o).dE o ob) a := by
 have hold : ∀ p, p ≠ .obj o → ∀ b ∈ RR p, ¬ T b := fun p hp b hb Bx => hi.apart p (.obj o) hp b hb (hT b Bx)
 have cF : ∀ p, p ≠ .obj o → ∀ b ∈ eV st RR o R p, b ∈ RR p := by
  intro p hp b hb
  cases p with
  | obj q =>
   have : q ≠ o := fun e => hp (by rw [e])
   simpa [eV, this] using hb
  | slot s =>
   rcases j9 st RR o R s with h | h
   ·rw [h] at hb; cases hb
   ·rw [h] at hb; exact hb
 have rR : eV st RR o R (.obj o) = R := by simp [eV]
 have lF : ∀ p, p ≠ .obj o → ∀ b ∈ RR p, b ∉ R := by
  intro p hp b hb Cx
  exact (hR b Cx).2.2 p hp hb
 have I7 : ∀ b i v, G.φ0 b i = some v → E'.φ b i = some v := fun b i v h => by rw [hm.φ]; exact hi.φ0 b i v h
 have wK : ∀ b i v, E'.φ b i = some v → G.φ0 b i = some v ∨ ¬ G.K b := fun b i v h => by rw [hm.φ] at h; exact hi.grow b i v h
 refine { hi with kh := hm.kh hi, a7 := ?_, aA := ?_, nodup := ?_, apart := ?_, own := ?_, ao := hm.ao hi, size := Nat.le_trans hi.size hm.size, os := hm.os.trans hi.os, tape := hm.tape.trans hi.tape, output := hm.output.trans hi.output, φ0 := I7, grow := wK, fixed := ?_ }
 ·intro s y hy
  have hl : look (qT o st.a7) s = some y := hy
  unfold qT at hl
  rw [km (jS o)] at hl
  cases hs : look st.a7 s with
  | none => simp [hs] at hl
  | some x =>
   rw [hs] at hl
   simp only [Option.map_some, Option.some.injEq] at hl
   subst hl
   cases hk : x.dp o with
   | true => simp [eV, hs, hk, jS, RX]
   | false =>
    have : eV st RR o R (.slot s) = RR (.slot s) := by simp [eV, hs, hk]
    rw [this]
    simp only [jS, hk, cond_false]
    exact hm.slot hi hs (hold _ (by simp)) (fun q hq => hβ q (fun e => by subst e; rw [hk] at hq; cases hq))
 ·intro q td ho
  simp only [St.dE, look] at ho
  cases hb : Nat.beq o q with
  | true =>
   have := Nat.eq_of_beq_eq_true hb
   subst this
   rw [hb] at ho
   simp only [cond_true, Option.some.injEq] at ho
   subst ho
   rw [rR]; exact hx
  | false =>
   have eB := Nat.ne_of_beq_eq_false hb
   rw [hb] at ho
   have hl : look (tm o st.aA) q = some td := ho
   unfold tm at hl
   rw [km (Obj.uH o)] at hl
   have hr : eV st RR o R (.obj q) = RR (.obj q) := by simp [eV, Ne.symm eB]
   rw [hr]
   cases hs : look st.aA q with
   | none => simp [hs] at hl
   | some EL =>
    rw [hs] at hl
    simp only [Option.map_some, Option.some.injEq] at hl
    subst hl
    have kd := hi.aA q EL hs
    have gL := hm.on hi (p := .obj q) (hold _ (by simpa using Ne.symm eB))
    cases EL with
    | cells xs =>
     simp only [Obj.uH, dD] at kd ⊢
     obtain ⟨oc, B, cs, ty, hB, hw, hf, hlen, iJ, gM⟩ := kd
     have h2 := gL.2 B.b (by rw [gM]; simp)
     exact ⟨o7 o oc, B, cs, ty, (hβ q (Ne.symm eB)).trans hB, h2.1.trans hw, h2.2 hf, by simpa using hlen,
      RO.mono _ cs _ [] (gL.sub (fun _ h => by cases h)) (fun p hp => hβ p (lE o xs p hp).1) (RO.kill oc iJ), gM⟩
    | rows s rs => exact dD.mono gL (hβ q (Ne.symm eB)) (fun xs h => by cases h) kd
    | tk es => exact dD.mono gL (hβ q (Ne.symm eB)) (fun xs h => by cases h) kd
    | gone => simpa [dD, Obj.uH] using kd
 ·intro p
  by_cases hp : p = .obj o
  ·subst hp; rw [rR]; exact hn
  ·cases p with
   | obj q =>
    have : q ≠ o := fun e => hp (by rw [e])
    simpa [eV, this] using hi.nodup (.obj q)
   | slot s =>
    rcases j9 st RR o R s with h | h
    ·rw [h]; exact List.nodup_nil
    ·rw [h]; exact hi.nodup _
 ·intro p q kj b hb fe
  by_cases hp : p = .obj o
  ·subst hp
   rw [rR] at hb
   have hq : q ≠ .obj o := Ne.symm kj
   exact lF q hq b (cF q hq b fe) hb
  ·by_cases hq : q = .obj o
   ·subst hq
    rw [rR] at fe
    exact lF p hp b (cF p hp b hb) fe
   ·exact hi.apart p q kj b (cF p hp b hb) (cF q hq b fe)
 ·intro p b hb
  by_cases hp : p = .obj o
  ·subst hp
   rw [rR] at hb
   exact ⟨(hR b hb).1, (hR b hb).2.1⟩
  ·exact hm.own hi p b (cF p hp b hb)
 ·intro q hq
  by_cases LY : q = o
  ·subst LY; rw [I6 hq]; exact hi.fixed q hq
  ·rw [hβ q LY]; exact hi.fixed q hq
theorem Inv.wM (hi : Inv G E RR st a) (hm : ct G E E' T) {o : Nat} {ob : Obj} {R : List Nat} (hT : ∀ b, T b → b ∈ RR (.obj o)) (hβ : E'.β = E.β)
  (hx : dD E' o ob R) (hn : R.Nodup) (hR : ∀ b ∈ R, b < E'.w.heap.size ∧ ¬ G.K b ∧ ∀ p, p ≠ .obj o → b ∉ RR p) :
  Inv G E' (e9 RR (.obj o) R) (st.dE o ob) a := by
 have hold : ∀ p, p ≠ .obj o → ∀ b ∈ RR p, ¬ T b := fun p hp b hb Bx => hi.apart p (.obj o) hp b hb (hT b Bx)
 have lF : ∀ p, p ≠ .obj o → ∀ b ∈ RR p, b ∉ R := by
  intro p hp b hb Cx
  exact (hR b Cx).2.2 p hp hb
 have I7 : ∀ b i v, G.φ0 b i = some v → E'.φ b i = some v := fun b i v h => by rw [hm.φ]; exact hi.φ0 b i v h
 have wK : ∀ b i v, E'.φ b i = some v → G.φ0 b i = some v ∨ ¬ G.K b := fun b i v h => by rw [hm.φ] at h; exact hi.grow b i v h
 refine { hi with kh := hm.kh hi, a7 := ?_, aA := ?_, nodup := ?_, apart := ?_, own := ?_, ao := hm.ao hi, size := Nat.le_trans hi.size hm.size, os := hm.os.trans hi.os, tape := hm.tape.trans hi.tape, output := hm.output.trans hi.output, φ0 := I7, grow := wK, fixed := fun q hq => by rw [hβ]; exact hi.fixed q hq }
 ·intro s y hy
  have : e9 RR (.obj o) R (.slot s) = RR (.slot s) := by simp [e9]
  rw [this]
  exact hm.slot hi hy (hold _ (by simp)) (fun q _ => by rw [hβ])
 ·intro q td ho
  simp only [St.dE, look] at ho
  cases hb : Nat.beq o q with
  | true =>
   have := Nat.eq_of_beq_eq_true hb
   subst this
   rw [hb] at ho
   simp only [cond_true, Option.some.injEq] at ho
   subst ho
   simpa [e9] using hx
  | false =>
   have eB := Nat.ne_of_beq_eq_false hb
   rw [hb] at ho
   have : e9 RR (.obj o) R (.obj q) = RR (.obj q) := by simp [e9, Ne.symm eB]
   rw [this]
   exact hm.obj hi ho (hold _ (by simpa using Ne.symm eB)) (by rw [hβ]) (fun _ _ _ _ => by rw [hβ])
 ·intro p
  unfold e9
  split
  ·exact hn
  ·exact hi.nodup p
 ·intro p q kj b hb fe
  unfold e9 at hb fe
  split at hb
  ·rename_i hp
   subst hp
   rw [if_neg (Ne.symm kj)] at fe
   exact lF q (Ne.symm kj) b fe hb
  ·rename_i hp
   split at fe
   ·exact lF p hp b hb fe
   ·exact hi.apart p q kj b hb fe
 ·intro p b hb
  unfold e9 at hb
  split at hb
  ·exact ⟨(hR b hb).1, (hR b hb).2.1⟩
  ·exact hm.own hi p b hb
end
end Go.AW
namespace Go.AW
open Go
section
variable {E : Env}
theorem RO.ext : ∀ {xs : List X} {cs c1 : Array Value} {off : Nat} {R : List Nat}, (∀ j, j < xs.length → c1[off + j]? = cs[off + j]?) → RO E xs cs off R → RO E xs c1 off R
 | [], _, _, _, _, _, h => by simpa [RO] using h
 | x :: r, cs, c1, off, R, he, h => by
  simp only [RO] at h ⊢
  obtain ⟨u, R₁, R₂, hu, hs, h1, h2, hR⟩ := h
  refine ⟨u, R₁, R₂, ?_, hs, h1, RO.ext (fun j hj => ?_) h2, hR⟩
  ·have := he 0 (by simp)
   rw [Nat.add_zero] at this
   rw [this]; exact hu
  ·have := he (j + 1) (by simp; omega)
   rw [show off + 1 + j = off + (j + 1) by omega]; exact this
theorem bR.ext : ∀ {rs : List (List X)} {cs c1 : Array Value} {off : Nat} {R : List Nat}, (∀ j, j < rs.flatten.length → c1[off + j]? = cs[off + j]?) → bR E rs cs off R → bR E rs c1 off R
 | [], _, _, _, _, _, h => by simpa [bR] using h
 | x :: r, cs, c1, off, R, he, h => by
  simp only [bR] at h ⊢
  obtain ⟨R₁, R₂, hn, h1, h2, hR⟩ := h
  refine ⟨R₁, R₂, hn, RO.ext (fun j hj => he j (by simp; omega)) h1, bR.ext (fun j hj => ?_) h2, hR⟩
  have := he (x.length + j) (by simp at hj ⊢; omega)
  rw [Nat.add_assoc]; exact this
theorem RO.app : ∀ {xs ys : List X} {cs : Array Value} {off : Nat} {R₁ R₂ : List Nat}, RO E xs cs off R₁ → RO E ys cs (off + xs.length) R₂ → RO E (xs ++ ys) cs off (R₁ ++ R₂)
 | [], ys, cs, off, R₁, R₂, h, h' => by simp only [RO] at h; subst h; simpa using h'
 | x :: r, ys, cs, off, R₁, R₂, h, h' => by
  simp only [RO] at h
  obtain ⟨u, R₃, R₄, hu, hs, h1, h2, rfl⟩ := h
  simp only [List.cons_append, RO]
  refine ⟨u, R₃, R₄ ++ R₂, hu, hs, h1, RO.app h2 ?_, by simp⟩
  rw [show off + 1 + r.length = off + (x :: r).length by simp; omega]; exact h'
theorem RO.mq : ∀ {xs ys : List X} {cs : Array Value} {off : Nat} {R : List Nat}, RO E (xs ++ ys) cs off R → ∃ R₁ R₂, RO E xs cs off R₁ ∧ RO E ys cs (off + xs.length) R₂ ∧ R = R₁ ++ R₂
 | [], ys, cs, off, R, h => ⟨[], R, by simp [RO], by simpa using h, rfl⟩
 | x :: r, ys, cs, off, R, h => by
  simp only [List.cons_append, RO] at h
  obtain ⟨u, R₃, R₄, hu, hs, h1, h2, rfl⟩ := h
  obtain ⟨R₁, R₂, h3, h4, rfl⟩ := RO.mq h2
  refine ⟨R₃ ++ R₁, R₂, ?_, ?_, by simp⟩
  ·simp only [RO]; exact ⟨u, R₃, R₁, hu, hs, h1, h3, rfl⟩
  ·rw [show off + (x :: r).length = off + 1 + r.length by simp; omega]; exact h4
theorem bR.app : ∀ {xs ys : List (List X)} {cs : Array Value} {off : Nat} {R₁ R₂ : List Nat}, bR E xs cs off R₁ → bR E ys cs (off + xs.flatten.length) R₂ → bR E (xs ++ ys) cs off (R₁ ++ R₂)
 | [], ys, cs, off, R₁, R₂, h, h' => by simp only [bR] at h; subst h; simpa using h'
 | x :: r, ys, cs, off, R₁, R₂, h, h' => by
  simp only [bR] at h
  obtain ⟨R₃, R₄, hn, h1, h2, rfl⟩ := h
  simp only [List.cons_append, bR]
  refine ⟨R₃, R₄ ++ R₂, hn, h1, bR.app h2 ?_, by simp⟩
  rw [show off + x.length + r.flatten.length = off + (x :: r).flatten.length by simp; omega]; exact h'
theorem bR.mq : ∀ {xs ys : List (List X)} {cs : Array Value} {off : Nat} {R : List Nat}, bR E (xs ++ ys) cs off R → ∃ R₁ R₂, bR E xs cs off R₁ ∧ bR E ys cs (off + xs.flatten.length) R₂ ∧ R = R₁ ++ R₂
 | [], ys, cs, off, R, h => ⟨[], R, by simp [bR], by simpa using h, rfl⟩
 | x :: r, ys, cs, off, R, h => by
  simp only [List.cons_append, bR] at h
  obtain ⟨R₃, R₄, hn, h1, h2, rfl⟩ := h
  obtain ⟨R₁, R₂, h3, h4, rfl⟩ := bR.mq h2
  refine ⟨R₃ ++ R₁, R₂, ?_, ?_, by simp⟩
  ·simp only [bR]; exact ⟨R₃, R₁, hn, h1, h3, rfl⟩
  ·rw [show off + (x :: r).flatten.length = off + x.length + r.flatten.length by simp; omega]; exact h4
theorem RO.of : ∀ {xs : List X} {vs : List Value} {cs : Array Value} {off : Nat} {R : List Nat}, br E xs vs R → (∀ j v, vs[j]? = some v → cs[off + j]? = some v) → RO E xs cs off R
 | [], _, _, _, _, h, _ => by simp only [br] at h; simp [RO, h.2]
 | x :: r, vs, cs, off, R, h, hv => by
  simp only [br] at h
  obtain ⟨c, c1, R₁, R₂, rfl, hs, h1, h2, rfl⟩ := h
  simp only [RO]
  refine ⟨c, R₁, R₂, ?_, hs, h1, RO.of h2 (fun j v hj => ?_), rfl⟩
  ·simpa using hv 0 c rfl
  ·rw [show off + 1 + j = off + (j + 1) by omega]; exact hv (j + 1) v (by simpa using hj)
theorem length_flatten {s : Nat} : ∀ {rs : List (List X)}, bG s rs → rs.flatten.length = rs.length * s
 | [], _ => by simp
 | r :: rs, h => by
  have h1 := h r (by simp)
  have := length_flatten (rs := rs) (fun q hq => h q (by simp [hq]))
  simp only [List.flatten_cons, List.length_append, h1, this, List.length_cons, Nat.add_mul]
  omega
end
def gW {α : Type} (xs : List α) (k : Nat) (ys : List α) : List α := xs.take k ++ ys ++ xs.drop (k + ys.length)
theorem iO {α : Type} {xs ys : List α} {k : Nat} (h : k + ys.length ≤ xs.length) : (gW xs k ys).length = xs.length := by
 simp [gW]; omega
def ir (cs : Array Value) (k : Nat) (vs : List Value) : Array Value := (cs.toList.take k ++ vs ++ cs.toList.drop (k + vs.length)).toArray
theorem kS {cs : Array Value} {k : Nat} {vs : List Value} (h : k + vs.length ≤ cs.size) : (ir cs k vs).size = cs.size := by
 simp [ir]; omega
theorem uI {cs : Array Value} {k j : Nat} {vs : List Value} (h : k + vs.length ≤ cs.size) (hj : j < vs.length) : (ir cs k vs)[k + j]? = vs[j]? := by
 have hk : k ≤ cs.toList.length := by simp; omega
 simp only [ir, List.getElem?_toArray, List.append_assoc]
 rw [List.getElem?_append_right (by simp; omega)]
 have : k + j - (List.take k cs.toList).length = j := by simp; omega
 rw [this, List.getElem?_append_left hj]
theorem ko {cs : Array Value} {k j : Nat} {vs : List Value} (h : k + vs.length ≤ cs.size) (hj : j < k ∨ k + vs.length ≤ j) : (ir cs k vs)[j]? = cs[j]? := by
 have hk : k ≤ cs.toList.length := by simp; omega
 have hl : (List.take k cs.toList).length = k := by simp; omega
 simp only [ir, List.getElem?_toArray, List.append_assoc]
 rcases hj with hj | hj
 ·rw [List.getElem?_append_left om, List.getElem?_take_of_lt hj]; simp
 ·rw [List.getElem?_append_right om, List.getElem?_append_right om, hl, List.getElem?_drop]
  have : k + vs.length + (j - k - vs.length) = j := by omega
  rw [this]; simp
section
variable {E : Env}
theorem RO.put {xs ys : List X} {cs : Array Value} {off k : Nat} {R R₂ : List Nat} {vs : List Value} (h : RO E xs cs off R) (hk : k + ys.length ≤ xs.length) (hy : br E ys vs R₂) (hc : off + xs.length ≤ cs.size) :
  ∃ R₁, RO E (gW xs k ys) (ir cs (off + k) vs) off R₁ ∧ (∀ b ∈ R₁, b ∈ R ∨ b ∈ R₂) ∧ ((R ++ R₂).Nodup → R₁.Nodup) := by
 have hl := br.length hy
 have nU : off + k + vs.length ≤ cs.size := by omega
 have h0 : xs = xs.take k ++ ((xs.drop k).take ys.length ++ xs.drop (k + ys.length)) := by
  conv => lhs; rw [← List.take_append_drop k xs, ← List.take_append_drop ys.length (xs.drop k), List.drop_drop]
 rw [h0] at h
 obtain ⟨Ra, Rb, h1, h2, rfl⟩ := RO.mq h
 obtain ⟨Rc, Rd, h3, h4, rfl⟩ := RO.mq h2
 have LZ : (xs.take k).length = k := by simp; omega
 have I8 : ((xs.drop k).take ys.length).length = ys.length := by simp; omega
 rw [LZ, I8] at h4
 refine ⟨Ra ++ R₂ ++ Rd, ?_, ?_, ?_⟩
 ·unfold gW
  refine RO.app (RO.app (RO.ext (fun j hj => ko nU (.inl om)) h1) ?_) ?_
  ·rw [LZ]
   refine RO.of hy fun j v hj => ?_
   have kT : j < vs.length := by
    rcases Nat.lt_or_ge j vs.length with h' | h'
    ·exact h'
    ·simp [List.getElem?_eq_none h'] at hj
   rw [uI nU kT]; exact hj
  ·have : off + (List.take k xs ++ ys).length = off + k + ys.length := by simp; omega
   rw [this]
   exact RO.ext (fun j _ => ko nU (.inr om)) h4
 ·intro b hb
  simp only [List.mem_append] at hb ⊢
  rcases hb with (hb | hb) | hb
  ·exact .inl (.inl hb)
  ·exact .inr hb
  ·exact .inl (.inr (.inr hb))
 ·intro hn
  simp only [List.nodup_append, List.mem_append] at hn ⊢
  obtain ⟨⟨ha, ⟨mo, hd, EM⟩, Cy⟩, I9, hx⟩ := hn
  refine ⟨⟨ha, I9, fun a tq b hb => hx a (.inl tq) b hb⟩, hd, ?_⟩
  intro a tq b hb
  rcases tq with tq | tq
  ·exact Cy a tq b (.inr hb)
  ·intro e; subst e; exact hx a (.inr (.inr hb)) a tq rfl
theorem bR.set {rs : List (List X)} {row ys : List X} {cs : Array Value} {off s i k : Nat} {R R₂ : List Nat} {vs : List Value} (hu : bG s rs) (h : bR E rs cs off R) (hr : rs[i]? = some row)
  (hk : k + ys.length ≤ row.length) (hy : br E ys vs R₂) (hn : X.fm ys = true) (hc : off + rs.length * s ≤ cs.size) :
  ∃ R₁, bR E (rs.set i (gW row k ys)) (ir cs (off + (i * s + k)) vs) off R₁ ∧ (∀ b ∈ R₁, b ∈ R ∨ b ∈ R₂) ∧ ((R ++ R₂).Nodup → R₁.Nodup) := by
 have hi : i < rs.length := by
  rcases Nat.lt_or_ge i rs.length with h' | h'
  ·exact h'
  ·simp [List.getElem?_eq_none h'] at hr
 have hl := br.length hy
 have mP : row.length = s := hu row (List.mem_of_getElem? hr)
 have NR : rs[i] = row := by rw [List.getElem?_eq_getElem hi] at hr; exact Option.some.inj hr
 have h0 : rs = rs.take i ++ (row :: rs.drop (i + 1)) := by
  conv => lhs; rw [← List.take_append_drop i rs, List.drop_eq_getElem_cons hi, NR]
 have IA : rs.set i (gW row k ys) = rs.take i ++ (gW row k ys :: rs.drop (i + 1)) := by
  rw [List.set_eq_take_append_cons_drop, if_pos hi]
 rw [h0] at h
 obtain ⟨Ra, Rb, h1, h2, rfl⟩ := bR.mq h
 have rS : (rs.take i).flatten.length = i * s := by
  rw [length_flatten (hu.take i), List.length_take, Nat.min_eq_left (Nat.le_of_lt hi)]
 rw [rS] at h2
 simp only [bR] at h2
 obtain ⟨Rc, Rd, wz, h3, h4, rfl⟩ := h2
 have HW : i * s + s ≤ rs.length * s := by
  have : (i + 1) * s ≤ rs.length * s := Nat.mul_le_mul_right s hi
  rw [Nat.add_mul] at this; omega
 have nU : off + (i * s + k) + vs.length ≤ cs.size := by omega
 obtain ⟨Re, h5, cF, iP⟩ := RO.put h3 hk hy om
 rw [IA]
 refine ⟨Ra ++ (Re ++ Rd), ?_, ?_, ?_⟩
 ·refine bR.app (bR.ext (fun j hj => ko nU (.inl om)) h1) ?_
  rw [rS]
  simp only [bR]
  have NS : (gW row k ys).length = row.length := iO hk
  refine ⟨Re, Rd, ?_, ?_, ?_, rfl⟩
  ·have h7 : ∀ (xs ys : List X), X.fm xs = true → X.fm ys = true → X.fm (xs ++ ys) = true := by
    intro xs
    induction xs with
    | nil => intro ys _ h; exact h
    | cons x r ih => intro ys hx hy; simp only [X.fm, Bool.and_eq_true, List.cons_append] at hx ⊢; exact ⟨hx.1, ih ys hx.2 hy⟩
   have h8 : ∀ (xs : List X) (n : Nat), X.fm xs = true → X.fm (xs.take n) = true := by
    intro xs
    induction xs with
    | nil => intro n _; simp [X.fm]
    | cons x r ih =>
     intro n hx
     cases n with
     | zero => simp [X.fm]
     | succ n => simp only [X.fm, Bool.and_eq_true, List.take_succ_cons] at hx ⊢; exact ⟨hx.1, ih n hx.2⟩
   have h9 : ∀ (xs : List X) (n : Nat), X.fm xs = true → X.fm (xs.drop n) = true := by
    intro xs
    induction xs with
    | nil => intro n _; simp [X.fm]
    | cons x r ih =>
     intro n hx
     cases n with
     | zero => simpa using hx
     | succ n => simp only [X.fm, Bool.and_eq_true, List.drop_succ_cons] at hx ⊢; exact ih n hx.2
   exact h7 _ _ (h7 _ _ (h8 _ _ wz) hn) (h9 _ _ wz)
  ·rw [Nat.add_assoc] at h5; exact h5
  ·rw [NS]
   exact bR.ext (fun j _ => ko nU (.inr om)) h4
 ·intro b hb
  simp only [List.mem_append] at hb ⊢
  rcases hb with hb | hb | hb
  ·exact .inl (.inl hb)
  ·rcases cF b hb with h' | h'
   ·exact .inl (.inr (.inl h'))
   ·exact .inr h'
  ·exact .inl (.inr (.inr hb))
 ·intro kq
  simp only [List.nodup_append, List.mem_append] at kq iP ⊢
  obtain ⟨⟨ha, ⟨mo, hd, EM⟩, Cy⟩, I9, hx⟩ := kq
  have NT := iP ⟨mo, I9, fun a tq b hb => hx a (.inr (.inl tq)) b hb⟩
  refine ⟨ha, ⟨NT, hd, ?_⟩, ?_⟩
  ·intro a tq b hb
   rcases cF a tq with h' | h'
   ·exact EM a h' b hb
   ·intro e; subst e; exact hx a (.inr (.inr hb)) a h' rfl
  ·intro a tq b hb
   rcases hb with hb | hb
   ·rcases cF b hb with h' | h'
    ·exact Cy a tq b (.inl h')
    ·exact hx a (.inl tq) b h'
   ·exact Cy a tq b (.inr hb)
theorem bG.set {s i : Nat} {rs : List (List X)} {row : List X} (hu : bG s rs) (h : row.length = s) : bG s (rs.set i row) := by
 intro r hr
 rcases List.mem_or_eq_of_mem_set hr with h' | h'
 ·exact hu r h'
 ·rw [h']; exact h
end
end Go.AW
namespace Go.AW
open Go
def X.pJ : List X → Bool
 | [] => true
 | x :: r => x.one && X.pJ r
theorem uJ : ∀ (z : List Value), X.bc (z.map X.v) = true
 | [] => rfl
 | _ :: r => by simp [X.bc, X.free, uJ r]
theorem wN : ∀ (z : List Value), X.fm (z.map X.v) = true
 | [] => rfl
 | _ :: r => by simp [X.fm, X.nr, wN r]
theorem pY {E : Env} : ∀ {z : List Value}, X.pJ (z.map X.v) = true → br E (z.map X.v) z []
 | [], _ => by simp [br]
 | c :: r, h => by
  simp only [List.map_cons, X.pJ, Bool.and_eq_true] at h
  simp only [List.map_cons, br]
  have hx : RX E (X.v c) c [] := by simp [RX]
  exact ⟨c, r, [], [], rfl, hx.one h.1, hx, pY h.2, rfl⟩
theorem br.kU {E : Env} : ∀ {xs : List X} {vs : List Value} {R : List Nat}, br E xs vs R → ∀ v ∈ vs, v.oneCell' = true
 | [], _, _, h, v, hv => by simp only [br] at h; rw [h.1] at hv; cases hv
 | x :: r, _, _, h, v, hv => by
  simp only [br] at h
  obtain ⟨c, c1, R₁, R₂, rfl, hs, _, h2, _⟩ := h
  rcases List.mem_cons.1 hv with h' | h'
  ·subst h'; cases v <;> first | rfl | exact hs.elim
  ·exact br.kU h2 v h'
def Sh (N : dV) (st aW : St) : Prop := ∀ G : Ctx, G.fn = N → ∀ a w, bT G st a w → bT G aW a w
section
variable {P : Program} {N : dV} {st aW : St} {Q : Exit → St → Prop} {all : Array Oper} {rest : List Oper} {d : Nat} {ty : TypeId} {pos : String} {af : Array Edge}
theorem aa.sh (h : Sh N st aW) (k : aa P N all rest aW Q) : aa P N all rest st Q := fun G hn a w hh => k G hn a w (h G hn a w hh)
theorem ae.sh {c : Code} (h : Sh N st aW) (k : ae P N c aW Q) : ae P N c st Q := fun G hn a w hh => k G hn a w (h G hn a w hh)
theorem aa.wO {op : Op} (h : ∀ (G : Ctx) (E : Env) (RR : Own → List Nat) (a : Act), G.fn = N → Inv G E RR st a →
   ∃ u E' eC, (execOp a.eval ⟨some d, op, ty, pos, af, none⟩).run P E.w = .ok (.value u) E'.w ∧ Inv G E' eC aW (a.put (some d) u))
  (k : aa P N all rest aW Q) : aa P N all (⟨some d, op, ty, pos, af, none⟩ :: rest) st Q := by
 intro G hn a w hh
 obtain ⟨E, RR, rfl, hi⟩ := hh
 obtain ⟨u, E', eC, hr, fL⟩ := h G E RR a hn hi
 refine wpList_plain rfl fun K hK => ?_
 simp only [Oper.wp, hr, Oper.upon_value]
 exact hK _ _ (k G hn _ _ ⟨E', eC, rfl, fL⟩)
theorem aa.Cz {op : Op} (h : ∀ (G : Ctx) (E : Env) (RR : Own → List Nat) (a : Act), G.fn = N → Inv G E RR st a →
   ∃ E' eC, (execOp a.eval ⟨none, op, ty, pos, af, none⟩).run P E.w = .ok .skip E'.w ∧ Inv G E' eC aW a)
  (k : aa P N all rest aW Q) : aa P N all (⟨none, op, ty, pos, af, none⟩ :: rest) st Q := by
 intro G hn a w hh
 obtain ⟨E, RR, rfl, hi⟩ := hh
 obtain ⟨E', eC, hr, fL⟩ := h G E RR a hn hi
 refine wpList_plain rfl fun K hK => ?_
 simp only [Oper.wp, hr, Oper.upon_skip]
 exact hK _ _ (k G hn _ _ ⟨E', eC, rfl, fL⟩)
theorem TY.ez {t : TypeId} {z : List Value} (h : TY.zero P t = some z) : ∃ i z0, P.info? t = some i ∧ i.zero = some z0 ∧ z0.cells.toList = z := by
 unfold TY.zero at h
 cases hi : P.info? t with
 | none => simp [hi] at h
 | some i =>
  rw [hi] at h
  simp only [Option.bind_some] at h
  cases hz : i.zero with
  | none => simp [hz] at h
  | some z0 =>
   rw [hz] at h
   simp only [Option.map_some, Option.some.injEq] at h
   exact ⟨i, z0, rfl, hz, h⟩
def Env.withVar (E : Env) (o : Nat) (cs : Array Value) (t : TypeId) : Env :=
 {E with w := E.w.alloc (.cells cs t), β := fun q => if q = o then some ⟨E.w.heap.size, 0, 0⟩ else E.β q }
theorem heap_alloc (w : World) (o : Go.Obj) : (w.alloc o).heap[w.heap.size]? = some o := by
 show (w.heap.push o)[w.heap.size]? = _
 simp
theorem Inv.newVar {G : Ctx} {E : Env} {RR : Own → List Nat} {a : Act} (hi : Inv G E RR st a) {o : Nat} {ys : List X} {vs : List Value} {t : TypeId} (hF : G.fn.F.elem o = false) (hy : br E ys vs []) (hf : X.bc ys = true) (hm : X.c3 o ys = false) :
  ∃ eC, Inv G (E.withVar o vs.toArray t) eC ((st.kill o).dE o (.cells ys)) a := by
 refine ⟨_, hi.lx (E' := E.withVar o vs.toArray t) (T := fun _ => False) (o := o) (R := [E.w.heap.size]) ?_ (fun _ h => h.elim) (fun q hq => by simp [Env.withVar, hq]) (fun h => by rw [hF] at h; cases h) ?_ (by simp) ?_⟩
 ·exact { ct.alloc G E (.cells vs.toArray t) with φ := rfl }
 ·have gL : E.On (E.withVar o vs.toArray t) [] := ⟨fun _ _ _ h => h, fun _ h => by cases h⟩
  have z3 : br (E.withVar o vs.toArray t) ys vs [] := br.mono ys vs [] gL (fun q hq => by
   have : q ≠ o := fun e => by subst e; rw [hm] at hq; cases hq
   simp [Env.withVar, this]) hy
  simp only [dD]
  refine ⟨hf, ⟨E.w.heap.size, 0, 0⟩, vs.toArray, t, by simp [Env.withVar], heap_alloc _ _, fun i => ?_, by simp [br.length hy], ?_, rfl⟩
  ·show E.φ E.w.heap.size i = none
   cases h : E.φ E.w.heap.size i with
   | none => rfl
   | some v => exact absurd (World.block_lt_of_cell? E.w _ (hi.kh _ _ _ h)) (by simp)
  ·exact RO.of z3 (fun j v hj => by simpa using hj)
 ·intro b hb
  simp only [List.mem_singleton] at hb
  subst hb
  refine ⟨by simp [Env.withVar], fun hK => ?_, hi.rQ (.inr (Nat.le_refl _))⟩
  have := hi.small _ hK
  have := hi.size
  omega
theorem aa.alloc {t : TypeId} {z : List Value} (o : Nat) (hz : TY.zero P t = some z) (h1 : X.pJ (z.map X.v) = true) (hF : N.F.elem o = false) (hd : d < N.n)
  (k : aa P N all rest (((st.kill o).dE o (.cells (z.map X.v))).put d (.ptr o 0 0 0)) Q) : aa P N all (⟨some d, .alloc t, ty, pos, af, none⟩ :: rest) st Q := by
 refine aa.wO (fun G E RR a hn hi => ?_) k
 have hm : ∀ z : List Value, X.c3 o (z.map X.v) = false := by
  intro z
  induction z with
  | nil => rfl
  | cons c r ih => simp [X.c3, X.dp, ih]
 obtain ⟨eC, fL⟩ := hi.newVar (o := o) (t := t) (by rw [hn]; exact hF) (pY h1) (uJ z) (hm z)
 refine ⟨.pointer (some ⟨E.w.heap.size, 0, none⟩), _, _, ?_, fL.fg (x := .ptr o 0 0 0) (by rw [hn]; exact hd) ?_⟩
 ·obtain ⟨i, z0, me, w4, w5⟩ := TY.ez hz
  show (do let x ← Instr.alloc t true (.tuple #[]); pure (Next.value x) : Sem Next).run P E.w = _
  refine cE ?_
  have rT : z0.cells = z.toArray := by rw [← w5]
  simp [Instr.alloc, zeroValue, typeInfo, me, w4, Go.newVar, newRow, Env.withVar, rT]
 ·simp only [RX]
  exact ⟨trivial, ⟨E.w.heap.size, 0, 0⟩, by simp [Env.withVar], by simp⟩
theorem aa.box {t : TypeId} {x : Operand} {y : X} {ys : List X} (o : Nat) (hx : bx st x = some y) (hy : y.flat = some ys) (hf : X.bc ys = true) (hm : X.c3 o ys = false) (hF : N.F.elem o = false) (hd : d < N.n)
  (k : aa P N all rest (((st.kill o).dE o (.cells ys)).put d (.ptr o 0 0 0)) Q) : aa P N all (⟨some d, .box t x, ty, pos, af, none⟩ :: rest) st Q := by
 refine aa.wO (fun G E RR a hn hi => ?_) k
 obtain ⟨R, v8⟩ := hi.eval hx
 have rS := v8.flat hy
 have h0 := br.free hf rS
 subst h0
 obtain ⟨eC, fL⟩ := hi.newVar (o := o) (t := t) (by rw [hn]; exact hF) rS hf hm
 refine ⟨.pointer (some ⟨E.w.heap.size, 0, none⟩), _, _, ?_, fL.fg (x := .ptr o 0 0 0) (by rw [hn]; exact hd) ?_⟩
 ·show (do let z ← Instr.box t (a.eval x); pure (Next.value z) : Sem Next).run P E.w = _
  refine cE ?_
  simp [Instr.box, Go.newVar, newRow, Env.withVar]
 ·simp only [RX]
  exact ⟨trivial, ⟨E.w.heap.size, 0, 0⟩, by simp [Env.withVar], by simp⟩
end
end Go.AW
namespace Go.AW
open Go
section
variable {E : Env}
theorem br.app : ∀ {xs ys : List X} {cs ds : List Value} {R₁ R₂ : List Nat}, br E xs cs R₁ → br E ys ds R₂ → br E (xs ++ ys) (cs ++ ds) (R₁ ++ R₂)
 | [], _, _, _, _, _, h, h' => by simp only [br] at h; obtain ⟨rfl, rfl⟩ := h; simpa using h'
 | x :: r, ys, cs, ds, R₁, R₂, h, h' => by
  simp only [br] at h
  obtain ⟨c, c1, R₃, R₄, rfl, hs, h1, h2, rfl⟩ := h
  simp only [List.cons_append, br]
  exact ⟨c, c1 ++ ds, R₃, R₄ ++ R₂, rfl, hs, h1, br.app h2 h', by simp⟩
theorem br.EN {xs : List X} {cs : List Value} (k : Nat) (h : br E xs cs []) : br E (xs.take k) (cs.take k) [] := by
 induction xs generalizing cs k with
 | nil => simp only [br] at h; simp [br, h.1]
 | cons x r ih =>
  simp only [br] at h
  obtain ⟨c, c1, R₁, R₂, rfl, hs, h1, h2, hR⟩ := h
  have C5 := List.append_eq_nil_iff.1 hR.symm
  obtain ⟨rfl, rfl⟩ := C5
  cases k with
  | zero => simp [br]
  | succ k => simp only [List.take_succ_cons, br]; exact ⟨c, _, [], [], rfl, hs, h1, ih k h2, rfl⟩
theorem br.EO {xs : List X} {cs : List Value} (k : Nat) (h : br E xs cs []) : br E (xs.drop k) (cs.drop k) [] := by
 induction xs generalizing cs k with
 | nil => simp only [br] at h; simp [br, h.1]
 | cons x r ih =>
  have h' := h
  simp only [br] at h
  obtain ⟨c, c1, R₁, R₂, rfl, hs, h1, h2, hR⟩ := h
  have C5 := List.append_eq_nil_iff.1 hR.symm
  obtain ⟨rfl, rfl⟩ := C5
  cases k with
  | zero => exact h'
  | succ k => simp only [List.drop_succ_cons]; exact ih k h2
theorem br.fg {xs ys : List X} {cs vs : List Value} {k : Nat} (h : br E xs cs []) (h' : br E ys vs []) : br E (gW xs k ys) (gW cs k vs) [] := by
 unfold gW
 rw [← br.length h']
 have := br.app (br.app (br.EN k h) h') (br.EO (k + vs.length) h)
 simpa using this
end
def pZ (place : Nat → Option (Nat × Nat)) (cells : List X) : List (Nat × X) → Option (List X)
 | [] => some cells
 | (i, x) :: rest =>
  match place i, x.flat with
  | some (off, size), some ys => bif Nat.beq ys.length size && Nat.ble (off + size) cells.length then pZ place (gW cells off ys) rest else none
  | _, _ => none
def lG (st : St) : List (Nat × Operand) → Option (List (Nat × X))
 | [] => some []
 | (i, x) :: r => match bx st x, lG st r with
  | some y, some l => bif y.free then some ((i, y) :: l) else none
  | _, _ => none
theorem q2 (off : Nat) : ∀ (l : List Value) (k : Nat) (cs : Array Value), ((l.zipIdx k).foldl (fun cs (p : Value × Nat) => cs.setIfInBounds (off + p.2) p.1) cs).size = cs.size ∧
  ∀ j, ((l.zipIdx k).foldl (fun cs (p : Value × Nat) => cs.setIfInBounds (off + p.2) p.1) cs)[j]? = if off + k ≤ j ∧ j < off + k + l.length ∧ j < cs.size then l[j - off - k]? else cs[j]?
 | [], k, cs => by
  refine ⟨rfl, fun j => ?_⟩
  rw [if_neg (by simp; omega)]
  rfl
 | v :: r, k, cs => by
  obtain ⟨h1, h2⟩ := q2 off r (k + 1) (cs.setIfInBounds (off + k) v)
  simp only [List.zipIdx_cons, List.foldl_cons]
  refine ⟨by rw [h1]; simp, fun j => ?_⟩
  rw [h2 j]
  simp only [Array.size_setIfInBounds, List.length_cons]
  by_cases hj : off + (k + 1) ≤ j ∧ j < off + (k + 1) + r.length ∧ j < cs.size
  ·rw [if_pos hj, if_pos om, show j - off - k = (j - off - (k + 1)) + 1 by omega]
   simp
  ·rw [if_neg hj]
   by_cases q3 : j = off + k
   ·subst q3
    by_cases gK : off + k < cs.size
    ·rw [if_pos om, show off + k - off - k = 0 by omega]
     simp [Array.getElem?_setIfInBounds_self_of_lt gK]
    ·rw [if_neg om]
     simp [gK]
   ·rw [if_neg om, Array.getElem?_setIfInBounds_ne om]
theorem tr (off : Nat) (v cs : Array Value) (h : off + v.size ≤ cs.size) : (v.zipIdx.foldl (fun cs (p : Value × Nat) => cs.setIfInBounds (off + p.2) p.1) cs).toList = gW cs.toList off v.toList := by
 have hf : v.zipIdx.foldl (fun cs (p : Value × Nat) => cs.setIfInBounds (off + p.2) p.1) cs = (v.toList.zipIdx 0).foldl (fun cs (p : Value × Nat) => cs.setIfInBounds (off + p.2) p.1) cs := by
  rw [← Array.foldl_toList, Array.toList_zipIdx]
 rw [hf]
 obtain ⟨h1, h2⟩ := q2 off v.toList 0 cs
 apply List.ext_getElem?
 intro j
 rw [Array.getElem?_toList, h2 j]
 have EP : v.toList.length = v.size := by simp
 simp only [Nat.add_zero, Nat.sub_zero, EP, gW, List.append_assoc]
 have hl : (List.take off cs.toList).length = off := by simp; omega
 by_cases hj : j < off
 ·rw [if_neg om, List.getElem?_append_left om, List.getElem?_take_of_lt hj]; simp
 ·by_cases IB : j < off + v.size
  ·rw [if_pos om, List.getElem?_append_right om, hl, List.getElem?_append_left om]
  ·rw [if_neg om, List.getElem?_append_right om, List.getElem?_append_right om, hl, List.getElem?_drop]
   have : off + v.size + (j - off - v.toList.length) = j := by omega
   rw [this]; simp
section
variable {P : Program} {N : dV} {G : Ctx} {E : Env} {RR : Own → List Nat} {st : St} {a : Act}
theorem mQ (hi : Inv G E RR st a) (place : Nat → Option (Nat × Nat)) : ∀ (parts : List (Nat × Operand)) (xs : List X) (cs : Array Value) (w6 : List (Nat × X)) (ys : List X), br E xs cs.toList [] → lG st parts = some w6 →
  pZ place xs w6 = some ys → ∃ c1, Instr.fill place cs (parts.map fun p => (p.1, a.eval p.2)) = some c1 ∧ br E ys c1.toList []
 | [], xs, cs, w6, ys, h, hp, hf => by
  simp only [lG, Option.some.injEq] at hp
  subst hp
  simp only [pZ, Option.some.injEq] at hf
  subst hf
  exact ⟨cs, rfl, h⟩
 | (i, x) :: r, xs, cs, w6, ys, h, hp, hf => by
  simp only [lG] at hp
  cases hx : bx st x with
  | none => simp [hx] at hp
  | some y =>
   cases hr : lG st r with
   | none => simp [hx, hr] at hp
   | some l =>
    rw [hx, hr] at hp
    simp only at hp
    cases ju : y.free with
    | false => simp [ju] at hp
    | true =>
     rw [ju] at hp
     simp only [cond_true, Option.some.injEq] at hp
     subst hp
     simp only [pZ] at hf
     cases tt : place i with
     | none => simp [tt] at hf
     | some os =>
      obtain ⟨off, size⟩ := os
      cases rS : y.flat with
      | none => simp [tt, rS] at hf
      | some zs =>
       rw [tt, rS] at hf
       simp only at hf
       cases hb : Nat.beq zs.length size && Nat.ble (off + size) xs.length with
       | false => simp [hb] at hf
       | true =>
        rw [hb] at hf
        simp only [cond_true] at hf
        simp only [Bool.and_eq_true] at hb
        have et : zs.length = size := Nat.eq_of_beq_eq_true hb.1
        have hle : off + size ≤ xs.length := Nat.le_of_ble_eq_true hb.2
        obtain ⟨R, hv⟩ := hi.eval hx
        have h0 := RX.free ju hv
        subst h0
        have te := hv.flat rS
        have qR : (a.eval x).cells.size = size := by have := br.length te; simp at this; omega
        have rU : cs.size = xs.length := by have := br.length h; simpa using this
        have tu := br.fg (k := off) h te
        have ER := tr off (a.eval x).cells cs om
        obtain ⟨c1, qU, rP⟩ := mQ hi place r (gW xs off zs) ((a.eval x).cells.zipIdx.foldl (fun cs (p : Value × Nat) => cs.setIfInBounds (off + p.2) p.1) cs) l ys (by rw [ER]; exact tu) hr hf
        refine ⟨c1, ?_, rP⟩
        simp only [List.map_cons, Instr.fill, tt, qR]
        rw [if_neg (by simp; omega)]
        exact qU
def TY.jf (P : Program) (t : TypeId) : Option (List (Nat × Nat)) :=
 match P.underlying t with
 | some (.struct fs) => fs.toList.mapM fun f => (P.info? f.type).map fun i => (f.offset, i.size)
 | _ => none
theorem rV {fs : List Field} {pl : List (Nat × Nat)} (h : (fs.mapM fun f => (P.info? f.type).map fun i => (f.offset, i.size)) = some pl) (w : World) :
  (fs.mapM fun f => (do pure (f.offset, ← sizeOf f.type) : Sem (Nat × Nat))).run P w = .ok pl w := by
 induction fs generalizing pl with
 | nil => simp at h; subst h; rfl
 | cons f r ih =>
  rw [List.mapM_cons] at h
  cases hf : P.info? f.type with
  | none => simp [hf] at h
  | some i =>
   rw [hf] at h
   cases hr : (r.mapM fun f => (P.info? f.type).map fun i => (f.offset, i.size)) with
   | none => simp [hr] at h
   | some l =>
    rw [hr] at h
    simp at h
    subst h
    rw [List.mapM_cons]
    simp only [Sem.run_bind, run_sizeOf hf, Result.andThen_ok, Sem.run_pure, ih hr]
theorem Y.qg {dst : Option Nat} {ty : TypeId} {pos : String} {af : Array Edge} {g : Option (Nat × Bool)} {t : TypeId} {parts : Array (Nat × Operand)} {pl : List (Nat × Nat)} {z : List Value} {w6 : List (Nat × X)} {ys : List X}
  (hp : TY.jf P t = some pl) (hz : TY.zero P t = some z) (h1 : X.pJ (z.map X.v) = true) (hx : lG st parts.toList = some w6) (hf : pZ (pl[·]?) (z.map X.v) w6 = some ys) :
  Yields P N st ⟨dst, .build t parts, ty, pos, af, g⟩ (.agg ys) := by
 intro G E RR a _ hi
 obtain ⟨i, z0, me, w4, w5⟩ := TY.ez hz
 have rT : z0.cells = z.toArray := by rw [← w5]
 have eU : br E (z.map X.v) z0.cells.toList [] := by rw [w5]; exact pY h1
 obtain ⟨c1, qU, rP⟩ := mQ hi (pl[·]?) parts.toList _ z0.cells w6 ys eU hx hf
 refine ⟨.agg c1, ?_, by simp only [RX]; exact ⟨c1, rfl, rP⟩⟩
 show (do let v ← Instr.build t (parts.map fun (i, x) => (i, a.eval x)); Pure.pure (Next.value v) : Sem Next).run P E.w = _
 refine cE ?_
 unfold TY.jf at hp
 cases hu : P.underlying t with
 | none => simp [hu] at hp
 | some d =>
  cases d with
  | struct fs =>
   rw [hu] at hp
   simp only at hp
   have hm := rV hp E.w
   have NU : (fs.mapM fun f => (do Pure.pure (f.offset, ← sizeOf f.type) : Sem (Nat × Nat))).run P E.w = .ok pl.toArray E.w := by
    rw [Array.mapM_eq_mapM_toList]
    simp only [Sem.run_map, hm]
    rfl
   have tt : (fun (i : Nat) => pl.toArray[i]?) = fun i => pl[i]? := by funext i; simp
   have HX : (parts.map fun (i, x) => (i, a.eval x)).toList = parts.toList.map fun p => (p.1, a.eval p.2) := by simp
   simp only [Instr.build, Sem.run_bind, zeroValue, typeInfo, run_program, me, w4, Result.andThen_ok, Sem.run_pure, run_underlying hu, NU, tt, HX, qU]
  | _ => simp [hu] at hp
end
end Go.AW
namespace Go.AW
open Go
section
variable {P : Program} {N : dV} {st : St} {Q : Exit → St → Prop} {all : Array Oper} {rest : List Oper} {d : Nat} {ty : TypeId} {pos : String} {af : Array Edge}
theorem bR.tw {E : Env} {s : Nat} {cs : Array Value} : ∀ {rs : List (List X)} {off : Nat}, bG s rs →
  (∀ i row, rs[i]? = some row → X.fm row = true ∧ RO E row cs (off + i * s) []) → bR E rs cs off []
 | [], _, _, _ => by simp [bR]
 | r :: rs, off, hu, h => by
  simp only [bR]
  have h0 := h 0 r rfl
  refine ⟨[], [], h0.1, by simpa using h0.2, ?_, rfl⟩
  rw [hu r (by simp)]
  refine bR.tw (fun q hq => hu q (by simp [hq])) fun i row hr => ?_
  have := h (i + 1) row (by simpa using hr)
  rw [show off + s + i * s = off + (i + 1) * s by rw [Nat.add_mul]; omega]
  exact this
theorem br.C6 {E : Env} {xs : List X} {vs : List Value} {cs : Array Value} {off : Nat} {R : List Nat} (h : br E xs vs R) (hv : ∀ j, j < xs.length → cs[off + j]? = vs[j]?) : RO E xs cs off R :=
 RO.of h fun j v hj => by
  have kT : j < xs.length := by
   rw [← br.length h]
   rcases Nat.lt_or_ge j vs.length with h' | h'
   ·exact h'
   ·simp [List.getElem?_eq_none h'] at hj
  rw [hv j kT]; exact hj
theorem Inv.newRow {G : Ctx} {E : Env} {RR : Own → List Nat} {a : Act} (hi : Inv G E RR st a) {cs : Array Value} {e : TypeId} {s cap : Nat} {rows : List (List X)} (hu : bG s rows) (hl : rows.length ≤ cap) (hc : cap * s ≤ cs.size)
  (hr : bR { E with w := E.w.alloc (.cells cs e) } rows cs 0 []) (hd : d < G.fn.n) :
  ∃ eC, Inv G { E with w := E.w.alloc (.cells cs e) } eC (st.put d (.di s rows)) (a.put (some d) (.slice (some ⟨E.w.heap.size, 0, none⟩) rows.length cap)) := by
 have fL := hi.uG (ct.alloc G E (.cells cs e)) rfl
 refine ⟨_, fL.put (R := [E.w.heap.size]) hd ?_ (by simp) ?_⟩
 ·simp only [RX]
  refine ⟨hu, _, _, rfl, .inr ⟨E.w.heap.size, 0, cs, e, [], rfl, heap_alloc _ _, hl, om, fun i => ?_, hr, rfl⟩⟩
  show E.φ E.w.heap.size i = none
  cases h : E.φ E.w.heap.size i with
  | none => rfl
  | some v => exact absurd (World.block_lt_of_cell? E.w _ (hi.kh _ _ _ h)) (by simp)
 ·intro b hb
  simp only [List.mem_singleton] at hb
  subst hb
  refine ⟨by simp, fun hK => ?_, fun p _ hb => ?_⟩
  ·have := hi.small _ hK
   have := hi.size
   omega
  ·exact absurd (hi.own p _ hb).1 (by simp)
theorem wP {i k s : Nat} (hk : k < s) : (i * s + k) % s = k := by
 rw [Nat.mul_comm, Nat.mul_add_mod, Nat.mod_eq_of_lt hk]
theorem aa.makeSlice {t e s cy n : Nat} {l c : Operand} {k k' : IntKind} {z : List Value} (ht : TY.slice P t = some (e, s, cy)) (hz : TY.zero P e = some z) (nE : z.length = s) (h1 : X.pJ (z.map X.v) = true)
  (hl : bx st l = some (.v (.int k (n : Int)))) (hc : bx st c = some (.v (.int k' (n : Int)))) (hb : cy * n ≤ 281474976710656) (NV : n ≤ 9223372036854775807) (hd : d < N.n)
  (kk : aa P N all rest (st.put d (.di s (List.replicate n (z.map X.v)))) Q) : aa P N all (⟨some d, .makeSlice t l c, ty, pos, af, none⟩ :: rest) st Q := by
 refine aa.wO (fun G E RR a hn hi => ?_) kk
 obtain ⟨hu, i, fh, hs, By⟩ := TY.c7 ht
 obtain ⟨i', z0, me, w4, w5⟩ := TY.ez hz
 rw [fh] at me
 obtain rfl := Option.some.inj me
 have rT : z0.cells = z.toArray := by rw [← w5]
 have gh := run_make (P := P) E.w t e i z0 hu fh w4 k k' (n : Int) (n : Int) om om (by rw [By]; have := Int.ofNat_le.2 hb; rw [Int.natCast_mul] at this; exact this) om
 simp only [Int.toNat_natCast, hs, rT] at gh
 have et := size_madeCells z.toArray (n * s)
 have hU : bG s (List.replicate n (z.map X.v)) := by
  intro r hr
  rw [(List.mem_replicate.1 hr).2]; simpa using nE
 obtain ⟨eC, fL⟩ := hi.newRow (cs := madeCells z.toArray (n * s)) (e := e) (s := s) (cap := n) (d := d) hU (Nat.le_of_eq List.length_replicate) (by rw [et]; exact Nat.le_refl _) (by
  refine bR.tw hU fun j row hr => ?_
  have hj : j < n := by
   rcases Nat.lt_or_ge j n with h' | h'
   ·exact h'
   ·rw [List.getElem?_eq_none (by rw [List.length_replicate]; exact h')] at hr; cases hr
  have : row = z.map X.v := by
   have := List.mem_of_getElem? hr
   exact (List.mem_replicate.1 this).2
  subst this
  refine ⟨wN z, br.C6 (pY h1) fun q hq => ?_⟩
  have zI : q < s := by simpa [nE] using hq
  have gK : j * s + q < n * s := by
   have : (j + 1) * s ≤ n * s := Nat.mul_le_mul_right s hj
   rw [Nat.add_mul] at this; omega
  have C7 : q < z.length := by omega
  simp only [Nat.zero_add, madeCells]
  rw [Array.getElem?_map, Array.getElem?_range, if_pos gK]
  simp only [Option.map_some, List.size_toArray, nE, wP zI]
  rw [List.getElem?_eq_getElem C7]
  simp [C7]) (by rw [hn]; exact hd)
 simp only [List.length_replicate] at fL
 refine ⟨_, _, _, ?_, fL⟩
 show (do let v ← Instr.makeSlice t (a.eval l) (a.eval c); Pure.pure (Next.value v) : Sem Next).run P E.w = _
 rw [hi.val hl, hi.val hc]
 exact cE gh
theorem aa.buildSlice {t e s cy len : Nat} {parts : Array (Nat × Operand)} {z : List Value} {w6 : List (Nat × X)} {flat : List X} (rows : List (List X)) (ht : TY.slice P t = some (e, s, cy)) (hz : TY.zero P e = some z) (nE : Nat.beq z.length s = true)
  (h1 : X.pJ (z.map X.v) = true) (hx : lG st parts.toList = some w6) (hf : pZ (fun i => some (i * s, s)) ((List.replicate len (z.map X.v)).flatten) w6 = some flat) (hr : rows.flatten = flat) (hU : bG s rows) (hlen : rows.length = len)
  (wz : X.fm flat = true) (Ma : Nat.ble (len * s) 16777216 = true) (hd : d < N.n)
  (kk : aa P N all rest (st.put d (.di s rows)) Q) : aa P N all (⟨some d, .buildSlice t len parts, ty, pos, af, none⟩ :: rest) st Q := by
 refine aa.wO (fun G E RR a hn hi => ?_) kk
 obtain ⟨hu, i, fh, hs, By⟩ := TY.c7 ht
 obtain ⟨i', z0, me, w4, w5⟩ := TY.ez hz
 rw [fh] at me
 obtain rfl := Option.some.inj me
 have rT : z0.cells = z.toArray := by rw [← w5]
 have C8 : z.length = s := Nat.eq_of_beq_eq_true nE
 let z1 : Array Value := (Array.range (len * s)).map fun i => z.toArray[i % z.toArray.size]!
 have IC : z1.toList = (List.replicate len z).flatten := by
  apply List.ext_getElem?
  intro j
  have NW : ((List.replicate len z).flatten).length = len * s := by simp [C8]
  by_cases hj : j < len * s
  ·have HY : 0 < s := by
    rcases Nat.eq_zero_or_pos s with h' | h'
    ·subst h'; simp at hj
    ·exact h'
   have hq : j % s < s := Nat.mod_lt _ HY
   have Qt : j / s < len := by rw [Nat.div_lt_iff_lt_mul HY]; exact hj
   have h2 : ((List.replicate len z).flatten)[j]? = z[j % s]? := by
    have : ∀ (n j : Nat), j < n * s → ((List.replicate n z).flatten)[j]? = z[j % s]? := by
     intro n
     induction n with
     | zero => intro j hj; simp at hj
     | succ n ih =>
      intro j hj
      rw [List.replicate_succ, List.flatten_cons]
      by_cases Em : j < s
      ·rw [List.getElem?_append_left om, Nat.mod_eq_of_lt Em]
      ·rw [List.getElem?_append_right om, C8, ih (j - s) (by rw [Nat.add_mul] at hj; omega)]
       rw [Nat.mod_eq_sub_mod (by omega : j ≥ s)]
    exact this len j hj
   rw [h2]
   have C7 : j % s < z.length := by omega
   have Mb : z[j % s]? = some z[j % s] := List.getElem?_eq_getElem C7
   simp [z1, hj, C8, Mb]
  ·have e1 : ((List.replicate len z).flatten)[j]? = none := List.getElem?_eq_none (by rw [NW]; omega)
   have e2 : z1.toList[j]? = none := List.getElem?_eq_none (by rw [Array.length_toList]; simp only [z1, Array.size_map, Array.size_range]; omega)
   rw [e1, e2]
 have NX : br E ((List.replicate len (z.map X.v)).flatten) z1.toList [] := by
  rw [IC]
  clear hf IC z1 hlen Ma
  induction len with
  | zero => simp [br]
  | succ n ih => rw [List.replicate_succ, List.flatten_cons, List.replicate_succ, List.flatten_cons]; exact br.app (pY h1) ih
 obtain ⟨c1, qU, rP⟩ := mQ hi (fun i => some (i * s, s)) parts.toList _ z1 w6 flat NX hx hf
 have rS : flat.length = len * s := by rw [← hr, length_flatten hU, hlen]
 have NY : c1.size = len * s := by have := br.length rP; simp at this; omega
 obtain ⟨eC, fL⟩ := hi.newRow (cs := c1) (e := e) (s := s) (cap := len) (d := d) hU om om (by
  have ES : br { E with w := E.w.alloc (.cells c1 e) } flat c1.toList [] := br.mono (E := E) _ _ _ ⟨fun _ _ _ h => h, fun _ h => by cases h⟩ (fun _ _ => rfl) rP
  have pK : RO { E with w := E.w.alloc (.cells c1 e) } flat c1 0 [] := RO.of ES fun j v hj => by simpa using hj
  rw [← hr] at pK wz
  clear hr qU rP ES rS hf hlen
  have key : ∀ (rs : List (List X)) (off : Nat), X.fm rs.flatten = true → RO { E with w := E.w.alloc (.cells c1 e) } rs.flatten c1 off [] → bR { E with w := E.w.alloc (.cells c1 e) } rs c1 off [] := by
   intro rs
   induction rs with
   | nil => intro off _ _; simp [bR]
   | cons r rs ih =>
    intro off hn h
    rw [List.flatten_cons] at h hn
    obtain ⟨R₁, R₂, h1, h2, hR⟩ := RO.mq h
    have C5 := List.append_eq_nil_iff.1 hR.symm
    obtain ⟨rfl, rfl⟩ := C5
    have NZ : ∀ (xs ys : List X), X.fm (xs ++ ys) = true → X.fm xs = true ∧ X.fm ys = true := by
     intro xs
     induction xs with
     | nil => intro ys h; exact ⟨rfl, h⟩
     | cons x r ih => intro ys h; simp only [List.cons_append, X.fm, Bool.and_eq_true] at h ⊢; exact ⟨⟨h.1, (ih ys h.2).1⟩, (ih ys h.2).2⟩
    obtain ⟨ET, ID⟩ := NZ _ _ hn
    simp only [bR]
    exact ⟨[], [], ET, h1, ih _ ID h2, rfl⟩
  exact key rows 0 wz pK) (by rw [hn]; exact hd)
 rw [hlen] at fL
 refine ⟨_, _, _, ?_, fL⟩
 show (do let v ← Instr.buildSlice t len (parts.map fun (i, x) => (i, a.eval x)); Pure.pure (Next.value v) : Sem Next).run P E.w = _
 refine cE ?_
 have HX : (parts.map fun (i, x) => (i, a.eval x)).toList = parts.toList.map fun p => (p.1, a.eval p.2) := by simp
 have IE : ¬ (len * s > 2 ^ 24) := by have := Nat.le_of_ble_eq_true Ma; simp; omega
 by_cases h0 : len * s = 0
 ·have IF : z1 = (Array.range (len * s)).map (fun i => (#[] : Array Value)[i % (#[] : Array Value).size]!) := by simp [z1, h0]
  have zJ : ¬ ((0 : Nat) > 2 ^ 24) := by decide
  rw [IF, h0] at qU
  simp only [Instr.buildSlice, Sem.run_bind, run_underlying hu, Result.andThen_ok, run_sizeOf fh, hs, h0, zJ, if_false, if_true, Sem.run_pure, HX, qU, Go.newRow, run_newObj_alloc]
 ·simp only [z1] at qU
  simp only [Instr.buildSlice, Sem.run_bind, run_underlying hu, Result.andThen_ok, run_sizeOf fh, hs, IE, if_false, h0, zeroValue, typeInfo, run_program, fh, w4, Sem.run_pure, rT, HX, qU, Go.newRow, run_newObj_alloc]
end
end Go.AW
namespace Go.AW
open Go
def TY.size (P : Program) (t : TypeId) : Option Nat := (P.info? t).map (·.size)
section
variable {P : Program} {N : dV} {st : St} {Q : Exit → St → Prop} {all : Array Oper} {rest : List Oper} {d : Nat} {ty : TypeId} {pos : String} {af : Array Edge}
theorem kr {t : TypeId} {m b off : Nat} {v : Value} {cs : Array Value} {tb : TypeId} {w : World} (ht : TY.size P t = some m) (hm : v.cells.size = m) (hw : w.heap[b]? = some (.cells cs tb (0, 0))) (nU : off + m ≤ cs.size)
  (h1 : ∀ u ∈ v.cells.toList, u.oneCell' = true) : (Instr.storeAt t (.pointer (some ⟨b, off, none⟩)) v).run P w = .ok () (w.setRow b (ir cs off v.cells.toList)) := by
 unfold TY.size at ht
 cases hi : P.info? t with
 | none => simp [hi] at ht
 | some i =>
  rw [hi] at ht
  simp only [Option.map_some, Option.some.injEq] at ht
  have wQ := run_storeCells_at P b off tb v.cells.toList 0 cs w hw (by simp; omega) h1
  simp only [Nat.add_zero] at wQ
  simp only [Instr.storeAt, Instr.sureAddr, storeVar, Sem.run_bind, Sem.run_pure, Result.andThen_ok, run_sizeOf hi, ht, hm, ne_eq, not_true_eq_false, if_false]
  exact wQ
theorem Inv.pL {G : Ctx} {E : Env} {RR : Own → List Nat} {a : Act} (hi : Inv G E RR st a) {p : Own} {b : Nat} (h : b ∈ RR p) : ¬ G.K b := (hi.own p b h).2
theorem aa.aj {t : TypeId} {x y : Operand} {o s k m : Nat} {v : X} {ys xs : List X} (ht : TY.size P t = some m) (hx : bx st x = some (.ptr o s 0 k)) (hy : bx st y = some v) (rS : v.flat = some ys) (hf : X.bc ys = true) (hm : ys.length = m)
  (ho : look st.aA o = some (.cells xs)) (hk : k + m ≤ xs.length) (En : X.bc (gW xs k ys) = true) (kk : aa P N all rest (st.dE o (.cells (gW xs k ys))) Q) :
  aa P N all (⟨none, .store t x y, ty, pos, af, none⟩ :: rest) st Q := by
 refine aa.Cz (fun G E RR a hn hi => ?_) kk
 obtain ⟨R, hv⟩ := hi.eval hy
 have te := hv.flat rS
 have h0 := br.free hf te
 subst h0
 obtain ⟨R', hp⟩ := hi.eval hx
 simp only [RX] at hp
 obtain ⟨_, B, hB, hc⟩ := hp
 simp only [Nat.zero_mul, Nat.zero_add] at hc
 have aP := hi.aA o _ ho
 simp only [dD] at aP
 obtain ⟨oc, B', cs, tb, g7, hw, hφ, hlen, iJ, gM⟩ := aP
 rw [hB] at g7
 obtain rfl := Option.some.inj g7
 have rW := br.length te
 have et : (a.eval y).cells.size = m := by simp at rW; omega
 have gh := kr (P := P) (off := B.off + k) ht et hw om (br.kU te)
 have ks : B.b ∈ RR (.obj o) := by rw [gM]; simp
 have z4 := ct.setRow G E B.b (ir cs (B.off + k) (a.eval y).cells.toList) hφ (hi.pL ks)
 have gL : E.On { E with w := E.w.setRow B.b (ir cs (B.off + k) (a.eval y).cells.toList) } [] := ⟨fun _ _ _ h => h, fun _ h => by cases h⟩
 have wR := br.mono _ _ _ gL (fun _ _ => rfl) te
 have wS := RO.mono _ _ _ _ gL (fun _ _ => rfl) iJ
 obtain ⟨R₁, tu, cF, _⟩ := RO.put (k := k) wS om wR om
 have Oa : R₁ = [] := by
  cases R₁ with
  | nil => rfl
  | cons b r => rcases cF b (by simp) with h | h <;> cases h
 subst Oa
 refine ⟨_, _, ?_, hi.wM (E' := { E with w := E.w.setRow B.b (ir cs (B.off + k) (a.eval y).cells.toList) }) z4 (o := o) (R := [B.b]) (fun b h => by subst h; exact ks) rfl ?_ (by simp) ?_⟩
 ·show (do Instr.storeAt t (a.eval x) (a.eval y); Pure.pure Next.skip : Sem Next).run P E.w = _
  rw [hc]
  exact wI gh
 ·simp only [dD]
  have Ob : (gW xs k ys).length = xs.length := iO om
  exact ⟨En, B, _, tb, hB, setRow_heap E.w B.b cs _ tb _ hw, hφ, by rw [Ob, kS (by simp at rW ⊢; omega)]; exact hlen, tu, rfl⟩
 ·intro b hb
  simp only [List.mem_singleton] at hb
  subst hb
  exact ⟨by simpa using (hi.own _ _ ks).1, hi.pL ks, hi.rQ (.inl ks)⟩
theorem aa.C9 {t : TypeId} {x y : Operand} {o s i k m : Nat} {v : X} {ys row : List X} {rs : List (List X)} (ht : TY.size P t = some m) (hx : bx st x = some (.ptr o s i k)) (hy : bx st y = some v) (rS : v.flat = some ys) (hf : X.bc ys = true)
  (hn : X.fm ys = true) (hm : ys.length = m) (ho : look st.aA o = some (.rows s rs)) (hr : rs[i]? = some row) (hk : k + m ≤ row.length) (kk : aa P N all rest (st.dE o (.rows s (rs.set i (gW row k ys)))) Q) :
  aa P N all (⟨none, .store t x y, ty, pos, af, none⟩ :: rest) st Q := by
 refine aa.Cz (fun G E RR a Oc hi => ?_) kk
 obtain ⟨R, hv⟩ := hi.eval hy
 have te := hv.flat rS
 have h0 := br.free hf te
 subst h0
 obtain ⟨R', hp⟩ := hi.eval hx
 simp only [RX] at hp
 obtain ⟨_, B, hB, hc⟩ := hp
 have aP := hi.aA o _ ho
 have iP := hi.nodup (.obj o)
 simp only [dD] at aP
 obtain ⟨hu, aP⟩ := aP
 rcases aP with ⟨_, h, _⟩ | ⟨B', cs, tb, R', g7, hw, hφ, kl, hlen, iJ, gM⟩
 ·subst h; simp at hr
 rw [hB] at g7
 obtain rfl := Option.some.inj g7
 have rW := br.length te
 have et : (a.eval y).cells.size = m := by simp at rW; omega
 have EU : rs.length * s ≤ B.cap * s := Nat.mul_le_mul_right s kl
 have wT : i < rs.length := by
  rcases Nat.lt_or_ge i rs.length with h' | h'
  ·exact h'
  ·simp [List.getElem?_eq_none h'] at hr
 have mP : row.length = s := hu row (List.mem_of_getElem? hr)
 have HW : i * s + s ≤ rs.length * s := by
  have : (i + 1) * s ≤ rs.length * s := Nat.mul_le_mul_right s wT
  rw [Nat.add_mul] at this; omega
 have gh := kr (P := P) (off := B.off + (i * s + k)) ht et hw om (br.kU te)
 have ks : B.b ∈ RR (.obj o) := by rw [gM]; simp
 have z4 := ct.setRow G E B.b (ir cs (B.off + (i * s + k)) (a.eval y).cells.toList) hφ (hi.pL ks)
 rw [gM] at iP
 have kq := List.nodup_cons.1 iP
 have gL : E.On { E with w := E.w.setRow B.b (ir cs (B.off + (i * s + k)) (a.eval y).cells.toList) } R' :=
  ⟨fun _ _ _ h => h, fun b hb => ⟨setRow_other E.w B.b b _ (fun e => kq.1 (by rw [← e]; exact hb)), fun h => h⟩⟩
 have wR := br.mono _ _ _ (gL.sub (fun _ h => by cases h)) (fun _ _ => rfl) te
 have wS := bR.mono _ _ _ _ gL iJ
 obtain ⟨R₁, tu, cF, mR⟩ := bR.set (i := i) (k := k) hu wS hr om wR hn om
 have Bz : ∀ b ∈ R₁, b ∈ R' := fun b hb => (cF b hb).resolve_right (fun h => by cases h)
 refine ⟨_, _, ?_, hi.wM (E' := { E with w := E.w.setRow B.b (ir cs (B.off + (i * s + k)) (a.eval y).cells.toList) }) z4 (o := o) (R := B.b :: R₁) (fun b h => by subst h; exact ks) rfl ?_ ?_ ?_⟩
 ·show (do Instr.storeAt t (a.eval x) (a.eval y); Pure.pure Next.skip : Sem Next).run P E.w = _
  rw [hc]
  exact wI gh
 ·simp only [dD]
  refine ⟨hu.set (by rw [iO om]; exact mP), .inr ⟨B, _, tb, R₁, hB, setRow_heap E.w B.b cs _ tb _ hw, hφ, by simpa using kl, by rw [kS (by simp at rW ⊢; omega)]; exact hlen, tu, rfl⟩⟩
 ·exact List.nodup_cons.2 ⟨fun h => kq.1 (Bz _ h), mR (by simpa using kq.2)⟩
 ·intro b hb
  have fe : b ∈ RR (.obj o) := by
   rw [gM]
   rcases List.mem_cons.1 hb with h | h
   ·simp [h]
   ·exact List.mem_cons.2 (.inr (Bz b h))
  exact ⟨by simpa using (hi.own _ _ fe).1, hi.pL fe, hi.rQ (.inl fe)⟩
theorem aa.CA {t : TypeId} {x : Operand} {o s i k Eo tv : Nat} {rows row : List (List X)} {zK : List X} {rs : List (List X)} (ht : TY.size P t = some 1) (hx : bx st x = some (.ptr o s i k)) (hy : look st.a7 tv = some (.di Eo rows)) (_h : row = row)
  (ho : look st.aA o = some (.rows s rs)) (hr : rs[i]? = some zK) (hk : k + 1 ≤ zK.length) (kk : aa P N all rest ((st.put tv .no).dE o (.rows s (rs.set i (gW zK k [.di Eo rows])))) Q) :
  aa P N all (⟨none, .store t x (.tmp tv), ty, pos, af, none⟩ :: rest) st Q := by
 refine aa.Cz (fun G E RR a Oc hi => ?_) kk
 have hv := hi.a7 tv _ hy
 have te : br E [X.di Eo rows] (a.eval (.tmp tv)).cells.toList (RR (.slot tv)) := hv.flat rfl
 obtain ⟨R', hp⟩ := hi.eval hx
 simp only [RX] at hp
 obtain ⟨_, B, hB, hc⟩ := hp
 have aP := hi.aA o _ ho
 have iP := hi.nodup (.obj o)
 simp only [dD] at aP
 obtain ⟨hu, aP⟩ := aP
 rcases aP with ⟨_, h, _⟩ | ⟨B', cs, tb, R', g7, hw, hφ, kl, hlen, iJ, gM⟩
 ·subst h; simp at hr
 rw [hB] at g7
 obtain rfl := Option.some.inj g7
 have rW := br.length te
 have et : (a.eval (.tmp tv)).cells.size = 1 := by simpa using rW
 have EU : rs.length * s ≤ B.cap * s := Nat.mul_le_mul_right s kl
 have wT : i < rs.length := by
  rcases Nat.lt_or_ge i rs.length with h' | h'
  ·exact h'
  ·simp [List.getElem?_eq_none h'] at hr
 have mP : zK.length = s := hu zK (List.mem_of_getElem? hr)
 have HW : i * s + s ≤ rs.length * s := by
  have : (i + 1) * s ≤ rs.length * s := Nat.mul_le_mul_right s wT
  rw [Nat.add_mul] at this; omega
 have gh := kr (P := P) (off := B.off + (i * s + k)) ht et hw om (br.kU te)
 have ks : B.b ∈ RR (.obj o) := by rw [gM]; simp
 have z4 := ct.setRow G E B.b (ir cs (B.off + (i * s + k)) (a.eval (.tmp tv)).cells.toList) hφ (hi.pL ks)
 rw [gM] at iP
 have kq := List.nodup_cons.1 iP
 have wU : ∀ b ∈ RR (.slot tv), b ∉ RR (.obj o) := fun b hb fe => hi.apart _ _ (by simp) b hb fe
 have gL : ∀ wV, (∀ b ∈ wV, b ≠ B.b) → E.On { E with w := E.w.setRow B.b (ir cs (B.off + (i * s + k)) (a.eval (.tmp tv)).cells.toList) } wV :=
  fun wV h => ⟨fun _ _ _ h => h, fun b hb => ⟨setRow_other E.w B.b b _ (h b hb), fun h => h⟩⟩
 have wR := br.mono _ _ _ (gL (RR (.slot tv)) (fun b hb e => wU b hb (by rw [e]; exact ks))) (fun _ _ => rfl) te
 have wS := bR.mono _ _ _ _ (gL R' (fun b hb e => kq.1 (by rw [← e]; exact hb))) iJ
 obtain ⟨R₁, tu, cF, mR⟩ := bR.set (i := i) (k := k) hu wS hr (by simpa using hk) wR rfl om
 have jT := hi.no tv
 have EV : (R' ++ RR (.slot tv)).Nodup := by
  rw [List.nodup_append]
  refine ⟨kq.2, hi.nodup _, fun x hx y hy e => wU y hy ?_⟩
  rw [← e, gM]; exact List.mem_cons.2 (.inr hx)
 have tz : e9 RR (.slot tv) [] (.obj o) = RR (.obj o) := by simp [e9]
 refine ⟨_, _, ?_, jT.wM (E' := { E with w := E.w.setRow B.b (ir cs (B.off + (i * s + k)) (a.eval (.tmp tv)).cells.toList) }) z4 (o := o) (R := B.b :: R₁) (fun b h => by subst h; rw [tz]; exact ks) rfl ?_ ?_ ?_⟩
 ·show (do Instr.storeAt t (a.eval x) (a.eval (.tmp tv)); Pure.pure Next.skip : Sem Next).run P E.w = _
  rw [hc]
  exact wI gh
 ·simp only [dD]
  refine ⟨hu.set (by rw [iO (by simpa using hk)]; exact mP), .inr ⟨B, _, tb, R₁, hB, setRow_heap E.w B.b cs _ tb _ hw, hφ, by simpa using kl, by rw [kS (by simp at rW ⊢; omega)]; exact hlen, tu, rfl⟩⟩
 ·refine List.nodup_cons.2 ⟨fun h => ?_, mR EV⟩
  rcases cF _ h with h' | h'
  ·exact kq.1 h'
  ·exact wU _ h' ks
 ·intro b hb
  have cA : b ∈ RR (.obj o) ∨ b ∈ RR (.slot tv) := by
   rw [gM]
   rcases List.mem_cons.1 hb with h | h
   ·exact .inl (by simp [h])
   ·rcases cF b h with h' | h'
    ·exact .inl (List.mem_cons.2 (.inr h'))
    ·exact .inr h'
  have BA : b < E.w.heap.size ∧ ¬ G.K b := by rcases cA with h | h <;> exact hi.own _ _ h
  refine ⟨by simpa using BA.1, BA.2, fun p hp v9 => ?_⟩
  have CB : p ≠ .slot tv ∧ b ∈ RR p := by
   unfold e9 at v9
   split at v9
   ·cases v9
   ·rename_i h; exact ⟨h, v9⟩
  rcases cA with h | h
  ·exact hi.apart _ _ hp b CB.2 h
  ·exact hi.apart _ _ CB.1 b CB.2 h
theorem Sh.EW {s : Nat} {rows : List (List X)} (o : Nat) (hx : look st.a7 d = some (.di s rows)) (hF : N.F.elem o = false) : Sh N st (((st.kill o).dE o (.rows s rows)).put d (.aY o s 0 rows.length)) := by
 intro G hn a w hh
 obtain ⟨E, RR, rfl, hi⟩ := hh
 have hv := hi.a7 d _ hx
 have iP := hi.nodup (.slot d)
 simp only [RX] at hv
 obtain ⟨hu, base, cap, hc, cA⟩ := hv
 have jT := hi.no d
 have BB : ∀ (E' : Env) (eC : Own → List Nat), Inv G E' eC (((st.put d .no).kill o).dE o (.rows s rows)) a → (∃ R, R = [] ∧ RX E' (.aY o s 0 rows.length) (a.tmps.getD d undef) R) →
   bT G (((st.kill o).dE o (.rows s rows)).put d (.aY o s 0 rows.length)) a E'.w := by
  intro E' eC h3 ⟨R, hR, iK⟩
  subst hR
  have h4 := h3.relabel (d := d) iK List.nodup_nil (fun _ h => by cases h)
  refine ⟨E', e9 eC (.slot d) [], rfl, ?_⟩
  refine { h4 with a7 := fun q y hy => h4.a7 q y ?_, aA := fun q y hy => h4.aA q y hy }
  simp only [St.put, St.dE, St.kill, qT, List.map_cons, look] at hy ⊢
  cases hb : Nat.beq d q with
  | true => rw [hb] at hy; simpa using hy
  | false => rw [hb] at hy; simpa using hy
 have hβ : ∀ (bk : Option Bw), ct G E { E with β := fun q => if q = o then bk else E.β q } (fun _ => False) := fun _ =>
  ⟨rfl, fun _ h => h.elim, fun _ h => h.elim, fun _ _ _ => rfl, Nat.le_refl _, rfl, rfl, rfl⟩
 rcases cA with ⟨h1, h2, h3⟩ | ⟨b, off, cs, ty, R', hb, hw, hl, ho, hφ, iJ, gM⟩
 ·have h4 := jT.lx (hβ none) (o := o) (ob := .rows s rows) (R := []) (fun _ h => h.elim) (fun q hq => by simp [hq]) (fun h => by rw [hn, hF] at h; cases h)
   (by simp only [dD]; exact ⟨hu, .inl ⟨by simp, h1, trivial⟩⟩) List.nodup_nil (fun _ h => by cases h)
  refine BB { E with β := fun q => if q = o then none else E.β q } _ h4 ⟨[], rfl, ?_⟩
  simp only [RX]
  exact ⟨trivial, base, cap, hc, .inl ⟨by simp, trivial, by simp [h1], h2⟩⟩
 ·rw [gM] at iP
  have kq := List.nodup_cons.1 iP
  have gL : E.On { E with β := fun q => if q = o then some ⟨b, off, cap⟩ else E.β q } R' := ⟨fun _ _ _ h => h, fun _ _ => ⟨rfl, fun h => h⟩⟩
  have h4 := jT.lx (hβ (some ⟨b, off, cap⟩)) (o := o) (ob := .rows s rows) (R := b :: R') (fun _ h => h.elim) (fun q hq => by simp [hq]) (fun h => by rw [hn, hF] at h; cases h)
   (by simp only [dD]; exact ⟨hu, .inr ⟨⟨b, off, cap⟩, cs, ty, R', by simp, hw, hφ, hl, ho, bR.mono _ _ _ _ gL iJ, rfl⟩⟩) iP
   (fun c mo => by
    have hm : c ∈ RR (.slot d) := by rw [gM]; exact mo
    refine ⟨(hi.own _ _ hm).1, (hi.own _ _ hm).2, fun p hp qQ => ?_⟩
    unfold e9 at qQ
    split at qQ
    ·cases qQ
    ·rename_i h; exact hi.apart _ _ h c qQ hm)
  refine BB { E with β := fun q => if q = o then some ⟨b, off, cap⟩ else E.β q } _ h4 ⟨[], rfl, ?_⟩
  simp only [RX]
  exact ⟨trivial, base, cap, hc, .inr ⟨⟨b, off, cap⟩, by simp, by simp, hl, .inr (by simpa using hb)⟩⟩
theorem Sh.cU {s o n : Nat} {rows : List (List X)} (hx : look st.a7 d = some (.aY o s 0 n)) (ho : look st.aA o = some (.rows s rows)) (hl : n = rows.length) (hF : N.F.elem o = false) :
  Sh N st (((st.kill o).dE o (.rows 0 [])).put d (.di s rows)) := by
 intro G hn a w hh
 obtain ⟨E, RR, rfl, hi⟩ := hh
 subst hl
 have hv := hi.a7 d _ hx
 have aP := hi.aA o _ ho
 have iP := hi.nodup (.obj o)
 simp only [RX] at hv
 obtain ⟨_, base, cap, hc, cA⟩ := hv
 simp only [dD] at aP
 obtain ⟨hu, aP⟩ := aP
 have hβ : ct G E { E with β := fun q => if q = o then none else E.β q } (fun _ => False) :=
  ⟨rfl, fun _ h => h.elim, fun _ h => h.elim, fun _ _ _ => rfl, Nat.le_refl _, rfl, rfl, rfl⟩
 have h4 := hi.lx hβ (o := o) (ob := .rows 0 []) (R := []) (fun _ h => h.elim) (fun q hq => by simp [hq]) (fun h => by rw [hn, hF] at h; cases h)
  (by simp only [dD]; exact ⟨fun _ h => (by cases h), .inl ⟨by simp, trivial, trivial⟩⟩) List.nodup_nil (fun _ h => by cases h)
 have EX : ∀ c ∈ RR (.obj o), c < E.w.heap.size ∧ ¬ G.K c ∧ ∀ p, p ≠ .slot d → c ∉ eV st RR o [] p := by
  intro c mo
  refine ⟨(hi.own _ _ mo).1, (hi.own _ _ mo).2, fun p _ qQ => ?_⟩
  cases p with
  | obj q =>
   by_cases hq : q = o
   ·subst hq; simp [eV] at qQ
   ·have : c ∈ RR (.obj q) := by simpa [eV, hq] using qQ
    exact hi.apart (.obj q) (.obj o) (by simpa using hq) c this mo
  | slot q =>
   rcases j9 st RR o [] q with h | h
   ·rw [h] at qQ; cases qQ
   ·rw [h] at qQ; exact hi.apart (.slot q) (.obj o) (by simp) c qQ mo
 have Od : ∃ R, RX { E with β := fun q => if q = o then none else E.β q } (.di s rows) (a.tmps.getD d undef) R ∧ R.Nodup ∧ ∀ b ∈ R, b ∈ RR (.obj o) := by
  simp only [RX]
  rcases aP with ⟨h1, h2, h3⟩ | ⟨B, cs, ty, R', hB, hw, hφ, kl, et, iJ, gM⟩
  ·rcases cA with ⟨_, _, _, h5⟩ | ⟨B, hB, _⟩
   ·exact ⟨[], ⟨hu, base, cap, hc, .inl ⟨h2, h5, rfl⟩⟩, List.nodup_nil, fun _ h => by cases h⟩
   ·rw [h1] at hB; cases hB
  ·rcases cA with ⟨h1, _⟩ | ⟨B', g7, v7, o5, hb⟩
   ·rw [hB] at h1; cases h1
   ·rw [hB] at g7
    obtain rfl := Option.some.inj g7
    have gL : E.On { E with β := fun q => if q = o then none else E.β q } R' := ⟨fun _ _ _ h => h, fun _ _ => ⟨rfl, fun h => h⟩⟩
    rcases hb with hb | hb
    ·refine ⟨[], ⟨hu, base, cap, hc, .inl ⟨List.eq_nil_of_length_eq_zero om, hb, rfl⟩⟩, List.nodup_nil, fun _ h => by cases h⟩
    ·refine ⟨RR (.obj o), ⟨hu, base, cap, hc, .inr ⟨B.b, B.off, cs, ty, R', by simpa using hb, hw, om, by rw [show cap = B.cap by omega]; exact et, hφ, bR.mono _ _ _ _ gL iJ, gM⟩⟩, iP, fun _ h => h⟩
 obtain ⟨R, o8, vA, Oe⟩ := Od
 exact ⟨{ E with β := fun q => if q = o then none else E.β q }, _, rfl, h4.relabel o8 vA (fun c hc => EX c (Oe c hc))⟩
end
end Go.AW
namespace Go.AW
open Go
structure Src (E : Env) (s : Nat) (new : List (List X)) (c : Value) (R : List Nat) : Prop where
 ex : ∃ base cap, ∃ vs : List Value, c = .slice (some base) new.length cap ∧ vs.length = new.length * s ∧ (∀ j v, vs[j]? = some v → E.w.cell? (base.add j) = some v) ∧ (∀ v ∈ vs, v.oneCell' = true) ∧
  ∀ (E' : Env) (cs : Array Value) (off : Nat), E.On E' R → (∀ j, j < vs.length → cs[off + j]? = vs[j]?) → bR E' new cs off R
 di : bG s new
theorem bR.rX {E : Env} : ∀ {rs : List (List X)} {cs : Array Value} {off : Nat} {R : List Nat}, bR E rs cs off R → ∃ vs : List Value, vs.length = rs.flatten.length ∧ (∀ j v, vs[j]? = some v → cs[off + j]? = some v) ∧ (∀ v ∈ vs, v.oneCell' = true)
 | [], _, _, _, _ => ⟨[], rfl, by simp, by simp⟩
 | r :: rs, cs, off, R, h => by
  simp only [bR] at h
  obtain ⟨R₁, R₂, _, h1, h2, _⟩ := h
  obtain ⟨vs, hl, hv, hx⟩ := RO.cells h1
  obtain ⟨IG, uF, IH, ll⟩ := bR.rX h2
  refine ⟨vs ++ IG, by simp [hl, uF], ?_, ?_⟩
  ·intro j v hj
   by_cases kT : j < vs.length
   ·rw [List.getElem?_append_left kT] at hj; exact hv j v hj
   ·rw [List.getElem?_append_right om] at hj
    have := IH _ v hj
    rw [show off + j = off + r.length + (j - vs.length) by omega]; exact this
  ·intro v II
   rcases List.mem_append.1 II with h' | h'
   ·exact br.kU hx v h'
   ·exact ll v h'
theorem gJ.rX {E : Env} : ∀ {rs : List (List X)} {b off : Nat}, gJ E rs b off → ∃ vs : List Value, vs.length = rs.flatten.length ∧ (∀ j v, vs[j]? = some v → E.φ b (off + j) = some v) ∧ (∀ v ∈ vs, v.oneCell' = true) ∧
   ∀ (E' : Env) (cs : Array Value) (o : Nat), E.On E' [] → (∀ j, j < vs.length → cs[o + j]? = vs[j]?) → bR E' rs cs o []
 | [], _, _, _ => ⟨[], rfl, by simp, by simp, fun _ _ _ _ _ => by simp [bR]⟩
 | r :: rs, b, off, h => by
  simp only [gJ] at h
  obtain ⟨vs, hl, hv, hx⟩ := RF.cells h.1
  obtain ⟨IG, uF, IH, ll, Og⟩ := gJ.rX h.2
  have wz : ∀ (row : List X) (b off : Nat), RF E row b off → X.fm row = true := by
   intro row
   induction row with
   | nil => intro _ _ _; rfl
   | cons x t ih =>
    intro b off h
    simp only [RF] at h
    obtain ⟨⟨_, _, _, hn, _⟩, h2⟩ := h
    simp only [X.fm, hn, ih b _ h2, Bool.and_self]
  refine ⟨vs ++ IG, by simp [hl, uF], ?_, ?_, ?_⟩
  ·intro j v hj
   by_cases kT : j < vs.length
   ·rw [List.getElem?_append_left kT] at hj; exact hv j v hj
   ·rw [List.getElem?_append_right om] at hj
    have := IH _ v hj
    rw [show off + j = off + r.length + (j - vs.length) by omega]; exact this
  ·intro v II
   rcases List.mem_append.1 II with h' | h'
   ·exact br.kU hx v h'
   ·exact ll v h'
  ·intro E' cs o hE rU
   simp only [bR]
   refine ⟨[], [], wz r b off h.1, ?_, ?_, rfl⟩
   ·refine br.C6 (br.mono _ _ _ hE (fun q hq => by rw [X.ei (wz r b off h.1)] at hq; cases hq) hx) fun j hj => ?_
    rw [rU j (by simp; omega), List.getElem?_append_left om]
   ·refine Og E' cs _ hE fun j hj => ?_
    have := rU (vs.length + j) (by simp; omega)
    rw [List.getElem?_append_right om] at this
    rw [← hl, Nat.add_assoc, this]
    congr 1
    omega
section
variable {P : Program} {N : dV} {G : Ctx} {E : Env} {RR : Own → List Nat} {st : St} {a : Act}
theorem Src.EY {s : Nat} {new : List (List X)} {c : Value} {R : List Nat} (h : RX E (.di s new) c R) (eB : 0 < new.length) : ∃ R', Src E s new c R' ∧ (∀ b ∈ R', b ∈ R) ∧ (R.Nodup → R'.Nodup) := by
 simp only [RX] at h
 obtain ⟨hu, base, cap, hc, h⟩ := h
 rcases h with ⟨h1, _⟩ | ⟨b, off, cs, ty, R', hb, hw, hl, ho, hφ, iJ, hR⟩
 ·subst h1; simp at eB
 obtain ⟨vs, EP, hv, tA⟩ := bR.rX iJ
 refine ⟨R', ⟨⟨⟨b, off, none⟩, cap, vs, by rw [hc, hb], by rw [EP, length_flatten hu], fun j v hj => by rw [eY, cp hw]; exact hv j v hj, tA, ?_⟩, hu⟩, fun c hc => by rw [hR]; simp [hc], fun h => by rw [hR] at h; exact (List.nodup_cons.1 h).2⟩
 intro E' c1 o9 hE rU
 have h1 := bR.mono _ _ _ _ hE iJ
 -- move the cells from off to o9
 have key : ∀ (rs : List (List X)) (o1 o2 : Nat) (R : List Nat), (∀ j, j < rs.flatten.length → c1[o2 + j]? = cs[o1 + j]?) → bR E' rs cs o1 R → bR E' rs c1 o2 R := by
  have CC : ∀ (xs : List X) (o1 o2 : Nat) (R : List Nat), (∀ j, j < xs.length → c1[o2 + j]? = cs[o1 + j]?) → RO E' xs cs o1 R → RO E' xs c1 o2 R := by
   intro xs
   induction xs with
   | nil => intro _ _ _ _ h; simpa [RO] using h
   | cons x r ih =>
    intro o1 o2 R he h
    simp only [RO] at h ⊢
    obtain ⟨u, R₁, R₂, hu, hs, h1, h2, hR⟩ := h
    refine ⟨u, R₁, R₂, ?_, hs, h1, ih _ _ _ (fun j hj => ?_) h2, hR⟩
    ·have := he 0 (by simp)
     simp only [Nat.add_zero] at this
     rw [this]; exact hu
    ·have := he (j + 1) (by simp; omega)
     rw [show o2 + 1 + j = o2 + (j + 1) by omega, show o1 + 1 + j = o1 + (j + 1) by omega]; exact this
  intro rs
  induction rs with
  | nil => intro _ _ _ _ h; simpa [bR] using h
  | cons x r ih =>
   intro o1 o2 R he h
   simp only [bR] at h ⊢
   obtain ⟨R₁, R₂, hn, h1, h2, hR⟩ := h
   refine ⟨R₁, R₂, hn, CC _ _ _ _ (fun j hj => he j (by simp; omega)) h1, ih _ _ _ (fun j hj => ?_) h2, hR⟩
   have := he (x.length + j) (by simp at hj ⊢; omega)
   rw [Nat.add_assoc, Nat.add_assoc]; exact this
 refine key new off o9 R' (fun j hj => ?_) h1
 rw [rU j om]
 have kT : j < vs.length := by omega
 rw [List.getElem?_eq_getElem kT]
 exact (hv j _ (List.getElem?_eq_getElem kT)).symm
theorem Src.IJ (hi : Inv G E RR st a) {s : Nat} {new : List (List X)} {c : Value} {R : List Nat} (h : RX E (.fz s new) c R) (eB : 0 < new.length) : Src E s new c [] := by
 simp only [RX] at h
 obtain ⟨_, hu, base, cap, hc, h⟩ := h
 rcases h with ⟨h1, _⟩ | ⟨b, off, hb, hl, hf⟩
 ·subst h1; simp at eB
 obtain ⟨vs, EP, hv, tA, hr⟩ := gJ.rX hf
 exact ⟨⟨⟨b, off, none⟩, cap, vs, by rw [hc, hb], by rw [EP, length_flatten hu], fun j v hj => by rw [eY]; exact hi.kh _ _ _ (hv j v hj), tA, hr⟩, hu⟩
theorem oA {t e s cy n cap m ty : Nat} {base : Option Addr} {b2 : Addr} {c2 : Nat} {gN news z : List Value} (ht : TY.slice P t = some (e, s, cy)) (hz : TY.zero P e = some z) (nE : z.length = s) (hm : 0 < m)
  (oB : gN.length = n * s) (hold : ∀ j v, gN[j]? = some v → ∃ b off, base = some ⟨b, off, none⟩ ∧ E.w.cell? ⟨b, off + j, none⟩ = some v) (zL : base = none → n = 0 ∧ cap = 0)
  (uK : news.length = m * s) (lF : ∀ j v, news[j]? = some v → E.w.cell? (b2.add j) = some v) (tA : ∀ v ∈ news, v.oneCell' = true) (mS : (n + m) * cy ≤ 140737488355328) (w7 : n + m ≤ 4611686018427387904)
  (uL : n + m ≤ cap → ∃ b off cs tb, base = some ⟨b, off, none⟩ ∧ E.w.heap[b]? = some (.cells cs tb (0, 0)) ∧ off + cap * s ≤ cs.size) :
  (∃ b off cs tb, base = some ⟨b, off, none⟩ ∧ E.w.heap[b]? = some (.cells cs tb (0, 0)) ∧ n + m ≤ cap ∧ off + cap * s ≤ cs.size ∧
   (Builtin.append_ #[t, t] ty #[.slice base n cap, .slice (some b2) m c2]).run P E.w = .ok (.slice base (n + m) cap) (E.w.setRow b (ir cs (off + n * s) news))) ∨
  (∃ oC rest, n + m ≤ oC ∧ rest.size = (oC - (n + m)) * s ∧
   (Builtin.append_ #[t, t] ty #[.slice base n cap, .slice (some b2) m c2]).run P E.w = .ok (.slice (some ⟨E.w.heap.size, 0, none⟩) (n + m) oC) (E.w.drew.alloc (.cells ((gN ++ news).toArray ++ rest) e))) := by
 obtain ⟨hu, i, fh, hs, By⟩ := TY.c7 ht
 obtain ⟨i', z0, me, w4, w5⟩ := TY.ez hz
 rw [fh] at me
 obtain rfl := Option.some.inj me
 have IK : z0.cells.size = s := by
  have : z0.cells.toList.length = z.length := by rw [w5]
  simpa [nE] using this
 by_cases hr : n + m ≤ cap
 ·obtain ⟨b, off, cs, tb, hb, hw, et⟩ := uL hr
  refine .inl ⟨b, off, cs, tb, hb, hw, hr, et, ?_⟩
  have IL : (n + m) * s ≤ cap * s := Nat.mul_le_mul_right s hr
  rw [Nat.add_mul] at IL
  have hf := run_firstCells_some (P := P) E.w i.size m b2 m c2 news (by rw [hs]; exact uK) lF
  have wQ := run_storeCells_at P b (off + n * s) tb news 0 cs E.w hw om tA
  simp only [Nat.add_zero] at wQ
  subst hb
  rw [hs] at hf
  simp [Builtin.append_, run_underlying hu, sizeOf, typeInfo, fh, Builtin.lenOf, hr, hf, eY, hs, wQ, ir]
 ·refine .inr ?_
  have nU : Builtin.nextslicecap (n + m) cap * i.bytes ≤ 281474976710656 := growslice_fits om (by rw [By]; omega)
  have Mc : ∀ k, (Builtin.zeroCells z0.cells k).size = k * s := fun k => by rw [size_zeroCells, IK]
  cases q4 : base with
  | none =>
   obtain ⟨rfl, rfl⟩ := zL q4
   have holds : gN = [] := List.eq_nil_of_length_eq_zero (by simpa using oB)
   subst holds
   refine ⟨grownCap E.w m 0 e, _, by have := grownCap_ge E.w m 0 e; omega, Mc _, ?_⟩
   have := run_append_nil (P := P) E.w t ty e i z0 hu fh w4 b2 m c2 news (by rw [hs]; exact uK) lF hm om (by
    have : m * cy ≤ 140737488355328 := by simpa using mS
    rw [By]; omega)
   simpa using this
  | some bb =>
   have EZ : ∀ j v, gN[j]? = some v → E.w.cell? (bb.add j) = some v := by
    intro j v hj
    obtain ⟨b, off, hb, hc⟩ := hold j v hj
    rw [q4] at hb
    obtain rfl := Option.some.inj hb
    rw [eY]; exact hc
   refine ⟨grownCap E.w (n + m) cap e, _, grownCap_ge E.w (n + m) cap e, Mc _, ?_⟩
   have := run_append_grow (P := P) E.w t ty e i z0 hu fh w4 bb n cap gN (by rw [hs]; exact oB) EZ b2 m c2 news (by rw [hs]; exact uK) lF om om nU
   rw [this]
   simp
theorem bR.tB {E : Env} {rs : List (List X)} {cs : Array Value} {off s lo n : Nat} {R : List Nat} (hu : bG s rs) (h : bR E rs cs off R) (hl : lo + n ≤ rs.length) :
  ∃ R', bR E ((rs.drop lo).take n) cs (off + lo * s) R' ∧ (∀ b ∈ R', b ∈ R) ∧ (R.Nodup → R'.Nodup) := by
 have h0 : rs = rs.take lo ++ ((rs.drop lo).take n ++ rs.drop (lo + n)) := by
  conv => lhs; rw [← List.take_append_drop lo rs, ← List.take_append_drop n (rs.drop lo), List.drop_drop]
 rw [h0] at h
 obtain ⟨R₁, R₂, h1, h2, rfl⟩ := bR.mq h
 obtain ⟨R₃, R₄, h3, h4, rfl⟩ := bR.mq h2
 rw [length_flatten (hu.take lo), List.length_take, Nat.min_eq_left om] at h3
 refine ⟨R₃, h3, fun b hb => by simp [hb], fun hn => ?_⟩
 have := (List.nodup_append.1 hn).2.1
 exact (List.nodup_append.1 this).1
theorem Inv.append (hi : Inv G E RR st a) {t e s cy ty : Nat} {z : List Value} {o lo n : Nat} {rs new : List (List X)} {c c2 : Value} {R2 : List Nat} (ht : TY.slice P t = some (e, s, cy)) (hz : TY.zero P e = some z) (nE : z.length = s)
  (hx : RX E (.aY o s lo n) c []) (ho : look st.aA o = some (.rows s rs)) (lH : lo + n ≤ rs.length) (wW : Src E s new c2 R2) (hm : 0 < new.length) (vA : R2.Nodup) (mT : ∀ b ∈ R2, b < E.w.heap.size ∧ ¬ G.K b ∧ ∀ p, b ∉ RR p)
  (mS : (n + new.length) * cy ≤ 140737488355328) (w7 : n + new.length ≤ 4611686018427387904) (hF : G.fn.F.elem o = false) :
  ∃ u E' eC, (Builtin.append_ #[t, t] ty #[c, c2]).run P E.w = .ok u E'.w ∧ Inv G E' eC ((st.kill o).dE o (.rows s (((rs.drop lo).take n) ++ new))) a ∧ RX E' (.aY o s 0 (n + new.length)) u [] := by
 have aP := hi.aA o _ ho
 have iP := hi.nodup (.obj o)
 simp only [RX] at hx
 obtain ⟨_, base, cap, rfl, cA⟩ := hx
 simp only [dD] at aP
 obtain ⟨hu, aP⟩ := aP
 obtain ⟨⟨b2, Oh, news, rfl, uK, lF, tA, Fa⟩, tc⟩ := wW
 have tf : ((rs.drop lo).take n).length = n := by simp; omega
 have hU : bG s (((rs.drop lo).take n) ++ new) := by
  intro r hr
  rcases List.mem_append.1 hr with h | h
  ·exact (hu.drop lo).take n r h
  ·exact tc r h
 have Fb : ∀ b ∈ R2, b ∉ RR (.obj o) := fun b hb => (mT b hb).2.2 _
 -- the IM cells, as values, and what lies in them
 have hold : ∃ (gN : List Value) (R1 : List Nat), gN.length = n * s ∧ (∀ j v, gN[j]? = some v → ∃ b off, base = some ⟨b, off, none⟩ ∧ E.w.cell? ⟨b, off + j, none⟩ = some v) ∧ (∀ b ∈ R1, b ∈ RR (.obj o)) ∧ R1.Nodup ∧
   (base = none → n = 0 ∧ cap = 0) ∧
   (∀ (E' : Env) (c1 : Array Value) (o9 : Nat), E.On E' R1 → (∀ j, j < gN.length → c1[o9 + j]? = gN[j]?) → bR E' ((rs.drop lo).take n) c1 o9 R1) ∧
   (n + new.length ≤ cap → ∃ B cs tb, E.β o = some B ∧ base = some ⟨B.b, B.off + lo * s, none⟩ ∧ E.w.heap[B.b]? = some (.cells cs tb (0, 0)) ∧ B.off + lo * s + cap * s ≤ cs.size ∧ (∀ i, E.φ B.b i = none) ∧ B.b ∈ RR (.obj o) ∧ B.b ∉ R1) := by
  by_cases kt : cap = 0
  ·have zL : n = 0 := by rcases cA with ⟨_, _, h, _⟩ | ⟨_, _, _, h, _⟩ <;> omega
   subst zL
   refine ⟨[], [], by simp, by simp, by simp, List.nodup_nil, fun _ => ⟨rfl, kt⟩, fun _ _ _ _ _ => by simp [bR], fun h => by omega⟩
  ·rcases cA with ⟨_, _, _, h⟩ | ⟨B, hB, EK, o5, hb⟩
   ·exact absurd h kt
   have fe := hb.resolve_left kt
   rcases aP with ⟨h1, _⟩ | ⟨B', cs, tb, R', g7, hw, hφ, qQ, et, iJ, gM⟩
   ·rw [hB] at h1; cases h1
   rw [hB] at g7
   obtain rfl := Option.some.inj g7
   rw [gM] at iP
   obtain ⟨rY, kq⟩ := List.nodup_cons.1 iP
   obtain ⟨R1, vB, cF, CD⟩ := bR.tB hu iJ lH
   obtain ⟨gN, oB, Fc, _⟩ := bR.rX vB
   rw [length_flatten ((hu.drop lo).take n), tf] at oB
   refine ⟨gN, R1, oB, fun j v hj => ⟨B.b, B.off + lo * s, fe, by rw [cp hw]; exact Fc j v hj⟩, fun b hb => by rw [gM]; simp [cF b hb], CD kq, (fun h => by rw [fe] at h; cases h), ?_, ?_⟩
   ·intro E' c1 o9 hE rU
    have h1 := bR.mono _ _ _ _ hE vB
    have key : ∀ (rs : List (List X)) (o1 o2 : Nat) (R : List Nat), (∀ j, j < rs.flatten.length → c1[o2 + j]? = cs[o1 + j]?) → bR E' rs cs o1 R → bR E' rs c1 o2 R := by
     have CC : ∀ (xs : List X) (o1 o2 : Nat) (R : List Nat), (∀ j, j < xs.length → c1[o2 + j]? = cs[o1 + j]?) → RO E' xs cs o1 R → RO E' xs c1 o2 R := by
      intro xs
      induction xs with
      | nil => intro _ _ _ _ h; simpa [RO] using h
      | cons x r ih =>
       intro o1 o2 R he h
       simp only [RO] at h ⊢
       obtain ⟨u, R₁, R₂, hu, hs, h1, h2, hR⟩ := h
       refine ⟨u, R₁, R₂, ?_, hs, h1, ih _ _ _ (fun j hj => ?_) h2, hR⟩
       ·have := he 0 (by simp)
        simp only [Nat.add_zero] at this
        rw [this]; exact hu
       ·have := he (j + 1) (by simp; omega)
        rw [show o2 + 1 + j = o2 + (j + 1) by omega, show o1 + 1 + j = o1 + (j + 1) by omega]; exact this
     intro rs
     induction rs with
     | nil => intro _ _ _ _ h; simpa [bR] using h
     | cons x r ih =>
      intro o1 o2 R he h
      simp only [bR] at h ⊢
      obtain ⟨R₁, R₂, hn, h1, h2, hR⟩ := h
      refine ⟨R₁, R₂, hn, CC _ _ _ _ (fun j hj => he j (by simp; omega)) h1, ih _ _ _ (fun j hj => ?_) h2, hR⟩
      have := he (x.length + j) (by simp at hj ⊢; omega)
      rw [Nat.add_assoc, Nat.add_assoc]; exact this
    refine key _ (B.off + lo * s) o9 R1 (fun j hj => ?_) h1
    have kT : j < gN.length := by
     rw [length_flatten ((hu.drop lo).take n), tf] at hj
     omega
    rw [rU j kT, List.getElem?_eq_getElem kT]
    exact (Fc j _ (List.getElem?_eq_getElem kT)).symm
   ·intro _
    refine ⟨B, cs, tb, hB, fe, hw, ?_, hφ, by rw [gM]; simp, fun h => rY (cF _ h)⟩
    have : B.cap = lo + cap := EK.symm
    rw [this, Nat.add_mul] at et
    omega
 obtain ⟨gN, R1, oB, Fc, o8, IN, zL, BC, uL⟩ := hold
 have mR : (R1 ++ R2).Nodup := by
  rw [List.nodup_append]
  exact ⟨IN, vA, fun x hx y hy e => Fb y hy (by rw [← e]; exact o8 x hx)⟩
 rcases oA (P := P) (E := E) (ty := ty) ht hz nE hm oB Fc zL uK lF tA mS w7 (fun h => by
   obtain ⟨B, cs, tb, _, h2, h3, h4, _⟩ := uL h
   exact ⟨B.b, B.off + lo * s, cs, tb, h2, h3, h4⟩) with ⟨b, off, cs, tb, q4, hw, nU, et, gh⟩ | ⟨oC, rest, Md, Fe, gh⟩
 ·-- in place
  obtain ⟨B, Me, Qu, hB, tC, nV, Ff, hφ, ks, Fg⟩ := uL nU
  rw [q4] at tC
  simp only [Option.some.injEq, Addr.mk.injEq, and_true] at tC
  obtain ⟨rfl, rfl⟩ := tC
  rw [hw] at nV
  simp only [Option.some.injEq, Go.Obj.cells.injEq] at nV
  obtain ⟨rfl, rfl, _⟩ := nV
  have IL : (n + new.length) * s ≤ cap * s := Nat.mul_le_mul_right s nU
  rw [Nat.add_mul] at IL
  have IP : B.off + lo * s + n * s + news.length ≤ cs.size := by omega
  let E' : Env := { E with w := E.w.setRow B.b (ir cs (B.off + lo * s + n * s) news), β := fun q => if q = o then some ⟨B.b, B.off + lo * s, cap⟩ else E.β q }
  have Fh : B.b ∉ R2 := fun h => Fb _ h ks
  have gL : ∀ wV, (∀ b ∈ wV, b ≠ B.b) → E.On E' wV := fun wV h => ⟨fun _ _ _ h => h, fun b hb => ⟨setRow_other E.w B.b b _ (h b hb), fun h => h⟩⟩
  have z4 : ct G E E' (fun c => c = B.b) := { ct.setRow G E B.b (ir cs (B.off + lo * s + n * s) news) hφ (hi.pL ks) with φ := rfl }
  have wX : bR E' (((rs.drop lo).take n) ++ new) (ir cs (B.off + lo * s + n * s) news) (B.off + lo * s) (R1 ++ R2) := by
   refine bR.app (BC E' _ _ (gL R1 (fun b hb e => Fg (by rw [← e]; exact hb))) fun j hj => ?_) ?_
   ·rw [ko IP (.inl om)]
    have := Fc j _ (List.getElem?_eq_getElem hj)
    obtain ⟨b, off, hb, hc⟩ := this
    rw [q4] at hb
    simp only [Option.some.injEq, Addr.mk.injEq, and_true] at hb
    obtain ⟨rfl, rfl⟩ := hb
    rw [cp hw] at hc
    rw [hc, List.getElem?_eq_getElem hj]
   ·rw [length_flatten ((hu.drop lo).take n), tf]
    exact Fa E' _ _ (gL R2 (fun b hb e => Fh (by rw [← e]; exact hb))) fun j hj => uI IP hj
  refine ⟨_, E', _, gh, hi.lx z4 (o := o) (R := B.b :: (R1 ++ R2)) (fun b h => by subst h; exact ks) (fun q hq => by simp [E', hq]) (fun h => by rw [hF] at h; cases h) ?_ ?_ ?_, ?_⟩
  ·simp only [dD]
   refine ⟨hU, .inr ⟨⟨B.b, B.off + lo * s, cap⟩, _, tb, R1 ++ R2, by simp [E'], setRow_heap E.w B.b cs _ tb _ hw, hφ, by simp [tf]; omega, by rw [kS IP]; exact et, wX, rfl⟩⟩
  ·refine List.nodup_cons.2 ⟨fun h => ?_, mR⟩
   rcases List.mem_append.1 h with h | h
   ·exact Fg h
   ·exact Fh h
  ·intro b hb
   have hs : E'.w.heap.size = E.w.heap.size := by simp [E']
   rw [hs]
   rcases List.mem_cons.1 hb with h | h
   ·subst h; exact ⟨(hi.own _ _ ks).1, hi.pL ks, hi.rQ (.inl ks)⟩
   ·rcases List.mem_append.1 h with h | h
    ·exact ⟨(hi.own _ _ (o8 b h)).1, hi.pL (o8 b h), hi.rQ (.inl (o8 b h))⟩
    ·exact ⟨(mT b h).1, (mT b h).2.1, fun p _ => (mT b h).2.2 p⟩
  ·simp only [RX]
   exact ⟨trivial, _, cap, rfl, .inr ⟨⟨B.b, B.off + lo * s, cap⟩, by simp [E'], by simp, om, .inr (by simpa using q4)⟩⟩
 ·-- in a new block
  let E' : Env := { E with w := E.w.drew.alloc (.cells ((gN ++ news).toArray ++ rest) e), β := fun q => if q = o then some ⟨E.w.heap.size, 0, oC⟩ else E.β q }
  have z4 : ct G E E' (fun _ => False) := by
   have h1 := (ct.drew G E).trans (ct.alloc G { E with w := E.w.drew } (.cells ((gN ++ news).toArray ++ rest) e)) (fun _ h => h.elim)
   exact { h1 with φ := rfl }
  have gL : ∀ wV, (∀ b ∈ wV, b < E.w.heap.size) → E.On E' wV := fun wV h => ⟨fun _ _ _ h => h, fun b hb => ⟨z4.same b (h b hb) (fun h => h), fun h => h⟩⟩
  have w8 : ∀ j, j < (gN ++ news).length → ((gN ++ news).toArray ++ rest)[0 + j]? = (gN ++ news)[j]? := by
   intro j hj
   rw [Nat.zero_add, Array.getElem?_append_left (by simpa using hj)]
   simp
  have et : ((gN ++ news).toArray ++ rest).size = oC * s := by
   simp [Fe, oB, uK]
   have : oC * s = (n + new.length) * s + (oC - (n + new.length)) * s := by rw [← Nat.add_mul]; congr 1; omega
   rw [this, Nat.add_mul]
  have wX : bR E' (((rs.drop lo).take n) ++ new) ((gN ++ news).toArray ++ rest) 0 (R1 ++ R2) := by
   refine bR.app (BC E' _ _ (gL R1 (fun b hb => (hi.own _ _ (o8 b hb)).1)) fun j hj => ?_) ?_
   ·rw [w8 j (by simp; omega), List.getElem?_append_left hj]
   ·rw [length_flatten ((hu.drop lo).take n), tf]
    refine Fa E' _ _ (gL R2 (fun b hb => (mT b hb).1)) fun j hj => ?_
    have := w8 (gN.length + j) (by simp; omega)
    rw [List.getElem?_append_right om] at this
    rw [show 0 + n * s + j = 0 + (gN.length + j) by omega, this]
    congr 1; omega
  have Fi : E.w.heap.size ∉ R1 ++ R2 := by
   intro h
   rcases List.mem_append.1 h with h | h
   ·have := (hi.own _ _ (o8 _ h)).1; omega
   ·have := (mT _ h).1; omega
  have I3 : E'.w.heap.size = E.w.heap.size + 1 := by simp [E']
  refine ⟨_, E', _, gh, hi.lx z4 (o := o) (R := E.w.heap.size :: (R1 ++ R2)) (fun _ h => h.elim) (fun q hq => by simp [E', hq]) (fun h => by rw [hF] at h; cases h) ?_ ?_ ?_, ?_⟩
  ·simp only [dD]
   refine ⟨hU, .inr ⟨⟨E.w.heap.size, 0, oC⟩, _, e, R1 ++ R2, by simp [E'], ?_, fun i => ?_, by simp [tf]; omega, by rw [et]; simp, wX, rfl⟩⟩
   ·have := heap_alloc E.w.drew (.cells ((gN ++ news).toArray ++ rest) e)
    exact this
   ·show E.φ E.w.heap.size i = none
    cases h : E.φ E.w.heap.size i with
    | none => rfl
    | some v => exact absurd (World.block_lt_of_cell? E.w _ (hi.kh _ _ _ h)) (by simp)
  ·exact List.nodup_cons.2 ⟨Fi, mR⟩
  ·intro b hb
   rw [I3]
   rcases List.mem_cons.1 hb with h | h
   ·subst h
    refine ⟨om, fun hK => ?_, hi.rQ (.inr (Nat.le_refl _))⟩
    have := hi.small _ hK
    have := hi.size
    omega
   ·rcases List.mem_append.1 h with h | h
    ·exact ⟨by have := (hi.own _ _ (o8 b h)).1; omega, hi.pL (o8 b h), hi.rQ (.inl (o8 b h))⟩
    ·exact ⟨by have := (mT b h).1; omega, (mT b h).2.1, fun p _ => (mT b h).2.2 p⟩
  ·simp only [RX]
   exact ⟨trivial, _, oC, rfl, .inr ⟨⟨E.w.heap.size, 0, oC⟩, by simp [E'], by simp, om, .inr (by simp)⟩⟩
end
end Go.AW
namespace Go.AW
open Go
section
variable {P : Program} {N : dV} {G : Ctx} {E : Env} {RR : Own → List Nat} {st : St} {a : Act}
theorem Inv.trim (hi : Inv G E RR st a) {o s lo n : Nat} {rs : List (List X)} {c : Value} (hx : RX E (.aY o s lo n) c []) (ho : look st.aA o = some (.rows s rs)) (lH : lo + n ≤ rs.length) (hF : G.fn.F.elem o = false) :
  ∃ E' eC, E'.w = E.w ∧ Inv G E' eC ((st.kill o).dE o (.rows s ((rs.drop lo).take n))) a ∧ RX E' (.aY o s 0 n) c [] := by
 have aP := hi.aA o _ ho
 have iP := hi.nodup (.obj o)
 simp only [RX] at hx
 obtain ⟨_, base, cap, rfl, cA⟩ := hx
 simp only [dD] at aP
 obtain ⟨hu, aP⟩ := aP
 have hβ : ∀ (bk : Option Bw), ct G E { E with β := fun q => if q = o then bk else E.β q } (fun _ => False) := fun _ =>
  ⟨rfl, fun _ h => h.elim, fun _ h => h.elim, fun _ _ _ => rfl, Nat.le_refl _, rfl, rfl, rfl⟩
 have tf : ((rs.drop lo).take n).length = n := by simp; omega
 by_cases kt : cap = 0
 ·have zL : n = 0 := by rcases cA with ⟨_, _, h, _⟩ | ⟨_, _, _, h, _⟩ <;> omega
  subst zL
  refine ⟨{ E with β := fun q => if q = o then none else E.β q }, _, rfl, hi.lx (hβ none) (o := o) (R := []) (fun _ h => h.elim) (fun q hq => by simp [hq]) (fun h => by rw [hF] at h; cases h) ?_ List.nodup_nil (fun _ h => by cases h), ?_⟩
  ·simp only [dD]; exact ⟨fun _ h => (by simp at h), .inl ⟨by simp, by simp, trivial⟩⟩
  ·simp only [RX]; exact ⟨trivial, base, cap, rfl, .inl ⟨by simp, trivial, trivial, kt⟩⟩
 ·rcases cA with ⟨_, _, _, h⟩ | ⟨B, hB, EK, o5, hb⟩
  ·exact absurd h kt
  have fe := hb.resolve_left kt
  rcases aP with ⟨h1, _⟩ | ⟨B', cs, tb, R', g7, hw, hφ, qQ, et, iJ, gM⟩
  ·rw [hB] at h1; cases h1
  rw [hB] at g7
  obtain rfl := Option.some.inj g7
  rw [gM] at iP
  obtain ⟨rY, kq⟩ := List.nodup_cons.1 iP
  obtain ⟨R1, vB, cF, CD⟩ := bR.tB hu iJ lH
  have gL : E.On { E with β := fun q => if q = o then some ⟨B.b, B.off + lo * s, cap⟩ else E.β q } R1 := ⟨fun _ _ _ h => h, fun _ _ => ⟨rfl, fun h => h⟩⟩
  refine ⟨{ E with β := fun q => if q = o then some ⟨B.b, B.off + lo * s, cap⟩ else E.β q }, _, rfl, hi.lx (hβ (some ⟨B.b, B.off + lo * s, cap⟩)) (o := o) (R := B.b :: R1) (fun _ h => h.elim) (fun q hq => by simp [hq]) (fun h => by rw [hF] at h; cases h) ?_ (List.nodup_cons.2 ⟨fun h => rY (cF _ h), CD kq⟩) ?_, ?_⟩
  ·simp only [dD]
   refine ⟨(hu.drop lo).take n, .inr ⟨⟨B.b, B.off + lo * s, cap⟩, cs, tb, R1, by simp, hw, hφ, by simp [tf]; omega, ?_, bR.mono _ _ _ _ gL vB, rfl⟩⟩
   have : B.cap = lo + cap := EK.symm
   rw [this, Nat.add_mul] at et
   simp only; omega
  ·intro b wY
   have hm : b ∈ RR (.obj o) := by
    rw [gM]
    rcases List.mem_cons.1 wY with h | h
    ·simp [h]
    ·simp [cF b h]
   exact ⟨(hi.own _ _ hm).1, hi.pL hm, hi.rQ (.inl hm)⟩
  ·simp only [RX]
   exact ⟨trivial, base, cap, rfl, .inr ⟨⟨B.b, B.off + lo * s, cap⟩, by simp, by simp, o5, .inr (by simpa using fe)⟩⟩
theorem Sh.trim {d o s lo n : Nat} {rs : List (List X)} (hx : look st.a7 d = some (.aY o s lo n)) (ho : look st.aA o = some (.rows s rs)) (lH : lo + n ≤ rs.length) (hF : N.F.elem o = false) :
  Sh N st (((st.kill o).dE o (.rows s ((rs.drop lo).take n))).put d (.aY o s 0 n)) := by
 intro G hn a w hh
 obtain ⟨E, RR, rfl, hi⟩ := hh
 have hv := hi.a7 d _ hx
 have h0 : RR (.slot d) = [] := RX.free (x := .aY o s lo n) rfl hv
 rw [h0] at hv
 obtain ⟨E', eC, hw, h1, h2⟩ := hi.trim hv ho lH (by rw [hn]; exact hF)
 exact ⟨E', _, hw, h1.relabel h2 List.nodup_nil (fun _ h => by cases h)⟩
theorem Inv.nil (hi : Inv G E RR st a) (o s : Nat) (hF : G.fn.F.elem o = false) : ∃ E' eC, E'.w = E.w ∧ Inv G E' eC ((st.kill o).dE o (.rows s [])) a ∧ RX E' (.aY o s 0 0) (.slice none 0 0) [] := by
 have hβ : ct G E { E with β := fun q => if q = o then none else E.β q } (fun _ => False) :=
  ⟨rfl, fun _ h => h.elim, fun _ h => h.elim, fun _ _ _ => rfl, Nat.le_refl _, rfl, rfl, rfl⟩
 refine ⟨{ E with β := fun q => if q = o then none else E.β q }, _, rfl, hi.lx hβ (o := o) (R := []) (fun _ h => h.elim) (fun q hq => by simp [hq]) (fun h => by rw [hF] at h; cases h) ?_ List.nodup_nil (fun _ h => by cases h), ?_⟩
 ·simp only [dD]; exact ⟨fun _ h => (by cases h), .inl ⟨by simp, trivial, trivial⟩⟩
 ·simp only [RX]; exact ⟨trivial, none, 0, rfl, .inl ⟨by simp, by trivial, by trivial, by trivial⟩⟩
theorem Sh.nil {d : Nat} (o s : Nat) (hx : look st.a7 d = some (.v (.slice none 0 0))) (hF : N.F.elem o = false) : Sh N st (((st.kill o).dE o (.rows s [])).put d (.aY o s 0 0)) := by
 intro G hn a w hh
 obtain ⟨E, RR, rfl, hi⟩ := hh
 have hv := hi.a7 d _ hx
 simp only [RX] at hv
 obtain ⟨E', eC, hw, h1, h2⟩ := hi.nil o s (by rw [hn]; exact hF)
 refine ⟨E', _, hw, h1.relabel (d := d) (by rw [hv.1]; exact h2) List.nodup_nil (fun _ h => by cases h)⟩
theorem Sh.IQ {d : Nat} (s : Nat) (hx : look st.a7 d = some (.v (.slice none 0 0))) : Sh N st (st.put d (.fz s [])) := by
 intro G hn a w hh
 obtain ⟨E, RR, rfl, hi⟩ := hh
 have hv := hi.a7 d _ hx
 simp only [RX] at hv
 refine ⟨E, _, rfl, hi.relabel (d := d) (R := []) ?_ List.nodup_nil (fun _ h => by cases h)⟩
 rw [hv.1]
 simp only [RX]
 exact ⟨trivial, fun _ h => (by cases h), none, 0, rfl, .inl ⟨by trivial, by trivial⟩⟩
theorem Sh.pM {d : Nat} (s : Nat) (hx : look st.a7 d = some (.v (.slice none 0 0))) : Sh N st (st.put d (.di s [])) := by
 intro G hn a w hh
 obtain ⟨E, RR, rfl, hi⟩ := hh
 have hv := hi.a7 d _ hx
 simp only [RX] at hv
 refine ⟨E, _, rfl, hi.relabel (d := d) (R := []) ?_ List.nodup_nil (fun _ h => by cases h)⟩
 rw [hv.1]
 simp only [RX]
 exact ⟨fun _ h => (by cases h), none, 0, rfl, .inl ⟨by trivial, by trivial, by trivial⟩⟩
theorem jU {t e s cy ty n cap : Nat} {base b2 : Option Addr} {c2 : Nat} (ht : TY.slice P t = some (e, s, cy)) (hc : n ≤ cap) (w : World) :
  (Builtin.append_ #[t, t] ty #[.slice base n cap, .slice b2 0 c2]).run P w = .ok (.slice base n cap) w := by
 obtain ⟨hu, i, fh, hs, By⟩ := TY.c7 ht
 have h0 : ∀ a : Addr, (storeCells a []).run P w = .ok () w := fun _ => rfl
 cases b2 with
 | none =>
  cases base with
  | none => simp [Builtin.append_, run_underlying hu, sizeOf, typeInfo, fh, Builtin.lenOf, hc, Builtin.firstCells]
  | some b => simp [Builtin.append_, run_underlying hu, sizeOf, typeInfo, fh, Builtin.lenOf, hc, Builtin.firstCells, h0]
 | some b' =>
  have hl : ∀ a : Addr, (loadCells a 0).run P w = .ok #[] w := fun _ => rfl
  cases base with
  | none => simp [Builtin.append_, run_underlying hu, sizeOf, typeInfo, fh, Builtin.lenOf, hc, Builtin.firstCells, hl]
  | some b => simp [Builtin.append_, run_underlying hu, sizeOf, typeInfo, fh, Builtin.lenOf, hc, Builtin.firstCells, h0, hl]
variable {Q : Exit → St → Prop} {all : Array Oper} {rest : List Oper} {d : Nat} {ty : TypeId} {pos : String} {af : Array Edge}
theorem fQ {x y : Operand} {t : Nat} {w w' : World} {u : Value} (h : (Builtin.append_ #[t, t] ty #[a.eval x, a.eval y]).run P w = .ok u w') :
  (execOp a.eval ⟨some d, .call ⟨.builtin .append, #[x, y], #[t, t]⟩, ty, pos, af, none⟩).run P w = .ok (.value u) w' := by
 refine fC (g := none) ?_
 have e : (#[x, y] : Array Operand).map a.eval = #[a.eval x, a.eval y] := by simp
 rw [e]
 exact cE h
theorem aa.append {t e s cy tv : Nat} {z : List Value} {x : Operand} {o lo n : Nat} {rs new : List (List X)} (ht : TY.slice P t = some (e, s, cy)) (hz : TY.zero P e = some z) (nE : Nat.beq z.length s = true)
  (hy : look st.a7 tv = some (.di s new)) (hx : bx (st.put tv .no) x = some (.aY o s lo n)) (ho : look st.aA o = some (.rows s rs)) (lH : lo + n ≤ rs.length)
  (mS : (n + new.length) * cy ≤ 140737488355328) (w7 : n + new.length ≤ 4611686018427387904) (hF : N.F.elem o = false) (hd : d < N.n)
  (k : aa P N all rest (((((st.put tv .no).kill o).dE o (.rows s (((rs.drop lo).take n) ++ new)))).put d (.aY o s 0 (n + new.length))) Q) :
  aa P N all (⟨some d, .call ⟨.builtin .append, #[x, .tmp tv], #[t, t]⟩, ty, pos, af, none⟩ :: rest) st Q := by
 refine aa.wO (fun G E RR a hn hi => ?_) k
 have hv := hi.a7 tv _ hy
 have jT := hi.no tv
 obtain ⟨R, v8⟩ := jT.eval hx
 have h0 : R = [] := RX.free (x := .aY o s lo n) rfl v8
 subst h0
 have Fj : G.fn.F.elem o = false := by rw [hn]; exact hF
 by_cases hm : 0 < new.length
 ·obtain ⟨R2, wW, cF, iP⟩ := Src.EY hv hm
  obtain ⟨u, E', eC, gh, h1, h2⟩ := jT.append (ty := ty) ht hz (Nat.eq_of_beq_eq_true nE) v8 ho lH wW hm (iP (hi.nodup _)) (fun b hb => by
   have fe := cF b hb
   refine ⟨(hi.own _ _ fe).1, (hi.own _ _ fe).2, fun p hp => ?_⟩
   unfold e9 at hp
   split at hp
   ·cases hp
   ·rename_i h; exact hi.apart _ _ h b hp fe) mS w7 Fj
  exact ⟨u, E', _, fQ gh, h1.fg (by rw [hn]; exact hd) h2⟩
 ·have lF : new = [] := List.eq_nil_of_length_eq_zero om
  subst lF
  obtain ⟨E', eC, hw, h1, h2⟩ := jT.trim v8 ho lH Fj
  simp only [List.append_nil, List.length_nil, Nat.add_zero]
  refine ⟨a.eval x, E', _, ?_, h1.fg (by rw [hn]; exact hd) h2⟩
  rw [hw]
  refine fQ ?_
  simp only [RX] at v8 hv
  obtain ⟨_, base, cap, hc, cA⟩ := v8
  obtain ⟨_, b2, c2, IS, _⟩ := hv
  have IT : a.eval (.tmp tv) = .slice b2 0 c2 := IS
  rw [hc, IT]
  exact jU ht (by rcases cA with ⟨_, _, h3, h4⟩ | ⟨_, _, _, h3, _⟩ <;> omega) E.w
theorem aa.zM {t e s cy : Nat} {z : List Value} {x y : Operand} {o lo n : Nat} {rs new : List (List X)} (ht : TY.slice P t = some (e, s, cy)) (hz : TY.zero P e = some z) (nE : Nat.beq z.length s = true)
  (hy : bx st y = some (.fz s new)) (hx : bx st x = some (.aY o s lo n)) (ho : look st.aA o = some (.rows s rs)) (lH : lo + n ≤ rs.length)
  (mS : (n + new.length) * cy ≤ 140737488355328) (w7 : n + new.length ≤ 4611686018427387904) (hF : N.F.elem o = false) (hd : d < N.n)
  (k : aa P N all rest ((((st.kill o).dE o (.rows s (((rs.drop lo).take n) ++ new)))).put d (.aY o s 0 (n + new.length))) Q) :
  aa P N all (⟨some d, .call ⟨.builtin .append, #[x, y], #[t, t]⟩, ty, pos, af, none⟩ :: rest) st Q := by
 refine aa.wO (fun G E RR a hn hi => ?_) k
 obtain ⟨R', hv⟩ := hi.eval hy
 obtain ⟨R, v8⟩ := hi.eval hx
 have h0 : R = [] := RX.free (x := .aY o s lo n) rfl v8
 subst h0
 have Fj : G.fn.F.elem o = false := by rw [hn]; exact hF
 by_cases hm : 0 < new.length
 ·have wW := Src.IJ hi hv hm
  obtain ⟨u, E', eC, gh, h1, h2⟩ := hi.append (ty := ty) ht hz (Nat.eq_of_beq_eq_true nE) v8 ho lH wW hm List.nodup_nil (fun _ h => by cases h) mS w7 Fj
  exact ⟨u, E', _, fQ gh, h1.fg (by rw [hn]; exact hd) h2⟩
 ·have lF : new = [] := List.eq_nil_of_length_eq_zero om
  subst lF
  obtain ⟨E', eC, hw, h1, h2⟩ := hi.trim v8 ho lH Fj
  simp only [List.append_nil, List.length_nil, Nat.add_zero]
  refine ⟨a.eval x, E', _, ?_, h1.fg (by rw [hn]; exact hd) h2⟩
  rw [hw]
  refine fQ ?_
  simp only [RX] at v8 hv
  obtain ⟨_, base, cap, hc, cA⟩ := v8
  obtain ⟨_, _, b2, c2, IS, _⟩ := hv
  rw [hc, IS]
  exact jU ht (by rcases cA with ⟨_, _, h3, h4⟩ | ⟨_, _, _, h3, _⟩ <;> omega) E.w
end
end Go.AW
