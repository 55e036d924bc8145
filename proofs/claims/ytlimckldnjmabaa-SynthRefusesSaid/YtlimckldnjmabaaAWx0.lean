/- Part of the abstract walk: values as trees, objects by name, and what they say of the model's values and memory. -/
import Derived.WalkKit
set_option linter.unusedSimpArgs false
set_option linter.unusedVariables false
set_option linter.unusedSectionVars false
namespace Go.AW
open Go
theorem om {p : Prop} (h : p := by omega) : p := h
theorem aU {p : Prop} (h : p := by kernel_rfl) : p := h
theorem ag {p : Prop} (h : p := by decide) : p := h
theorem ik {p : Prop} (h : p := by assumption) : p := h
theorem O3 {p : Prop} (h : p := by (simp only [List.length_append, List.length_cons, List.length_nil]; omega)) : p := h
theorem mi {p : Prop} (h : p := by first | rfl | simp_all) : p := h
theorem bj {p : Prop} (h : p := by first | rfl | omega) : p := h
theorem aF {p : Prop} (h : p := by first | omega | simp [-List.getD_eq_getElem?_getD] <;> omega) : p := h
theorem pt {p : Prop} (h : p := by first | omega | (simp [-List.getD_eq_getElem?_getD]; done) | (simp [-List.getD_eq_getElem?_getD]; omega)) : p := h
theorem O4 {p : Prop} (h : p := by (constructor <;> (simp only [List.length_append, List.length_cons, List.length_nil]; omega))) : p := h
inductive X where
 | v (u : Value)
 | no
 | fz (s : Nat) (rows : List (List X))
 | cX (s : Nat) (rows : List (List X))
 | ptr (o s i k : Nat)
 | aR (o s lo n : Nat)
 | mref (o : Nat)
 | fp (row : List X) (k : Nat)
 | agg (xs : List X)
 | tup (xs : List X)
 | fH (fn : Fn) (first ml : List X)
mutual
def X.nr : X → Bool
 | .v _ | .no | .fz .. | .cX .. | .fp .. => true
 | .ptr .. | .aR .. | .mref _ => false
 | .agg xs => X.eU xs
 | .tup xs => X.eU xs
 | .fH _ a b => X.eU a && X.eU b
def X.eU : List X → Bool
 | [] => true
 | x :: r => x.nr && X.eU r
end
mutual
def X.cY (o : Nat) : X → Bool
 | .v _ | .no | .fz .. | .cX .. | .fp .. => false
 | .ptr p .. => Nat.beq p o
 | .aR p .. => Nat.beq p o
 | .mref p => Nat.beq p o
 | .agg xs => X.cq o xs
 | .tup xs => X.cq o xs
 | .fH _ a b => X.cq o a || X.cq o b
def X.cq (o : Nat) : List X → Bool
 | [] => false
 | x :: r => x.cY o || X.cq o r
end
mutual
def X.free : X → Bool
 | .v _ | .no | .fz .. | .ptr .. | .aR .. | .mref _ | .fp .. | .fH .. => true
 | .cX .. => false
 | .agg xs => X.aW xs
 | .tup xs => X.aW xs
def X.aW : List X → Bool
 | [] => true
 | x :: r => x.free && X.aW r
end
structure zV where
 b : Nat
 off : Nat
 cap : Nat
abbrev Fz := Nat → Nat → Option Value
structure Env where
 φ : Fz
 β : Nat → Option zV
 w : World
def gm : Value → Prop
 | .agg _ | .tuple _ => False
 | _ => True
def bA (s : Nat) (rows : List (List X)) : Prop := ∀ r ∈ rows, r.length = s
mutual
def RX (E : Env) : X → Value → List Nat → Prop
 | .v u, c, R => c = u ∧ R = []
 | .no, _, R => R = []
 | .fz s rows, c, R => R = [] ∧ bA s rows ∧ ∃ base cap, c = .slice base rows.length cap ∧
   ((rows = [] ∧ cap = 0) ∨ ∃ b off, base = some ⟨b, off, none⟩ ∧ rows.length ≤ cap ∧ gp E rows b off)
 | .cX s rows, c, R => bA s rows ∧ ∃ base cap, c = .slice base rows.length cap ∧
   ((rows = [] ∧ cap = 0 ∧ R = []) ∨ ∃ b off cs ty R', base = some ⟨b, off, none⟩ ∧ E.w.heap[b]? = some (.cells cs ty (0, 0)) ∧
    rows.length ≤ cap ∧ off + cap * s ≤ cs.size ∧ (∀ i, E.φ b i = none) ∧ bM E rows cs off R' ∧ R = b :: R')
 | .ptr o s i k, c, R => R = [] ∧ ∃ B, E.β o = some B ∧ c = .pointer (some ⟨B.b, B.off + (i * s + k), none⟩)
 | .aR o s lo n, c, R => R = [] ∧ ∃ base cap, c = .slice base n cap ∧
   ((E.β o = none ∧ lo = 0 ∧ n = 0 ∧ cap = 0) ∨ ∃ B, E.β o = some B ∧ lo + cap = B.cap ∧ n ≤ cap ∧ (cap = 0 ∨ base = some ⟨B.b, B.off + lo * s, none⟩))
 | .mref o, c, R => R = [] ∧ ∃ B, E.β o = some B ∧ c = .map (some B.b)
 | .fp row k, c, R => R = [] ∧ ∃ b off, c = .pointer (some ⟨b, off + k, none⟩) ∧ RF E row b off
 | .agg xs, c, R => ∃ cs, c = .agg cs ∧ bg E xs cs.toList R
 | .tup xs, c, R => ∃ cs, c = .tuple cs ∧ dy E xs cs.toList R
 | .fH fn first ml, c, R => R = [] ∧ ∃ f cc, c = .func fn f cc ∧ dy E first f.toList [] ∧ dy E ml cc.toList []
def bg (E : Env) : List X → List Value → List Nat → Prop
 | [], cs, R => cs = [] ∧ R = []
 | x :: r, cs, R => ∃ c cp R₁ R₂, cs = c :: cp ∧ gm c ∧ RX E x c R₁ ∧ bg E r cp R₂ ∧ R = R₁ ++ R₂
def dy (E : Env) : List X → List Value → List Nat → Prop
 | [], cs, R => cs = [] ∧ R = []
 | x :: r, cs, R => ∃ c cp R₁ R₂, cs = c :: cp ∧ RX E x c R₁ ∧ dy E r cp R₂ ∧ R = R₁ ++ R₂
def RF (E : Env) : List X → Nat → Nat → Prop
 | [], _, _ => True
 | x :: r, b, off => (∃ u, E.φ b off = some u ∧ gm u ∧ x.nr = true ∧ RX E x u []) ∧ RF E r b (off + 1)
def gp (E : Env) : List (List X) → Nat → Nat → Prop
 | [], _, _ => True
 | r :: rs, b, off => RF E r b off ∧ gp E rs b (off + r.length)
def RO (E : Env) : List X → Array Value → Nat → List Nat → Prop
 | [], _, _, R => R = []
 | x :: r, cs, off, R => ∃ u R₁ R₂, cs[off]? = some u ∧ gm u ∧ RX E x u R₁ ∧ RO E r cs (off + 1) R₂ ∧ R = R₁ ++ R₂
def bM (E : Env) : List (List X) → Array Value → Nat → List Nat → Prop
 | [], _, _, R => R = []
 | r :: rs, cs, off, R => ∃ R₁ R₂, X.eU r = true ∧ RO E r cs off R₁ ∧ bM E rs cs (off + r.length) R₂ ∧ R = R₁ ++ R₂
end
inductive Obj where
 | cells (xs : List X)
 | rows (s : Nat) (rs : List (List X))
 | s4 (es : List (Value × Value))
 | gone
end Go.AW
namespace Go.AW
open Go
theorem bK {α} {a : α} {l r : List α} (h : a ∈ l) : a ∈ l ++ r := List.mem_append.2 (.inl h)
theorem bC {α} {a : α} {l r : List α} (h : a ∈ r) : a ∈ l ++ r := List.mem_append.2 (.inr h)
def Env.On (E E' : Env) (R : List Nat) : Prop :=
 (∀ b i v, E.φ b i = some v → E'.φ b i = some v) ∧ ∀ b ∈ R, E'.w.heap[b]? = E.w.heap[b]? ∧ ((∀ i, E.φ b i = none) → ∀ i, E'.φ b i = none)
theorem Env.On.sub {E E' : Env} {R R' : List Nat} (h : E.On E' R) (hs : ∀ b ∈ R', b ∈ R) : E.On E' R' := ⟨h.1, fun b hb => h.2 b (hs b hb)⟩
mutual
theorem X.kT : ∀ {x : X}, x.nr = true → ∀ o, x.cY o = false
 | .v _, _, _ | .no, _, _ | .fz .., _, _ | .cX .., _, _ | .fp .., _, _ => rfl
 | .agg xs, h, o => X.dX (xs := xs) h o
 | .tup xs, h, o => X.dX (xs := xs) h o
 | .fH _ a b, h, o => by
  simp only [X.nr, Bool.and_eq_true] at h
  simp only [X.cY, X.dX h.1 o, X.dX h.2 o, Bool.or_self]
theorem X.dX : ∀ {xs : List X}, X.eU xs = true → ∀ o, X.cq o xs = false
 | [], _, _ => rfl
 | x :: r, h, o => by
  simp only [X.eU, Bool.and_eq_true] at h
  simp only [X.cq, X.kT h.1 o, X.dX h.2 o, Bool.or_self]
end
mutual
theorem RX.mono {E E' : Env} : ∀ (x : X) (c : Value) (R : List Nat), E.On E' R → (∀ o, x.cY o = true → E'.β o = E.β o) → RX E x c R → RX E' x c R
 | .v u, c, R, _, _, h => by simpa [RX] using h
 | .no, c, R, _, _, h => by simpa [RX] using h
 | .fz s rows, c, R, hE, _, h => by
  simp only [RX] at h ⊢
  obtain ⟨hR, hu, base, cap, hc, hh⟩ := h
  refine ⟨hR, hu, base, cap, hc, ?_⟩
  rcases hh with hh | ⟨b, off, hb, hl, hf⟩
  ·exact .inl hh
  ·exact .inr ⟨b, off, hb, hl, gp.mono rows b off (hE.sub (by simp)) hf⟩
 | .cX s rows, c, R, hE, _, h => by
  simp only [RX] at h ⊢
  obtain ⟨hu, base, cap, hc, hh⟩ := h
  refine ⟨hu, base, cap, hc, ?_⟩
  rcases hh with hh | ⟨b, off, cs, ty, R', hb, hw, hl, ho, hf, hr, hR⟩
  ·exact .inl hh
  ·subst hR
   have h2 := hE.2 b (by simp)
   exact .inr ⟨b, off, cs, ty, R', hb, h2.1.trans hw, hl, ho, h2.2 hf, bM.mono rows cs off R' (hE.sub (fun _ h => by simp [h])) hr, rfl⟩
 | .ptr o s i k, c, R, _, hβ, h => by
  simp only [RX] at h ⊢
  rw [hβ o (by simp [X.cY])]; exact h
 | .aR o s lo n, c, R, _, hβ, h => by
  simp only [RX] at h ⊢
  rw [hβ o (by simp [X.cY])]; exact h
 | .mref o, c, R, _, hβ, h => by
  simp only [RX] at h ⊢
  rw [hβ o (by simp [X.cY])]; exact h
 | .fp row k, c, R, hE, _, h => by
  simp only [RX] at h ⊢
  obtain ⟨hR, b, off, hc, hf⟩ := h
  exact ⟨hR, b, off, hc, RF.mono row b off (hE.sub (by simp)) hf⟩
 | .agg xs, c, R, hE, hβ, h => by
  simp only [RX] at h ⊢
  obtain ⟨cs, hc, hs⟩ := h
  exact ⟨cs, hc, bg.mono xs _ R hE (fun o ho => hβ o (by simp [X.cY, ho])) hs⟩
 | .tup xs, c, R, hE, hβ, h => by
  simp only [RX] at h ⊢
  obtain ⟨cs, hc, hs⟩ := h
  exact ⟨cs, hc, dy.mono xs _ R hE (fun o ho => hβ o (by simp [X.cY, ho])) hs⟩
 | .fH fn a b, c, R, hE, hβ, h => by
  simp only [RX] at h ⊢
  obtain ⟨hR, f, cc, hc, h1, h2⟩ := h
  exact ⟨hR, f, cc, hc, dy.mono a _ [] (hE.sub (by simp)) (fun o ho => hβ o (by simp [X.cY, ho])) h1, dy.mono b _ [] (hE.sub (by simp)) (fun o ho => hβ o (by simp [X.cY, ho])) h2⟩
theorem bg.mono {E E' : Env} : ∀ (xs : List X) (cs : List Value) (R : List Nat), E.On E' R → (∀ o, X.cq o xs = true → E'.β o = E.β o) → bg E xs cs R → bg E' xs cs R
 | [], _, _, _, _, h => by simpa [bg] using h
 | x :: r, cs, R, hE, hβ, h => by
  simp only [bg] at h ⊢
  obtain ⟨c, cp, R₁, R₂, hc, hs, h1, h2, hR⟩ := h
  subst hR
  exact ⟨c, cp, R₁, R₂, hc, hs, RX.mono x c R₁ (hE.sub (fun _ h => bK h)) (fun o ho => hβ o (by simp [X.cq, ho])) h1,
   bg.mono r cp R₂ (hE.sub (fun _ h => bC h)) (fun o ho => hβ o (by simp [X.cq, ho])) h2, rfl⟩
theorem dy.mono {E E' : Env} : ∀ (xs : List X) (cs : List Value) (R : List Nat), E.On E' R → (∀ o, X.cq o xs = true → E'.β o = E.β o) → dy E xs cs R → dy E' xs cs R
 | [], _, _, _, _, h => by simpa [dy] using h
 | x :: r, cs, R, hE, hβ, h => by
  simp only [dy] at h ⊢
  obtain ⟨c, cp, R₁, R₂, hc, h1, h2, hR⟩ := h
  subst hR
  exact ⟨c, cp, R₁, R₂, hc, RX.mono x c R₁ (hE.sub (fun _ h => bK h)) (fun o ho => hβ o (by simp [X.cq, ho])) h1,
   dy.mono r cp R₂ (hE.sub (fun _ h => bC h)) (fun o ho => hβ o (by simp [X.cq, ho])) h2, rfl⟩
theorem RF.mono {E E' : Env} : ∀ (xs : List X) (b off : Nat), E.On E' [] → RF E xs b off → RF E' xs b off
 | [], _, _, _, _ => by simp [RF]
 | x :: r, b, off, hE, h => by
  simp only [RF] at h ⊢
  obtain ⟨⟨u, hu, hs, hn, hx⟩, hr⟩ := h
  exact ⟨⟨u, hE.1 _ _ _ hu, hs, hn, RX.mono x u [] hE (fun o ho => by rw [X.kT hn] at ho; cases ho) hx⟩, RF.mono r b (off + 1) hE hr⟩
theorem gp.mono {E E' : Env} : ∀ (rs : List (List X)) (b off : Nat), E.On E' [] → gp E rs b off → gp E' rs b off
 | [], _, _, _, _ => by simp [gp]
 | r :: rs, b, off, hE, h => by
  simp only [gp] at h ⊢
  exact ⟨RF.mono r b off hE h.1, gp.mono rs b _ hE h.2⟩
theorem RO.mono {E E' : Env} : ∀ (xs : List X) (cs : Array Value) (off : Nat) (R : List Nat), E.On E' R → (∀ o, X.cq o xs = true → E'.β o = E.β o) → RO E xs cs off R → RO E' xs cs off R
 | [], _, _, _, _, _, h => by simpa [RO] using h
 | x :: r, cs, off, R, hE, hβ, h => by
  simp only [RO] at h ⊢
  obtain ⟨u, R₁, R₂, hu, hs, h1, h2, hR⟩ := h
  subst hR
  exact ⟨u, R₁, R₂, hu, hs, RX.mono x u R₁ (hE.sub (fun _ h => bK h)) (fun o ho => hβ o (by simp [X.cq, ho])) h1,
   RO.mono r cs (off + 1) R₂ (hE.sub (fun _ h => bC h)) (fun o ho => hβ o (by simp [X.cq, ho])) h2, rfl⟩
theorem bM.mono {E E' : Env} : ∀ (rs : List (List X)) (cs : Array Value) (off : Nat) (R : List Nat), E.On E' R → bM E rs cs off R → bM E' rs cs off R
 | [], _, _, _, _, h => by simpa [bM] using h
 | r :: rs, cs, off, R, hE, h => by
  simp only [bM] at h ⊢
  obtain ⟨R₁, R₂, hn, h1, h2, hR⟩ := h
  subst hR
  exact ⟨R₁, R₂, hn, RO.mono r cs off R₁ (hE.sub (fun _ h => bK h)) (fun o ho => by rw [X.dX hn] at ho; cases ho) h1,
   bM.mono rs cs _ R₂ (hE.sub (fun _ h => bC h)) h2, rfl⟩
end
end Go.AW
namespace Go.AW
open Go
def look {α : Type} : List (Nat × α) → Nat → Option α
 | [], _ => none
 | (t, x) :: r, s => bif Nat.beq t s then some x else look r s
structure St where
 ax : List (Nat × X)
 ay : List (Nat × Obj)
def dq (E : Env) (o : Nat) : Obj → List Nat → Prop
 | .cells xs, R => X.aW xs = true ∧ ∃ B cs ty, E.β o = some B ∧ E.w.heap[B.b]? = some (.cells cs ty (0, 0)) ∧ (∀ i, E.φ B.b i = none) ∧ B.off + xs.length ≤ cs.size ∧ RO E xs cs B.off [] ∧ R = [B.b]
 | .rows s rs, R => bA s rs ∧ ((E.β o = none ∧ rs = [] ∧ R = []) ∨ ∃ B cs ty R', E.β o = some B ∧ E.w.heap[B.b]? = some (.cells cs ty (0, 0)) ∧ (∀ i, E.φ B.b i = none) ∧
   rs.length ≤ B.cap ∧ B.off + B.cap * s ≤ cs.size ∧ bM E rs cs B.off R' ∧ R = B.b :: R')
 | .s4 es, R => ∃ B nn clock, E.β o = some B ∧ E.w.heap[B.b]? = some (.map nn clock) ∧ (∀ i, E.φ B.b i = none) ∧ nn.toList.map (fun e => (e.key, e.val)) = es ∧ R = [B.b]
 | .gone, R => R = []
inductive Own where
 | slot (s : Nat)
 | obj (o : Nat)
 deriving DecidableEq
structure dJ where
 n : Nat
 F : List Nat
structure Ctx where
 K : Nat → Prop
 w0 : World
 φ0 : Fz
 β0 : Nat → Option zV
 fn : dJ
 ds : List Deferred
structure Inv (G : Ctx) (E : Env) (RR : Own → List Nat) (st : St) (a : Act) : Prop where
 jH : ∀ b i v, E.φ b i = some v → E.w.cell? ⟨b, i, none⟩ = some v
 ax : ∀ s x, look st.ax s = some x → RX E x (a.tmps.getD s undef) (RR (.slot s))
 ay : ∀ o ob, look st.ay o = some ob → dq E o ob (RR (.obj o))
 nodup : ∀ p, (RR p).Nodup
 apart : ∀ p q, p ≠ q → ∀ b ∈ RR p, b ∉ RR q
 own : ∀ p b, b ∈ RR p → b < E.w.heap.size ∧ ¬ G.K b
 au : ∀ b, G.K b → E.w.heap[b]? = G.w0.heap[b]?
 size : G.w0.heap.size ≤ E.w.heap.size
 small : ∀ b, G.K b → b < G.w0.heap.size
 os : E.w.os = G.w0.os
 tape : E.w.tape = G.w0.tape
 output : E.w.output = G.w0.output
 φ0 : ∀ b i v, G.φ0 b i = some v → E.φ b i = some v
 grow : ∀ b i v, E.φ b i = some v → G.φ0 b i = some v ∨ ¬ G.K b
 fixed : ∀ o, G.fn.F.elem o = true → E.β o = G.β0 o
 tmps : a.tmps.size = G.fn.n
 defers : a.defers = G.ds
def bO (G : Ctx) (st : St) (a : Act) (w : World) : Prop := ∃ E RR, E.w = w ∧ Inv G E RR st a
def jC (G : Ctx) (Q : Exit → St → Prop) (e : Exit) (a : Act) (w : World) : Prop := ∃ st, bO G st a w ∧ Q e st
def ah (P : Program) (N : dJ) (c : Code) (st : St) (Q : Exit → St → Prop) : Prop :=
 ∀ G : Ctx, G.fn = N → ∀ a w, bO G st a w → c.wp P (jC G Q) a w
def aa (P : Program) (N : dJ) (all : Array Oper) (rest : List Oper) (st : St) (Q : Exit → St → Prop) : Prop :=
 ∀ G : Ctx, G.fn = N → ∀ a w, bO G st a w → wpList P all (jC G Q) rest a w
def iU (K : St → Prop) (Q : Exit → St → Prop) : Exit → St → Prop
 | .normal, st => K st
 | e, st => Q e st
def kr (id : Nat) (Q : Exit → St → Prop) : Exit → St → Prop
 | .exit id', st => bif Nat.beq id' id then Q .normal st else Q (.exit id') st
 | e, st => Q e st
def bu (st : St) : Operand → Option X
 | .tmp t => look st.ax t
 | .const v => some (.v v)
 | .func f => some (.v (.func (.func f) #[] #[]))
 | .global _ => none
def Le (st aQ : St) : Prop :=
 (∀ s x, look aQ.ax s = some x → look st.ax s = some x) ∧ (∀ o x, look aQ.ay o = some x → look st.ay o = some x)
theorem Le.refl (st : St) : Le st st := ⟨fun _ _ h => h, fun _ _ h => h⟩
theorem Le.holds {G : Ctx} {st aQ : St} {a : Act} {w : World} (h : Le st aQ) (hh : bO G st a w) : bO G aQ a w := by
 obtain ⟨E, RR, hw, hi⟩ := hh
 exact ⟨E, RR, hw, { hi with ax := fun s x hx => hi.ax s x (h.1 s x hx), ay := fun o x hx => hi.ay o x (h.2 o x hx) }⟩
def eC {α : Type} (l l' : List (Nat × α)) : Prop := ∀ s x, look l' s = some x → look l s = some x
theorem eC.nil {α : Type} {l : List (Nat × α)} : eC l [] := fun _ _ h => by cases h
theorem eC.cons {α : Type} {l l' : List (Nat × α)} {s : Nat} {x : α} (h : look l s = some x) (hr : eC l l') : eC l ((s, x) :: l') := by
 intro t y hy
 unfold look at hy
 cases hb : Nat.beq s t with
 | true => rw [hb] at hy; simp at hy; subst hy; rw [Nat.eq_of_beq_eq_true hb] at h; exact h
 | false => rw [hb] at hy; exact hr t y hy
theorem Le.mk {st : St} {sl : List (Nat × X)} {ob : List (Nat × Obj)} (h : eC st.ax sl) (h' : eC st.ay ob) : Le st ⟨sl, ob⟩ := ⟨h, h'⟩
section control
variable {P : Program} {N : dJ} {st aQ : St} {Q Q' : Exit → St → Prop}
theorem jC.mono {G : Ctx} {e : Exit} {a : Act} {w : World} (h : ∀ st, Q e st → Q' e st) (hp : jC G Q e a w) : jC G Q' e a w :=
 let ⟨st, hh, hq⟩ := hp; ⟨st, hh, h st hq⟩
theorem ah.mono {c : Code} (h : ah P N c st Q) (hq : ∀ e st, Q e st → Q' e st) : ah P N c st Q' :=
 fun G hn a w hh => wp_mono (h G hn a w hh) fun e _ _ hp => jC.mono (hq e) hp
theorem ah.le {c : Code} (hl : Le st aQ) (h : ah P N c aQ Q) : ah P N c st Q :=
 fun G hn a w hh => h G hn a w (hl.holds hh)
theorem aa.le {all : Array Oper} {rest : List Oper} (hl : Le st aQ) (h : aa P N all rest aQ Q) : aa P N all rest st Q :=
 fun G hn a w hh => h G hn a w (hl.holds hh)
theorem ah.skip (h : Q .normal st) : ah P N .skip st Q := fun _ _ _ _ hh => wp_skip ⟨st, hh, h⟩
theorem ah.exit {id : Nat} (h : Q (.exit id) st) : ah P N (.exit id) st Q := fun _ _ _ _ hh => wp_exit ⟨st, hh, h⟩
theorem ah.ret (h : Q .ret st) : ah P N .ret st Q := fun _ _ _ _ hh => wp_ret ⟨st, hh, h⟩
theorem ah.seq {x y : Code} (h : ah P N x st (iU (fun aQ => ah P N y aQ Q) Q)) : ah P N (.seq x y) st Q := by
 intro G hn a w hh
 refine wp_seq (wp_mono (h G hn a w hh) ?_)
 rintro e a' w' ⟨aQ, fI, hq⟩
 cases e <;> first | exact hq G hn a' w' fI | exact ⟨aQ, fI, hq⟩
theorem ah.block {id : Nat} {c : Code} (h : ah P N c st (kr id Q)) : ah P N (.block id c) st Q := by
 intro G hn a w hh
 refine wp_block (wp_mono (h G hn a w hh) ?_)
 rintro e a' w' ⟨aQ, fI, hq⟩
 cases e with
 | exit id' =>
  simp only [kr] at hq
  simp only [Exit.inBlock]
  cases hb : Nat.beq id' id with
  | true =>
   rw [hb] at hq
   rw [if_pos (Nat.eq_of_beq_eq_true hb)]
   exact ⟨aQ, fI, hq⟩
  | false =>
   rw [hb] at hq
   rw [if_neg (Nat.ne_of_beq_eq_false hb)]
   exact ⟨aQ, fI, hq⟩
 | _ => exact ⟨aQ, fI, hq⟩
theorem Inv.eval {G : Ctx} {E : Env} {RR : Own → List Nat} {a : Act} (hi : Inv G E RR st a) {o : Operand} {x : X} (h : bu st o = some x) : ∃ R, RX E x (a.eval o) R := by
 cases o with
 | tmp t => exact ⟨_, hi.ax t x h⟩
 | const v => simp only [bu, Option.some.injEq] at h; subst h; exact ⟨[], by simp [RX, Act.eval]⟩
 | func f => simp only [bu, Option.some.injEq] at h; subst h; exact ⟨[], by simp [RX, Act.eval]⟩
 | global g => cases h
theorem Inv.val {G : Ctx} {E : Env} {RR : Own → List Nat} {a : Act} (hi : Inv G E RR st a) {o : Operand} {u : Value} (h : bu st o = some (.v u)) : a.eval o = u := by
 obtain ⟨R, hR⟩ := hi.eval h
 simp only [RX] at hR
 exact hR.1
theorem ah.cond {c : Operand} {x y : Code} {b : Bool} (hc : bu st c = some (.v (.bool b))) (ht : b = true → ah P N x st Q) (hf : b = false → ah P N y st Q) :
  ah P N (.cond c x y) st Q := by
 intro G hn a w hh
 obtain ⟨E, RR, rfl, hi⟩ := hh
 exact wp_cond_split (hi.val hc) (fun h => ht h G hn a E.w ⟨E, RR, rfl, hi⟩) (fun h => hf h G hn a E.w ⟨E, RR, rfl, hi⟩)
theorem nI {c : Code} {ι : Type} {R : Exit → Act → World → Prop} (J : ι → Act → World → Prop) (μ : ι → Nat)
  (round : ∀ i a w, J i a w → c.wp P (Exit.then (fun a' w' => ∃ j, J j a' w' ∧ μ j < μ i) R) a w) {i : ι} {a : Act} {w : World} (h₀ : J i a w) : (Code.loop c).wp P R a w := by
 intro b k cs
 have key : ∀ n i a w, μ i = n → J i a w →
   ∃ e a' w', R e a' w' ∧ Arrives P (lone (b.at a (.code c :: .inLoop c :: k)) cs w) b k cs e a' w' := by
  intro n
  induction n using Nat.strongRecOn with
  | _ n ih =>
   intro i a w hn hI
   obtain ⟨e, a₁, w₁, hq, qU⟩ := round i a w hI b (.inLoop c :: k) cs
   cases e with
   | normal =>
    obtain ⟨j, LL, gA⟩ := hq
    obtain ⟨e₂, a₂, w₂, LM, Dq⟩ := ih (μ j) (hn ▸ gA) j a₁ w₁ rfl LL
    exact ⟨e₂, a₂, w₂, LM, .of_steps (Steps.trans qU (.one step_inLoop)) Dq⟩
   | exit id => exact ⟨_, a₁, w₁, hq, .pass (x := .inLoop c) rfl (fun _ _ => .inl (by simp)) qU⟩
   | goto l => exact ⟨_, a₁, w₁, hq, .pass (x := .inLoop c) rfl (fun _ _ => .inl (by simp)) qU⟩
   | ret => exact ⟨_, a₁, w₁, hq, .pass (x := .inLoop c) rfl (fun _ _ => .inl (by simp)) qU⟩
   | panic ch => exact ⟨_, a₁, w₁, hq, .pass (x := .inLoop c) rfl (fun _ _ => .inl (by simp)) qU⟩
   | outgrown => exact ⟨_, a₁, w₁, hq, .pass (x := .inLoop c) rfl (fun _ _ => .inl (by simp)) qU⟩
 obtain ⟨e, a', w', hq, qU⟩ := key _ i a w rfl h₀
 exact ⟨e, a', w', hq, .of_steps (.one step_loop) qU⟩
theorem ah.loop {ι : Type} {c : Code} (S : ι → St) (I : ι → Prop) (μ : ι → Nat) (i : ι) (hi : I i) (hs : Le st (S i))
  (round : ∀ i, I i → ah P N c (S i) (iU (fun aQ => ∃ j, I j ∧ μ j < μ i ∧ Le aQ (S j)) Q)) : ah P N (.loop c) st Q := by
 intro G hn a w hh
 refine nI (fun i a w => I i ∧ bO G (S i) a w) μ ?_ ⟨hi, hs.holds hh⟩
 rintro i a w ⟨hI, hh⟩
 refine wp_mono (round i hI G hn a w hh) ?_
 rintro e a' w' ⟨aQ, fI, hq⟩
 cases e with
 | normal => obtain ⟨j, hj, gA, hle⟩ := hq; exact ⟨j, ⟨hj, hle.holds fI⟩, gA⟩
 | _ => exact ⟨aQ, fI, hq⟩
theorem ah.region {id : Nat} {l : List Oper} (h : aa P N l.toArray l st Q) : ah P N (.region id l.toArray false) st Q :=
 fun G hn a w hh => wp_region_lit (h G hn a w hh)
theorem aa.nil {all : Array Oper} (h : Q .normal st) : aa P N all [] st Q := fun _ _ _ _ hh => ⟨st, hh, h⟩
end control
end Go.AW
namespace Go.AW
open Go
def TY.shape (P : Program) (t : TypeId) : Option (Option Nat) :=
 match P.underlying t, P.info? t with
 | some (.struct _), some i => some (some i.size)
 | some (.array _ _), some i => some (some i.size)
 | some _, some _ => some none
 | _, _ => none
def TY.slice (P : Program) (t : TypeId) : Option (Nat × Nat × Nat) :=
 match P.underlying t with
 | some (.slice e) => (P.info? e).map fun i => (e, i.size, i.bytes)
 | _ => none
def TY.array (P : Program) (t : TypeId) : Option (Nat × Nat × Nat) :=
 match P.underlying t with
 | some (.array n e) => (P.info? e).map fun i => (n, e, i.size)
 | _ => none
def TY.jh (P : Program) (t : TypeId) (f : Nat) : Option (Nat × TypeId) :=
 match P.underlying t with
 | some (.struct fs) => match fs[f]? with
  | some fd => match P.info? fd.type with
   | some i => bif Nat.beq i.size 0 then none else some (fd.offset, fd.type)
   | none => none
  | none => none
 | _ => none
def TY.zero (P : Program) (t : TypeId) : Option (List Value) := (P.info? t).bind fun i => i.zero.map (·.cells.toList)
def TY.isInt (P : Program) (t : TypeId) : Option IntKind := match P.underlying t with | some (.int k) => some k | _ => none
def St.put (st : St) (d : Nat) (x : X) : St := { st with ax := (d, x) :: st.ax }
mutual
theorem RX.free {E : Env} : ∀ {x : X} {c : Value} {R : List Nat}, x.free = true → RX E x c R → R = []
 | .v _, _, _, _, h => by simp only [RX] at h; exact h.2
 | .no, _, _, _, h => by simpa [RX] using h
 | .fz .., _, _, _, h => by simp only [RX] at h; exact h.1
 | .ptr .., _, _, _, h => by simp only [RX] at h; exact h.1
 | .aR .., _, _, _, h => by simp only [RX] at h; exact h.1
 | .mref _, _, _, _, h => by simp only [RX] at h; exact h.1
 | .fp .., _, _, _, h => by simp only [RX] at h; exact h.1
 | .fH .., _, _, _, h => by simp only [RX] at h; exact h.1
 | .cX .., _, _, hf, _ => by simp [X.free] at hf
 | .agg xs, _, _, hf, h => by
  simp only [RX] at h
  obtain ⟨_, _, h⟩ := h
  exact bg.free (xs := xs) hf h
 | .tup xs, _, _, hf, h => by
  simp only [RX] at h
  obtain ⟨_, _, h⟩ := h
  exact dy.free (xs := xs) hf h
theorem bg.free {E : Env} : ∀ {xs : List X} {cs : List Value} {R : List Nat}, X.aW xs = true → bg E xs cs R → R = []
 | [], _, _, _, h => by simp only [bg] at h; exact h.2
 | x :: r, _, _, hf, h => by
  simp only [bg] at h
  obtain ⟨c, cp, R₁, R₂, _, _, h1, h2, hR⟩ := h
  simp only [X.aW, Bool.and_eq_true] at hf
  rw [hR, RX.free hf.1 h1, bg.free hf.2 h2]; rfl
theorem dy.free {E : Env} : ∀ {xs : List X} {cs : List Value} {R : List Nat}, X.aW xs = true → dy E xs cs R → R = []
 | [], _, _, _, h => by simp only [dy] at h; exact h.2
 | x :: r, _, _, hf, h => by
  simp only [dy] at h
  obtain ⟨c, cp, R₁, R₂, _, h1, h2, hR⟩ := h
  simp only [X.aW, Bool.and_eq_true] at hf
  rw [hR, RX.free hf.1 h1, dy.free hf.2 h2]; rfl
end
theorem RO.free {E : Env} : ∀ {xs : List X} {cs : Array Value} {off : Nat} {R : List Nat}, X.aW xs = true → RO E xs cs off R → R = []
 | [], _, _, _, _, h => by simpa [RO] using h
 | x :: r, _, _, _, hf, h => by
  simp only [RO] at h
  obtain ⟨c, R₁, R₂, _, _, h1, h2, hR⟩ := h
  simp only [X.aW, Bool.and_eq_true] at hf
  rw [hR, RX.free hf.1 h1, RO.free hf.2 h2]; rfl
def en (RR : Own → List Nat) (p : Own) (R : List Nat) : Own → List Nat := fun q => if q = p then R else RR q
theorem v3 {a : Act} {d : Nat} {u : Value} (hd : d < a.tmps.size) : (a.put (some d) u).tmps.getD d undef = u := by
 simp [Act.put, Array.getD, hd]
theorem qV {a : Act} {d s : Nat} {u : Value} (h : d ≠ s) : (a.put (some d) u).tmps.getD s undef = a.tmps.getD s undef := by
 simp only [Act.put, Array.getD_eq_getD_getElem?, Array.getElem?_setIfInBounds_ne h]
section
variable {P : Program} {N : dJ} {G : Ctx} {E : Env} {RR : Own → List Nat} {st : St} {a : Act} {Q : Exit → St → Prop}
theorem Inv.put (hi : Inv G E RR st a) {d : Nat} {x : X} {u : Value} {R : List Nat} (hd : d < G.fn.n) (hx : RX E x u R) (hn : R.Nodup)
  (hR : ∀ b ∈ R, b < E.w.heap.size ∧ ¬ G.K b ∧ ∀ p, p ≠ .slot d → b ∉ RR p) : Inv G E (en RR (.slot d) R) (st.put d x) (a.put (some d) u) := by
 refine { hi with ax := ?_, ay := ?_, nodup := ?_, apart := ?_, own := ?_, tmps := ?_, defers := ?_ }
 ·intro s y hy
  simp only [St.put, look] at hy
  cases hb : Nat.beq d s with
  | true =>
   have := Nat.eq_of_beq_eq_true hb
   subst this
   rw [hb] at hy
   simp only [cond_true, Option.some.injEq] at hy
   subst hy
   rw [v3 (by rw [hi.tmps]; exact hd)]
   simpa [en] using hx
  | false =>
   have er := Nat.ne_of_beq_eq_false hb
   rw [hb] at hy
   rw [qV er]
   have : en RR (.slot d) R (.slot s) = RR (.slot s) := by simp [en, Ne.symm er]
   rw [this]
   exact hi.ax s y hy
 ·intro o ob ho
  have : en RR (.slot d) R (.obj o) = RR (.obj o) := by simp [en]
  rw [this]; exact hi.ay o ob ho
 ·intro p
  unfold en
  split
  ·exact hn
  ·exact hi.nodup p
 ·intro p q jI b hb
  unfold en at hb ⊢
  split at hb
  ·rename_i hp
   subst hp
   rw [if_neg (Ne.symm jI)]
   exact (hR b hb).2.2 q (Ne.symm jI)
  ·split
   ·rename_i hp hq
    subst hq
    intro eO
    exact (hR b eO).2.2 p jI hb
   ·exact hi.apart p q jI b hb
 ·intro p b hb
  unfold en at hb
  split at hb
  ·exact ⟨(hR b hb).1, (hR b hb).2.1⟩
  ·exact hi.own p b hb
 ·simp [Act.put, hi.tmps]
 ·simp [Act.put, hi.defers]
theorem Inv.eP (hi : Inv G E RR st a) {d : Nat} {x : X} {u : Value} (hd : d < G.fn.n) (hx : RX E x u []) : Inv G E (en RR (.slot d) []) (st.put d x) (a.put (some d) u) :=
 hi.put hd hx List.nodup_nil (fun _ hb => by cases hb)
def Yields (P : Program) (N : dJ) (st : St) (o : Oper) (x : X) : Prop :=
 ∀ (G : Ctx) (E : Env) (RR : Own → List Nat) (a : Act), G.fn = N → Inv G E RR st a → ∃ u, (execOp a.eval o).run P E.w = .ok (.value u) E.w ∧ RX E x u []
theorem aa.val {all : Array Oper} {rest : List Oper} {d : Nat} {op : Op} {ty : TypeId} {pos : String} {af : Array Edge} {x : X}
  (hy : Yields P N st ⟨some d, op, ty, pos, af, none⟩ x) (hd : d < N.n) (k : aa P N all rest (st.put d x) Q) : aa P N all (⟨some d, op, ty, pos, af, none⟩ :: rest) st Q := by
 intro G hn a w hh
 obtain ⟨E, RR, rfl, hi⟩ := hh
 obtain ⟨u, hr, hx⟩ := hy G E RR a hn hi
 refine wpList_plain rfl fun K hK => ?_
 simp only [Oper.wp, hr, Oper.upon_value]
 exact hK _ _ (k G hn _ _ ⟨E, _, rfl, hi.eP (hn ▸ hd) hx⟩)
theorem aa.split {all : Array Oper} {rest : List Oper} {d : Nat} {b : Bool} (hx : look st.ax d = some (.v (.bool b)))
  (ht : b = true → aa P N all rest (st.put d (.v (.bool true))) Q) (hf : b = false → aa P N all rest (st.put d (.v (.bool false))) Q) : aa P N all rest st Q := by
 have : Le st (st.put d (.v (.bool b))) := ⟨eC.cons hx (fun _ _ h => h), fun _ _ h => h⟩
 cases b
 ·exact (hf rfl).le this
 ·exact (ht rfl).le this
theorem aa.aH {all : Array Oper} {rest : List Oper} {dst : Option Nat} {op : Op} {ty : TypeId} {pos : String} {af : Array Edge} {j d : Nat} {want : Bool}
  (hj : (all[j]?).bind (·.dst) = some d) (hd : d < N.n) (hx : look st.ax d = some (.v (.bool want)))
  (k : aa P N all (⟨dst, op, ty, pos, af, none⟩ :: rest) st Q) : aa P N all (⟨dst, op, ty, pos, af, some (j, want)⟩ :: rest) st Q := by
 intro G hn a w hh
 have hk := k G hn a w hh
 obtain ⟨E, RR, rfl, hi⟩ := hh
 have hs := hi.ax d _ hx
 simp only [RX] at hs
 have ei : d < a.tmps.size := by rw [hi.tmps, hn]; exact hd
 have hv : a.tmps[d]? = some (.bool want) := by
  have := hs.1
  simp only [Array.getD, ei, dif_pos] at this
  rw [Array.getElem?_eq_getElem ei]
  exact congrArg some this
 have hw : Region.wanted ⟨dst, op, ty, pos, af, some (j, want)⟩ (yielded all a.tmps) = true := by
  simp [Region.wanted, yielded, hj, hv]
 unfold wpList at hk ⊢
 rw [if_pos hw]
 rw [if_pos (by simp [Region.wanted])] at hk
 exact hk
end
end Go.AW
namespace Go.AW
open Go
section
variable {P : Program} {N : dJ} {st : St} {dst : Option Nat} {ty : TypeId} {pos : String} {af : Array Edge} {g : Option (Nat × Bool)}
theorem gQ {α β : Type} {s : Sem α} {f : α → Sem β} {w w' : World} {u : α} {r : Result β} (h : s.run P w = .ok u w') (h' : (f u).run P w' = r) : (s.bind f).run P w = r := by
 rw [show (s.bind f) = (s >>= f) from rfl, Sem.run_bind, h]; exact h'
theorem cK {s : Sem Value} {w w' : World} {u : Value} (h : s.run P w = .ok u w') : (do let x ← s; pure (Next.value x) : Sem Next).run P w = .ok (.value u) w' :=
 gQ h rfl
theorem v5 {s : Sem Unit} {w w' : World} (h : s.run P w = .ok () w') : (do s; pure Next.skip : Sem Next).run P w = .ok .skip w' :=
 gQ h rfl
theorem Y.zd {x : Operand} {y : X} (hx : bu st x = some y) (hf : y.free = true) : Yields P N st ⟨dst, .move x, ty, pos, af, g⟩ y := by
 intro G E RR a _ hi
 obtain ⟨R, h⟩ := hi.eval hx
 have := RX.free hf h
 subst this
 exact ⟨_, rfl, h⟩
theorem Y.qe {x : Operand} {y : X} (hx : bu st x = some y) (hf : y.free = true) : Yields P N st ⟨dst, .assign x, ty, pos, af, g⟩ y := by
 intro G E RR a _ hi
 obtain ⟨R, h⟩ := hi.eval hx
 have := RX.free hf h
 subst this
 exact ⟨_, rfl, h⟩
theorem Y.zj {c x y : Operand} {b : Bool} {z : X} (hc : bu st c = some (.v (.bool b))) (hz : bu st (if b then x else y) = some z) (hf : z.free = true) :
  Yields P N st ⟨dst, .pick c x y, ty, pos, af, g⟩ z := by
 intro G E RR a _ hi
 obtain ⟨R, h⟩ := hi.eval hz
 have := RX.free hf h
 subst this
 refine ⟨a.eval (if b then x else y), ?_, h⟩
 have lB := hi.val hc
 simp only [execOp, lB]
 cases b <;> rfl
theorem Y.qf {op : BinOp} {t t' : TypeId} {x y : Operand} {u v r : Value} (hx : bu st x = some (.v u)) (hy : bu st y = some (.v v))
  (hr : ∀ w, (do eqGuard op t x y u v; binOp op t u v : Sem Value).run P w = .ok r w) : Yields P N st ⟨dst, .binOp op t x y t', ty, pos, af, g⟩ (.v r) := by
 intro G E RR a _ hi
 refine ⟨r, ?_, by simp [RX]⟩
 show (do let x ← (do eqGuard op t x y (a.eval x) (a.eval y); binOp op t (a.eval x) (a.eval y) : Sem Value); pure (Next.value x) : Sem Next).run P E.w = _
 rw [hi.val hx, hi.val hy]
 exact cK (hr _)
section ints
variable {t t' : TypeId} {x y : Operand} {k : IntKind} {a b r : Int}
theorem Y.qa (hx : bu st x = some (.v (.int k a))) (hy : bu st y = some (.v (.int k b))) (hr : k.wrap (a + b) = r) : Yields P N st ⟨dst, .binOp .add t x y t', ty, pos, af, g⟩ (.v (.int k r)) :=
 Y.qf hx hy fun w => by subst hr; simp [eqGuard, binOp, Op.intArith]
theorem Y.zu (hx : bu st x = some (.v (.int k a))) (hy : bu st y = some (.v (.int k b))) (hr : k.wrap (a - b) = r) : Yields P N st ⟨dst, .binOp .sub t x y t', ty, pos, af, g⟩ (.v (.int k r)) :=
 Y.qf hx hy fun w => by subst hr; simp [eqGuard, binOp, Op.intArith]
theorem Y.ze (hx : bu st x = some (.v (.int k a))) (hy : bu st y = some (.v (.int k b))) (hr : k.wrap (a * b) = r) : Yields P N st ⟨dst, .binOp .mul t x y t', ty, pos, af, g⟩ (.v (.int k r)) :=
 Y.qf hx hy fun w => by subst hr; simp [eqGuard, binOp, Op.intArith]
theorem Y.zk (hx : bu st x = some (.v (.int k a))) (hy : bu st y = some (.v (.int k b))) (h0 : b ≠ 0) (hr : k.wrap (a.tdiv b) = r) : Yields P N st ⟨dst, .binOp .quo t x y t', ty, pos, af, g⟩ (.v (.int k r)) :=
 Y.qf hx hy fun w => by subst hr; simp [eqGuard, binOp, Op.intDiv, h0]
theorem Y.zm (hx : bu st x = some (.v (.int k a))) (hy : bu st y = some (.v (.int k b))) (h0 : b ≠ 0) (hr : a.tmod b = r) : Yields P N st ⟨dst, .binOp .rem t x y t', ty, pos, af, g⟩ (.v (.int k r)) :=
 Y.qf hx hy fun w => by subst hr; simp [eqGuard, binOp, Op.intDiv, h0]
theorem Y.qc (hx : bu st x = some (.v (.int k a))) (hy : bu st y = some (.v (.int k b))) (hr : k.wrap (BitVec.ofInt k.bits a &&& BitVec.ofInt k.bits b).toNat = r) : Yields P N st ⟨dst, .binOp .and t x y t', ty, pos, af, g⟩ (.v (.int k r)) :=
 Y.qf hx hy fun w => by subst hr; simp [eqGuard, binOp, Op.intBits]
theorem Y.or (hx : bu st x = some (.v (.int k a))) (hy : bu st y = some (.v (.int k b))) (hr : k.wrap (BitVec.ofInt k.bits a ||| BitVec.ofInt k.bits b).toNat = r) : Yields P N st ⟨dst, .binOp .or t x y t', ty, pos, af, g⟩ (.v (.int k r)) :=
 Y.qf hx hy fun w => by subst hr; simp [eqGuard, binOp, Op.intBits]
theorem Y.zw (hx : bu st x = some (.v (.int k a))) (hy : bu st y = some (.v (.int k b))) (hr : k.wrap (BitVec.ofInt k.bits a ^^^ BitVec.ofInt k.bits b).toNat = r) : Yields P N st ⟨dst, .binOp .xor t x y t', ty, pos, af, g⟩ (.v (.int k r)) :=
 Y.qf hx hy fun w => by subst hr; simp [eqGuard, binOp, Op.intBits]
theorem Y.zo {k' : IntKind} (hx : bu st x = some (.v (.int k a))) (hy : bu st y = some (.v (.int k' b))) (h0 : 0 ≤ b) (hr : k.wrap (a * 2 ^ (min b.toNat k.bits)) = r) : Yields P N st ⟨dst, .binOp .shl t x y t', ty, pos, af, g⟩ (.v (.int k r)) :=
 Y.qf hx hy fun w => by subst hr; simp [eqGuard, binOp, Op.shift, Int.not_lt.2 h0]
theorem Y.zp {k' : IntKind} (hx : bu st x = some (.v (.int k a))) (hy : bu st y = some (.v (.int k' b))) (h0 : 0 ≤ b) (hr : a.fdiv (2 ^ (min b.toNat k.bits)) = r) : Yields P N st ⟨dst, .binOp .shr t x y t', ty, pos, af, g⟩ (.v (.int k r)) :=
 Y.qf hx hy fun w => by subst hr; simp [eqGuard, binOp, Op.shift, Int.not_lt.2 h0]
theorem Y.qz (hx : bu st x = some (.v (.int k a))) (hy : bu st y = some (.v (.int k b))) : Yields P N st ⟨dst, .binOp .lss t x y t', ty, pos, af, g⟩ (.v (.bool (decide (a < b)))) :=
 Y.qf hx hy fun w => by simp [eqGuard, binOp, Op.intCmp]
theorem Y.qw (hx : bu st x = some (.v (.int k a))) (hy : bu st y = some (.v (.int k b))) : Yields P N st ⟨dst, .binOp .leq t x y t', ty, pos, af, g⟩ (.v (.bool (decide (a ≤ b)))) :=
 Y.qf hx hy fun w => by simp [eqGuard, binOp, Op.intCmp]
theorem Y.qp (hx : bu st x = some (.v (.int k a))) (hy : bu st y = some (.v (.int k b))) : Yields P N st ⟨dst, .binOp .gtr t x y t', ty, pos, af, g⟩ (.v (.bool (decide (b < a)))) :=
 Y.qf hx hy fun w => by simp [eqGuard, binOp, Op.intCmp]
theorem Y.qo (hx : bu st x = some (.v (.int k a))) (hy : bu st y = some (.v (.int k b))) : Yields P N st ⟨dst, .binOp .geq t x y t', ty, pos, af, g⟩ (.v (.bool (decide (b ≤ a)))) :=
 Y.qf hx hy fun w => by simp [eqGuard, binOp, Op.intCmp]
theorem Y.qk (hx : bu st x = some (.v (.int k a))) (hy : bu st y = some (.v (.int k b))) : Yields P N st ⟨dst, .binOp .eql t x y t', ty, pos, af, g⟩ (.v (.bool (decide (a = b)))) :=
 Y.qf hx hy fun w => by simp [eqGuard, binOp, Op.intCmp, BEq.beq]
theorem Y.zg (hx : bu st x = some (.v (.int k a))) (hy : bu st y = some (.v (.int k b))) : Yields P N st ⟨dst, .binOp .neq t x y t', ty, pos, af, g⟩ (.v (.bool (decide (a ≠ b)))) :=
 Y.qf hx hy fun w => by simp [eqGuard, binOp, Op.intCmp, bne, BEq.beq]
end ints
theorem run_equal_bool {t : TypeId} {a b : Bool} (ht : P.underlying t = some .bool) (w : World) : (Op.equal t (.bool a) (.bool b)).run P w = .ok (a == b) w := by
 show (Op.equalIn (9999 + 1) t (.bool a) (.bool b)).run P w = _
 generalize 9999 = d
 simp [Op.equalIn, run_underlying ht]
theorem Y.ql {t t' : TypeId} {x y : Operand} {a b : Bool} (ht : P.underlying t = some .bool) (hx : bu st x = some (.v (.bool a))) (hy : bu st y = some (.v (.bool b))) :
  Yields P N st ⟨dst, .binOp .eql t x y t', ty, pos, af, g⟩ (.v (.bool (a == b))) :=
 Y.qf hx hy fun w => by
  show (do let z ← Op.equal t (.bool a) (.bool b); pure (Value.bool z) : Sem Value).run P w = _
  exact gQ (run_equal_bool ht w) rfl
theorem Y.un {op : UnOp} {t : TypeId} {x : Operand} {u r : Value} (hx : bu st x = some (.v u)) (hr : ∀ w, (Op.unary op u).run P w = .ok r w) : Yields P N st ⟨dst, .unOp op t x, ty, pos, af, g⟩ (.v r) := by
 intro G E RR a _ hi
 refine ⟨r, ?_, by simp [RX]⟩
 show (do let x ← Op.unary op (a.eval x); pure (Next.value x) : Sem Next).run P E.w = _
 rw [hi.val hx]
 exact cK (hr _)
theorem Y.zi {t : TypeId} {x : Operand} {b : Bool} (hx : bu st x = some (.v (.bool b))) : Yields P N st ⟨dst, .unOp .not t x, ty, pos, af, g⟩ (.v (.bool (!b))) :=
 Y.un hx fun _ => rfl
theorem Y.qi {s d : TypeId} {x : Operand} {k k' : IntKind} {n r : Int} (hs : TY.isInt P s = some k') (hd : TY.isInt P d = some k) (hx : bu st x = some (.v (.int k' n))) (hr : k.wrap n = r) :
  Yields P N st ⟨dst, .convert s d x, ty, pos, af, g⟩ (.v (.int k r)) := by
 intro G E RR a _ hi
 refine ⟨.int k r, ?_, by simp [RX]⟩
 show (do let x ← convert s d (a.eval x); pure (Next.value x) : Sem Next).run P E.w = _
 rw [hi.val hx]
 refine cK ?_
 have h1 : P.underlying s = some (.int k') := by unfold TY.isInt at hs; split at hs <;> simp_all
 have h2 : P.underlying d = some (.int k) := by unfold TY.isInt at hd; split at hd <;> simp_all
 simp [convert, run_underlying h1, run_underlying h2, Conv.intToInt, hr]
end
end Go.AW
namespace Go.AW
open Go
theorem bZ {w : World} {b i : Nat} {cs : Array Value} {ty : TypeId} {fr : Nat × Nat} (h : w.heap[b]? = some (.cells cs ty fr)) : w.cell? ⟨b, i, none⟩ = cs[i]? := by
 simp [World.cell?, h]
theorem fq (b off n : Nat) : (⟨b, off, none⟩ : Addr).add n = ⟨b, off + n, none⟩ := by
 unfold Addr.add
 split
 ·rename_i h; subst h; rfl
 ·rfl
section
variable {E : Env}
theorem RF.get : ∀ {row : List X} {b off k : Nat} {x : X}, RF E row b off → row[k]? = some x → ∃ u, E.φ b (off + k) = some u ∧ gm u ∧ x.nr = true ∧ RX E x u []
 | [], _, _, _, _, _, h => by simp at h
 | y :: r, b, off, 0, x, h, hx => by
  simp only [RF] at h
  simp only [List.getElem?_cons_zero, Option.some.injEq] at hx
  subst hx
  exact h.1
 | y :: r, b, off, k + 1, x, h, hx => by
  simp only [RF] at h
  obtain ⟨u, hu⟩ := RF.get (k := k) h.2 (by simpa using hx)
  exact ⟨u, by rw [show off + (k + 1) = off + 1 + k by omega]; exact hu⟩
theorem RF.drop : ∀ {row : List X} {b off : Nat} (k : Nat), RF E row b off → RF E (row.drop k) b (off + k)
 | [], _, _, _, _ => by simp [RF]
 | y :: r, b, off, 0, h => h
 | y :: r, b, off, k + 1, h => by
  simp only [RF] at h
  simp only [List.drop_succ_cons]
  rw [show off + (k + 1) = off + 1 + k by omega]
  exact RF.drop k h.2
theorem RF.take : ∀ {row : List X} {b off : Nat} (k : Nat), RF E row b off → RF E (row.take k) b off
 | [], _, _, _, _ => by simp [RF]
 | y :: r, b, off, 0, h => by simp [RF]
 | y :: r, b, off, k + 1, h => by
  simp only [RF, List.take_succ_cons] at h ⊢
  exact ⟨h.1, RF.take k h.2⟩
theorem RF.cells : ∀ {row : List X} {b off : Nat}, RF E row b off → ∃ cs : List Value, cs.length = row.length ∧ (∀ j v, cs[j]? = some v → E.φ b (off + j) = some v) ∧ bg E row cs []
 | [], _, _, _ => ⟨[], rfl, by simp, by simp [bg]⟩
 | y :: r, b, off, h => by
  simp only [RF] at h
  obtain ⟨⟨u, hu, hs, _, hx⟩, hr⟩ := h
  obtain ⟨cs, hl, hc, eM⟩ := RF.cells hr
  refine ⟨u :: cs, by simp [hl], ?_, ?_⟩
  ·intro j v hv
   cases j with
   | zero => simp at hv; subst hv; exact hu
   | succ j => rw [show off + (j + 1) = off + 1 + j by omega]; exact hc j v (by simpa using hv)
  ·simp only [bg]
   exact ⟨u, cs, [], [], rfl, hs, hx, eM, rfl⟩
theorem gp.get : ∀ {rows : List (List X)} {s b off i : Nat} {row : List X}, bA s rows → gp E rows b off → rows[i]? = some row → RF E row b (off + i * s)
 | [], _, _, _, _, _, _, _, h => by simp at h
 | r :: rs, s, b, off, 0, row, hu, h, hr => by
  simp only [gp] at h
  simp only [List.getElem?_cons_zero, Option.some.injEq] at hr
  subst hr
  simpa using h.1
 | r :: rs, s, b, off, i + 1, row, hu, h, hr => by
  simp only [gp] at h
  have h1 := hu r (by simp)
  have := gp.get (i := i) (s := s) (fun q hq => hu q (by simp [hq])) h.2 (by simpa using hr)
  rw [h1] at this
  rw [show off + (i + 1) * s = off + s + i * s by rw [Nat.add_mul]; omega]
  exact this
theorem gp.drop : ∀ {rows : List (List X)} {s b off : Nat} (k : Nat), bA s rows → k ≤ rows.length → gp E rows b off → gp E (rows.drop k) b (off + k * s)
 | _, _, _, _, 0, _, _, h => by simpa using h
 | [], _, _, _, k + 1, _, hk, _ => by simp at hk
 | r :: rs, s, b, off, k + 1, hu, hk, h => by
  simp only [gp] at h
  have h1 := hu r (by simp)
  rw [h1] at h
  simp only [List.drop_succ_cons]
  rw [show off + (k + 1) * s = off + s + k * s by rw [Nat.add_mul]; omega]
  exact gp.drop k (fun q hq => hu q (by simp [hq])) (by simpa using hk) h.2
theorem gp.take : ∀ {rows : List (List X)} {b off : Nat} (k : Nat), gp E rows b off → gp E (rows.take k) b off
 | [], _, _, _, _ => by simp [gp]
 | _ :: _, _, _, 0, _ => by simp [gp]
 | r :: rs, b, off, k + 1, h => by
  simp only [gp, List.take_succ_cons] at h ⊢
  exact ⟨h.1, gp.take k h.2⟩
theorem bA.drop {s : Nat} {rows : List (List X)} (k : Nat) (h : bA s rows) : bA s (rows.drop k) := fun r hr => h r (List.mem_of_mem_drop hr)
theorem bA.take {s : Nat} {rows : List (List X)} (k : Nat) (h : bA s rows) : bA s (rows.take k) := fun r hr => h r (List.mem_of_mem_take hr)
theorem RO.get : ∀ {xs : List X} {cs : Array Value} {off k : Nat} {R : List Nat} {x : X}, RO E xs cs off R → xs[k]? = some x →
  ∃ u R₁, cs[off + k]? = some u ∧ gm u ∧ RX E x u R₁ ∧ ∀ b ∈ R₁, b ∈ R
 | [], _, _, _, _, _, _, h => by simp at h
 | y :: r, cs, off, 0, R, x, h, hx => by
  simp only [RO] at h
  simp only [List.getElem?_cons_zero, Option.some.injEq] at hx
  subst hx
  obtain ⟨u, R₁, R₂, hu, hs, h1, _, rfl⟩ := h
  exact ⟨u, R₁, hu, hs, h1, fun b hb => bK hb⟩
 | y :: r, cs, off, k + 1, R, x, h, hx => by
  simp only [RO] at h
  obtain ⟨_, R₁, R₂, _, _, _, h2, rfl⟩ := h
  obtain ⟨u, R₃, hu, hs, h3, cx⟩ := RO.get (k := k) h2 (by simpa using hx)
  exact ⟨u, R₃, by rw [show off + (k + 1) = off + 1 + k by omega]; exact hu, hs, h3, fun b hb => bC (cx b hb)⟩
theorem RO.drop : ∀ {xs : List X} {cs : Array Value} {off : Nat} {R : List Nat} (k : Nat), RO E xs cs off R → ∃ R', RO E (xs.drop k) cs (off + k) R' ∧ ∀ b ∈ R', b ∈ R
 | [], cs, off, R, k, h => ⟨[], by simp [RO], by simp⟩
 | y :: r, cs, off, R, 0, h => ⟨R, h, fun _ h => h⟩
 | y :: r, cs, off, R, k + 1, h => by
  simp only [RO] at h
  obtain ⟨_, R₁, R₂, _, _, _, h2, rfl⟩ := h
  obtain ⟨R', h', hs⟩ := RO.drop k h2
  refine ⟨R', ?_, fun b hb => bC (hs b hb)⟩
  simp only [List.drop_succ_cons]
  rw [show off + (k + 1) = off + 1 + k by omega]; exact h'
theorem RO.take : ∀ {xs : List X} {cs : Array Value} {off : Nat} {R : List Nat} (k : Nat), RO E xs cs off R → ∃ R', RO E (xs.take k) cs off R' ∧ ∀ b ∈ R', b ∈ R
 | [], cs, off, R, k, h => ⟨[], by simp [RO], by simp⟩
 | y :: r, cs, off, R, 0, h => ⟨[], by simp [RO], by simp⟩
 | y :: r, cs, off, R, k + 1, h => by
  simp only [RO] at h
  obtain ⟨u, R₁, R₂, hu, hs, h1, h2, rfl⟩ := h
  obtain ⟨R', h', GX⟩ := RO.take k h2
  refine ⟨R₁ ++ R', ?_, ?_⟩
  ·simp only [List.take_succ_cons, RO]
   exact ⟨u, R₁, R', hu, hs, h1, h', rfl⟩
  ·intro b hb
   rcases List.mem_append.1 hb with hb | hb
   ·exact bK hb
   ·exact bC (GX b hb)
theorem RO.cells : ∀ {xs : List X} {cs : Array Value} {off : Nat} {R : List Nat}, RO E xs cs off R → ∃ vs : List Value, vs.length = xs.length ∧ (∀ j v, vs[j]? = some v → cs[off + j]? = some v) ∧ bg E xs vs R
 | [], _, _, R, h => ⟨[], rfl, by simp, by simp only [RO] at h; simp [bg, h]⟩
 | y :: r, cs, off, R, h => by
  simp only [RO] at h
  obtain ⟨u, R₁, R₂, hu, hs, h1, h2, rfl⟩ := h
  obtain ⟨vs, hl, hc, eM⟩ := RO.cells h2
  refine ⟨u :: vs, by simp [hl], ?_, ?_⟩
  ·intro j v hv
   cases j with
   | zero => simp at hv; subst hv; exact hu
   | succ j => rw [show off + (j + 1) = off + 1 + j by omega]; exact hc j v (by simpa using hv)
  ·simp only [bg]
   exact ⟨u, vs, R₁, R₂, rfl, hs, h1, eM, rfl⟩
theorem bM.get : ∀ {rows : List (List X)} {s : Nat} {cs : Array Value} {off i : Nat} {R : List Nat} {row : List X}, bA s rows → bM E rows cs off R → rows[i]? = some row →
  ∃ R₁, X.eU row = true ∧ RO E row cs (off + i * s) R₁ ∧ ∀ b ∈ R₁, b ∈ R
 | [], _, _, _, _, _, _, _, _, h => by simp at h
 | r :: rs, s, cs, off, 0, R, row, hu, h, hr => by
  simp only [bM] at h
  simp only [List.getElem?_cons_zero, Option.some.injEq] at hr
  subst hr
  obtain ⟨R₁, R₂, hn, h1, _, rfl⟩ := h
  exact ⟨R₁, hn, by simpa using h1, fun b hb => bK hb⟩
 | r :: rs, s, cs, off, i + 1, R, row, hu, h, hr => by
  simp only [bM] at h
  obtain ⟨R₁, R₂, hn, _, h2, rfl⟩ := h
  have h1 := hu r (by simp)
  obtain ⟨R₃, nJ, h3, hs⟩ := bM.get (i := i) (s := s) (fun q hq => hu q (by simp [hq])) h2 (by simpa using hr)
  rw [h1] at h3
  exact ⟨R₃, nJ, by rw [show off + (i + 1) * s = off + s + i * s by rw [Nat.add_mul]; omega]; exact h3, fun b hb => bC (hs b hb)⟩
end
def rowAt (st : St) : X → Option (List X)
 | .fp row _ => some row
 | .ptr o s i _ => match look st.ay o with
  | some (.cells xs) => bif Nat.beq i 0 then some xs else none
  | some (.rows s' rs) => bif Nat.beq s s' then rs[i]? else none
  | _ => none
 | _ => none
def iT : X → Nat
 | .fp _ k => k
 | .ptr _ _ _ k => k
 | _ => 0
section
variable {P : Program} {N : dJ} {G : Ctx} {E : Env} {RR : Own → List Nat} {st : St} {a : Act}
theorem Inv.behind (hi : Inv G E RR st a) {p : X} {c : Value} {R : List Nat} {row : List X} (hp : RX E p c R) (hr : rowAt st p = some row) :
  ∃ b off, c = .pointer (some ⟨b, off + iT p, none⟩) ∧ ∀ k m, k + m ≤ row.length →
   ∃ vs : List Value, ∃ R', vs.length = m ∧ (∀ j v, vs[j]? = some v → E.w.cell? ⟨b, off + (k + j), none⟩ = some v) ∧ bg E ((row.drop k).take m) vs R' := by
 cases p with
 | fp row' k' =>
  simp only [rowAt, Option.some.injEq] at hr
  subst hr
  simp only [RX] at hp
  obtain ⟨_, b, off, hc, hf⟩ := hp
  refine ⟨b, off, hc, fun k m Ko => ?_⟩
  obtain ⟨vs, hl, hv, hx⟩ := RF.cells (RF.take m (RF.drop k hf))
  refine ⟨vs, [], by rw [hl]; simp; omega, fun j v hj => ?_, hx⟩
  rw [← Nat.add_assoc]
  exact hi.jH _ _ _ (hv j v hj)
 | ptr o s i k' =>
  simp only [RX] at hp
  obtain ⟨_, B, hB, hc⟩ := hp
  simp only [rowAt] at hr
  split at hr
  ·rename_i xs ho
   have h0 := hi.ay o _ ho
   simp only [dq] at h0
   obtain ⟨_, B', cs, ty, fY, hw, _, _, il, _⟩ := h0
   rw [hB] at fY
   obtain rfl := Option.some.inj fY
   cases l4 : Nat.beq i 0 with
   | false => simp [l4] at hr
   | true =>
    have := Nat.eq_of_beq_eq_true l4
    subst this
    simp only [l4, cond_true, Option.some.injEq] at hr
    subst hr
    refine ⟨B.b, B.off, by simpa [iT] using hc, fun k m Ko => ?_⟩
    obtain ⟨R₁, h1, _⟩ := RO.drop k il
    obtain ⟨R₂, h2, _⟩ := RO.take m h1
    obtain ⟨vs, hl, hv, hx⟩ := RO.cells h2
    refine ⟨vs, R₂, by rw [hl]; simp; omega, fun j v hj => ?_, hx⟩
    rw [bZ hw, ← Nat.add_assoc]
    exact hv j v hj
  ·rename_i s' rs ho
   have h0 := hi.ay o _ ho
   simp only [dq] at h0
   obtain ⟨hu, h0⟩ := h0
   cases AV : Nat.beq s s' with
   | false => simp [AV] at hr
   | true =>
    have := Nat.eq_of_beq_eq_true AV
    subst this
    simp only [AV, cond_true] at hr
    rcases h0 with ⟨_, h0, _⟩ | ⟨B', cs, ty, R', fY, hw, _, _, _, il, _⟩
    ·subst h0; simp at hr
    ·rw [hB] at fY
     obtain rfl := Option.some.inj fY
     obtain ⟨R₁, _, h1, _⟩ := bM.get hu il hr
     refine ⟨B.b, B.off + i * s, by rw [hc]; simp [iT, Nat.add_assoc], fun k m Ko => ?_⟩
     obtain ⟨R₂, h2, _⟩ := RO.drop k h1
     obtain ⟨R₃, h3, _⟩ := RO.take m h2
     obtain ⟨vs, hl, hv, hx⟩ := RO.cells h3
     refine ⟨vs, R₃, by rw [hl]; simp; omega, fun j v hj => ?_, hx⟩
     rw [bZ hw, ← Nat.add_assoc]
     exact hv j v hj
  ·cases hr
 | _ => simp [rowAt] at hr
end
end Go.AW
namespace Go.AW
open Go
section
variable {P : Program} {N : dJ} {st : St} {dst : Option Nat} {ty : TypeId} {pos : String} {af : Array Edge} {g : Option (Nat × Bool)}
theorem TY.gR {t : TypeId} (h : TY.shape P t = some none) (w : World) : (isAgg t).run P w = .ok false w ∧ ∃ d, P.underlying t = some d := by
 unfold TY.shape at h
 cases hu : P.underlying t with
 | none => simp [hu] at h
 | some d =>
  refine ⟨?_, d, rfl⟩
  rw [hu] at h
  simp only [isAgg, Sem.run_bind, run_underlying hu, Result.andThen_ok]
  cases d <;> first | rfl | (cases hi : P.info? t <;> simp [hi] at h)
theorem TY.ji {t : TypeId} {m : Nat} (h : TY.shape P t = some (some m)) (w : World) : (isAgg t).run P w = .ok true w ∧ (sizeOf t).run P w = .ok m w := by
 unfold TY.shape at h
 cases hu : P.underlying t with
 | none => simp [hu] at h
 | some d =>
  cases hi : P.info? t with
  | none => rw [hu, hi] at h; cases d <;> simp at h
  | some i =>
   rw [hu, hi] at h
   have hs : (sizeOf t).run P w = .ok i.size w := by simp [sizeOf, typeInfo, hi]
   have ha : ∀ d', P.underlying t = some d' → (match d' with | .struct _ | .array _ _ => true | _ => false) = true → (isAgg t).run P w = .ok true w := by
    intro d' LN hm
    simp only [isAgg, Sem.run_bind, run_underlying LN, Result.andThen_ok]
    cases d' <;> simp at hm <;> rfl
   cases d <;> simp at h <;> subst h <;> exact ⟨ha _ hu rfl, hs⟩
theorem getElem?_drop_take_one {α : Type} {l : List α} {k : Nat} {x : α} (h : l[k]? = some x) : (l.drop k).take 1 = [x] := by
 have hk : k < l.length := by
  rcases Nat.lt_or_ge k l.length with h' | h'
  ·exact h'
  ·simp [List.getElem?_eq_none h'] at h
 rw [List.drop_eq_getElem_cons hk]
 simp only [List.take_succ_cons, List.take_zero]
 rw [List.getElem?_eq_getElem hk] at h
 rw [Option.some.inj h]
theorem Y.qx {t : TypeId} {x : Operand} {p y : X} {row : List X} (ht : TY.shape P t = some none) (hx : bu st x = some p) (hr : rowAt st p = some row) (hy : row[iT p]? = some y) (hf : y.free = true) :
  Yields P N st ⟨dst, .load t x, ty, pos, af, g⟩ y := by
 intro G E RR a _ hi
 obtain ⟨R, hp⟩ := hi.eval hx
 obtain ⟨b, off, hc, fu⟩ := hi.behind hp hr
 have hk : iT p < row.length := by
  rcases Nat.lt_or_ge (iT p) row.length with h' | h'
  ·exact h'
  ·simp [List.getElem?_eq_none h'] at hy
 obtain ⟨vs, R', hl, hv, eM⟩ := fu (iT p) 1 om
 rw [getElem?_drop_take_one hy] at eM
 simp only [bg] at eM
 obtain ⟨c, cp, R₁, R₂, AX, _, h1, ⟨rfl, rfl⟩, rfl⟩ := eM
 subst AX
 have h0 := RX.free hf h1
 subst h0
 refine ⟨c, ?_, h1⟩
 show (do let z ← Instr.loadAt t (a.eval x); pure (Next.value z) : Sem Next).run P E.w = _
 rw [hc]
 refine cK ?_
 have fv := hv 0 c rfl
 simp only [Instr.loadAt, Instr.sureAddr, loadVar, Sem.run_bind, Sem.run_pure, Result.andThen_ok, (TY.gR ht E.w).1]
 simp only [Nat.add_zero] at fv
 simp [fv]
theorem Y.qy {t : TypeId} {x : Operand} {p : X} {row : List X} {m : Nat} {ys : List X} (ht : TY.shape P t = some (some m)) (hx : bu st x = some p) (hr : rowAt st p = some row) (hm : iT p + m ≤ row.length)
  (qW : (row.drop (iT p)).take m = ys) (hf : X.aW ys = true) : Yields P N st ⟨dst, .load t x, ty, pos, af, g⟩ (.agg ys) := by
 intro G E RR a _ hi
 obtain ⟨R, hp⟩ := hi.eval hx
 obtain ⟨b, off, hc, fu⟩ := hi.behind hp hr
 obtain ⟨vs, R', hl, hv, eM⟩ := fu (iT p) m hm
 rw [qW] at eM
 have h0 := bg.free hf eM
 subst h0
 refine ⟨.agg vs.toArray, ?_, by simp only [RX]; exact ⟨_, rfl, eM⟩⟩
 show (do let z ← Instr.loadAt t (a.eval x); pure (Next.value z) : Sem Next).run P E.w = _
 rw [hc]
 refine cK ?_
 obtain ⟨h1, h2⟩ := TY.ji ht E.w
 have h3 : (loadCells ⟨b, off + iT p, none⟩ m).run P E.w = .ok vs.toArray E.w := by
  rw [← hl]
  exact run_loadCells_list (w := E.w) _ vs fun j v hj => by rw [fq, Nat.add_assoc]; exact hv j v hj
 simp only [Instr.loadAt, Instr.sureAddr, loadVar, Sem.run_bind, Sem.run_pure, Result.andThen_ok, h1, if_true, h2, h3]
theorem run_sizeOf {t : TypeId} {i : TypeInfo} (h : P.info? t = some i) (w : World) : (sizeOf t).run P w = .ok i.size w := by simp [sizeOf, typeInfo, h]
theorem TY.tC {t : TypeId} {f off : Nat} {ft : TypeId} (h : TY.jh P t f = some (off, ft)) (b o : Nat) (w : World) :
  (Instr.fieldAt t (.pointer (some ⟨b, o, none⟩)) f).run P w = .ok (.pointer (some ⟨b, o + off, none⟩)) w := by
 unfold TY.jh at h
 cases hu : P.underlying t with
 | none => simp [hu] at h
 | some d =>
  rw [hu] at h
  cases d with
  | struct fs =>
   simp only at h
   cases hf : fs[f]? with
   | none => simp [hf] at h
   | some fd =>
    rw [hf] at h
    simp only at h
    cases hi : P.info? fd.type with
    | none => simp [hi] at h
    | some i =>
     rw [hi] at h
     simp only at h
     cases hz : Nat.beq i.size 0 with
     | true => simp [hz] at h
     | false =>
      have LO : i.size ≠ 0 := Nat.ne_of_beq_eq_false hz
      rw [hz] at h
      simp only [cond_false, Option.some.injEq, Prod.mk.injEq] at h
      simp only [Instr.fieldAt, Sem.run_bind, run_underlying hu, Result.andThen_ok, hf, Instr.sureAddr, Sem.run_pure, fieldPlace, run_sizeOf hi, LO, if_false, fq, h.1]
  | _ => simp at h
def X.on (n : Nat) : X → Option X
 | .fp row k => some (.fp row (k + n))
 | .ptr o s i k => some (.ptr o s i (k + n))
 | _ => none
theorem RX.on {E : Env} {p q : X} {n : Nat} {c : Value} {R : List Nat} (hq : p.on n = some q) (h : RX E p c R) : ∃ b off, c = .pointer (some ⟨b, off, none⟩) ∧ RX E q (.pointer (some ⟨b, off + n, none⟩)) [] := by
 cases p with
 | fp row k =>
  simp only [X.on, Option.some.injEq] at hq
  subst hq
  simp only [RX] at h ⊢
  obtain ⟨_, b, off, hc, hf⟩ := h
  exact ⟨b, _, hc, trivial, b, off, by rw [Nat.add_assoc], hf⟩
 | ptr o s i k =>
  simp only [X.on, Option.some.injEq] at hq
  subst hq
  simp only [RX] at h ⊢
  obtain ⟨_, B, hB, hc⟩ := h
  exact ⟨_, _, hc, trivial, B, hB, by simp only [Nat.add_assoc]⟩
 | _ => simp [X.on] at hq
theorem Y.qn {t : TypeId} {x : Operand} {p q : X} {f off : Nat} {ft : TypeId} (ht : TY.jh P t f = some (off, ft)) (hx : bu st x = some p) (hq : p.on off = some q) :
  Yields P N st ⟨dst, .fieldAddr t x f, ty, pos, af, g⟩ q := by
 intro G E RR a _ hi
 obtain ⟨R, hp⟩ := hi.eval hx
 obtain ⟨b, o, hc, h⟩ := hp.on hq
 refine ⟨_, ?_, h⟩
 show (do let z ← Instr.fieldAt t (a.eval x) f; pure (Next.value z) : Sem Next).run P E.w = _
 rw [hc]
 exact cK (TY.tC ht b o E.w)
theorem TY.ct {t e s cj : Nat} (h : TY.slice P t = some (e, s, cj)) : P.underlying t = some (.slice e) ∧ ∃ i, P.info? e = some i ∧ i.size = s ∧ i.bytes = cj := by
 unfold TY.slice at h
 split at h
 ·rename_i e' hu
  cases hi : P.info? e' with
  | none => simp [hi] at h
  | some i =>
   simp only [hi, Option.map_some, Option.some.injEq, Prod.mk.injEq] at h
   obtain ⟨rfl, h2, h3⟩ := h
   exact ⟨hu, i, hi, h2, h3⟩
 ·cases h
theorem iu {t e s cj : Nat} (ht : TY.slice P t = some (e, s, cj)) {b off len cap m : Nat} {k : IntKind} {n : Int} (hn : n = (m : Int)) (hm : m < len) (w : World) :
  (Instr.indexAt t (.slice (some ⟨b, off, none⟩) len cap) (.int k n)).run P w = .ok (.pointer (some ⟨b, off + m * s, none⟩)) w := by
 obtain ⟨hu, i, hi, hs, _⟩ := TY.ct ht
 subst hn
 simp [Instr.indexAt, asIntOf, run_underlying hu, hm, run_sizeOf hi, hs, fq]
theorem Y.qq {t e s cj : Nat} {x ix : Operand} {rows : List (List X)} {row : List X} {k : IntKind} {n : Int} {m : Nat} (ht : TY.slice P t = some (e, s, cj)) (hx : bu st x = some (.fz s rows))
  (v7 : bu st ix = some (.v (.int k n))) (hn : n = (m : Int)) (hr : rows[m]? = some row) : Yields P N st ⟨dst, .indexAddr t x ix, ty, pos, af, g⟩ (.fp row 0) := by
 intro G E RR a _ hi
 obtain ⟨R, hp⟩ := hi.eval hx
 have hm : m < rows.length := by
  rcases Nat.lt_or_ge m rows.length with h' | h'
  ·exact h'
  ·simp [List.getElem?_eq_none h'] at hr
 simp only [RX] at hp
 obtain ⟨_, hu, base, cap, hc, h⟩ := hp
 rcases h with ⟨h, _⟩ | ⟨b, off, rfl, hl, hf⟩
 ·subst h; simp at hr
 ·refine ⟨.pointer (some ⟨b, off + m * s, none⟩), ?_, ?_⟩
  ·show (do let z ← Instr.indexAt t (a.eval x) (a.eval ix); pure (Next.value z) : Sem Next).run P E.w = _
   rw [hc, hi.val v7]
   exact cK (iu ht hn hm E.w)
  ·simp only [RX]
   exact ⟨trivial, b, off + m * s, rfl, gp.get hu hf hr⟩
theorem Y.qr {t e s cj : Nat} {x ix : Operand} {o lo len : Nat} {k : IntKind} {n : Int} {m : Nat} (ht : TY.slice P t = some (e, s, cj)) (hx : bu st x = some (.aR o s lo len))
  (v7 : bu st ix = some (.v (.int k n))) (hn : n = (m : Int)) (hm : m < len) : Yields P N st ⟨dst, .indexAddr t x ix, ty, pos, af, g⟩ (.ptr o s (lo + m) 0) := by
 intro G E RR a _ hi
 obtain ⟨R, hp⟩ := hi.eval hx
 simp only [RX] at hp
 obtain ⟨_, base, cap, hc, h⟩ := hp
 rcases h with ⟨_, _, h, _⟩ | ⟨B, hB, _, hl, hb⟩
 ·omega
 ·have eO : base = some ⟨B.b, B.off + lo * s, none⟩ := hb.resolve_left om
  subst eO
  refine ⟨.pointer (some ⟨B.b, B.off + lo * s + m * s, none⟩), ?_, ?_⟩
  ·show (do let z ← Instr.indexAt t (a.eval x) (a.eval ix); pure (Next.value z) : Sem Next).run P E.w = _
   rw [hc, hi.val v7]
   exact cK (iu ht hn hm E.w)
  ·simp only [RX]
   exact ⟨trivial, B, hB, by rw [Nat.add_mul]; simp [Nat.add_assoc]⟩
theorem bg.get {E : Env} : ∀ {xs : List X} {cs : List Value} {R : List Nat} {k : Nat} {x : X}, bg E xs cs R → xs[k]? = some x → ∃ u R₁, cs[k]? = some u ∧ gm u ∧ RX E x u R₁
 | [], _, _, _, _, _, h => by simp at h
 | y :: r, cs, R, 0, x, h, hx => by
  simp only [bg] at h
  simp only [List.getElem?_cons_zero, Option.some.injEq] at hx
  subst hx
  obtain ⟨c, cp, R₁, R₂, rfl, hs, h1, _, _⟩ := h
  exact ⟨c, R₁, rfl, hs, h1⟩
 | y :: r, cs, R, k + 1, x, h, hx => by
  simp only [bg] at h
  obtain ⟨c, cp, R₁, R₂, rfl, _, _, h2, _⟩ := h
  obtain ⟨u, R₃, hu, hs, h3⟩ := bg.get (k := k) h2 (by simpa using hx)
  exact ⟨u, R₃, by simpa using hu, hs, h3⟩
theorem bg.length {E : Env} : ∀ {xs : List X} {cs : List Value} {R : List Nat}, bg E xs cs R → cs.length = xs.length
 | [], _, _, h => by simp only [bg] at h; rw [h.1]; rfl
 | x :: r, _, _, h => by
  simp only [bg] at h
  obtain ⟨c, cp, R₁, R₂, rfl, _, _, h2, _⟩ := h
  simp [bg.length h2]
theorem bg.drop {E : Env} : ∀ {xs : List X} {cs : List Value} {R : List Nat} (k : Nat), bg E xs cs R → ∃ R', bg E (xs.drop k) (cs.drop k) R'
 | [], cs, R, k, h => by simp only [bg] at h; exact ⟨[], by simp [bg, h.1]⟩
 | y :: r, cs, R, 0, h => ⟨R, h⟩
 | y :: r, cs, R, k + 1, h => by
  simp only [bg] at h
  obtain ⟨c, cp, R₁, R₂, rfl, _, _, h2, _⟩ := h
  simpa using bg.drop k h2
theorem bg.take {E : Env} : ∀ {xs : List X} {cs : List Value} {R : List Nat} (k : Nat), bg E xs cs R → ∃ R', bg E (xs.take k) (cs.take k) R'
 | [], cs, R, k, h => by simp only [bg] at h; exact ⟨[], by simp [bg, h.1]⟩
 | y :: r, cs, R, 0, h => ⟨[], by simp [bg]⟩
 | y :: r, cs, R, k + 1, h => by
  simp only [bg] at h
  obtain ⟨c, cp, R₁, R₂, rfl, hs, h1, h2, _⟩ := h
  obtain ⟨R', h'⟩ := bg.take k h2
  exact ⟨R₁ ++ R', by simp only [List.take_succ_cons, bg]; exact ⟨c, _, R₁, R', rfl, hs, h1, h', rfl⟩⟩
theorem Y.qs {t : TypeId} {x ix : Operand} {b : ByteArray} {k : IntKind} {n : Int} {m : Nat} (ht : P.underlying t = some .string) (hx : bu st x = some (.v (.string b)))
  (v7 : bu st ix = some (.v (.int k n))) (hn : n = (m : Int)) (hm : m < b.size) : Yields P N st ⟨dst, .index t x ix, ty, pos, af, g⟩ (.v (.int .u8 (b[m].toNat : Int))) := by
 intro G E RR a _ hi
 refine ⟨.int .u8 (b[m].toNat : Int), ?_, by simp [RX]⟩
 show (do let z ← Instr.index t (a.eval x) (a.eval ix); pure (Next.value z) : Sem Next).run P E.w = _
 rw [hi.val hx, hi.val v7]
 refine cK ?_
 subst hn
 have h0 : (0 : Int) ≤ (m : Int) := by omega
 simp [Instr.index, asIntOf, run_underlying ht, h0, getElem?_pos b m hm]
end
end Go.AW
namespace Go.AW
open Go
section
variable {P : Program} {N : dJ} {st : St} {dst : Option Nat} {ty : TypeId} {pos : String} {af : Array Edge} {g : Option (Nat × Bool)}
theorem fb {b : Builtin} {args : Array Operand} {l5 : Array TypeId} {a : Act} {w w' : World} {r : Next}
  (h : (builtin b l5 ty (args.map fun | .const _ => true | _ => false) (args.map a.eval)).run P w = .ok r w') :
  (execOp a.eval ⟨dst, .call ⟨.builtin b, args, l5⟩, ty, pos, af, g⟩).run P w = .ok r w' := h
def X.len : X → Option Nat
 | .fz _ rows => some rows.length
 | .cX _ rows => some rows.length
 | .aR _ _ _ n => some n
 | .v (.slice none n _) => some n
 | _ => none
theorem RX.len {E : Env} {x : X} {c : Value} {R : List Nat} {n : Nat} (hn : x.len = some n) (h : RX E x c R) : ∃ base cap, c = .slice base n cap := by
 cases x with
 | fz s rows =>
  simp only [X.len, Option.some.injEq] at hn; subst hn
  simp only [RX] at h
  obtain ⟨_, _, base, cap, hc, _⟩ := h
  exact ⟨base, cap, hc⟩
 | cX s rows =>
  simp only [X.len, Option.some.injEq] at hn; subst hn
  simp only [RX] at h
  obtain ⟨_, base, cap, hc, _⟩ := h
  exact ⟨base, cap, hc⟩
 | aR o s lo m =>
  simp only [X.len, Option.some.injEq] at hn; subst hn
  simp only [RX] at h
  obtain ⟨_, base, cap, hc, _⟩ := h
  exact ⟨base, cap, hc⟩
 | v u =>
  simp only [RX] at h
  cases u with
  | slice b m c' =>
   cases b with
   | none => simp only [X.len, Option.some.injEq] at hn; subst hn; exact ⟨none, c', h.1⟩
   | some b => simp [X.len] at hn
  | _ => simp [X.len] at hn
 | _ => simp [X.len] at hn
theorem Y.qu {t e s cj : Nat} {x : Operand} {y : X} {n : Nat} (ht : TY.slice P t = some (e, s, cj)) (hx : bu st x = some y) (hn : y.len = some n) :
  Yields P N st ⟨dst, .call ⟨.builtin .len, #[x], #[t]⟩, ty, pos, af, g⟩ (.v (.int .i64 (n : Int))) := by
 intro G E RR a _ hi
 obtain ⟨R, hp⟩ := hi.eval hx
 obtain ⟨base, cap, hc⟩ := hp.len hn
 refine ⟨.int .i64 (n : Int), fb ?_, by simp [RX]⟩
 obtain ⟨hu, _⟩ := TY.ct ht
 simp [builtin, Builtin.len_, hc, run_underlying hu, goInt]
theorem Y.qv {t : TypeId} {x : Operand} {b : ByteArray} (ht : P.underlying t = some .string) (hx : bu st x = some (.v (.string b))) :
  Yields P N st ⟨dst, .call ⟨.builtin .len, #[x], #[t]⟩, ty, pos, af, g⟩ (.v (.int .i64 (b.size : Int))) := by
 intro G E RR a _ hi
 refine ⟨.int .i64 (b.size : Int), fb ?_, by simp [RX]⟩
 have hc := hi.val hx
 simp [builtin, Builtin.len_, hc, run_underlying ht, goInt]
def bound (st : St) (d : Nat) : Option Operand → Option Nat → Prop
 | none, m => m = none ∨ m = some d
 | some x, some m => ∃ k, bu st x = some (.v (.int k (m : Int)))
 | some _, none => False
theorem run_sliceBound {k : IntKind} {m y : Nat} {code : BoundsCode} (h : m ≤ y) (w : World) : (Instr.sliceBound (.int k (m : Int)) y code).run P w = .ok m w := by
 have h1 : (0 : Int) ≤ (m : Int) ∧ (m : Int) ≤ (y : Int) := by omega
 simp only [Instr.sliceBound, asIntOf, Sem.run_bind, Sem.run_pure, Result.andThen_ok, h1, and_self, if_true, Int.toNat_natCast]
inductive Bd (st : St) : Option Operand → Nat → Nat → Prop where
 | none (d : Nat) : Bd st none d d
 | some {x : Operand} {k : IntKind} {m d : Nat} (h : bu st x = some (.v (.int k (m : Int)))) : Bd st (some x) d m
theorem eV {G : Ctx} {E : Env} {RR : Own → List Nat} {a : Act} (hi : Inv G E RR st a) {lo fk : Option Operand} {len cap l h : Nat}
  (hl : Bd st lo 0 l) (hh : Bd st fk len h) (h1 : l ≤ h) (h2 : h ≤ cap) (LP : Bool) (w : World) :
  (Instr.sliceBounds LP len cap (lo.map a.eval) (fk.map a.eval) none).run P w = .ok (l, h, cap) w := by
 cases hl with
 | none =>
  cases hh with
  | none => simp [Instr.sliceBounds]
  | some hx => simp [Instr.sliceBounds, hi.val hx, run_sliceBound h2]
 | some hy =>
  cases hh with
  | none => simp [Instr.sliceBounds, hi.val hy, run_sliceBound h1]
  | some hx => simp [Instr.sliceBounds, hi.val hx, hi.val hy, run_sliceBound h1, run_sliceBound h2]
theorem Y.zr {t e s cj : Nat} {x : Operand} {lo fk : Option Operand} {rows : List (List X)} {l h : Nat} {iV : List (List X)} (ht : TY.slice P t = some (e, s, cj)) (hx : bu st x = some (.fz s rows))
  (hl : Bd st lo 0 l) (hh : Bd st fk rows.length h) (h1 : l ≤ h) (h2 : h ≤ rows.length) (hr : (rows.take h).drop l = iV) :
  Yields P N st ⟨dst, .slice t x lo fk none, ty, pos, af, g⟩ (.fz s iV) := by
 intro G E RR a _ hi
 obtain ⟨R, hp⟩ := hi.eval hx
 simp only [RX] at hp
 obtain ⟨_, hu, base, cap, hc, cu⟩ := hp
 obtain ⟨tD, i, fG, ei, _⟩ := TY.ct ht
 subst hr
 have jJ : h ≤ cap := by
  rcases cu with ⟨h', pN⟩ | ⟨_, _, _, tE, _⟩
  ·subst h'; simp at h2; omega
  ·omega
 refine ⟨.slice (if cap = l then base else base.map (·.add (l * s))) (h - l) (cap - l), ?_, ?_⟩
 ·show (do let z ← Instr.sliceAt t (a.eval x) (lo.map a.eval) (fk.map a.eval) none; pure (Next.value z) : Sem Next).run P E.w = _
  rw [hc]
  refine cK ?_
  simp only [Instr.sliceAt, Sem.run_bind, run_underlying tD, Result.andThen_ok, Instr.slice, eV hi hl hh h1 jJ, run_sizeOf fG, ei]
  rfl
 ·have hlen : ((rows.take h).drop l).length = h - l := by simp; omega
  simp only [RX, hlen]
  refine ⟨trivial, (hu.take h).drop l, _, _, rfl, ?_⟩
  rcases cu with ⟨h', pN⟩ | ⟨b, off, hb, tE, hf⟩
  ·exact .inl ⟨by subst h'; simp, om⟩
  ·refine .inr ?_
   subst hb
   by_cases pO : cap = l
   ·refine ⟨b, off, by rw [if_pos pO], om, ?_⟩
    have : (rows.take h).drop l = [] := by
     apply List.eq_nil_of_length_eq_zero
     rw [hlen]; omega
    rw [this]; simp [gp]
   ·refine ⟨b, off + l * s, by rw [if_neg pO]; simp [fq], om, ?_⟩
    exact gp.drop l (hu.take h) (by simp; omega) (hf.take h)
theorem Y.zt {t e s cj : Nat} {x : Operand} {lo fk : Option Operand} {o Kq n l h : Nat} (ht : TY.slice P t = some (e, s, cj)) (hx : bu st x = some (.aR o s Kq n))
  (hl : Bd st lo 0 l) (hh : Bd st fk n h) (h1 : l ≤ h) (h2 : h ≤ n) : Yields P N st ⟨dst, .slice t x lo fk none, ty, pos, af, g⟩ (.aR o s (Kq + l) (h - l)) := by
 intro G E RR a _ hi
 obtain ⟨R, hp⟩ := hi.eval hx
 simp only [RX] at hp
 obtain ⟨_, base, cap, hc, cu⟩ := hp
 obtain ⟨tD, i, fG, ei, _⟩ := TY.ct ht
 have jJ : h ≤ cap := by
  rcases cu with ⟨_, _, h', _⟩ | ⟨_, _, _, h', _⟩ <;> omega
 refine ⟨.slice (if cap = l then base else base.map (·.add (l * s))) (h - l) (cap - l), ?_, ?_⟩
 ·show (do let z ← Instr.sliceAt t (a.eval x) (lo.map a.eval) (fk.map a.eval) none; pure (Next.value z) : Sem Next).run P E.w = _
  rw [hc]
  refine cK ?_
  simp only [Instr.sliceAt, Sem.run_bind, run_underlying tD, Result.andThen_ok, Instr.slice, eV hi hl hh h1 jJ, run_sizeOf fG, ei]
  rfl
 ·simp only [RX]
  refine ⟨trivial, _, _, rfl, ?_⟩
  rcases cu with ⟨hβ, u4, hn, pN⟩ | ⟨B, hβ, Dr, hn, hb⟩
  ·exact .inl ⟨hβ, om, om, om⟩
  ·refine .inr ⟨B, hβ, om, om, ?_⟩
   by_cases pO : cap = l
   ·left; omega
   ·right
    have := hb.resolve_left om
    rw [if_neg pO, this]
    simp only [Option.map_some, fq, Nat.add_mul, Nat.add_assoc]
theorem dy.get {E : Env} : ∀ {xs : List X} {cs : List Value} {R : List Nat} {k : Nat} {x : X}, dy E xs cs R → xs[k]? = some x → ∃ u R₁, cs[k]? = some u ∧ RX E x u R₁
 | [], _, _, _, _, _, h => by simp at h
 | y :: r, cs, R, 0, x, h, hx => by
  simp only [dy] at h
  simp only [List.getElem?_cons_zero, Option.some.injEq] at hx
  subst hx
  obtain ⟨c, cp, R₁, R₂, rfl, h1, _, _⟩ := h
  exact ⟨c, R₁, rfl, h1⟩
 | y :: r, cs, R, k + 1, x, h, hx => by
  simp only [dy] at h
  obtain ⟨c, cp, R₁, R₂, rfl, _, h2, _⟩ := h
  obtain ⟨u, R₃, hu, h3⟩ := dy.get (k := k) h2 (by simpa using hx)
  exact ⟨u, R₃, by simpa using hu, h3⟩
theorem Y.qm {x : Operand} {xs : List X} {y : X} {k : Nat} (hx : bu st x = some (.tup xs)) (hy : xs[k]? = some y) (hf : y.free = true) : Yields P N st ⟨dst, .extract x k, ty, pos, af, g⟩ y := by
 intro G E RR a _ hi
 obtain ⟨R, hp⟩ := hi.eval hx
 simp only [RX] at hp
 obtain ⟨cs, hc, eM⟩ := hp
 obtain ⟨u, R₁, hu, h1⟩ := dy.get eM hy
 have h0 := RX.free hf h1
 subst h0
 refine ⟨u, ?_, h1⟩
 show (do let z ← Instr.extract (a.eval x) k; pure (Next.value z) : Sem Next).run P E.w = _
 rw [hc]
 refine cK ?_
 have xP : cs[k]? = some u := by simpa using hu
 simp only [Instr.extract, xP]; rfl
theorem Y.zh {x : Operand} {p q : X} (hx : bu st x = some p) (hq : p.on 0 = some q) : Yields P N st ⟨dst, .nilCheck x, ty, pos, af, g⟩ q := by
 intro G E RR a _ hi
 obtain ⟨R, hp⟩ := hi.eval hx
 obtain ⟨b, off, hc, h⟩ := hp.on hq
 refine ⟨_, ?_, h⟩
 simp only [execOp, hc]; rfl
def X.one : X → Bool
 | .v (.agg _) | .v (.tuple _) => false
 | .v _ | .fz .. | .cX .. | .ptr .. | .aR .. | .mref _ | .fp .. | .fH .. => true
 | .no | .agg _ | .tup _ => false
theorem RX.one {E : Env} {x : X} {c : Value} {R : List Nat} (ho : x.one = true) (h : RX E x c R) : gm c := by
 cases x with
 | v u =>
  simp only [RX] at h
  rw [h.1]
  cases u <;> first | trivial | (simp [X.one] at ho)
 | fz s rows => simp only [RX] at h; obtain ⟨_, _, _, _, rfl, _⟩ := h; trivial
 | cX s rows => simp only [RX] at h; obtain ⟨_, _, _, rfl, _⟩ := h; trivial
 | ptr o s i k => simp only [RX] at h; obtain ⟨_, _, _, rfl⟩ := h; trivial
 | aR o s lo n => simp only [RX] at h; obtain ⟨_, _, _, rfl, _⟩ := h; trivial
 | mref o => simp only [RX] at h; obtain ⟨_, _, _, rfl⟩ := h; trivial
 | fp row k => simp only [RX] at h; obtain ⟨_, _, _, rfl, _⟩ := h; trivial
 | fH fn f c => simp only [RX] at h; obtain ⟨_, _, _, rfl, _⟩ := h; trivial
 | _ => simp [X.one] at ho
def X.flat : X → Option (List X)
 | .agg xs => some xs
 | x => bif x.one then some [x] else none
theorem pP {c : Value} (h : gm c) : c.cells = #[c] := by
 cases c <;> first | rfl | exact h.elim
theorem RX.flat {E : Env} {x : X} {c : Value} {R : List Nat} {ys : List X} (hf : x.flat = some ys) (h : RX E x c R) : bg E ys c.cells.toList R := by
 by_cases hx : ∃ xs, x = .agg xs
 ·obtain ⟨xs, rfl⟩ := hx
  simp only [X.flat, Option.some.injEq] at hf
  subst hf
  simp only [RX] at h
  obtain ⟨cs, rfl, h⟩ := h
  exact h
 ·have h1 : x.one = true ∧ ys = [x] := by
   unfold X.flat at hf
   split at hf
   ·exact absurd ⟨_, rfl⟩ hx
   ·cases ho : x.one with
    | false => simp [ho] at hf
    | true => simp [ho] at hf; exact ⟨rfl, hf.symm⟩
  obtain ⟨ho, rfl⟩ := h1
  have hs := h.one ho
  rw [pP hs]
  simp only [bg]
  exact ⟨c, [], R, [], rfl, hs, h, ⟨rfl, rfl⟩, by simp⟩
end
end Go.AW
namespace Go.AW
open Go
theorem dq.mono {E E' : Env} {o : Nat} {ob : Obj} {R : List Nat} (hE : E.On E' R) (ho : E'.β o = E.β o) (hm : ∀ xs, ob = .cells xs → ∀ q, X.cq q xs = true → E'.β q = E.β q) (h : dq E o ob R) : dq E' o ob R := by
 cases ob with
 | cells xs =>
  simp only [dq] at h ⊢
  obtain ⟨nz, B, cs, ty, hB, hw, hf, hl, hR, rfl⟩ := h
  have h2 := hE.2 B.b (by simp)
  exact ⟨nz, B, cs, ty, ho.trans hB, h2.1.trans hw, h2.2 hf, hl, RO.mono xs cs _ [] (hE.sub (fun _ h => by cases h)) (hm xs rfl) hR, rfl⟩
 | rows s rs =>
  simp only [dq] at h ⊢
  obtain ⟨hu, h⟩ := h
  refine ⟨hu, ?_⟩
  rcases h with ⟨h1, h2, h3⟩ | ⟨B, cs, ty, R', hB, hw, hf, hl, hc, hR, rfl⟩
  ·exact .inl ⟨ho.trans h1, h2, h3⟩
  ·have h2 := hE.2 B.b (by simp)
   exact .inr ⟨B, cs, ty, R', ho.trans hB, h2.1.trans hw, h2.2 hf, hl, hc, bM.mono rs cs _ R' (hE.sub (fun _ h => by simp [h])) hR, rfl⟩
 | s4 es =>
  simp only [dq] at h ⊢
  obtain ⟨B, nn, clock, hB, hw, hf, he, rfl⟩ := h
  have h2 := hE.2 B.b (by simp)
  exact ⟨B, nn, clock, ho.trans hB, h2.1.trans hw, h2.2 hf, he, rfl⟩
 | gone => simpa [dq] using h
structure cb (G : Ctx) (E E' : Env) (T : Nat → Prop) : Prop where
 φ : E'.φ = E.φ
 free : ∀ b, T b → ∀ i, E.φ b i = none
 out : ∀ b, T b → ¬ G.K b
 same : ∀ b, b < E.w.heap.size → ¬ T b → E'.w.heap[b]? = E.w.heap[b]?
 size : E.w.heap.size ≤ E'.w.heap.size
 os : E'.w.os = E.w.os
 tape : E'.w.tape = E.w.tape
 output : E'.w.output = E.w.output
section
variable {G : Ctx} {E E' : Env} {RR : Own → List Nat} {st : St} {a : Act} {T : Nat → Prop}
theorem cb.on (hm : cb G E E' T) (hi : Inv G E RR st a) {p : Own} (hT : ∀ b ∈ RR p, ¬ T b) : E.On E' (RR p) :=
 ⟨fun b i v h => by rw [hm.φ]; exact h, fun b hb => ⟨hm.same b (hi.own p b hb).1 (hT b hb), fun h => by rw [hm.φ]; exact h⟩⟩
theorem cb.jH (hm : cb G E E' T) (hi : Inv G E RR st a) : ∀ b i v, E'.φ b i = some v → E'.w.cell? ⟨b, i, none⟩ = some v := by
 intro b i v h
 rw [hm.φ] at h
 have h0 := hi.jH b i v h
 have gA := World.block_lt_of_cell? E.w _ h0
 have hT : ¬ T b := fun hT => by rw [hm.free b hT i] at h; cases h
 have := hm.same b gA hT
 rw [World.cell?_of_block this]; exact h0
theorem cb.au (hm : cb G E E' T) (hi : Inv G E RR st a) : ∀ b, G.K b → E'.w.heap[b]? = G.w0.heap[b]? := by
 intro b hK
 have gA : b < E.w.heap.size := Nat.lt_of_lt_of_le (hi.small b hK) hi.size
 rw [hm.same b gA (fun hT => hm.out b hT hK)]
 exact hi.au b hK
theorem cb.slot (hm : cb G E E' T) (hi : Inv G E RR st a) {s : Nat} {x : X} (hx : look st.ax s = some x) (hT : ∀ b ∈ RR (.slot s), ¬ T b) (hβ : ∀ o, x.cY o = true → E'.β o = E.β o) :
  RX E' x (a.tmps.getD s undef) (RR (.slot s)) :=
 RX.mono x _ _ (hm.on hi hT) hβ (hi.ax s x hx)
theorem cb.obj (hm : cb G E E' T) (hi : Inv G E RR st a) {o : Nat} {ob : Obj} (hx : look st.ay o = some ob) (hT : ∀ b ∈ RR (.obj o), ¬ T b) (ho : E'.β o = E.β o)
  (hβ : ∀ xs, ob = .cells xs → ∀ q, X.cq q xs = true → E'.β q = E.β q) : dq E' o ob (RR (.obj o)) :=
 dq.mono (hm.on hi hT) ho hβ (hi.ay o ob hx)
theorem cb.own (hm : cb G E E' T) (hi : Inv G E RR st a) : ∀ p b, b ∈ RR p → b < E'.w.heap.size ∧ ¬ G.K b :=
 fun p b hb => ⟨Nat.lt_of_lt_of_le (hi.own p b hb).1 hm.size, (hi.own p b hb).2⟩
theorem Inv.tF (hi : Inv G E RR st a) (hm : cb G E E' (fun _ => False)) (hβ : E'.β = E.β) : Inv G E' RR st a :=
 {hi with
  jH := hm.jH hi
  ax := fun s x hx => hm.slot hi hx (fun _ _ h => h) (fun o _ => by rw [hβ])
  ay := fun o ob ho => hm.obj hi ho (fun _ _ h => h) (by rw [hβ]) (fun _ _ _ _ => by rw [hβ])
  own := hm.own hi
  au := hm.au hi
  size := Nat.le_trans hi.size hm.size
  os := hm.os.trans hi.os
  tape := hm.tape.trans hi.tape
  output := hm.output.trans hi.output
  φ0 := fun b i v h => by rw [hm.φ]; exact hi.φ0 b i v h
  grow := fun b i v h => by rw [hm.φ] at h; exact hi.grow b i v h
  fixed := fun o h => by rw [hβ]; exact hi.fixed o h }
theorem cb.alloc (G : Ctx) (E : Env) (o : Go.Obj) : cb G E { E with w := E.w.alloc o } (fun _ => False) where
 φ := rfl
 free := fun _ h => h.elim
 out := fun _ h => h.elim
 same := fun b hb _ => by
  show (E.w.heap.push o)[b]? = _
  rw [Array.getElem?_push, if_neg om]
 size := by simp
 os := rfl
 tape := rfl
 output := rfl
theorem cb.drew (G : Ctx) (E : Env) : cb G E { E with w := E.w.drew } (fun _ => False) where
 φ := rfl
 free := fun _ h => h.elim
 out := fun _ h => h.elim
 same := fun _ _ _ => rfl
 size := Nat.le_refl _
 os := rfl
 tape := rfl
 output := rfl
theorem cb.trans {iW : Env} {T' : Nat → Prop} (h : cb G E E' T) (h' : cb G E' iW T') (cx : ∀ b, T' b → T b ∨ (E.w.heap.size ≤ b)) : cb G E iW T where
 φ := h'.φ.trans h.φ
 free := h.free
 out := h.out
 same := fun b hb hT => by
  have h1 := h.same b hb hT
  rw [← h1]
  refine h'.same b (Nat.lt_of_lt_of_le hb h.size) (fun LQ => ?_)
  rcases cx b LQ with h2 | h2
  ·exact hT h2
  ·omega
 size := Nat.le_trans h.size h'.size
 os := h'.os.trans h.os
 tape := h'.tape.trans h.tape
 output := h'.output.trans h.output
theorem cb.setRow (G : Ctx) (E : Env) (b : Nat) (cs : Array Value) (hf : ∀ i, E.φ b i = none) (hK : ¬ G.K b) : cb G E { E with w := E.w.setRow b cs } (fun c => c = b) where
 φ := rfl
 free := fun c h => by subst h; exact hf
 out := fun c h => by subst h; exact hK
 same := fun c _ h => setRow_other E.w b c cs h
 size := by simp
 os := rfl
 tape := rfl
 output := rfl
theorem Inv.relabel (hi : Inv G E RR st a) {d : Nat} {x : X} {R : List Nat} (hx : RX E x (a.tmps.getD d undef) R) (hn : R.Nodup)
  (hR : ∀ b ∈ R, b < E.w.heap.size ∧ ¬ G.K b ∧ ∀ p, p ≠ .slot d → b ∉ RR p) : Inv G E (en RR (.slot d) R) (st.put d x) a := by
 refine { hi with ax := ?_, ay := ?_, nodup := ?_, apart := ?_, own := ?_ }
 ·intro s y hy
  simp only [St.put, look] at hy
  cases hb : Nat.beq d s with
  | true =>
   have := Nat.eq_of_beq_eq_true hb
   subst this
   rw [hb] at hy
   simp only [cond_true, Option.some.injEq] at hy
   subst hy
   simpa [en] using hx
  | false =>
   have er := Nat.ne_of_beq_eq_false hb
   rw [hb] at hy
   have : en RR (.slot d) R (.slot s) = RR (.slot s) := by simp [en, Ne.symm er]
   rw [this]
   exact hi.ax s y hy
 ·intro o ob ho
  have : en RR (.slot d) R (.obj o) = RR (.obj o) := by simp [en]
  rw [this]; exact hi.ay o ob ho
 ·intro p
  unfold en
  split
  ·exact hn
  ·exact hi.nodup p
 ·intro p q jI b hb
  unfold en at hb ⊢
  split at hb
  ·rename_i hp
   subst hp
   rw [if_neg (Ne.symm jI)]
   exact (hR b hb).2.2 q (Ne.symm jI)
  ·split
   ·rename_i hp hq
    subst hq
    intro eO
    exact (hR b eO).2.2 p jI hb
   ·exact hi.apart p q jI b hb
 ·intro p b hb
  unfold en at hb
  split at hb
  ·exact ⟨(hR b hb).1, (hR b hb).2.1⟩
  ·exact hi.own p b hb
theorem Inv.no (hi : Inv G E RR st a) (d : Nat) : Inv G E (en RR (.slot d) []) (st.put d .no) a :=
 hi.relabel (by simp [RX]) List.nodup_nil (fun _ h => by cases h)
def St.dr (st : St) (o : Nat) (ob : Obj) : St := { st with ay := (o, ob) :: st.ay }
theorem Inv.dr (hi : Inv G E RR st a) {o : Nat} {ob : Obj} {R : List Nat} (hx : dq E o ob R) (hn : R.Nodup)
  (hR : ∀ b ∈ R, b < E.w.heap.size ∧ ¬ G.K b ∧ ∀ p, p ≠ .obj o → b ∉ RR p) : Inv G E (en RR (.obj o) R) (st.dr o ob) a := by
 refine { hi with ax := ?_, ay := ?_, nodup := ?_, apart := ?_, own := ?_ }
 ·intro s y hy
  have : en RR (.obj o) R (.slot s) = RR (.slot s) := by simp [en]
  rw [this]; exact hi.ax s y hy
 ·intro q ss ho
  simp only [St.dr, look] at ho
  cases hb : Nat.beq o q with
  | true =>
   have := Nat.eq_of_beq_eq_true hb
   subst this
   rw [hb] at ho
   simp only [cond_true, Option.some.injEq] at ho
   subst ho
   simpa [en] using hx
  | false =>
   have er := Nat.ne_of_beq_eq_false hb
   rw [hb] at ho
   have : en RR (.obj o) R (.obj q) = RR (.obj q) := by simp [en, Ne.symm er]
   rw [this]
   exact hi.ay q ss ho
 ·intro p
  unfold en
  split
  ·exact hn
  ·exact hi.nodup p
 ·intro p q jI b hb
  unfold en at hb ⊢
  split at hb
  ·rename_i hp
   subst hp
   rw [if_neg (Ne.symm jI)]
   exact (hR b hb).2.2 q (Ne.symm jI)
  ·split
   ·rename_i hp hq
    subst hq
    intro eO
    exact (hR b eO).2.2 p jI hb
   ·exact hi.apart p q jI b hb
 ·intro p b hb
  unfold en at hb
  split at hb
  ·exact ⟨(hR b hb).1, (hR b hb).2.1⟩
  ·exact hi.own p b hb
end
def j4 (o : Nat) (x : X) : X := bif x.cY o then .no else x
def pQ (o : Nat) (l : List (Nat × X)) : List (Nat × X) := l.map fun p => (p.1, j4 o p.2)
def Obj.tG (o : Nat) : Obj → Obj
 | .cells xs => .cells (xs.map (j4 o))
 | ob => ob
def s5 (o : Nat) (l : List (Nat × Obj)) : List (Nat × Obj) := l.map fun p => (p.1, p.2.tG o)
def St.kill (st : St) (o : Nat) : St := ⟨pQ o st.ax, s5 o st.ay⟩
theorem jK {α β : Type} (f : α → β) : ∀ (l : List (Nat × α)) (s : Nat), look (l.map fun p => (p.1, f p.2)) s = (look l s).map f
 | [], _ => rfl
 | (t, x) :: r, s => by
  simp only [List.map_cons, look]
  cases Nat.beq t s with
  | true => rfl
  | false => exact jK f r s
theorem s6 (o : Nat) {x : X} (h : x.free = true) : (j4 o x).free = true := by
 unfold j4
 cases x.cY o with
 | true => rfl
 | false => exact h
theorem nK (o : Nat) : ∀ {xs : List X}, X.aW xs = true → X.aW (xs.map (j4 o)) = true
 | [], _ => rfl
 | x :: r, h => by
  simp only [X.aW, Bool.and_eq_true] at h
  simp only [List.map_cons, X.aW, s6 o h.1, nK o h.2, Bool.and_self]
theorem RO.kill {E : Env} {o : Nat} : ∀ {xs : List X} {cs : Array Value} {off : Nat}, X.aW xs = true → RO E xs cs off [] → RO E (xs.map (j4 o)) cs off []
 | [], _, _, _, h => h
 | x :: r, cs, off, hf, h => by
  simp only [RO] at h
  obtain ⟨u, R₁, R₂, hu, hs, h1, h2, hR⟩ := h
  simp only [X.aW, Bool.and_eq_true] at hf
  have GY := RX.free hf.1 h1
  have GZ := RO.free hf.2 h2
  subst GY; subst GZ
  have h3 := RO.kill (o := o) hf.2 h2
  simp only [List.map_cons, RO]
  refine ⟨u, [], [], hu, hs, ?_, h3, rfl⟩
  unfold j4
  cases x.cY o with
  | true => simp [RX]
  | false => exact h1
theorem kU (o : Nat) : ∀ (xs : List X) (q : Nat), X.cq q (xs.map (j4 o)) = true → q ≠ o ∧ X.cq q xs = true
 | [], _, h => by simp [X.cq] at h
 | x :: r, q, h => by
  simp only [List.map_cons, X.cq, Bool.or_eq_true] at h ⊢
  rcases h with h | h
  ·unfold j4 at h
   cases hk : x.cY o with
   | true => simp [hk, X.cY] at h
   | false =>
    rw [hk] at h
    simp only [cond_false] at h
    exact ⟨fun hq => by (subst hq; rw [hk] at h; cases h), .inl h⟩
  ·exact ⟨(kU o r q h).1, .inr (kU o r q h).2⟩
section
variable {G : Ctx} {E E' : Env} {RR : Own → List Nat} {st : St} {a : Act} {T : Nat → Prop}
theorem Inv.qX (hi : Inv G E RR st a) {o b : Nat} (h : b ∈ RR (.obj o) ∨ E.w.heap.size ≤ b) : ∀ p, p ≠ .obj o → b ∉ RR p := by
 intro p hp hb
 rcases h with h | h
 ·exact hi.apart p _ hp b hb h
 ·have := (hi.own p b hb).1; omega
def eI (st : St) (RR : Own → List Nat) (o : Nat) (R : List Nat) : Own → List Nat
 | .obj q => if q = o then R else RR (.obj q)
 | .slot s => match look st.ax s with
  | some x => bif x.cY o then [] else RR (.slot s)
  | none => RR (.slot s)
theorem jj (st : St) (RR : Own → List Nat) (o : Nat) (R : List Nat) (s : Nat) : eI st RR o R (.slot s) = [] ∨ eI st RR o R (.slot s) = RR (.slot s) := by
 cases hs : look st.ax s with
 | none => exact .inr (by simp [eI, hs])
 | some x => cases hk : x.cY o with
  | true => exact .inl (by simp [eI, hs, hk])
  | false => exact .inr (by simp [eI, hs, hk])
theorem Inv.kI (hi : Inv G E RR st a) (hm : cb G E E' T) {o : Nat} {ob : Obj} {R : List Nat} (hT : ∀ b, T b → b ∈ RR (.obj o)) (hβ : ∀ q, q ≠ o → E'.β q = E.β q) (Ha : G.fn.F.elem o = true → E'.β o = E.β o)
  (hx : dq E' o ob R) (hn : R.Nodup) (hR : ∀ b ∈ R, b < E'.w.heap.size ∧ ¬ G.K b ∧ ∀ p, p ≠ .obj o → b ∉ RR p) :
  Inv G E' (eI st RR o R) ((st.kill o).dr o ob) a := by
 have hold : ∀ p, p ≠ .obj o → ∀ b ∈ RR p, ¬ T b := fun p hp b hb zW => hi.apart p (.obj o) hp b hb (hT b zW)
 have cx : ∀ p, p ≠ .obj o → ∀ b ∈ eI st RR o R p, b ∈ RR p := by
  intro p hp b hb
  cases p with
  | obj q =>
   have : q ≠ o := fun e => hp (by rw [e])
   simpa [eI, this] using hb
  | slot s =>
   rcases jj st RR o R s with h | h
   ·rw [h] at hb; cases hb
   ·rw [h] at hb; exact hb
 have qY : eI st RR o R (.obj o) = R := by simp [eI]
 have kV : ∀ p, p ≠ .obj o → ∀ b ∈ RR p, b ∉ R := by
  intro p hp b hb AY
  exact (hR b AY).2.2 p hp hb
 have Hb : ∀ b i v, G.φ0 b i = some v → E'.φ b i = some v := fun b i v h => by rw [hm.φ]; exact hi.φ0 b i v h
 have v8 : ∀ b i v, E'.φ b i = some v → G.φ0 b i = some v ∨ ¬ G.K b := fun b i v h => by rw [hm.φ] at h; exact hi.grow b i v h
 refine { hi with jH := hm.jH hi, ax := ?_, ay := ?_, nodup := ?_, apart := ?_, own := ?_, au := hm.au hi, size := Nat.le_trans hi.size hm.size, os := hm.os.trans hi.os, tape := hm.tape.trans hi.tape, output := hm.output.trans hi.output, φ0 := Hb, grow := v8, fixed := ?_ }
 ·intro s y hy
  have hl : look (pQ o st.ax) s = some y := hy
  unfold pQ at hl
  rw [jK (j4 o)] at hl
  cases hs : look st.ax s with
  | none => simp [hs] at hl
  | some x =>
   rw [hs] at hl
   simp only [Option.map_some, Option.some.injEq] at hl
   subst hl
   cases hk : x.cY o with
   | true => simp [eI, hs, hk, j4, RX]
   | false =>
    have : eI st RR o R (.slot s) = RR (.slot s) := by simp [eI, hs, hk]
    rw [this]
    simp only [j4, hk, cond_false]
    exact hm.slot hi hs (hold _ (by simp)) (fun q hq => hβ q (fun e => by subst e; rw [hk] at hq; cases hq))
 ·intro q ss ho
  simp only [St.dr, look] at ho
  cases hb : Nat.beq o q with
  | true =>
   have := Nat.eq_of_beq_eq_true hb
   subst this
   rw [hb] at ho
   simp only [cond_true, Option.some.injEq] at ho
   subst ho
   rw [qY]; exact hx
  | false =>
   have er := Nat.ne_of_beq_eq_false hb
   rw [hb] at ho
   have hl : look (s5 o st.ay) q = some ss := ho
   unfold s5 at hl
   rw [jK (Obj.tG o)] at hl
   have hr : eI st RR o R (.obj q) = RR (.obj q) := by simp [eI, Ne.symm er]
   rw [hr]
   cases hs : look st.ay q with
   | none => simp [hs] at hl
   | some Ds =>
    rw [hs] at hl
    simp only [Option.map_some, Option.some.injEq] at hl
    subst hl
    have jD := hi.ay q Ds hs
    have gq := hm.on hi (p := .obj q) (hold _ (by simpa using Ne.symm er))
    cases Ds with
    | cells xs =>
     simp only [Obj.tG, dq] at jD ⊢
     obtain ⟨nz, B, cs, ty, hB, hw, hf, hlen, il, gr⟩ := jD
     have h2 := gq.2 B.b (by rw [gr]; simp)
     exact ⟨nK o nz, B, cs, ty, (hβ q (Ne.symm er)).trans hB, h2.1.trans hw, h2.2 hf, by simpa using hlen,
      RO.mono _ cs _ [] (gq.sub (fun _ h => by cases h)) (fun p hp => hβ p (kU o xs p hp).1) (RO.kill nz il), gr⟩
    | rows s rs => exact dq.mono gq (hβ q (Ne.symm er)) (fun xs h => by cases h) jD
    | s4 es => exact dq.mono gq (hβ q (Ne.symm er)) (fun xs h => by cases h) jD
    | gone => simpa [dq, Obj.tG] using jD
 ·intro p
  by_cases hp : p = .obj o
  ·subst hp; rw [qY]; exact hn
  ·cases p with
   | obj q =>
    have : q ≠ o := fun e => hp (by rw [e])
    simpa [eI, this] using hi.nodup (.obj q)
   | slot s =>
    rcases jj st RR o R s with h | h
    ·rw [h]; exact List.nodup_nil
    ·rw [h]; exact hi.nodup _
 ·intro p q jI b hb eO
  by_cases hp : p = .obj o
  ·subst hp
   rw [qY] at hb
   have hq : q ≠ .obj o := Ne.symm jI
   exact kV q hq b (cx q hq b eO) hb
  ·by_cases hq : q = .obj o
   ·subst hq
    rw [qY] at eO
    exact kV p hp b (cx p hp b hb) eO
   ·exact hi.apart p q jI b (cx p hp b hb) (cx q hq b eO)
 ·intro p b hb
  by_cases hp : p = .obj o
  ·subst hp
   rw [qY] at hb
   exact ⟨(hR b hb).1, (hR b hb).2.1⟩
  ·exact hm.own hi p b (cx p hp b hb)
 ·intro q hq
  by_cases Kr : q = o
  ·subst Kr; rw [Ha hq]; exact hi.fixed q hq
  ·rw [hβ q Kr]; exact hi.fixed q hq
theorem Inv.v9 (hi : Inv G E RR st a) (hm : cb G E E' T) {o : Nat} {ob : Obj} {R : List Nat} (hT : ∀ b, T b → b ∈ RR (.obj o)) (hβ : E'.β = E.β)
  (hx : dq E' o ob R) (hn : R.Nodup) (hR : ∀ b ∈ R, b < E'.w.heap.size ∧ ¬ G.K b ∧ ∀ p, p ≠ .obj o → b ∉ RR p) :
  Inv G E' (en RR (.obj o) R) (st.dr o ob) a := by
 have hold : ∀ p, p ≠ .obj o → ∀ b ∈ RR p, ¬ T b := fun p hp b hb zW => hi.apart p (.obj o) hp b hb (hT b zW)
 have kV : ∀ p, p ≠ .obj o → ∀ b ∈ RR p, b ∉ R := by
  intro p hp b hb AY
  exact (hR b AY).2.2 p hp hb
 have Hb : ∀ b i v, G.φ0 b i = some v → E'.φ b i = some v := fun b i v h => by rw [hm.φ]; exact hi.φ0 b i v h
 have v8 : ∀ b i v, E'.φ b i = some v → G.φ0 b i = some v ∨ ¬ G.K b := fun b i v h => by rw [hm.φ] at h; exact hi.grow b i v h
 refine { hi with jH := hm.jH hi, ax := ?_, ay := ?_, nodup := ?_, apart := ?_, own := ?_, au := hm.au hi, size := Nat.le_trans hi.size hm.size, os := hm.os.trans hi.os, tape := hm.tape.trans hi.tape, output := hm.output.trans hi.output, φ0 := Hb, grow := v8, fixed := fun q hq => by rw [hβ]; exact hi.fixed q hq }
 ·intro s y hy
  have : en RR (.obj o) R (.slot s) = RR (.slot s) := by simp [en]
  rw [this]
  exact hm.slot hi hy (hold _ (by simp)) (fun q _ => by rw [hβ])
 ·intro q ss ho
  simp only [St.dr, look] at ho
  cases hb : Nat.beq o q with
  | true =>
   have := Nat.eq_of_beq_eq_true hb
   subst this
   rw [hb] at ho
   simp only [cond_true, Option.some.injEq] at ho
   subst ho
   simpa [en] using hx
  | false =>
   have er := Nat.ne_of_beq_eq_false hb
   rw [hb] at ho
   have : en RR (.obj o) R (.obj q) = RR (.obj q) := by simp [en, Ne.symm er]
   rw [this]
   exact hm.obj hi ho (hold _ (by simpa using Ne.symm er)) (by rw [hβ]) (fun _ _ _ _ => by rw [hβ])
 ·intro p
  unfold en
  split
  ·exact hn
  ·exact hi.nodup p
 ·intro p q jI b hb eO
  unfold en at hb eO
  split at hb
  ·rename_i hp
   subst hp
   rw [if_neg (Ne.symm jI)] at eO
   exact kV q (Ne.symm jI) b eO hb
  ·rename_i hp
   split at eO
   ·exact kV p hp b hb eO
   ·exact hi.apart p q jI b hb eO
 ·intro p b hb
  unfold en at hb
  split at hb
  ·exact ⟨(hR b hb).1, (hR b hb).2.1⟩
  ·exact hm.own hi p b hb
end
end Go.AW
namespace Go.AW
open Go
section
variable {E : Env}
theorem RO.ext : ∀ {xs : List X} {cs cp : Array Value} {off : Nat} {R : List Nat}, (∀ j, j < xs.length → cp[off + j]? = cs[off + j]?) → RO E xs cs off R → RO E xs cp off R
 | [], _, _, _, _, _, h => by simpa [RO] using h
 | x :: r, cs, cp, off, R, he, h => by
  simp only [RO] at h ⊢
  obtain ⟨u, R₁, R₂, hu, hs, h1, h2, hR⟩ := h
  refine ⟨u, R₁, R₂, ?_, hs, h1, RO.ext (fun j hj => ?_) h2, hR⟩
  ·have := he 0 (by simp)
   rw [Nat.add_zero] at this
   rw [this]; exact hu
  ·have := he (j + 1) (by simp; omega)
   rw [show off + 1 + j = off + (j + 1) by omega]; exact this
theorem bM.ext : ∀ {rs : List (List X)} {cs cp : Array Value} {off : Nat} {R : List Nat}, (∀ j, j < rs.flatten.length → cp[off + j]? = cs[off + j]?) → bM E rs cs off R → bM E rs cp off R
 | [], _, _, _, _, _, h => by simpa [bM] using h
 | x :: r, cs, cp, off, R, he, h => by
  simp only [bM] at h ⊢
  obtain ⟨R₁, R₂, hn, h1, h2, hR⟩ := h
  refine ⟨R₁, R₂, hn, RO.ext (fun j hj => he j (by simp; omega)) h1, bM.ext (fun j hj => ?_) h2, hR⟩
  have := he (x.length + j) (by simp at hj ⊢; omega)
  rw [Nat.add_assoc]; exact this
theorem RO.app : ∀ {xs ys : List X} {cs : Array Value} {off : Nat} {R₁ R₂ : List Nat}, RO E xs cs off R₁ → RO E ys cs (off + xs.length) R₂ → RO E (xs ++ ys) cs off (R₁ ++ R₂)
 | [], ys, cs, off, R₁, R₂, h, h' => by simp only [RO] at h; subst h; simpa using h'
 | x :: r, ys, cs, off, R₁, R₂, h, h' => by
  simp only [RO] at h
  obtain ⟨u, R₃, R₄, hu, hs, h1, h2, rfl⟩ := h
  simp only [List.cons_append, RO]
  refine ⟨u, R₃, R₄ ++ R₂, hu, hs, h1, RO.app h2 ?_, by simp⟩
  rw [show off + 1 + r.length = off + (x :: r).length by simp; omega]; exact h'
theorem RO.lC : ∀ {xs ys : List X} {cs : Array Value} {off : Nat} {R : List Nat}, RO E (xs ++ ys) cs off R → ∃ R₁ R₂, RO E xs cs off R₁ ∧ RO E ys cs (off + xs.length) R₂ ∧ R = R₁ ++ R₂
 | [], ys, cs, off, R, h => ⟨[], R, by simp [RO], by simpa using h, rfl⟩
 | x :: r, ys, cs, off, R, h => by
  simp only [List.cons_append, RO] at h
  obtain ⟨u, R₃, R₄, hu, hs, h1, h2, rfl⟩ := h
  obtain ⟨R₁, R₂, h3, h4, rfl⟩ := RO.lC h2
  refine ⟨R₃ ++ R₁, R₂, ?_, ?_, by simp⟩
  ·simp only [RO]; exact ⟨u, R₃, R₁, hu, hs, h1, h3, rfl⟩
  ·rw [show off + (x :: r).length = off + 1 + r.length by simp; omega]; exact h4
theorem bM.app : ∀ {xs ys : List (List X)} {cs : Array Value} {off : Nat} {R₁ R₂ : List Nat}, bM E xs cs off R₁ → bM E ys cs (off + xs.flatten.length) R₂ → bM E (xs ++ ys) cs off (R₁ ++ R₂)
 | [], ys, cs, off, R₁, R₂, h, h' => by simp only [bM] at h; subst h; simpa using h'
 | x :: r, ys, cs, off, R₁, R₂, h, h' => by
  simp only [bM] at h
  obtain ⟨R₃, R₄, hn, h1, h2, rfl⟩ := h
  simp only [List.cons_append, bM]
  refine ⟨R₃, R₄ ++ R₂, hn, h1, bM.app h2 ?_, by simp⟩
  rw [show off + x.length + r.flatten.length = off + (x :: r).flatten.length by simp; omega]; exact h'
theorem bM.lC : ∀ {xs ys : List (List X)} {cs : Array Value} {off : Nat} {R : List Nat}, bM E (xs ++ ys) cs off R → ∃ R₁ R₂, bM E xs cs off R₁ ∧ bM E ys cs (off + xs.flatten.length) R₂ ∧ R = R₁ ++ R₂
 | [], ys, cs, off, R, h => ⟨[], R, by simp [bM], by simpa using h, rfl⟩
 | x :: r, ys, cs, off, R, h => by
  simp only [List.cons_append, bM] at h
  obtain ⟨R₃, R₄, hn, h1, h2, rfl⟩ := h
  obtain ⟨R₁, R₂, h3, h4, rfl⟩ := bM.lC h2
  refine ⟨R₃ ++ R₁, R₂, ?_, ?_, by simp⟩
  ·simp only [bM]; exact ⟨R₃, R₁, hn, h1, h3, rfl⟩
  ·rw [show off + (x :: r).flatten.length = off + x.length + r.flatten.length by simp; omega]; exact h4
theorem RO.of : ∀ {xs : List X} {vs : List Value} {cs : Array Value} {off : Nat} {R : List Nat}, bg E xs vs R → (∀ j v, vs[j]? = some v → cs[off + j]? = some v) → RO E xs cs off R
 | [], _, _, _, _, h, _ => by simp only [bg] at h; simp [RO, h.2]
 | x :: r, vs, cs, off, R, h, hv => by
  simp only [bg] at h
  obtain ⟨c, cp, R₁, R₂, rfl, hs, h1, h2, rfl⟩ := h
  simp only [RO]
  refine ⟨c, R₁, R₂, ?_, hs, h1, RO.of h2 (fun j v hj => ?_), rfl⟩
  ·simpa using hv 0 c rfl
  ·rw [show off + 1 + j = off + (j + 1) by omega]; exact hv (j + 1) v (by simpa using hj)
theorem length_flatten {s : Nat} : ∀ {rs : List (List X)}, bA s rs → rs.flatten.length = rs.length * s
 | [], _ => by simp
 | r :: rs, h => by
  have h1 := h r (by simp)
  have := length_flatten (rs := rs) (fun q hq => h q (by simp [hq]))
  simp only [List.flatten_cons, List.length_append, h1, this, List.length_cons, Nat.add_mul]
  omega
end
def gD {α : Type} (xs : List α) (k : Nat) (ys : List α) : List α := xs.take k ++ ys ++ xs.drop (k + ys.length)
theorem iv {α : Type} {xs ys : List α} {k : Nat} (h : k + ys.length ≤ xs.length) : (gD xs k ys).length = xs.length := by
 simp [gD]; omega
def gS (cs : Array Value) (k : Nat) (vs : List Value) : Array Value := (cs.toList.take k ++ vs ++ cs.toList.drop (k + vs.length)).toArray
theorem ks {cs : Array Value} {k : Nat} {vs : List Value} (h : k + vs.length ≤ cs.size) : (gS cs k vs).size = cs.size := by
 simp [gS]; omega
theorem tH {cs : Array Value} {k j : Nat} {vs : List Value} (h : k + vs.length ≤ cs.size) (hj : j < vs.length) : (gS cs k vs)[k + j]? = vs[j]? := by
 have hk : k ≤ cs.toList.length := by simp; omega
 simp only [gS, List.getElem?_toArray, List.append_assoc]
 rw [List.getElem?_append_right (by simp; omega)]
 have : k + j - (List.take k cs.toList).length = j := by simp; omega
 rw [this, List.getElem?_append_left hj]
theorem jL {cs : Array Value} {k j : Nat} {vs : List Value} (h : k + vs.length ≤ cs.size) (hj : j < k ∨ k + vs.length ≤ j) : (gS cs k vs)[j]? = cs[j]? := by
 have hk : k ≤ cs.toList.length := by simp; omega
 have hl : (List.take k cs.toList).length = k := by simp; omega
 simp only [gS, List.getElem?_toArray, List.append_assoc]
 rcases hj with hj | hj
 ·rw [List.getElem?_append_left om, List.getElem?_take_of_lt hj]; simp
 ·rw [List.getElem?_append_right om, List.getElem?_append_right om, hl, List.getElem?_drop]
  have : k + vs.length + (j - k - vs.length) = j := by omega
  rw [this]; simp
section
variable {E : Env}
theorem RO.put {xs ys : List X} {cs : Array Value} {off k : Nat} {R R₂ : List Nat} {vs : List Value} (h : RO E xs cs off R) (hk : k + ys.length ≤ xs.length) (hy : bg E ys vs R₂) (hc : off + xs.length ≤ cs.size) :
  ∃ R₁, RO E (gD xs k ys) (gS cs (off + k) vs) off R₁ ∧ (∀ b ∈ R₁, b ∈ R ∨ b ∈ R₂) ∧ ((R ++ R₂).Nodup → R₁.Nodup) := by
 have hl := bg.length hy
 have np : off + k + vs.length ≤ cs.size := by omega
 have h0 : xs = xs.take k ++ ((xs.drop k).take ys.length ++ xs.drop (k + ys.length)) := by
  conv => lhs; rw [← List.take_append_drop k xs, ← List.take_append_drop ys.length (xs.drop k), List.drop_drop]
 rw [h0] at h
 obtain ⟨Ra, Rb, h1, h2, rfl⟩ := RO.lC h
 obtain ⟨Rc, Rd, h3, h4, rfl⟩ := RO.lC h2
 have Ks : (xs.take k).length = k := by simp; omega
 have Hc : ((xs.drop k).take ys.length).length = ys.length := by simp; omega
 rw [Ks, Hc] at h4
 refine ⟨Ra ++ R₂ ++ Rd, ?_, ?_, ?_⟩
 ·unfold gD
  refine RO.app (RO.app (RO.ext (fun j hj => jL np (.inl om)) h1) ?_) ?_
  ·rw [Ks]
   refine RO.of hy fun j v hj => ?_
   have kt : j < vs.length := by
    rcases Nat.lt_or_ge j vs.length with h' | h'
    ·exact h'
    ·simp [List.getElem?_eq_none h'] at hj
   rw [tH np kt]; exact hj
  ·have : off + (List.take k xs ++ ys).length = off + k + ys.length := by simp; omega
   rw [this]
   exact RO.ext (fun j _ => jL np (.inr om)) h4
 ·intro b hb
  simp only [List.mem_append] at hb ⊢
  rcases hb with (hb | hb) | hb
  ·exact .inl (.inl hb)
  ·exact .inr hb
  ·exact .inl (.inr (.inr hb))
 ·intro hn
  simp only [List.nodup_append, List.mem_append] at hn ⊢
  obtain ⟨⟨ha, ⟨lB, hd, Dt⟩, AZ⟩, Hd, hx⟩ := hn
  refine ⟨⟨ha, Hd, fun a s7 b hb => hx a (.inl s7) b hb⟩, hd, ?_⟩
  intro a s7 b hb
  rcases s7 with s7 | s7
  ·exact AZ a s7 b (.inr hb)
  ·intro e; subst e; exact hx a (.inr (.inr hb)) a s7 rfl
theorem bM.set {rs : List (List X)} {row ys : List X} {cs : Array Value} {off s i k : Nat} {R R₂ : List Nat} {vs : List Value} (hu : bA s rs) (h : bM E rs cs off R) (hr : rs[i]? = some row)
  (hk : k + ys.length ≤ row.length) (hy : bg E ys vs R₂) (hn : X.eU ys = true) (hc : off + rs.length * s ≤ cs.size) :
  ∃ R₁, bM E (rs.set i (gD row k ys)) (gS cs (off + (i * s + k)) vs) off R₁ ∧ (∀ b ∈ R₁, b ∈ R ∨ b ∈ R₂) ∧ ((R ++ R₂).Nodup → R₁.Nodup) := by
 have hi : i < rs.length := by
  rcases Nat.lt_or_ge i rs.length with h' | h'
  ·exact h'
  ·simp [List.getElem?_eq_none h'] at hr
 have hl := bg.length hy
 have mn : row.length = s := hu row (List.mem_of_getElem? hr)
 have LR : rs[i] = row := by rw [List.getElem?_eq_getElem hi] at hr; exact Option.some.inj hr
 have h0 : rs = rs.take i ++ (row :: rs.drop (i + 1)) := by
  conv => lhs; rw [← List.take_append_drop i rs, List.drop_eq_getElem_cons hi, LR]
 have He : rs.set i (gD row k ys) = rs.take i ++ (gD row k ys :: rs.drop (i + 1)) := by
  rw [List.set_eq_take_append_cons_drop, if_pos hi]
 rw [h0] at h
 obtain ⟨Ra, Rb, h1, h2, rfl⟩ := bM.lC h
 have qZ : (rs.take i).flatten.length = i * s := by
  rw [length_flatten (hu.take i), List.length_take, Nat.min_eq_left (Nat.le_of_lt hi)]
 rw [qZ] at h2
 simp only [bM] at h2
 obtain ⟨Rc, Rd, vg, h3, h4, rfl⟩ := h2
 have Gt : i * s + s ≤ rs.length * s := by
  have : (i + 1) * s ≤ rs.length * s := Nat.mul_le_mul_right s hi
  rw [Nat.add_mul] at this; omega
 have np : off + (i * s + k) + vs.length ≤ cs.size := by omega
 obtain ⟨Re, h5, cx, iw⟩ := RO.put h3 hk hy om
 rw [He]
 refine ⟨Ra ++ (Re ++ Rd), ?_, ?_, ?_⟩
 ·refine bM.app (bM.ext (fun j hj => jL np (.inl om)) h1) ?_
  rw [qZ]
  simp only [bM]
  have LS : (gD row k ys).length = row.length := iv hk
  refine ⟨Re, Rd, ?_, ?_, ?_, rfl⟩
  ·have h7 : ∀ (xs ys : List X), X.eU xs = true → X.eU ys = true → X.eU (xs ++ ys) = true := by
    intro xs
    induction xs with
    | nil => intro ys _ h; exact h
    | cons x r ih => intro ys hx hy; simp only [X.eU, Bool.and_eq_true, List.cons_append] at hx ⊢; exact ⟨hx.1, ih ys hx.2 hy⟩
   have h8 : ∀ (xs : List X) (n : Nat), X.eU xs = true → X.eU (xs.take n) = true := by
    intro xs
    induction xs with
    | nil => intro n _; simp [X.eU]
    | cons x r ih =>
     intro n hx
     cases n with
     | zero => simp [X.eU]
     | succ n => simp only [X.eU, Bool.and_eq_true, List.take_succ_cons] at hx ⊢; exact ⟨hx.1, ih n hx.2⟩
   have h9 : ∀ (xs : List X) (n : Nat), X.eU xs = true → X.eU (xs.drop n) = true := by
    intro xs
    induction xs with
    | nil => intro n _; simp [X.eU]
    | cons x r ih =>
     intro n hx
     cases n with
     | zero => simpa using hx
     | succ n => simp only [X.eU, Bool.and_eq_true, List.drop_succ_cons] at hx ⊢; exact ih n hx.2
   exact h7 _ _ (h7 _ _ (h8 _ _ vg) hn) (h9 _ _ vg)
  ·rw [Nat.add_assoc] at h5; exact h5
  ·rw [LS]
   exact bM.ext (fun j _ => jL np (.inr om)) h4
 ·intro b hb
  simp only [List.mem_append] at hb ⊢
  rcases hb with hb | hb | hb
  ·exact .inl (.inl hb)
  ·rcases cx b hb with h' | h'
   ·exact .inl (.inr (.inl h'))
   ·exact .inr h'
  ·exact .inl (.inr (.inr hb))
 ·intro jM
  simp only [List.nodup_append, List.mem_append] at jM iw ⊢
  obtain ⟨⟨ha, ⟨lB, hd, Dt⟩, AZ⟩, Hd, hx⟩ := jM
  have LU := iw ⟨lB, Hd, fun a s7 b hb => hx a (.inr (.inl s7)) b hb⟩
  refine ⟨ha, ⟨LU, hd, ?_⟩, ?_⟩
  ·intro a s7 b hb
   rcases cx a s7 with h' | h'
   ·exact Dt a h' b hb
   ·intro e; subst e; exact hx a (.inr (.inr hb)) a h' rfl
  ·intro a s7 b hb
   rcases hb with hb | hb
   ·rcases cx b hb with h' | h'
    ·exact AZ a s7 b (.inl h')
    ·exact hx a (.inl s7) b h'
   ·exact AZ a s7 b (.inr hb)
theorem bA.set {s i : Nat} {rs : List (List X)} {row : List X} (hu : bA s rs) (h : row.length = s) : bA s (rs.set i row) := by
 intro r hr
 rcases List.mem_or_eq_of_mem_set hr with h' | h'
 ·exact hu r h'
 ·rw [h']; exact h
end
end Go.AW
namespace Go.AW
open Go
def X.oX : List X → Bool
 | [] => true
 | x :: r => x.one && X.oX r
theorem tI : ∀ (z : List Value), X.aW (z.map X.v) = true
 | [] => rfl
 | _ :: r => by simp [X.aW, X.free, tI r]
theorem vA : ∀ (z : List Value), X.eU (z.map X.v) = true
 | [] => rfl
 | _ :: r => by simp [X.eU, X.nr, vA r]
theorem pv {E : Env} : ∀ {z : List Value}, X.oX (z.map X.v) = true → bg E (z.map X.v) z []
 | [], _ => by simp [bg]
 | c :: r, h => by
  simp only [List.map_cons, X.oX, Bool.and_eq_true] at h
  simp only [List.map_cons, bg]
  have hx : RX E (X.v c) c [] := by simp [RX]
  exact ⟨c, r, [], [], rfl, hx.one h.1, hx, pv h.2, rfl⟩
theorem bg.ku {E : Env} : ∀ {xs : List X} {vs : List Value} {R : List Nat}, bg E xs vs R → ∀ v ∈ vs, v.oneCell' = true
 | [], _, _, h, v, hv => by simp only [bg] at h; rw [h.1] at hv; cases hv
 | x :: r, _, _, h, v, hv => by
  simp only [bg] at h
  obtain ⟨c, cp, R₁, R₂, rfl, hs, _, h2, _⟩ := h
  rcases List.mem_cons.1 hv with h' | h'
  ·subst h'; cases v <;> first | rfl | exact hs.elim
  ·exact bg.ku h2 v h'
def Sh (N : dJ) (st aQ : St) : Prop := ∀ G : Ctx, G.fn = N → ∀ a w, bO G st a w → bO G aQ a w
section
variable {P : Program} {N : dJ} {st aQ : St} {Q : Exit → St → Prop} {all : Array Oper} {rest : List Oper} {d : Nat} {ty : TypeId} {pos : String} {af : Array Edge}
theorem aa.sh (h : Sh N st aQ) (k : aa P N all rest aQ Q) : aa P N all rest st Q := fun G hn a w hh => k G hn a w (h G hn a w hh)
theorem ah.sh {c : Code} (h : Sh N st aQ) (k : ah P N c aQ Q) : ah P N c st Q := fun G hn a w hh => k G hn a w (h G hn a w hh)
theorem aa.vB {op : Op} (h : ∀ (G : Ctx) (E : Env) (RR : Own → List Nat) (a : Act), G.fn = N → Inv G E RR st a →
   ∃ u E' et, (execOp a.eval ⟨some d, op, ty, pos, af, none⟩).run P E.w = .ok (.value u) E'.w ∧ Inv G E' et aQ (a.put (some d) u))
  (k : aa P N all rest aQ Q) : aa P N all (⟨some d, op, ty, pos, af, none⟩ :: rest) st Q := by
 intro G hn a w hh
 obtain ⟨E, RR, rfl, hi⟩ := hh
 obtain ⟨u, E', et, hr, fk⟩ := h G E RR a hn hi
 refine wpList_plain rfl fun K hK => ?_
 simp only [Oper.wp, hr, Oper.upon_value]
 exact hK _ _ (k G hn _ _ ⟨E', et, rfl, fk⟩)
theorem aa.Ba {op : Op} (h : ∀ (G : Ctx) (E : Env) (RR : Own → List Nat) (a : Act), G.fn = N → Inv G E RR st a →
   ∃ E' et, (execOp a.eval ⟨none, op, ty, pos, af, none⟩).run P E.w = .ok .skip E'.w ∧ Inv G E' et aQ a)
  (k : aa P N all rest aQ Q) : aa P N all (⟨none, op, ty, pos, af, none⟩ :: rest) st Q := by
 intro G hn a w hh
 obtain ⟨E, RR, rfl, hi⟩ := hh
 obtain ⟨E', et, hr, fk⟩ := h G E RR a hn hi
 refine wpList_plain rfl fun K hK => ?_
 simp only [Oper.wp, hr, Oper.upon_skip]
 exact hK _ _ (k G hn _ _ ⟨E', et, rfl, fk⟩)
theorem TY.eh {t : TypeId} {z : List Value} (h : TY.zero P t = some z) : ∃ i z0, P.info? t = some i ∧ i.zero = some z0 ∧ z0.cells.toList = z := by
 unfold TY.zero at h
 cases hi : P.info? t with
 | none => simp [hi] at h
 | some i =>
  rw [hi] at h
  simp only [Option.bind_some] at h
  cases hz : i.zero with
  | none => simp [hz] at h
  | some z0 =>
   rw [hz] at h
   simp only [Option.map_some, Option.some.injEq] at h
   exact ⟨i, z0, rfl, hz, h⟩
def Env.withVar (E : Env) (o : Nat) (cs : Array Value) (t : TypeId) : Env :=
 {E with w := E.w.alloc (.cells cs t), β := fun q => if q = o then some ⟨E.w.heap.size, 0, 0⟩ else E.β q }
theorem heap_alloc (w : World) (o : Go.Obj) : (w.alloc o).heap[w.heap.size]? = some o := by
 show (w.heap.push o)[w.heap.size]? = _
 simp
theorem Inv.newVar {G : Ctx} {E : Env} {RR : Own → List Nat} {a : Act} (hi : Inv G E RR st a) {o : Nat} {ys : List X} {vs : List Value} {t : TypeId} (hF : G.fn.F.elem o = false) (hy : bg E ys vs []) (hf : X.aW ys = true) (hm : X.cq o ys = false) :
  ∃ et, Inv G (E.withVar o vs.toArray t) et ((st.kill o).dr o (.cells ys)) a := by
 refine ⟨_, hi.kI (E' := E.withVar o vs.toArray t) (T := fun _ => False) (o := o) (R := [E.w.heap.size]) ?_ (fun _ h => h.elim) (fun q hq => by simp [Env.withVar, hq]) (fun h => by rw [hF] at h; cases h) ?_ (by simp) ?_⟩
 ·exact { cb.alloc G E (.cells vs.toArray t) with φ := rfl }
 ·have gq : E.On (E.withVar o vs.toArray t) [] := ⟨fun _ _ _ h => h, fun _ h => by cases h⟩
  have xQ : bg (E.withVar o vs.toArray t) ys vs [] := bg.mono ys vs [] gq (fun q hq => by
   have : q ≠ o := fun e => by subst e; rw [hm] at hq; cases hq
   simp [Env.withVar, this]) hy
  simp only [dq]
  refine ⟨hf, ⟨E.w.heap.size, 0, 0⟩, vs.toArray, t, by simp [Env.withVar], heap_alloc _ _, fun i => ?_, by simp [bg.length hy], ?_, rfl⟩
  ·show E.φ E.w.heap.size i = none
   cases h : E.φ E.w.heap.size i with
   | none => rfl
   | some v => exact absurd (World.block_lt_of_cell? E.w _ (hi.jH _ _ _ h)) (by simp)
  ·exact RO.of xQ (fun j v hj => by simpa using hj)
 ·intro b hb
  simp only [List.mem_singleton] at hb
  subst hb
  refine ⟨by simp [Env.withVar], fun hK => ?_, hi.qX (.inr (Nat.le_refl _))⟩
  have := hi.small _ hK
  have := hi.size
  omega
theorem aa.alloc {t : TypeId} {z : List Value} (o : Nat) (hz : TY.zero P t = some z) (h1 : X.oX (z.map X.v) = true) (hF : N.F.elem o = false) (hd : d < N.n)
  (k : aa P N all rest (((st.kill o).dr o (.cells (z.map X.v))).put d (.ptr o 0 0 0)) Q) : aa P N all (⟨some d, .alloc t, ty, pos, af, none⟩ :: rest) st Q := by
 refine aa.vB (fun G E RR a hn hi => ?_) k
 have hm : ∀ z : List Value, X.cq o (z.map X.v) = false := by
  intro z
  induction z with
  | nil => rfl
  | cons c r ih => simp [X.cq, X.cY, ih]
 obtain ⟨et, fk⟩ := hi.newVar (o := o) (t := t) (by rw [hn]; exact hF) (pv h1) (tI z) (hm z)
 refine ⟨.pointer (some ⟨E.w.heap.size, 0, none⟩), _, _, ?_, fk.eP (x := .ptr o 0 0 0) (by rw [hn]; exact hd) ?_⟩
 ·obtain ⟨i, z0, l4, vh, vj⟩ := TY.eh hz
  show (do let x ← Instr.alloc t true (.tuple #[]); pure (Next.value x) : Sem Next).run P E.w = _
  refine cK ?_
  have ra : z0.cells = z.toArray := by rw [← vj]
  simp [Instr.alloc, zeroValue, typeInfo, l4, vh, Go.newVar, newRow, Env.withVar, ra]
 ·simp only [RX]
  exact ⟨trivial, ⟨E.w.heap.size, 0, 0⟩, by simp [Env.withVar], by simp⟩
theorem aa.box {t : TypeId} {x : Operand} {y : X} {ys : List X} (o : Nat) (hx : bu st x = some y) (hy : y.flat = some ys) (hf : X.aW ys = true) (hm : X.cq o ys = false) (hF : N.F.elem o = false) (hd : d < N.n)
  (k : aa P N all rest (((st.kill o).dr o (.cells ys)).put d (.ptr o 0 0 0)) Q) : aa P N all (⟨some d, .box t x, ty, pos, af, none⟩ :: rest) st Q := by
 refine aa.vB (fun G E RR a hn hi => ?_) k
 obtain ⟨R, u5⟩ := hi.eval hx
 have qZ := u5.flat hy
 have h0 := bg.free hf qZ
 subst h0
 obtain ⟨et, fk⟩ := hi.newVar (o := o) (t := t) (by rw [hn]; exact hF) qZ hf hm
 refine ⟨.pointer (some ⟨E.w.heap.size, 0, none⟩), _, _, ?_, fk.eP (x := .ptr o 0 0 0) (by rw [hn]; exact hd) ?_⟩
 ·show (do let z ← Instr.box t (a.eval x); pure (Next.value z) : Sem Next).run P E.w = _
  refine cK ?_
  simp [Instr.box, Go.newVar, newRow, Env.withVar]
 ·simp only [RX]
  exact ⟨trivial, ⟨E.w.heap.size, 0, 0⟩, by simp [Env.withVar], by simp⟩
end
end Go.AW
namespace Go.AW
open Go
section
variable {E : Env}
theorem bg.app : ∀ {xs ys : List X} {cs ds : List Value} {R₁ R₂ : List Nat}, bg E xs cs R₁ → bg E ys ds R₂ → bg E (xs ++ ys) (cs ++ ds) (R₁ ++ R₂)
 | [], _, _, _, _, _, h, h' => by simp only [bg] at h; obtain ⟨rfl, rfl⟩ := h; simpa using h'
 | x :: r, ys, cs, ds, R₁, R₂, h, h' => by
  simp only [bg] at h
  obtain ⟨c, cp, R₃, R₄, rfl, hs, h1, h2, rfl⟩ := h
  simp only [List.cons_append, bg]
  exact ⟨c, cp ++ ds, R₃, R₄ ++ R₂, rfl, hs, h1, bg.app h2 h', by simp⟩
theorem bg.Du {xs : List X} {cs : List Value} (k : Nat) (h : bg E xs cs []) : bg E (xs.take k) (cs.take k) [] := by
 induction xs generalizing cs k with
 | nil => simp only [bg] at h; simp [bg, h.1]
 | cons x r ih =>
  simp only [bg] at h
  obtain ⟨c, cp, R₁, R₂, rfl, hs, h1, h2, hR⟩ := h
  have Bb := List.append_eq_nil_iff.1 hR.symm
  obtain ⟨rfl, rfl⟩ := Bb
  cases k with
  | zero => simp [bg]
  | succ k => simp only [List.take_succ_cons, bg]; exact ⟨c, _, [], [], rfl, hs, h1, ih k h2, rfl⟩
theorem bg.Dv {xs : List X} {cs : List Value} (k : Nat) (h : bg E xs cs []) : bg E (xs.drop k) (cs.drop k) [] := by
 induction xs generalizing cs k with
 | nil => simp only [bg] at h; simp [bg, h.1]
 | cons x r ih =>
  have h' := h
  simp only [bg] at h
  obtain ⟨c, cp, R₁, R₂, rfl, hs, h1, h2, hR⟩ := h
  have Bb := List.append_eq_nil_iff.1 hR.symm
  obtain ⟨rfl, rfl⟩ := Bb
  cases k with
  | zero => exact h'
  | succ k => simp only [List.drop_succ_cons]; exact ih k h2
theorem bg.eP {xs ys : List X} {cs vs : List Value} {k : Nat} (h : bg E xs cs []) (h' : bg E ys vs []) : bg E (gD xs k ys) (gD cs k vs) [] := by
 unfold gD
 rw [← bg.length h']
 have := bg.app (bg.app (bg.Du k h) h') (bg.Dv (k + vs.length) h)
 simpa using this
end
def pw (place : Nat → Option (Nat × Nat)) (cells : List X) : List (Nat × X) → Option (List X)
 | [] => some cells
 | (i, x) :: rest =>
  match place i, x.flat with
  | some (off, size), some ys => bif Nat.beq ys.length size && Nat.ble (off + size) cells.length then pw place (gD cells off ys) rest else none
  | _, _ => none
def kW (st : St) : List (Nat × Operand) → Option (List (Nat × X))
 | [] => some []
 | (i, x) :: r => match bu st x, kW st r with
  | some y, some l => bif y.free then some ((i, y) :: l) else none
  | _, _ => none
theorem px (off : Nat) : ∀ (l : List Value) (k : Nat) (cs : Array Value), ((l.zipIdx k).foldl (fun cs (p : Value × Nat) => cs.setIfInBounds (off + p.2) p.1) cs).size = cs.size ∧
  ∀ j, ((l.zipIdx k).foldl (fun cs (p : Value × Nat) => cs.setIfInBounds (off + p.2) p.1) cs)[j]? = if off + k ≤ j ∧ j < off + k + l.length ∧ j < cs.size then l[j - off - k]? else cs[j]?
 | [], k, cs => by
  refine ⟨rfl, fun j => ?_⟩
  rw [if_neg (by simp; omega)]
  rfl
 | v :: r, k, cs => by
  obtain ⟨h1, h2⟩ := px off r (k + 1) (cs.setIfInBounds (off + k) v)
  simp only [List.zipIdx_cons, List.foldl_cons]
  refine ⟨by rw [h1]; simp, fun j => ?_⟩
  rw [h2 j]
  simp only [Array.size_setIfInBounds, List.length_cons]
  by_cases hj : off + (k + 1) ≤ j ∧ j < off + (k + 1) + r.length ∧ j < cs.size
  ·rw [if_pos hj, if_pos om, show j - off - k = (j - off - (k + 1)) + 1 by omega]
   simp
  ·rw [if_neg hj]
   by_cases py : j = off + k
   ·subst py
    by_cases gA : off + k < cs.size
    ·rw [if_pos om, show off + k - off - k = 0 by omega]
     simp [Array.getElem?_setIfInBounds_self_of_lt gA]
    ·rw [if_neg om]
     simp [gA]
   ·rw [if_neg om, Array.getElem?_setIfInBounds_ne om]
theorem s8 (off : Nat) (v cs : Array Value) (h : off + v.size ≤ cs.size) : (v.zipIdx.foldl (fun cs (p : Value × Nat) => cs.setIfInBounds (off + p.2) p.1) cs).toList = gD cs.toList off v.toList := by
 have hf : v.zipIdx.foldl (fun cs (p : Value × Nat) => cs.setIfInBounds (off + p.2) p.1) cs = (v.toList.zipIdx 0).foldl (fun cs (p : Value × Nat) => cs.setIfInBounds (off + p.2) p.1) cs := by
  rw [← Array.foldl_toList, Array.toList_zipIdx]
 rw [hf]
 obtain ⟨h1, h2⟩ := px off v.toList 0 cs
 apply List.ext_getElem?
 intro j
 rw [Array.getElem?_toList, h2 j]
 have Dw : v.toList.length = v.size := by simp
 simp only [Nat.add_zero, Nat.sub_zero, Dw, gD, List.append_assoc]
 have hl : (List.take off cs.toList).length = off := by simp; omega
 by_cases hj : j < off
 ·rw [if_neg om, List.getElem?_append_left om, List.getElem?_take_of_lt hj]; simp
 ·by_cases Hf : j < off + v.size
  ·rw [if_pos om, List.getElem?_append_right om, hl, List.getElem?_append_left om]
  ·rw [if_neg om, List.getElem?_append_right om, List.getElem?_append_right om, hl, List.getElem?_drop]
   have : off + v.size + (j - off - v.toList.length) = j := by omega
   rw [this]; simp
section
variable {P : Program} {N : dJ} {G : Ctx} {E : Env} {RR : Own → List Nat} {st : St} {a : Act}
theorem mo (hi : Inv G E RR st a) (place : Nat → Option (Nat × Nat)) : ∀ (parts : List (Nat × Operand)) (xs : List X) (cs : Array Value) (vk : List (Nat × X)) (ys : List X), bg E xs cs.toList [] → kW st parts = some vk →
  pw place xs vk = some ys → ∃ cp, Instr.fill place cs (parts.map fun p => (p.1, a.eval p.2)) = some cp ∧ bg E ys cp.toList []
 | [], xs, cs, vk, ys, h, hp, hf => by
  simp only [kW, Option.some.injEq] at hp
  subst hp
  simp only [pw, Option.some.injEq] at hf
  subst hf
  exact ⟨cs, rfl, h⟩
 | (i, x) :: r, xs, cs, vk, ys, h, hp, hf => by
  simp only [kW] at hp
  cases hx : bu st x with
  | none => simp [hx] at hp
  | some y =>
   cases hr : kW st r with
   | none => simp [hx, hr] at hp
   | some l =>
    rw [hx, hr] at hp
    simp only at hp
    cases iX : y.free with
    | false => simp [iX] at hp
    | true =>
     rw [iX] at hp
     simp only [cond_true, Option.some.injEq] at hp
     subst hp
     simp only [pw] at hf
     cases vm : place i with
     | none => simp [vm] at hf
     | some os =>
      obtain ⟨off, size⟩ := os
      cases qZ : y.flat with
      | none => simp [vm, qZ] at hf
      | some zs =>
       rw [vm, qZ] at hf
       simp only at hf
       cases hb : Nat.beq zs.length size && Nat.ble (off + size) xs.length with
       | false => simp [hb] at hf
       | true =>
        rw [hb] at hf
        simp only [cond_true] at hf
        simp only [Bool.and_eq_true] at hb
        have ei : zs.length = size := Nat.eq_of_beq_eq_true hb.1
        have hle : off + size ≤ xs.length := Nat.le_of_ble_eq_true hb.2
        obtain ⟨R, hv⟩ := hi.eval hx
        have h0 := RX.free iX hv
        subst h0
        have su := hv.flat qZ
        have pO : (a.eval x).cells.size = size := by have := bg.length su; simp at this; omega
        have re : cs.size = xs.length := by have := bg.length h; simpa using this
        have s9 := bg.eP (k := off) h su
        have Dx := s8 off (a.eval x).cells cs om
        obtain ⟨cp, pR, qW⟩ := mo hi place r (gD xs off zs) ((a.eval x).cells.zipIdx.foldl (fun cs (p : Value × Nat) => cs.setIfInBounds (off + p.2) p.1) cs) l ys (by rw [Dx]; exact s9) hr hf
        refine ⟨cp, ?_, qW⟩
        simp only [List.map_cons, Instr.fill, vm, pO]
        rw [if_neg (by simp; omega)]
        exact pR
def TY.jk (P : Program) (t : TypeId) : Option (List (Nat × Nat)) :=
 match P.underlying t with
 | some (.struct fs) => fs.toList.mapM fun f => (P.info? f.type).map fun i => (f.offset, i.size)
 | _ => none
theorem rf {fs : List Field} {pl : List (Nat × Nat)} (h : (fs.mapM fun f => (P.info? f.type).map fun i => (f.offset, i.size)) = some pl) (w : World) :
  (fs.mapM fun f => (do pure (f.offset, ← sizeOf f.type) : Sem (Nat × Nat))).run P w = .ok pl w := by
 induction fs generalizing pl with
 | nil => simp at h; subst h; rfl
 | cons f r ih =>
  rw [List.mapM_cons] at h
  cases hf : P.info? f.type with
  | none => simp [hf] at h
  | some i =>
   rw [hf] at h
   cases hr : (r.mapM fun f => (P.info? f.type).map fun i => (f.offset, i.size)) with
   | none => simp [hr] at h
   | some l =>
    rw [hr] at h
    simp at h
    subst h
    rw [List.mapM_cons]
    simp only [Sem.run_bind, run_sizeOf hf, Result.andThen_ok, Sem.run_pure, ih hr]
theorem Y.qg {dst : Option Nat} {ty : TypeId} {pos : String} {af : Array Edge} {g : Option (Nat × Bool)} {t : TypeId} {parts : Array (Nat × Operand)} {pl : List (Nat × Nat)} {z : List Value} {vk : List (Nat × X)} {ys : List X}
  (hp : TY.jk P t = some pl) (hz : TY.zero P t = some z) (h1 : X.oX (z.map X.v) = true) (hx : kW st parts.toList = some vk) (hf : pw (pl[·]?) (z.map X.v) vk = some ys) :
  Yields P N st ⟨dst, .build t parts, ty, pos, af, g⟩ (.agg ys) := by
 intro G E RR a _ hi
 obtain ⟨i, z0, l4, vh, vj⟩ := TY.eh hz
 have ra : z0.cells = z.toArray := by rw [← vj]
 have eM : bg E (z.map X.v) z0.cells.toList [] := by rw [vj]; exact pv h1
 obtain ⟨cp, pR, qW⟩ := mo hi (pl[·]?) parts.toList _ z0.cells vk ys eM hx hf
 refine ⟨.agg cp, ?_, by simp only [RX]; exact ⟨cp, rfl, qW⟩⟩
 show (do let v ← Instr.build t (parts.map fun (i, x) => (i, a.eval x)); Pure.pure (Next.value v) : Sem Next).run P E.w = _
 refine cK ?_
 unfold TY.jk at hp
 cases hu : P.underlying t with
 | none => simp [hu] at hp
 | some d =>
  cases d with
  | struct fs =>
   rw [hu] at hp
   simp only at hp
   have hm := rf hp E.w
   have LV : (fs.mapM fun f => (do Pure.pure (f.offset, ← sizeOf f.type) : Sem (Nat × Nat))).run P E.w = .ok pl.toArray E.w := by
    rw [Array.mapM_eq_mapM_toList]
    simp only [Sem.run_map, hm]
    rfl
   have vm : (fun (i : Nat) => pl.toArray[i]?) = fun i => pl[i]? := by funext i; simp
   have Gu : (parts.map fun (i, x) => (i, a.eval x)).toList = parts.toList.map fun p => (p.1, a.eval p.2) := by simp
   simp only [Instr.build, Sem.run_bind, zeroValue, typeInfo, run_program, l4, vh, Result.andThen_ok, Sem.run_pure, run_underlying hu, LV, vm, Gu, pR]
  | _ => simp [hu] at hp
end
end Go.AW
namespace Go.AW
open Go
section
variable {P : Program} {N : dJ} {st : St} {Q : Exit → St → Prop} {all : Array Oper} {rest : List Oper} {d : Nat} {ty : TypeId} {pos : String} {af : Array Edge}
theorem bM.sA {E : Env} {s : Nat} {cs : Array Value} : ∀ {rs : List (List X)} {off : Nat}, bA s rs →
  (∀ i row, rs[i]? = some row → X.eU row = true ∧ RO E row cs (off + i * s) []) → bM E rs cs off []
 | [], _, _, _ => by simp [bM]
 | r :: rs, off, hu, h => by
  simp only [bM]
  have h0 := h 0 r rfl
  refine ⟨[], [], h0.1, by simpa using h0.2, ?_, rfl⟩
  rw [hu r (by simp)]
  refine bM.sA (fun q hq => hu q (by simp [hq])) fun i row hr => ?_
  have := h (i + 1) row (by simpa using hr)
  rw [show off + s + i * s = off + (i + 1) * s by rw [Nat.add_mul]; omega]
  exact this
theorem bg.Bc {E : Env} {xs : List X} {vs : List Value} {cs : Array Value} {off : Nat} {R : List Nat} (h : bg E xs vs R) (hv : ∀ j, j < xs.length → cs[off + j]? = vs[j]?) : RO E xs cs off R :=
 RO.of h fun j v hj => by
  have kt : j < xs.length := by
   rw [← bg.length h]
   rcases Nat.lt_or_ge j vs.length with h' | h'
   ·exact h'
   ·simp [List.getElem?_eq_none h'] at hj
  rw [hv j kt]; exact hj
theorem Inv.newRow {G : Ctx} {E : Env} {RR : Own → List Nat} {a : Act} (hi : Inv G E RR st a) {cs : Array Value} {e : TypeId} {s cap : Nat} {rows : List (List X)} (hu : bA s rows) (hl : rows.length ≤ cap) (hc : cap * s ≤ cs.size)
  (hr : bM { E with w := E.w.alloc (.cells cs e) } rows cs 0 []) (hd : d < G.fn.n) :
  ∃ et, Inv G { E with w := E.w.alloc (.cells cs e) } et (st.put d (.cX s rows)) (a.put (some d) (.slice (some ⟨E.w.heap.size, 0, none⟩) rows.length cap)) := by
 have fk := hi.tF (cb.alloc G E (.cells cs e)) rfl
 refine ⟨_, fk.put (R := [E.w.heap.size]) hd ?_ (by simp) ?_⟩
 ·simp only [RX]
  refine ⟨hu, _, _, rfl, .inr ⟨E.w.heap.size, 0, cs, e, [], rfl, heap_alloc _ _, hl, om, fun i => ?_, hr, rfl⟩⟩
  show E.φ E.w.heap.size i = none
  cases h : E.φ E.w.heap.size i with
  | none => rfl
  | some v => exact absurd (World.block_lt_of_cell? E.w _ (hi.jH _ _ _ h)) (by simp)
 ·intro b hb
  simp only [List.mem_singleton] at hb
  subst hb
  refine ⟨by simp, fun hK => ?_, fun p _ hb => ?_⟩
  ·have := hi.small _ hK
   have := hi.size
   omega
  ·exact absurd (hi.own p _ hb).1 (by simp)
theorem vC {i k s : Nat} (hk : k < s) : (i * s + k) % s = k := by
 rw [Nat.mul_comm, Nat.mul_add_mod, Nat.mod_eq_of_lt hk]
theorem aa.makeSlice {t e s cj n : Nat} {l c : Operand} {k k' : IntKind} {z : List Value} (ht : TY.slice P t = some (e, s, cj)) (hz : TY.zero P e = some z) (mS : z.length = s) (h1 : X.oX (z.map X.v) = true)
  (hl : bu st l = some (.v (.int k (n : Int)))) (hc : bu st c = some (.v (.int k' (n : Int)))) (hb : cj * n ≤ 281474976710656) (LW : n ≤ 9223372036854775807) (hd : d < N.n)
  (kk : aa P N all rest (st.put d (.cX s (List.replicate n (z.map X.v)))) Q) : aa P N all (⟨some d, .makeSlice t l c, ty, pos, af, none⟩ :: rest) st Q := by
 refine aa.vB (fun G E RR a hn hi => ?_) kk
 obtain ⟨hu, i, fG, hs, zX⟩ := TY.ct ht
 obtain ⟨i', z0, l4, vh, vj⟩ := TY.eh hz
 rw [fG] at l4
 obtain rfl := Option.some.inj l4
 have ra : z0.cells = z.toArray := by rw [← vj]
 have fJ := run_make (P := P) E.w t e i z0 hu fG vh k k' (n : Int) (n : Int) om om (by rw [zX]; have := Int.ofNat_le.2 hb; rw [Int.natCast_mul] at this; exact this) om
 simp only [Int.toNat_natCast, hs, ra] at fJ
 have ei := size_madeCells z.toArray (n * s)
 have hU : bA s (List.replicate n (z.map X.v)) := by
  intro r hr
  rw [(List.mem_replicate.1 hr).2]; simpa using mS
 obtain ⟨et, fk⟩ := hi.newRow (cs := madeCells z.toArray (n * s)) (e := e) (s := s) (cap := n) (d := d) hU (Nat.le_of_eq List.length_replicate) (by rw [ei]; exact Nat.le_refl _) (by
  refine bM.sA hU fun j row hr => ?_
  have hj : j < n := by
   rcases Nat.lt_or_ge j n with h' | h'
   ·exact h'
   ·rw [List.getElem?_eq_none (by rw [List.length_replicate]; exact h')] at hr; cases hr
  have : row = z.map X.v := by
   have := List.mem_of_getElem? hr
   exact (List.mem_replicate.1 this).2
  subst this
  refine ⟨vA z, bg.Bc (pv h1) fun q hq => ?_⟩
  have yf : q < s := by simpa [mS] using hq
  have gA : j * s + q < n * s := by
   have : (j + 1) * s ≤ n * s := Nat.mul_le_mul_right s hj
   rw [Nat.add_mul] at this; omega
  have Be : q < z.length := by omega
  simp only [Nat.zero_add, madeCells]
  rw [Array.getElem?_map, Array.getElem?_range, if_pos gA]
  simp only [Option.map_some, List.size_toArray, mS, vC yf]
  rw [List.getElem?_eq_getElem Be]
  simp [Be]) (by rw [hn]; exact hd)
 simp only [List.length_replicate] at fk
 refine ⟨_, _, _, ?_, fk⟩
 show (do let v ← Instr.makeSlice t (a.eval l) (a.eval c); Pure.pure (Next.value v) : Sem Next).run P E.w = _
 rw [hi.val hl, hi.val hc]
 exact cK fJ
theorem aa.buildSlice {t e s cj len : Nat} {parts : Array (Nat × Operand)} {z : List Value} {vk : List (Nat × X)} {flat : List X} (rows : List (List X)) (ht : TY.slice P t = some (e, s, cj)) (hz : TY.zero P e = some z) (mS : Nat.beq z.length s = true)
  (h1 : X.oX (z.map X.v) = true) (hx : kW st parts.toList = some vk) (hf : pw (fun i => some (i * s, s)) ((List.replicate len (z.map X.v)).flatten) vk = some flat) (hr : rows.flatten = flat) (hU : bA s rows) (hlen : rows.length = len)
  (vg : X.eU flat = true) (Kt : Nat.ble (len * s) 16777216 = true) (hd : d < N.n)
  (kk : aa P N all rest (st.put d (.cX s rows)) Q) : aa P N all (⟨some d, .buildSlice t len parts, ty, pos, af, none⟩ :: rest) st Q := by
 refine aa.vB (fun G E RR a hn hi => ?_) kk
 obtain ⟨hu, i, fG, hs, zX⟩ := TY.ct ht
 obtain ⟨i', z0, l4, vh, vj⟩ := TY.eh hz
 rw [fG] at l4
 obtain rfl := Option.some.inj l4
 have ra : z0.cells = z.toArray := by rw [← vj]
 have Bf : z.length = s := Nat.eq_of_beq_eq_true mS
 let z1 : Array Value := (Array.range (len * s)).map fun i => z.toArray[i % z.toArray.size]!
 have Hg : z1.toList = (List.replicate len z).flatten := by
  apply List.ext_getElem?
  intro j
  have LX : ((List.replicate len z).flatten).length = len * s := by simp [Bf]
  by_cases hj : j < len * s
  ·have Gv : 0 < s := by
    rcases Nat.eq_zero_or_pos s with h' | h'
    ·subst h'; simp at hj
    ·exact h'
   have hq : j % s < s := Nat.mod_lt _ Gv
   have O5 : j / s < len := by rw [Nat.div_lt_iff_lt_mul Gv]; exact hj
   have h2 : ((List.replicate len z).flatten)[j]? = z[j % s]? := by
    have : ∀ (n j : Nat), j < n * s → ((List.replicate n z).flatten)[j]? = z[j % s]? := by
     intro n
     induction n with
     | zero => intro j hj; simp at hj
     | succ n ih =>
      intro j hj
      rw [List.replicate_succ, List.flatten_cons]
      by_cases CN : j < s
      ·rw [List.getElem?_append_left om, Nat.mod_eq_of_lt CN]
      ·rw [List.getElem?_append_right om, Bf, ih (j - s) (by rw [Nat.add_mul] at hj; omega)]
       rw [Nat.mod_eq_sub_mod (by omega : j ≥ s)]
    exact this len j hj
   rw [h2]
   have Be : j % s < z.length := by omega
   have Ku : z[j % s]? = some z[j % s] := List.getElem?_eq_getElem Be
   simp [z1, hj, Bf, Ku]
  ·have e1 : ((List.replicate len z).flatten)[j]? = none := List.getElem?_eq_none (by rw [LX]; omega)
   have e2 : z1.toList[j]? = none := List.getElem?_eq_none (by rw [Array.length_toList]; simp only [z1, Array.size_map, Array.size_range]; omega)
   rw [e1, e2]
 have LY : bg E ((List.replicate len (z.map X.v)).flatten) z1.toList [] := by
  rw [Hg]
  clear hf Hg z1 hlen Kt
  induction len with
  | zero => simp [bg]
  | succ n ih => rw [List.replicate_succ, List.flatten_cons, List.replicate_succ, List.flatten_cons]; exact bg.app (pv h1) ih
 obtain ⟨cp, pR, qW⟩ := mo hi (fun i => some (i * s, s)) parts.toList _ z1 vk flat LY hx hf
 have qZ : flat.length = len * s := by rw [← hr, length_flatten hU, hlen]
 have LZ : cp.size = len * s := by have := bg.length qW; simp at this; omega
 obtain ⟨et, fk⟩ := hi.newRow (cs := cp) (e := e) (s := s) (cap := len) (d := d) hU om om (by
  have Dy : bg { E with w := E.w.alloc (.cells cp e) } flat cp.toList [] := bg.mono (E := E) _ _ _ ⟨fun _ _ _ h => h, fun _ h => by cases h⟩ (fun _ _ => rfl) qW
  have oY : RO { E with w := E.w.alloc (.cells cp e) } flat cp 0 [] := RO.of Dy fun j v hj => by simpa using hj
  rw [← hr] at oY vg
  clear hr pR qW Dy qZ hf hlen
  have key : ∀ (rs : List (List X)) (off : Nat), X.eU rs.flatten = true → RO { E with w := E.w.alloc (.cells cp e) } rs.flatten cp off [] → bM { E with w := E.w.alloc (.cells cp e) } rs cp off [] := by
   intro rs
   induction rs with
   | nil => intro off _ _; simp [bM]
   | cons r rs ih =>
    intro off hn h
    rw [List.flatten_cons] at h hn
    obtain ⟨R₁, R₂, h1, h2, hR⟩ := RO.lC h
    have Bb := List.append_eq_nil_iff.1 hR.symm
    obtain ⟨rfl, rfl⟩ := Bb
    have Ma : ∀ (xs ys : List X), X.eU (xs ++ ys) = true → X.eU xs = true ∧ X.eU ys = true := by
     intro xs
     induction xs with
     | nil => intro ys h; exact ⟨rfl, h⟩
     | cons x r ih => intro ys h; simp only [List.cons_append, X.eU, Bool.and_eq_true] at h ⊢; exact ⟨⟨h.1, (ih ys h.2).1⟩, (ih ys h.2).2⟩
    obtain ⟨Dz, Hh⟩ := Ma _ _ hn
    simp only [bM]
    exact ⟨[], [], Dz, h1, ih _ Hh h2, rfl⟩
  exact key rows 0 vg oY) (by rw [hn]; exact hd)
 rw [hlen] at fk
 refine ⟨_, _, _, ?_, fk⟩
 show (do let v ← Instr.buildSlice t len (parts.map fun (i, x) => (i, a.eval x)); Pure.pure (Next.value v) : Sem Next).run P E.w = _
 refine cK ?_
 have Gu : (parts.map fun (i, x) => (i, a.eval x)).toList = parts.toList.map fun p => (p.1, a.eval p.2) := by simp
 have Hi : ¬ (len * s > 2 ^ 24) := by have := Nat.le_of_ble_eq_true Kt; simp; omega
 by_cases h0 : len * s = 0
 ·have Hj : z1 = (Array.range (len * s)).map (fun i => (#[] : Array Value)[i % (#[] : Array Value).size]!) := by simp [z1, h0]
  have yg : ¬ ((0 : Nat) > 2 ^ 24) := by decide
  rw [Hj, h0] at pR
  simp only [Instr.buildSlice, Sem.run_bind, run_underlying hu, Result.andThen_ok, run_sizeOf fG, hs, h0, yg, if_false, if_true, Sem.run_pure, Gu, pR, Go.newRow, run_newObj_alloc]
 ·simp only [z1] at pR
  simp only [Instr.buildSlice, Sem.run_bind, run_underlying hu, Result.andThen_ok, run_sizeOf fG, hs, Hi, if_false, h0, zeroValue, typeInfo, run_program, fG, vh, Sem.run_pure, ra, Gu, pR, Go.newRow, run_newObj_alloc]
end
end Go.AW
namespace Go.AW
open Go
def TY.size (P : Program) (t : TypeId) : Option Nat := (P.info? t).map (·.size)
section
variable {P : Program} {N : dJ} {st : St} {Q : Exit → St → Prop} {all : Array Oper} {rest : List Oper} {d : Nat} {ty : TypeId} {pos : String} {af : Array Edge}
theorem jN {t : TypeId} {m b off : Nat} {v : Value} {cs : Array Value} {tb : TypeId} {w : World} (ht : TY.size P t = some m) (hm : v.cells.size = m) (hw : w.heap[b]? = some (.cells cs tb (0, 0))) (np : off + m ≤ cs.size)
  (h1 : ∀ u ∈ v.cells.toList, u.oneCell' = true) : (Instr.storeAt t (.pointer (some ⟨b, off, none⟩)) v).run P w = .ok () (w.setRow b (gS cs off v.cells.toList)) := by
 unfold TY.size at ht
 cases hi : P.info? t with
 | none => simp [hi] at ht
 | some i =>
  rw [hi] at ht
  simp only [Option.map_some, Option.some.injEq] at ht
  have vD := run_storeCells_at P b off tb v.cells.toList 0 cs w hw (by simp; omega) h1
  simp only [Nat.add_zero] at vD
  simp only [Instr.storeAt, Instr.sureAddr, storeVar, Sem.run_bind, Sem.run_pure, Result.andThen_ok, run_sizeOf hi, ht, hm, ne_eq, not_true_eq_false, if_false]
  exact vD
theorem Inv.oZ {G : Ctx} {E : Env} {RR : Own → List Nat} {a : Act} (hi : Inv G E RR st a) {p : Own} {b : Nat} (h : b ∈ RR p) : ¬ G.K b := (hi.own p b h).2
theorem aa.aj {t : TypeId} {x y : Operand} {o s k m : Nat} {v : X} {ys xs : List X} (ht : TY.size P t = some m) (hx : bu st x = some (.ptr o s 0 k)) (hy : bu st y = some v) (qZ : v.flat = some ys) (hf : X.aW ys = true) (hm : ys.length = m)
  (ho : look st.ay o = some (.cells xs)) (hk : k + m ≤ xs.length) (CO : X.aW (gD xs k ys) = true) (kk : aa P N all rest (st.dr o (.cells (gD xs k ys))) Q) :
  aa P N all (⟨none, .store t x y, ty, pos, af, none⟩ :: rest) st Q := by
 refine aa.Ba (fun G E RR a hn hi => ?_) kk
 obtain ⟨R, hv⟩ := hi.eval hy
 have su := hv.flat qZ
 have h0 := bg.free hf su
 subst h0
 obtain ⟨R', hp⟩ := hi.eval hx
 simp only [RX] at hp
 obtain ⟨_, B, hB, hc⟩ := hp
 simp only [Nat.zero_mul, Nat.zero_add] at hc
 have aL := hi.ay o _ ho
 simp only [dq] at aL
 obtain ⟨nz, B', cs, tb, fY, hw, hφ, hlen, il, gr⟩ := aL
 rw [hB] at fY
 obtain rfl := Option.some.inj fY
 have sB := bg.length su
 have ei : (a.eval y).cells.size = m := by simp at sB; omega
 have fJ := jN (P := P) (off := B.off + k) ht ei hw om (bg.ku su)
 have jO : B.b ∈ RR (.obj o) := by rw [gr]; simp
 have xR := cb.setRow G E B.b (gS cs (B.off + k) (a.eval y).cells.toList) hφ (hi.oZ jO)
 have gq : E.On { E with w := E.w.setRow B.b (gS cs (B.off + k) (a.eval y).cells.toList) } [] := ⟨fun _ _ _ h => h, fun _ h => by cases h⟩
 have vE := bg.mono _ _ _ gq (fun _ _ => rfl) su
 have vF := RO.mono _ _ _ _ gq (fun _ _ => rfl) il
 obtain ⟨R₁, s9, cx, _⟩ := RO.put (k := k) vF om vE om
 have Mb : R₁ = [] := by
  cases R₁ with
  | nil => rfl
  | cons b r => rcases cx b (by simp) with h | h <;> cases h
 subst Mb
 refine ⟨_, _, ?_, hi.v9 (E' := { E with w := E.w.setRow B.b (gS cs (B.off + k) (a.eval y).cells.toList) }) xR (o := o) (R := [B.b]) (fun b h => by subst h; exact jO) rfl ?_ (by simp) ?_⟩
 ·show (do Instr.storeAt t (a.eval x) (a.eval y); Pure.pure Next.skip : Sem Next).run P E.w = _
  rw [hc]
  exact v5 fJ
 ·simp only [dq]
  have Mc : (gD xs k ys).length = xs.length := iv om
  exact ⟨CO, B, _, tb, hB, setRow_heap E.w B.b cs _ tb _ hw, hφ, by rw [Mc, ks (by simp at sB ⊢; omega)]; exact hlen, s9, rfl⟩
 ·intro b hb
  simp only [List.mem_singleton] at hb
  subst hb
  exact ⟨by simpa using (hi.own _ _ jO).1, hi.oZ jO, hi.qX (.inl jO)⟩
theorem aa.Bg {t : TypeId} {x y : Operand} {o s i k m : Nat} {v : X} {ys row : List X} {rs : List (List X)} (ht : TY.size P t = some m) (hx : bu st x = some (.ptr o s i k)) (hy : bu st y = some v) (qZ : v.flat = some ys) (hf : X.aW ys = true)
  (hn : X.eU ys = true) (hm : ys.length = m) (ho : look st.ay o = some (.rows s rs)) (hr : rs[i]? = some row) (hk : k + m ≤ row.length) (kk : aa P N all rest (st.dr o (.rows s (rs.set i (gD row k ys)))) Q) :
  aa P N all (⟨none, .store t x y, ty, pos, af, none⟩ :: rest) st Q := by
 refine aa.Ba (fun G E RR a Md hi => ?_) kk
 obtain ⟨R, hv⟩ := hi.eval hy
 have su := hv.flat qZ
 have h0 := bg.free hf su
 subst h0
 obtain ⟨R', hp⟩ := hi.eval hx
 simp only [RX] at hp
 obtain ⟨_, B, hB, hc⟩ := hp
 have aL := hi.ay o _ ho
 have iw := hi.nodup (.obj o)
 simp only [dq] at aL
 obtain ⟨hu, aL⟩ := aL
 rcases aL with ⟨_, h, _⟩ | ⟨B', cs, tb, R', fY, hw, hφ, jJ, hlen, il, gr⟩
 ·subst h; simp at hr
 rw [hB] at fY
 obtain rfl := Option.some.inj fY
 have sB := bg.length su
 have ei : (a.eval y).cells.size = m := by simp at sB; omega
 have Gw : rs.length * s ≤ B.cap * s := Nat.mul_le_mul_right s jJ
 have vG : i < rs.length := by
  rcases Nat.lt_or_ge i rs.length with h' | h'
  ·exact h'
  ·simp [List.getElem?_eq_none h'] at hr
 have mn : row.length = s := hu row (List.mem_of_getElem? hr)
 have Gt : i * s + s ≤ rs.length * s := by
  have : (i + 1) * s ≤ rs.length * s := Nat.mul_le_mul_right s vG
  rw [Nat.add_mul] at this; omega
 have fJ := jN (P := P) (off := B.off + (i * s + k)) ht ei hw om (bg.ku su)
 have jO : B.b ∈ RR (.obj o) := by rw [gr]; simp
 have xR := cb.setRow G E B.b (gS cs (B.off + (i * s + k)) (a.eval y).cells.toList) hφ (hi.oZ jO)
 rw [gr] at iw
 have jM := List.nodup_cons.1 iw
 have gq : E.On { E with w := E.w.setRow B.b (gS cs (B.off + (i * s + k)) (a.eval y).cells.toList) } R' :=
  ⟨fun _ _ _ h => h, fun b hb => ⟨setRow_other E.w B.b b _ (fun e => jM.1 (by rw [← e]; exact hb)), fun h => h⟩⟩
 have vE := bg.mono _ _ _ (gq.sub (fun _ h => by cases h)) (fun _ _ => rfl) su
 have vF := bM.mono _ _ _ _ gq il
 obtain ⟨R₁, s9, cx, mq⟩ := bM.set (i := i) (k := k) hu vF hr om vE hn om
 have zY : ∀ b ∈ R₁, b ∈ R' := fun b hb => (cx b hb).resolve_right (fun h => by cases h)
 refine ⟨_, _, ?_, hi.v9 (E' := { E with w := E.w.setRow B.b (gS cs (B.off + (i * s + k)) (a.eval y).cells.toList) }) xR (o := o) (R := B.b :: R₁) (fun b h => by subst h; exact jO) rfl ?_ ?_ ?_⟩
 ·show (do Instr.storeAt t (a.eval x) (a.eval y); Pure.pure Next.skip : Sem Next).run P E.w = _
  rw [hc]
  exact v5 fJ
 ·simp only [dq]
  refine ⟨hu.set (by rw [iv om]; exact mn), .inr ⟨B, _, tb, R₁, hB, setRow_heap E.w B.b cs _ tb _ hw, hφ, by simpa using jJ, by rw [ks (by simp at sB ⊢; omega)]; exact hlen, s9, rfl⟩⟩
 ·exact List.nodup_cons.2 ⟨fun h => jM.1 (zY _ h), mq (by simpa using jM.2)⟩
 ·intro b hb
  have eO : b ∈ RR (.obj o) := by
   rw [gr]
   rcases List.mem_cons.1 hb with h | h
   ·simp [h]
   ·exact List.mem_cons.2 (.inr (zY b h))
  exact ⟨by simpa using (hi.own _ _ eO).1, hi.oZ eO, hi.qX (.inl eO)⟩
theorem aa.Bh {t : TypeId} {x : Operand} {o s i k CP tv : Nat} {rows row : List (List X)} {yh : List X} {rs : List (List X)} (ht : TY.size P t = some 1) (hx : bu st x = some (.ptr o s i k)) (hy : look st.ax tv = some (.cX CP rows)) (_h : row = row)
  (ho : look st.ay o = some (.rows s rs)) (hr : rs[i]? = some yh) (hk : k + 1 ≤ yh.length) (kk : aa P N all rest ((st.put tv .no).dr o (.rows s (rs.set i (gD yh k [.cX CP rows])))) Q) :
  aa P N all (⟨none, .store t x (.tmp tv), ty, pos, af, none⟩ :: rest) st Q := by
 refine aa.Ba (fun G E RR a Md hi => ?_) kk
 have hv := hi.ax tv _ hy
 have su : bg E [X.cX CP rows] (a.eval (.tmp tv)).cells.toList (RR (.slot tv)) := hv.flat rfl
 obtain ⟨R', hp⟩ := hi.eval hx
 simp only [RX] at hp
 obtain ⟨_, B, hB, hc⟩ := hp
 have aL := hi.ay o _ ho
 have iw := hi.nodup (.obj o)
 simp only [dq] at aL
 obtain ⟨hu, aL⟩ := aL
 rcases aL with ⟨_, h, _⟩ | ⟨B', cs, tb, R', fY, hw, hφ, jJ, hlen, il, gr⟩
 ·subst h; simp at hr
 rw [hB] at fY
 obtain rfl := Option.some.inj fY
 have sB := bg.length su
 have ei : (a.eval (.tmp tv)).cells.size = 1 := by simpa using sB
 have Gw : rs.length * s ≤ B.cap * s := Nat.mul_le_mul_right s jJ
 have vG : i < rs.length := by
  rcases Nat.lt_or_ge i rs.length with h' | h'
  ·exact h'
  ·simp [List.getElem?_eq_none h'] at hr
 have mn : yh.length = s := hu yh (List.mem_of_getElem? hr)
 have Gt : i * s + s ≤ rs.length * s := by
  have : (i + 1) * s ≤ rs.length * s := Nat.mul_le_mul_right s vG
  rw [Nat.add_mul] at this; omega
 have fJ := jN (P := P) (off := B.off + (i * s + k)) ht ei hw om (bg.ku su)
 have jO : B.b ∈ RR (.obj o) := by rw [gr]; simp
 have xR := cb.setRow G E B.b (gS cs (B.off + (i * s + k)) (a.eval (.tmp tv)).cells.toList) hφ (hi.oZ jO)
 rw [gr] at iw
 have jM := List.nodup_cons.1 iw
 have vH : ∀ b ∈ RR (.slot tv), b ∉ RR (.obj o) := fun b hb eO => hi.apart _ _ (by simp) b hb eO
 have gq : ∀ vI, (∀ b ∈ vI, b ≠ B.b) → E.On { E with w := E.w.setRow B.b (gS cs (B.off + (i * s + k)) (a.eval (.tmp tv)).cells.toList) } vI :=
  fun vI h => ⟨fun _ _ _ h => h, fun b hb => ⟨setRow_other E.w B.b b _ (h b hb), fun h => h⟩⟩
 have vE := bg.mono _ _ _ (gq (RR (.slot tv)) (fun b hb e => vH b hb (by rw [e]; exact jO))) (fun _ _ => rfl) su
 have vF := bM.mono _ _ _ _ (gq R' (fun b hb e => jM.1 (by rw [← e]; exact hb))) il
 obtain ⟨R₁, s9, cx, mq⟩ := bM.set (i := i) (k := k) hu vF hr (by simpa using hk) vE rfl om
 have j5 := hi.no tv
 have DA : (R' ++ RR (.slot tv)).Nodup := by
  rw [List.nodup_append]
  refine ⟨jM.2, hi.nodup _, fun x hx y hy e => vH y hy ?_⟩
  rw [← e, gr]; exact List.mem_cons.2 (.inr hx)
 have sC : en RR (.slot tv) [] (.obj o) = RR (.obj o) := by simp [en]
 refine ⟨_, _, ?_, j5.v9 (E' := { E with w := E.w.setRow B.b (gS cs (B.off + (i * s + k)) (a.eval (.tmp tv)).cells.toList) }) xR (o := o) (R := B.b :: R₁) (fun b h => by subst h; rw [sC]; exact jO) rfl ?_ ?_ ?_⟩
 ·show (do Instr.storeAt t (a.eval x) (a.eval (.tmp tv)); Pure.pure Next.skip : Sem Next).run P E.w = _
  rw [hc]
  exact v5 fJ
 ·simp only [dq]
  refine ⟨hu.set (by rw [iv (by simpa using hk)]; exact mn), .inr ⟨B, _, tb, R₁, hB, setRow_heap E.w B.b cs _ tb _ hw, hφ, by simpa using jJ, by rw [ks (by simp at sB ⊢; omega)]; exact hlen, s9, rfl⟩⟩
 ·refine List.nodup_cons.2 ⟨fun h => ?_, mq DA⟩
  rcases cx _ h with h' | h'
  ·exact jM.1 h'
  ·exact vH _ h' jO
 ·intro b hb
  have cu : b ∈ RR (.obj o) ∨ b ∈ RR (.slot tv) := by
   rw [gr]
   rcases List.mem_cons.1 hb with h | h
   ·exact .inl (by simp [h])
   ·rcases cx b h with h' | h'
    ·exact .inl (List.mem_cons.2 (.inr h'))
    ·exact .inr h'
  have zZ : b < E.w.heap.size ∧ ¬ G.K b := by rcases cu with h | h <;> exact hi.own _ _ h
  refine ⟨by simpa using zZ.1, zZ.2, fun p hp u6 => ?_⟩
  have Bi : p ≠ .slot tv ∧ b ∈ RR p := by
   unfold en at u6
   split at u6
   ·cases u6
   ·rename_i h; exact ⟨h, u6⟩
  rcases cu with h | h
  ·exact hi.apart _ _ hp b Bi.2 h
  ·exact hi.apart _ _ Bi.1 b Bi.2 h
theorem Sh.DB {s : Nat} {rows : List (List X)} (o : Nat) (hx : look st.ax d = some (.cX s rows)) (hF : N.F.elem o = false) : Sh N st (((st.kill o).dr o (.rows s rows)).put d (.aR o s 0 rows.length)) := by
 intro G hn a w hh
 obtain ⟨E, RR, rfl, hi⟩ := hh
 have hv := hi.ax d _ hx
 have iw := hi.nodup (.slot d)
 simp only [RX] at hv
 obtain ⟨hu, base, cap, hc, cu⟩ := hv
 have j5 := hi.no d
 have Aa : ∀ (E' : Env) (et : Own → List Nat), Inv G E' et (((st.put d .no).kill o).dr o (.rows s rows)) a → (∃ R, R = [] ∧ RX E' (.aR o s 0 rows.length) (a.tmps.getD d undef) R) →
   bO G (((st.kill o).dr o (.rows s rows)).put d (.aR o s 0 rows.length)) a E'.w := by
  intro E' et h3 ⟨R, hR, im⟩
  subst hR
  have h4 := h3.relabel (d := d) im List.nodup_nil (fun _ h => by cases h)
  refine ⟨E', en et (.slot d) [], rfl, ?_⟩
  refine { h4 with ax := fun q y hy => h4.ax q y ?_, ay := fun q y hy => h4.ay q y hy }
  simp only [St.put, St.dr, St.kill, pQ, List.map_cons, look] at hy ⊢
  cases hb : Nat.beq d q with
  | true => rw [hb] at hy; simpa using hy
  | false => rw [hb] at hy; simpa using hy
 have hβ : ∀ (bk : Option zV), cb G E { E with β := fun q => if q = o then bk else E.β q } (fun _ => False) := fun _ =>
  ⟨rfl, fun _ h => h.elim, fun _ h => h.elim, fun _ _ _ => rfl, Nat.le_refl _, rfl, rfl, rfl⟩
 rcases cu with ⟨h1, h2, h3⟩ | ⟨b, off, cs, ty, R', hb, hw, hl, ho, hφ, il, gr⟩
 ·have h4 := j5.kI (hβ none) (o := o) (ob := .rows s rows) (R := []) (fun _ h => h.elim) (fun q hq => by simp [hq]) (fun h => by rw [hn, hF] at h; cases h)
   (by simp only [dq]; exact ⟨hu, .inl ⟨by simp, h1, trivial⟩⟩) List.nodup_nil (fun _ h => by cases h)
  refine Aa { E with β := fun q => if q = o then none else E.β q } _ h4 ⟨[], rfl, ?_⟩
  simp only [RX]
  exact ⟨trivial, base, cap, hc, .inl ⟨by simp, trivial, by simp [h1], h2⟩⟩
 ·rw [gr] at iw
  have jM := List.nodup_cons.1 iw
  have gq : E.On { E with β := fun q => if q = o then some ⟨b, off, cap⟩ else E.β q } R' := ⟨fun _ _ _ h => h, fun _ _ => ⟨rfl, fun h => h⟩⟩
  have h4 := j5.kI (hβ (some ⟨b, off, cap⟩)) (o := o) (ob := .rows s rows) (R := b :: R') (fun _ h => h.elim) (fun q hq => by simp [hq]) (fun h => by rw [hn, hF] at h; cases h)
   (by simp only [dq]; exact ⟨hu, .inr ⟨⟨b, off, cap⟩, cs, ty, R', by simp, hw, hφ, hl, ho, bM.mono _ _ _ _ gq il, rfl⟩⟩) iw
   (fun c lB => by
    have hm : c ∈ RR (.slot d) := by rw [gr]; exact lB
    refine ⟨(hi.own _ _ hm).1, (hi.own _ _ hm).2, fun p hp pN => ?_⟩
    unfold en at pN
    split at pN
    ·cases pN
    ·rename_i h; exact hi.apart _ _ h c pN hm)
  refine Aa { E with β := fun q => if q = o then some ⟨b, off, cap⟩ else E.β q } _ h4 ⟨[], rfl, ?_⟩
  simp only [RX]
  exact ⟨trivial, base, cap, hc, .inr ⟨⟨b, off, cap⟩, by simp, by simp, hl, .inr (by simpa using hb)⟩⟩
theorem Sh.cV {s o n : Nat} {rows : List (List X)} (hx : look st.ax d = some (.aR o s 0 n)) (ho : look st.ay o = some (.rows s rows)) (hl : n = rows.length) (hF : N.F.elem o = false) :
  Sh N st (((st.kill o).dr o (.rows 0 [])).put d (.cX s rows)) := by
 intro G hn a w hh
 obtain ⟨E, RR, rfl, hi⟩ := hh
 subst hl
 have hv := hi.ax d _ hx
 have aL := hi.ay o _ ho
 have iw := hi.nodup (.obj o)
 simp only [RX] at hv
 obtain ⟨_, base, cap, hc, cu⟩ := hv
 simp only [dq] at aL
 obtain ⟨hu, aL⟩ := aL
 have hβ : cb G E { E with β := fun q => if q = o then none else E.β q } (fun _ => False) :=
  ⟨rfl, fun _ h => h.elim, fun _ h => h.elim, fun _ _ _ => rfl, Nat.le_refl _, rfl, rfl, rfl⟩
 have h4 := hi.kI hβ (o := o) (ob := .rows 0 []) (R := []) (fun _ h => h.elim) (fun q hq => by simp [hq]) (fun h => by rw [hn, hF] at h; cases h)
  (by simp only [dq]; exact ⟨fun _ h => (by cases h), .inl ⟨by simp, trivial, trivial⟩⟩) List.nodup_nil (fun _ h => by cases h)
 have DC : ∀ c ∈ RR (.obj o), c < E.w.heap.size ∧ ¬ G.K c ∧ ∀ p, p ≠ .slot d → c ∉ eI st RR o [] p := by
  intro c lB
  refine ⟨(hi.own _ _ lB).1, (hi.own _ _ lB).2, fun p _ pN => ?_⟩
  cases p with
  | obj q =>
   by_cases hq : q = o
   ·subst hq; simp [eI] at pN
   ·have : c ∈ RR (.obj q) := by simpa [eI, hq] using pN
    exact hi.apart (.obj q) (.obj o) (by simpa using hq) c this lB
  | slot q =>
   rcases jj st RR o [] q with h | h
   ·rw [h] at pN; cases pN
   ·rw [h] at pN; exact hi.apart (.slot q) (.obj o) (by simp) c pN lB
 have Me : ∃ R, RX { E with β := fun q => if q = o then none else E.β q } (.cX s rows) (a.tmps.getD d undef) R ∧ R.Nodup ∧ ∀ b ∈ R, b ∈ RR (.obj o) := by
  simp only [RX]
  rcases aL with ⟨h1, h2, h3⟩ | ⟨B, cs, ty, R', hB, hw, hφ, jJ, ei, il, gr⟩
  ·rcases cu with ⟨_, _, _, h5⟩ | ⟨B, hB, _⟩
   ·exact ⟨[], ⟨hu, base, cap, hc, .inl ⟨h2, h5, rfl⟩⟩, List.nodup_nil, fun _ h => by cases h⟩
   ·rw [h1] at hB; cases hB
  ·rcases cu with ⟨h1, _⟩ | ⟨B', fY, u4, nJ, hb⟩
   ·rw [hB] at h1; cases h1
   ·rw [hB] at fY
    obtain rfl := Option.some.inj fY
    have gq : E.On { E with β := fun q => if q = o then none else E.β q } R' := ⟨fun _ _ _ h => h, fun _ _ => ⟨rfl, fun h => h⟩⟩
    rcases hb with hb | hb
    ·refine ⟨[], ⟨hu, base, cap, hc, .inl ⟨List.eq_nil_of_length_eq_zero om, hb, rfl⟩⟩, List.nodup_nil, fun _ h => by cases h⟩
    ·refine ⟨RR (.obj o), ⟨hu, base, cap, hc, .inr ⟨B.b, B.off, cs, ty, R', by simpa using hb, hw, om, by rw [show cap = B.cap by omega]; exact ei, hφ, bM.mono _ _ _ _ gq il, gr⟩⟩, iw, fun _ h => h⟩
 obtain ⟨R, nL, u7, Mf⟩ := Me
 exact ⟨{ E with β := fun q => if q = o then none else E.β q }, _, rfl, h4.relabel nL u7 (fun c hc => DC c (Mf c hc))⟩
end
end Go.AW
namespace Go.AW
open Go
structure Src (E : Env) (s : Nat) (new : List (List X)) (c : Value) (R : List Nat) : Prop where
 ex : ∃ base cap, ∃ vs : List Value, c = .slice (some base) new.length cap ∧ vs.length = new.length * s ∧ (∀ j v, vs[j]? = some v → E.w.cell? (base.add j) = some v) ∧ (∀ v ∈ vs, v.oneCell' = true) ∧
  ∀ (E' : Env) (cs : Array Value) (off : Nat), E.On E' R → (∀ j, j < vs.length → cs[off + j]? = vs[j]?) → bM E' new cs off R
 cX : bA s new
theorem bM.rh {E : Env} : ∀ {rs : List (List X)} {cs : Array Value} {off : Nat} {R : List Nat}, bM E rs cs off R → ∃ vs : List Value, vs.length = rs.flatten.length ∧ (∀ j v, vs[j]? = some v → cs[off + j]? = some v) ∧ (∀ v ∈ vs, v.oneCell' = true)
 | [], _, _, _, _ => ⟨[], rfl, by simp, by simp⟩
 | r :: rs, cs, off, R, h => by
  simp only [bM] at h
  obtain ⟨R₁, R₂, _, h1, h2, _⟩ := h
  obtain ⟨vs, hl, hv, hx⟩ := RO.cells h1
  obtain ⟨Hk, tE, Hl, kD⟩ := bM.rh h2
  refine ⟨vs ++ Hk, by simp [hl, tE], ?_, ?_⟩
  ·intro j v hj
   by_cases kt : j < vs.length
   ·rw [List.getElem?_append_left kt] at hj; exact hv j v hj
   ·rw [List.getElem?_append_right om] at hj
    have := Hl _ v hj
    rw [show off + j = off + r.length + (j - vs.length) by omega]; exact this
  ·intro v Hm
   rcases List.mem_append.1 Hm with h' | h'
   ·exact bg.ku hx v h'
   ·exact kD v h'
theorem gp.rh {E : Env} : ∀ {rs : List (List X)} {b off : Nat}, gp E rs b off → ∃ vs : List Value, vs.length = rs.flatten.length ∧ (∀ j v, vs[j]? = some v → E.φ b (off + j) = some v) ∧ (∀ v ∈ vs, v.oneCell' = true) ∧
   ∀ (E' : Env) (cs : Array Value) (o : Nat), E.On E' [] → (∀ j, j < vs.length → cs[o + j]? = vs[j]?) → bM E' rs cs o []
 | [], _, _, _ => ⟨[], rfl, by simp, by simp, fun _ _ _ _ _ => by simp [bM]⟩
 | r :: rs, b, off, h => by
  simp only [gp] at h
  obtain ⟨vs, hl, hv, hx⟩ := RF.cells h.1
  obtain ⟨Hk, tE, Hl, kD, Mg⟩ := gp.rh h.2
  have vg : ∀ (row : List X) (b off : Nat), RF E row b off → X.eU row = true := by
   intro row
   induction row with
   | nil => intro _ _ _; rfl
   | cons x t ih =>
    intro b off h
    simp only [RF] at h
    obtain ⟨⟨_, _, _, hn, _⟩, h2⟩ := h
    simp only [X.eU, hn, ih b _ h2, Bool.and_self]
  refine ⟨vs ++ Hk, by simp [hl, tE], ?_, ?_, ?_⟩
  ·intro j v hj
   by_cases kt : j < vs.length
   ·rw [List.getElem?_append_left kt] at hj; exact hv j v hj
   ·rw [List.getElem?_append_right om] at hj
    have := Hl _ v hj
    rw [show off + j = off + r.length + (j - vs.length) by omega]; exact this
  ·intro v Hm
   rcases List.mem_append.1 Hm with h' | h'
   ·exact bg.ku hx v h'
   ·exact kD v h'
  ·intro E' cs o hE re
   simp only [bM]
   refine ⟨[], [], vg r b off h.1, ?_, ?_, rfl⟩
   ·refine bg.Bc (bg.mono _ _ _ hE (fun q hq => by rw [X.dX (vg r b off h.1)] at hq; cases hq) hx) fun j hj => ?_
    rw [re j (by simp; omega), List.getElem?_append_left om]
   ·refine Mg E' cs _ hE fun j hj => ?_
    have := re (vs.length + j) (by simp; omega)
    rw [List.getElem?_append_right om] at this
    rw [← hl, Nat.add_assoc, this]
    congr 1
    omega
section
variable {P : Program} {N : dJ} {G : Ctx} {E : Env} {RR : Own → List Nat} {st : St} {a : Act}
theorem Src.DD {s : Nat} {new : List (List X)} {c : Value} {R : List Nat} (h : RX E (.cX s new) c R) (er : 0 < new.length) : ∃ R', Src E s new c R' ∧ (∀ b ∈ R', b ∈ R) ∧ (R.Nodup → R'.Nodup) := by
 simp only [RX] at h
 obtain ⟨hu, base, cap, hc, h⟩ := h
 rcases h with ⟨h1, _⟩ | ⟨b, off, cs, ty, R', hb, hw, hl, ho, hφ, il, hR⟩
 ·subst h1; simp at er
 obtain ⟨vs, Dw, hv, sD⟩ := bM.rh il
 refine ⟨R', ⟨⟨⟨b, off, none⟩, cap, vs, by rw [hc, hb], by rw [Dw, length_flatten hu], fun j v hj => by rw [fq, bZ hw]; exact hv j v hj, sD, ?_⟩, hu⟩, fun c hc => by rw [hR]; simp [hc], fun h => by rw [hR] at h; exact (List.nodup_cons.1 h).2⟩
 intro E' cp nM hE re
 have h1 := bM.mono _ _ _ _ hE il
 -- move the cells from off to nM
 have key : ∀ (rs : List (List X)) (o1 o2 : Nat) (R : List Nat), (∀ j, j < rs.flatten.length → cp[o2 + j]? = cs[o1 + j]?) → bM E' rs cs o1 R → bM E' rs cp o2 R := by
  have Bj : ∀ (xs : List X) (o1 o2 : Nat) (R : List Nat), (∀ j, j < xs.length → cp[o2 + j]? = cs[o1 + j]?) → RO E' xs cs o1 R → RO E' xs cp o2 R := by
   intro xs
   induction xs with
   | nil => intro _ _ _ _ h; simpa [RO] using h
   | cons x r ih =>
    intro o1 o2 R he h
    simp only [RO] at h ⊢
    obtain ⟨u, R₁, R₂, hu, hs, h1, h2, hR⟩ := h
    refine ⟨u, R₁, R₂, ?_, hs, h1, ih _ _ _ (fun j hj => ?_) h2, hR⟩
    ·have := he 0 (by simp)
     simp only [Nat.add_zero] at this
     rw [this]; exact hu
    ·have := he (j + 1) (by simp; omega)
     rw [show o2 + 1 + j = o2 + (j + 1) by omega, show o1 + 1 + j = o1 + (j + 1) by omega]; exact this
  intro rs
  induction rs with
  | nil => intro _ _ _ _ h; simpa [bM] using h
  | cons x r ih =>
   intro o1 o2 R he h
   simp only [bM] at h ⊢
   obtain ⟨R₁, R₂, hn, h1, h2, hR⟩ := h
   refine ⟨R₁, R₂, hn, Bj _ _ _ _ (fun j hj => he j (by simp; omega)) h1, ih _ _ _ (fun j hj => ?_) h2, hR⟩
   have := he (x.length + j) (by simp at hj ⊢; omega)
   rw [Nat.add_assoc, Nat.add_assoc]; exact this
 refine key new off nM R' (fun j hj => ?_) h1
 rw [re j om]
 have kt : j < vs.length := by omega
 rw [List.getElem?_eq_getElem kt]
 exact (hv j _ (List.getElem?_eq_getElem kt)).symm
theorem Src.Hn (hi : Inv G E RR st a) {s : Nat} {new : List (List X)} {c : Value} {R : List Nat} (h : RX E (.fz s new) c R) (er : 0 < new.length) : Src E s new c [] := by
 simp only [RX] at h
 obtain ⟨_, hu, base, cap, hc, h⟩ := h
 rcases h with ⟨h1, _⟩ | ⟨b, off, hb, hl, hf⟩
 ·subst h1; simp at er
 obtain ⟨vs, Dw, hv, sD, hr⟩ := gp.rh hf
 exact ⟨⟨⟨b, off, none⟩, cap, vs, by rw [hc, hb], by rw [Dw, length_flatten hu], fun j v hj => by rw [fq]; exact hi.jH _ _ _ (hv j v hj), sD, hr⟩, hu⟩
theorem nO {t e s cj n cap m ty : Nat} {base : Option Addr} {b2 : Addr} {c2 : Nat} {gu news z : List Value} (ht : TY.slice P t = some (e, s, cj)) (hz : TY.zero P e = some z) (mS : z.length = s) (hm : 0 < m)
  (pa : gu.length = n * s) (hold : ∀ j v, gu[j]? = some v → ∃ b off, base = some ⟨b, off, none⟩ ∧ E.w.cell? ⟨b, off + j, none⟩ = some v) (yi : base = none → n = 0 ∧ cap = 0)
  (vo : news.length = m * s) (kV : ∀ j v, news[j]? = some v → E.w.cell? (b2.add j) = some v) (sD : ∀ v ∈ news, v.oneCell' = true) (mr : (n + m) * cj ≤ 140737488355328) (vp : n + m ≤ 4611686018427387904)
  (tJ : n + m ≤ cap → ∃ b off cs tb, base = some ⟨b, off, none⟩ ∧ E.w.heap[b]? = some (.cells cs tb (0, 0)) ∧ off + cap * s ≤ cs.size) :
  (∃ b off cs tb, base = some ⟨b, off, none⟩ ∧ E.w.heap[b]? = some (.cells cs tb (0, 0)) ∧ n + m ≤ cap ∧ off + cap * s ≤ cs.size ∧
   (Builtin.append_ #[t, t] ty #[.slice base n cap, .slice (some b2) m c2]).run P E.w = .ok (.slice base (n + m) cap) (E.w.setRow b (gS cs (off + n * s) news))) ∨
  (∃ nP rest, n + m ≤ nP ∧ rest.size = (nP - (n + m)) * s ∧
   (Builtin.append_ #[t, t] ty #[.slice base n cap, .slice (some b2) m c2]).run P E.w = .ok (.slice (some ⟨E.w.heap.size, 0, none⟩) (n + m) nP) (E.w.drew.alloc (.cells ((gu ++ news).toArray ++ rest) e))) := by
 obtain ⟨hu, i, fG, hs, zX⟩ := TY.ct ht
 obtain ⟨i', z0, l4, vh, vj⟩ := TY.eh hz
 rw [fG] at l4
 obtain rfl := Option.some.inj l4
 have Ho : z0.cells.size = s := by
  have : z0.cells.toList.length = z.length := by rw [vj]
  simpa [mS] using this
 by_cases hr : n + m ≤ cap
 ·obtain ⟨b, off, cs, tb, hb, hw, ei⟩ := tJ hr
  refine .inl ⟨b, off, cs, tb, hb, hw, hr, ei, ?_⟩
  have Hp : (n + m) * s ≤ cap * s := Nat.mul_le_mul_right s hr
  rw [Nat.add_mul] at Hp
  have hf := run_firstCells_some (P := P) E.w i.size m b2 m c2 news (by rw [hs]; exact vo) kV
  have vD := run_storeCells_at P b (off + n * s) tb news 0 cs E.w hw om sD
  simp only [Nat.add_zero] at vD
  subst hb
  rw [hs] at hf
  simp [Builtin.append_, run_underlying hu, sizeOf, typeInfo, fG, Builtin.lenOf, hr, hf, fq, hs, vD, gS]
 ·refine .inr ?_
  have np : Builtin.nextslicecap (n + m) cap * i.bytes ≤ 281474976710656 := growslice_fits om (by rw [zX]; omega)
  have Kv : ∀ k, (Builtin.zeroCells z0.cells k).size = k * s := fun k => by rw [size_zeroCells, Ho]
  cases pz : base with
  | none =>
   obtain ⟨rfl, rfl⟩ := yi pz
   have holds : gu = [] := List.eq_nil_of_length_eq_zero (by simpa using pa)
   subst holds
   refine ⟨grownCap E.w m 0 e, _, by have := grownCap_ge E.w m 0 e; omega, Kv _, ?_⟩
   have := run_append_nil (P := P) E.w t ty e i z0 hu fG vh b2 m c2 news (by rw [hs]; exact vo) kV hm om (by
    have : m * cj ≤ 140737488355328 := by simpa using mr
    rw [zX]; omega)
   simpa using this
  | some bb =>
   have DE : ∀ j v, gu[j]? = some v → E.w.cell? (bb.add j) = some v := by
    intro j v hj
    obtain ⟨b, off, hb, hc⟩ := hold j v hj
    rw [pz] at hb
    obtain rfl := Option.some.inj hb
    rw [fq]; exact hc
   refine ⟨grownCap E.w (n + m) cap e, _, grownCap_ge E.w (n + m) cap e, Kv _, ?_⟩
   have := run_append_grow (P := P) E.w t ty e i z0 hu fG vh bb n cap gu (by rw [hs]; exact pa) DE b2 m c2 news (by rw [hs]; exact vo) kV om om np
   rw [this]
   simp
theorem bM.sE {E : Env} {rs : List (List X)} {cs : Array Value} {off s lo n : Nat} {R : List Nat} (hu : bA s rs) (h : bM E rs cs off R) (hl : lo + n ≤ rs.length) :
  ∃ R', bM E ((rs.drop lo).take n) cs (off + lo * s) R' ∧ (∀ b ∈ R', b ∈ R) ∧ (R.Nodup → R'.Nodup) := by
 have h0 : rs = rs.take lo ++ ((rs.drop lo).take n ++ rs.drop (lo + n)) := by
  conv => lhs; rw [← List.take_append_drop lo rs, ← List.take_append_drop n (rs.drop lo), List.drop_drop]
 rw [h0] at h
 obtain ⟨R₁, R₂, h1, h2, rfl⟩ := bM.lC h
 obtain ⟨R₃, R₄, h3, h4, rfl⟩ := bM.lC h2
 rw [length_flatten (hu.take lo), List.length_take, Nat.min_eq_left om] at h3
 refine ⟨R₃, h3, fun b hb => by simp [hb], fun hn => ?_⟩
 have := (List.nodup_append.1 hn).2.1
 exact (List.nodup_append.1 this).1
theorem Inv.append (hi : Inv G E RR st a) {t e s cj ty : Nat} {z : List Value} {o lo n : Nat} {rs new : List (List X)} {c c2 : Value} {R2 : List Nat} (ht : TY.slice P t = some (e, s, cj)) (hz : TY.zero P e = some z) (mS : z.length = s)
  (hx : RX E (.aR o s lo n) c []) (ho : look st.ay o = some (.rows s rs)) (kX : lo + n ≤ rs.length) (vJ : Src E s new c2 R2) (hm : 0 < new.length) (u7 : R2.Nodup) (mu : ∀ b ∈ R2, b < E.w.heap.size ∧ ¬ G.K b ∧ ∀ p, b ∉ RR p)
  (mr : (n + new.length) * cj ≤ 140737488355328) (vp : n + new.length ≤ 4611686018427387904) (hF : G.fn.F.elem o = false) :
  ∃ u E' et, (Builtin.append_ #[t, t] ty #[c, c2]).run P E.w = .ok u E'.w ∧ Inv G E' et ((st.kill o).dr o (.rows s (((rs.drop lo).take n) ++ new))) a ∧ RX E' (.aR o s 0 (n + new.length)) u [] := by
 have aL := hi.ay o _ ho
 have iw := hi.nodup (.obj o)
 simp only [RX] at hx
 obtain ⟨_, base, cap, rfl, cu⟩ := hx
 simp only [dq] at aL
 obtain ⟨hu, aL⟩ := aL
 obtain ⟨⟨b2, Mh, news, rfl, vo, kV, sD, DF⟩, tD⟩ := vJ
 have sv : ((rs.drop lo).take n).length = n := by simp; omega
 have hU : bA s (((rs.drop lo).take n) ++ new) := by
  intro r hr
  rcases List.mem_append.1 hr with h | h
  ·exact (hu.drop lo).take n r h
  ·exact tD r h
 have DG : ∀ b ∈ R2, b ∉ RR (.obj o) := fun b hb => (mu b hb).2.2 _
 -- the Hq cells, as values, and what lies in them
 have hold : ∃ (gu : List Value) (R1 : List Nat), gu.length = n * s ∧ (∀ j v, gu[j]? = some v → ∃ b off, base = some ⟨b, off, none⟩ ∧ E.w.cell? ⟨b, off + j, none⟩ = some v) ∧ (∀ b ∈ R1, b ∈ RR (.obj o)) ∧ R1.Nodup ∧
   (base = none → n = 0 ∧ cap = 0) ∧
   (∀ (E' : Env) (cp : Array Value) (nM : Nat), E.On E' R1 → (∀ j, j < gu.length → cp[nM + j]? = gu[j]?) → bM E' ((rs.drop lo).take n) cp nM R1) ∧
   (n + new.length ≤ cap → ∃ B cs tb, E.β o = some B ∧ base = some ⟨B.b, B.off + lo * s, none⟩ ∧ E.w.heap[B.b]? = some (.cells cs tb (0, 0)) ∧ B.off + lo * s + cap * s ≤ cs.size ∧ (∀ i, E.φ B.b i = none) ∧ B.b ∈ RR (.obj o) ∧ B.b ∉ R1) := by
  by_cases jP : cap = 0
  ·have yi : n = 0 := by rcases cu with ⟨_, _, h, _⟩ | ⟨_, _, _, h, _⟩ <;> omega
   subst yi
   refine ⟨[], [], by simp, by simp, by simp, List.nodup_nil, fun _ => ⟨rfl, jP⟩, fun _ _ _ _ _ => by simp [bM], fun h => by omega⟩
  ·rcases cu with ⟨_, _, _, h⟩ | ⟨B, hB, Dr, nJ, hb⟩
   ·exact absurd h jP
   have eO := hb.resolve_left jP
   rcases aL with ⟨h1, _⟩ | ⟨B', cs, tb, R', fY, hw, hφ, pN, ei, il, gr⟩
   ·rw [hB] at h1; cases h1
   rw [hB] at fY
   obtain rfl := Option.some.inj fY
   rw [gr] at iw
   obtain ⟨rj, jM⟩ := List.nodup_cons.1 iw
   obtain ⟨R1, u9, cx, Bk⟩ := bM.sE hu il kX
   obtain ⟨gu, pa, DH, _⟩ := bM.rh u9
   rw [length_flatten ((hu.drop lo).take n), sv] at pa
   refine ⟨gu, R1, pa, fun j v hj => ⟨B.b, B.off + lo * s, eO, by rw [bZ hw]; exact DH j v hj⟩, fun b hb => by rw [gr]; simp [cx b hb], Bk jM, (fun h => by rw [eO] at h; cases h), ?_, ?_⟩
   ·intro E' cp nM hE re
    have h1 := bM.mono _ _ _ _ hE u9
    have key : ∀ (rs : List (List X)) (o1 o2 : Nat) (R : List Nat), (∀ j, j < rs.flatten.length → cp[o2 + j]? = cs[o1 + j]?) → bM E' rs cs o1 R → bM E' rs cp o2 R := by
     have Bj : ∀ (xs : List X) (o1 o2 : Nat) (R : List Nat), (∀ j, j < xs.length → cp[o2 + j]? = cs[o1 + j]?) → RO E' xs cs o1 R → RO E' xs cp o2 R := by
      intro xs
      induction xs with
      | nil => intro _ _ _ _ h; simpa [RO] using h
      | cons x r ih =>
       intro o1 o2 R he h
       simp only [RO] at h ⊢
       obtain ⟨u, R₁, R₂, hu, hs, h1, h2, hR⟩ := h
       refine ⟨u, R₁, R₂, ?_, hs, h1, ih _ _ _ (fun j hj => ?_) h2, hR⟩
       ·have := he 0 (by simp)
        simp only [Nat.add_zero] at this
        rw [this]; exact hu
       ·have := he (j + 1) (by simp; omega)
        rw [show o2 + 1 + j = o2 + (j + 1) by omega, show o1 + 1 + j = o1 + (j + 1) by omega]; exact this
     intro rs
     induction rs with
     | nil => intro _ _ _ _ h; simpa [bM] using h
     | cons x r ih =>
      intro o1 o2 R he h
      simp only [bM] at h ⊢
      obtain ⟨R₁, R₂, hn, h1, h2, hR⟩ := h
      refine ⟨R₁, R₂, hn, Bj _ _ _ _ (fun j hj => he j (by simp; omega)) h1, ih _ _ _ (fun j hj => ?_) h2, hR⟩
      have := he (x.length + j) (by simp at hj ⊢; omega)
      rw [Nat.add_assoc, Nat.add_assoc]; exact this
    refine key _ (B.off + lo * s) nM R1 (fun j hj => ?_) h1
    have kt : j < gu.length := by
     rw [length_flatten ((hu.drop lo).take n), sv] at hj
     omega
    rw [re j kt, List.getElem?_eq_getElem kt]
    exact (DH j _ (List.getElem?_eq_getElem kt)).symm
   ·intro _
    refine ⟨B, cs, tb, hB, eO, hw, ?_, hφ, by rw [gr]; simp, fun h => rj (cx _ h)⟩
    have : B.cap = lo + cap := Dr.symm
    rw [this, Nat.add_mul] at ei
    omega
 obtain ⟨gu, R1, pa, DH, nL, Hr, yi, Ab, tJ⟩ := hold
 have mq : (R1 ++ R2).Nodup := by
  rw [List.nodup_append]
  exact ⟨Hr, u7, fun x hx y hy e => DG y hy (by rw [← e]; exact nL x hx)⟩
 rcases nO (P := P) (E := E) (ty := ty) ht hz mS hm pa DH yi vo kV sD mr vp (fun h => by
   obtain ⟨B, cs, tb, _, h2, h3, h4, _⟩ := tJ h
   exact ⟨B.b, B.off + lo * s, cs, tb, h2, h3, h4⟩) with ⟨b, off, cs, tb, pz, hw, np, ei, fJ⟩ | ⟨nP, rest, Kw, DI, fJ⟩
 ·-- in place
  obtain ⟨B, O6, O7, hB, sF, mw, DJ, hφ, jO, DK⟩ := tJ np
  rw [pz] at sF
  simp only [Option.some.injEq, Addr.mk.injEq, and_true] at sF
  obtain ⟨rfl, rfl⟩ := sF
  rw [hw] at mw
  simp only [Option.some.injEq, Go.Obj.cells.injEq] at mw
  obtain ⟨rfl, rfl, _⟩ := mw
  have Hp : (n + new.length) * s ≤ cap * s := Nat.mul_le_mul_right s np
  rw [Nat.add_mul] at Hp
  have Hs : B.off + lo * s + n * s + news.length ≤ cs.size := by omega
  let E' : Env := { E with w := E.w.setRow B.b (gS cs (B.off + lo * s + n * s) news), β := fun q => if q = o then some ⟨B.b, B.off + lo * s, cap⟩ else E.β q }
  have DL : B.b ∉ R2 := fun h => DG _ h jO
  have gq : ∀ vI, (∀ b ∈ vI, b ≠ B.b) → E.On E' vI := fun vI h => ⟨fun _ _ _ h => h, fun b hb => ⟨setRow_other E.w B.b b _ (h b hb), fun h => h⟩⟩
  have xR : cb G E E' (fun c => c = B.b) := { cb.setRow G E B.b (gS cs (B.off + lo * s + n * s) news) hφ (hi.oZ jO) with φ := rfl }
  have vK : bM E' (((rs.drop lo).take n) ++ new) (gS cs (B.off + lo * s + n * s) news) (B.off + lo * s) (R1 ++ R2) := by
   refine bM.app (Ab E' _ _ (gq R1 (fun b hb e => DK (by rw [← e]; exact hb))) fun j hj => ?_) ?_
   ·rw [jL Hs (.inl om)]
    have := DH j _ (List.getElem?_eq_getElem hj)
    obtain ⟨b, off, hb, hc⟩ := this
    rw [pz] at hb
    simp only [Option.some.injEq, Addr.mk.injEq, and_true] at hb
    obtain ⟨rfl, rfl⟩ := hb
    rw [bZ hw] at hc
    rw [hc, List.getElem?_eq_getElem hj]
   ·rw [length_flatten ((hu.drop lo).take n), sv]
    exact DF E' _ _ (gq R2 (fun b hb e => DL (by rw [← e]; exact hb))) fun j hj => tH Hs hj
  refine ⟨_, E', _, fJ, hi.kI xR (o := o) (R := B.b :: (R1 ++ R2)) (fun b h => by subst h; exact jO) (fun q hq => by simp [E', hq]) (fun h => by rw [hF] at h; cases h) ?_ ?_ ?_, ?_⟩
  ·simp only [dq]
   refine ⟨hU, .inr ⟨⟨B.b, B.off + lo * s, cap⟩, _, tb, R1 ++ R2, by simp [E'], setRow_heap E.w B.b cs _ tb _ hw, hφ, by simp [sv]; omega, by rw [ks Hs]; exact ei, vK, rfl⟩⟩
  ·refine List.nodup_cons.2 ⟨fun h => ?_, mq⟩
   rcases List.mem_append.1 h with h | h
   ·exact DK h
   ·exact DL h
  ·intro b hb
   have hs : E'.w.heap.size = E.w.heap.size := by simp [E']
   rw [hs]
   rcases List.mem_cons.1 hb with h | h
   ·subst h; exact ⟨(hi.own _ _ jO).1, hi.oZ jO, hi.qX (.inl jO)⟩
   ·rcases List.mem_append.1 h with h | h
    ·exact ⟨(hi.own _ _ (nL b h)).1, hi.oZ (nL b h), hi.qX (.inl (nL b h))⟩
    ·exact ⟨(mu b h).1, (mu b h).2.1, fun p _ => (mu b h).2.2 p⟩
  ·simp only [RX]
   exact ⟨trivial, _, cap, rfl, .inr ⟨⟨B.b, B.off + lo * s, cap⟩, by simp [E'], by simp, om, .inr (by simpa using pz)⟩⟩
 ·-- in a new block
  let E' : Env := { E with w := E.w.drew.alloc (.cells ((gu ++ news).toArray ++ rest) e), β := fun q => if q = o then some ⟨E.w.heap.size, 0, nP⟩ else E.β q }
  have xR : cb G E E' (fun _ => False) := by
   have h1 := (cb.drew G E).trans (cb.alloc G { E with w := E.w.drew } (.cells ((gu ++ news).toArray ++ rest) e)) (fun _ h => h.elim)
   exact { h1 with φ := rfl }
  have gq : ∀ vI, (∀ b ∈ vI, b < E.w.heap.size) → E.On E' vI := fun vI h => ⟨fun _ _ _ h => h, fun b hb => ⟨xR.same b (h b hb) (fun h => h), fun h => h⟩⟩
  have vq : ∀ j, j < (gu ++ news).length → ((gu ++ news).toArray ++ rest)[0 + j]? = (gu ++ news)[j]? := by
   intro j hj
   rw [Nat.zero_add, Array.getElem?_append_left (by simpa using hj)]
   simp
  have ei : ((gu ++ news).toArray ++ rest).size = nP * s := by
   simp [DI, pa, vo]
   have : nP * s = (n + new.length) * s + (nP - (n + new.length)) * s := by rw [← Nat.add_mul]; congr 1; omega
   rw [this, Nat.add_mul]
  have vK : bM E' (((rs.drop lo).take n) ++ new) ((gu ++ news).toArray ++ rest) 0 (R1 ++ R2) := by
   refine bM.app (Ab E' _ _ (gq R1 (fun b hb => (hi.own _ _ (nL b hb)).1)) fun j hj => ?_) ?_
   ·rw [vq j (by simp; omega), List.getElem?_append_left hj]
   ·rw [length_flatten ((hu.drop lo).take n), sv]
    refine DF E' _ _ (gq R2 (fun b hb => (mu b hb).1)) fun j hj => ?_
    have := vq (gu.length + j) (by simp; omega)
    rw [List.getElem?_append_right om] at this
    rw [show 0 + n * s + j = 0 + (gu.length + j) by omega, this]
    congr 1; omega
  have DM : E.w.heap.size ∉ R1 ++ R2 := by
   intro h
   rcases List.mem_append.1 h with h | h
   ·have := (hi.own _ _ (nL _ h)).1; omega
   ·have := (mu _ h).1; omega
  have GX : E'.w.heap.size = E.w.heap.size + 1 := by simp [E']
  refine ⟨_, E', _, fJ, hi.kI xR (o := o) (R := E.w.heap.size :: (R1 ++ R2)) (fun _ h => h.elim) (fun q hq => by simp [E', hq]) (fun h => by rw [hF] at h; cases h) ?_ ?_ ?_, ?_⟩
  ·simp only [dq]
   refine ⟨hU, .inr ⟨⟨E.w.heap.size, 0, nP⟩, _, e, R1 ++ R2, by simp [E'], ?_, fun i => ?_, by simp [sv]; omega, by rw [ei]; simp, vK, rfl⟩⟩
   ·have := heap_alloc E.w.drew (.cells ((gu ++ news).toArray ++ rest) e)
    exact this
   ·show E.φ E.w.heap.size i = none
    cases h : E.φ E.w.heap.size i with
    | none => rfl
    | some v => exact absurd (World.block_lt_of_cell? E.w _ (hi.jH _ _ _ h)) (by simp)
  ·exact List.nodup_cons.2 ⟨DM, mq⟩
  ·intro b hb
   rw [GX]
   rcases List.mem_cons.1 hb with h | h
   ·subst h
    refine ⟨om, fun hK => ?_, hi.qX (.inr (Nat.le_refl _))⟩
    have := hi.small _ hK
    have := hi.size
    omega
   ·rcases List.mem_append.1 h with h | h
    ·exact ⟨by have := (hi.own _ _ (nL b h)).1; omega, hi.oZ (nL b h), hi.qX (.inl (nL b h))⟩
    ·exact ⟨by have := (mu b h).1; omega, (mu b h).2.1, fun p _ => (mu b h).2.2 p⟩
  ·simp only [RX]
   exact ⟨trivial, _, nP, rfl, .inr ⟨⟨E.w.heap.size, 0, nP⟩, by simp [E'], by simp, om, .inr (by simp)⟩⟩
end
end Go.AW
namespace Go.AW
open Go
section
variable {P : Program} {N : dJ} {G : Ctx} {E : Env} {RR : Own → List Nat} {st : St} {a : Act}
theorem Inv.trim (hi : Inv G E RR st a) {o s lo n : Nat} {rs : List (List X)} {c : Value} (hx : RX E (.aR o s lo n) c []) (ho : look st.ay o = some (.rows s rs)) (kX : lo + n ≤ rs.length) (hF : G.fn.F.elem o = false) :
  ∃ E' et, E'.w = E.w ∧ Inv G E' et ((st.kill o).dr o (.rows s ((rs.drop lo).take n))) a ∧ RX E' (.aR o s 0 n) c [] := by
 have aL := hi.ay o _ ho
 have iw := hi.nodup (.obj o)
 simp only [RX] at hx
 obtain ⟨_, base, cap, rfl, cu⟩ := hx
 simp only [dq] at aL
 obtain ⟨hu, aL⟩ := aL
 have hβ : ∀ (bk : Option zV), cb G E { E with β := fun q => if q = o then bk else E.β q } (fun _ => False) := fun _ =>
  ⟨rfl, fun _ h => h.elim, fun _ h => h.elim, fun _ _ _ => rfl, Nat.le_refl _, rfl, rfl, rfl⟩
 have sv : ((rs.drop lo).take n).length = n := by simp; omega
 by_cases jP : cap = 0
 ·have yi : n = 0 := by rcases cu with ⟨_, _, h, _⟩ | ⟨_, _, _, h, _⟩ <;> omega
  subst yi
  refine ⟨{ E with β := fun q => if q = o then none else E.β q }, _, rfl, hi.kI (hβ none) (o := o) (R := []) (fun _ h => h.elim) (fun q hq => by simp [hq]) (fun h => by rw [hF] at h; cases h) ?_ List.nodup_nil (fun _ h => by cases h), ?_⟩
  ·simp only [dq]; exact ⟨fun _ h => (by simp at h), .inl ⟨by simp, by simp, trivial⟩⟩
  ·simp only [RX]; exact ⟨trivial, base, cap, rfl, .inl ⟨by simp, trivial, trivial, jP⟩⟩
 ·rcases cu with ⟨_, _, _, h⟩ | ⟨B, hB, Dr, nJ, hb⟩
  ·exact absurd h jP
  have eO := hb.resolve_left jP
  rcases aL with ⟨h1, _⟩ | ⟨B', cs, tb, R', fY, hw, hφ, pN, ei, il, gr⟩
  ·rw [hB] at h1; cases h1
  rw [hB] at fY
  obtain rfl := Option.some.inj fY
  rw [gr] at iw
  obtain ⟨rj, jM⟩ := List.nodup_cons.1 iw
  obtain ⟨R1, u9, cx, Bk⟩ := bM.sE hu il kX
  have gq : E.On { E with β := fun q => if q = o then some ⟨B.b, B.off + lo * s, cap⟩ else E.β q } R1 := ⟨fun _ _ _ h => h, fun _ _ => ⟨rfl, fun h => h⟩⟩
  refine ⟨{ E with β := fun q => if q = o then some ⟨B.b, B.off + lo * s, cap⟩ else E.β q }, _, rfl, hi.kI (hβ (some ⟨B.b, B.off + lo * s, cap⟩)) (o := o) (R := B.b :: R1) (fun _ h => h.elim) (fun q hq => by simp [hq]) (fun h => by rw [hF] at h; cases h) ?_ (List.nodup_cons.2 ⟨fun h => rj (cx _ h), Bk jM⟩) ?_, ?_⟩
  ·simp only [dq]
   refine ⟨(hu.drop lo).take n, .inr ⟨⟨B.b, B.off + lo * s, cap⟩, cs, tb, R1, by simp, hw, hφ, by simp [sv]; omega, ?_, bM.mono _ _ _ _ gq u9, rfl⟩⟩
   have : B.cap = lo + cap := Dr.symm
   rw [this, Nat.add_mul] at ei
   simp only; omega
  ·intro b xS
   have hm : b ∈ RR (.obj o) := by
    rw [gr]
    rcases List.mem_cons.1 xS with h | h
    ·simp [h]
    ·simp [cx b h]
   exact ⟨(hi.own _ _ hm).1, hi.oZ hm, hi.qX (.inl hm)⟩
  ·simp only [RX]
   exact ⟨trivial, base, cap, rfl, .inr ⟨⟨B.b, B.off + lo * s, cap⟩, by simp, by simp, nJ, .inr (by simpa using eO)⟩⟩
theorem Sh.trim {d o s lo n : Nat} {rs : List (List X)} (hx : look st.ax d = some (.aR o s lo n)) (ho : look st.ay o = some (.rows s rs)) (kX : lo + n ≤ rs.length) (hF : N.F.elem o = false) :
  Sh N st (((st.kill o).dr o (.rows s ((rs.drop lo).take n))).put d (.aR o s 0 n)) := by
 intro G hn a w hh
 obtain ⟨E, RR, rfl, hi⟩ := hh
 have hv := hi.ax d _ hx
 have h0 : RR (.slot d) = [] := RX.free (x := .aR o s lo n) rfl hv
 rw [h0] at hv
 obtain ⟨E', et, hw, h1, h2⟩ := hi.trim hv ho kX (by rw [hn]; exact hF)
 exact ⟨E', _, hw, h1.relabel h2 List.nodup_nil (fun _ h => by cases h)⟩
theorem Inv.nil (hi : Inv G E RR st a) (o s : Nat) (hF : G.fn.F.elem o = false) : ∃ E' et, E'.w = E.w ∧ Inv G E' et ((st.kill o).dr o (.rows s [])) a ∧ RX E' (.aR o s 0 0) (.slice none 0 0) [] := by
 have hβ : cb G E { E with β := fun q => if q = o then none else E.β q } (fun _ => False) :=
  ⟨rfl, fun _ h => h.elim, fun _ h => h.elim, fun _ _ _ => rfl, Nat.le_refl _, rfl, rfl, rfl⟩
 refine ⟨{ E with β := fun q => if q = o then none else E.β q }, _, rfl, hi.kI hβ (o := o) (R := []) (fun _ h => h.elim) (fun q hq => by simp [hq]) (fun h => by rw [hF] at h; cases h) ?_ List.nodup_nil (fun _ h => by cases h), ?_⟩
 ·simp only [dq]; exact ⟨fun _ h => (by cases h), .inl ⟨by simp, trivial, trivial⟩⟩
 ·simp only [RX]; exact ⟨trivial, none, 0, rfl, .inl ⟨by simp, by trivial, by trivial, by trivial⟩⟩
theorem Sh.nil {d : Nat} (o s : Nat) (hx : look st.ax d = some (.v (.slice none 0 0))) (hF : N.F.elem o = false) : Sh N st (((st.kill o).dr o (.rows s [])).put d (.aR o s 0 0)) := by
 intro G hn a w hh
 obtain ⟨E, RR, rfl, hi⟩ := hh
 have hv := hi.ax d _ hx
 simp only [RX] at hv
 obtain ⟨E', et, hw, h1, h2⟩ := hi.nil o s (by rw [hn]; exact hF)
 refine ⟨E', _, hw, h1.relabel (d := d) (by rw [hv.1]; exact h2) List.nodup_nil (fun _ h => by cases h)⟩
theorem Sh.Ht {d : Nat} (s : Nat) (hx : look st.ax d = some (.v (.slice none 0 0))) : Sh N st (st.put d (.fz s [])) := by
 intro G hn a w hh
 obtain ⟨E, RR, rfl, hi⟩ := hh
 have hv := hi.ax d _ hx
 simp only [RX] at hv
 refine ⟨E, _, rfl, hi.relabel (d := d) (R := []) ?_ List.nodup_nil (fun _ h => by cases h)⟩
 rw [hv.1]
 simp only [RX]
 exact ⟨trivial, fun _ h => (by cases h), none, 0, rfl, .inl ⟨by trivial, by trivial⟩⟩
theorem Sh.pb {d : Nat} (s : Nat) (hx : look st.ax d = some (.v (.slice none 0 0))) : Sh N st (st.put d (.cX s [])) := by
 intro G hn a w hh
 obtain ⟨E, RR, rfl, hi⟩ := hh
 have hv := hi.ax d _ hx
 simp only [RX] at hv
 refine ⟨E, _, rfl, hi.relabel (d := d) (R := []) ?_ List.nodup_nil (fun _ h => by cases h)⟩
 rw [hv.1]
 simp only [RX]
 exact ⟨fun _ h => (by cases h), none, 0, rfl, .inl ⟨by trivial, by trivial, by trivial⟩⟩
theorem j6 {t e s cj ty n cap : Nat} {base b2 : Option Addr} {c2 : Nat} (ht : TY.slice P t = some (e, s, cj)) (hc : n ≤ cap) (w : World) :
  (Builtin.append_ #[t, t] ty #[.slice base n cap, .slice b2 0 c2]).run P w = .ok (.slice base n cap) w := by
 obtain ⟨hu, i, fG, hs, zX⟩ := TY.ct ht
 have h0 : ∀ a : Addr, (storeCells a []).run P w = .ok () w := fun _ => rfl
 cases b2 with
 | none =>
  cases base with
  | none => simp [Builtin.append_, run_underlying hu, sizeOf, typeInfo, fG, Builtin.lenOf, hc, Builtin.firstCells]
  | some b => simp [Builtin.append_, run_underlying hu, sizeOf, typeInfo, fG, Builtin.lenOf, hc, Builtin.firstCells, h0]
 | some b' =>
  have hl : ∀ a : Addr, (loadCells a 0).run P w = .ok #[] w := fun _ => rfl
  cases base with
  | none => simp [Builtin.append_, run_underlying hu, sizeOf, typeInfo, fG, Builtin.lenOf, hc, Builtin.firstCells, hl]
  | some b => simp [Builtin.append_, run_underlying hu, sizeOf, typeInfo, fG, Builtin.lenOf, hc, Builtin.firstCells, h0, hl]
variable {Q : Exit → St → Prop} {all : Array Oper} {rest : List Oper} {d : Nat} {ty : TypeId} {pos : String} {af : Array Edge}
theorem fw {x y : Operand} {t : Nat} {w w' : World} {u : Value} (h : (Builtin.append_ #[t, t] ty #[a.eval x, a.eval y]).run P w = .ok u w') :
  (execOp a.eval ⟨some d, .call ⟨.builtin .append, #[x, y], #[t, t]⟩, ty, pos, af, none⟩).run P w = .ok (.value u) w' := by
 refine fb (g := none) ?_
 have e : (#[x, y] : Array Operand).map a.eval = #[a.eval x, a.eval y] := by simp
 rw [e]
 exact cK h
theorem aa.append {t e s cj tv : Nat} {z : List Value} {x : Operand} {o lo n : Nat} {rs new : List (List X)} (ht : TY.slice P t = some (e, s, cj)) (hz : TY.zero P e = some z) (mS : Nat.beq z.length s = true)
  (hy : look st.ax tv = some (.cX s new)) (hx : bu (st.put tv .no) x = some (.aR o s lo n)) (ho : look st.ay o = some (.rows s rs)) (kX : lo + n ≤ rs.length)
  (mr : (n + new.length) * cj ≤ 140737488355328) (vp : n + new.length ≤ 4611686018427387904) (hF : N.F.elem o = false) (hd : d < N.n)
  (k : aa P N all rest (((((st.put tv .no).kill o).dr o (.rows s (((rs.drop lo).take n) ++ new)))).put d (.aR o s 0 (n + new.length))) Q) :
  aa P N all (⟨some d, .call ⟨.builtin .append, #[x, .tmp tv], #[t, t]⟩, ty, pos, af, none⟩ :: rest) st Q := by
 refine aa.vB (fun G E RR a hn hi => ?_) k
 have hv := hi.ax tv _ hy
 have j5 := hi.no tv
 obtain ⟨R, u5⟩ := j5.eval hx
 have h0 : R = [] := RX.free (x := .aR o s lo n) rfl u5
 subst h0
 have DN : G.fn.F.elem o = false := by rw [hn]; exact hF
 by_cases hm : 0 < new.length
 ·obtain ⟨R2, vJ, cx, iw⟩ := Src.DD hv hm
  obtain ⟨u, E', et, fJ, h1, h2⟩ := j5.append (ty := ty) ht hz (Nat.eq_of_beq_eq_true mS) u5 ho kX vJ hm (iw (hi.nodup _)) (fun b hb => by
   have eO := cx b hb
   refine ⟨(hi.own _ _ eO).1, (hi.own _ _ eO).2, fun p hp => ?_⟩
   unfold en at hp
   split at hp
   ·cases hp
   ·rename_i h; exact hi.apart _ _ h b hp eO) mr vp DN
  exact ⟨u, E', _, fw fJ, h1.eP (by rw [hn]; exact hd) h2⟩
 ·have kV : new = [] := List.eq_nil_of_length_eq_zero om
  subst kV
  obtain ⟨E', et, hw, h1, h2⟩ := j5.trim u5 ho kX DN
  simp only [List.append_nil, List.length_nil, Nat.add_zero]
  refine ⟨a.eval x, E', _, ?_, h1.eP (by rw [hn]; exact hd) h2⟩
  rw [hw]
  refine fw ?_
  simp only [RX] at u5 hv
  obtain ⟨_, base, cap, hc, cu⟩ := u5
  obtain ⟨_, b2, c2, Hu, _⟩ := hv
  have Hv : a.eval (.tmp tv) = .slice b2 0 c2 := Hu
  rw [hc, Hv]
  exact j6 ht (by rcases cu with ⟨_, _, h3, h4⟩ | ⟨_, _, _, h3, _⟩ <;> omega) E.w
theorem aa.yj {t e s cj : Nat} {z : List Value} {x y : Operand} {o lo n : Nat} {rs new : List (List X)} (ht : TY.slice P t = some (e, s, cj)) (hz : TY.zero P e = some z) (mS : Nat.beq z.length s = true)
  (hy : bu st y = some (.fz s new)) (hx : bu st x = some (.aR o s lo n)) (ho : look st.ay o = some (.rows s rs)) (kX : lo + n ≤ rs.length)
  (mr : (n + new.length) * cj ≤ 140737488355328) (vp : n + new.length ≤ 4611686018427387904) (hF : N.F.elem o = false) (hd : d < N.n)
  (k : aa P N all rest ((((st.kill o).dr o (.rows s (((rs.drop lo).take n) ++ new)))).put d (.aR o s 0 (n + new.length))) Q) :
  aa P N all (⟨some d, .call ⟨.builtin .append, #[x, y], #[t, t]⟩, ty, pos, af, none⟩ :: rest) st Q := by
 refine aa.vB (fun G E RR a hn hi => ?_) k
 obtain ⟨R', hv⟩ := hi.eval hy
 obtain ⟨R, u5⟩ := hi.eval hx
 have h0 : R = [] := RX.free (x := .aR o s lo n) rfl u5
 subst h0
 have DN : G.fn.F.elem o = false := by rw [hn]; exact hF
 by_cases hm : 0 < new.length
 ·have vJ := Src.Hn hi hv hm
  obtain ⟨u, E', et, fJ, h1, h2⟩ := hi.append (ty := ty) ht hz (Nat.eq_of_beq_eq_true mS) u5 ho kX vJ hm List.nodup_nil (fun _ h => by cases h) mr vp DN
  exact ⟨u, E', _, fw fJ, h1.eP (by rw [hn]; exact hd) h2⟩
 ·have kV : new = [] := List.eq_nil_of_length_eq_zero om
  subst kV
  obtain ⟨E', et, hw, h1, h2⟩ := hi.trim u5 ho kX DN
  simp only [List.append_nil, List.length_nil, Nat.add_zero]
  refine ⟨a.eval x, E', _, ?_, h1.eP (by rw [hn]; exact hd) h2⟩
  rw [hw]
  refine fw ?_
  simp only [RX] at u5 hv
  obtain ⟨_, base, cap, hc, cu⟩ := u5
  obtain ⟨_, _, b2, c2, Hu, _⟩ := hv
  rw [hc, Hu]
  exact j6 ht (by rcases cu with ⟨_, _, h3, h4⟩ | ⟨_, _, _, h3, _⟩ <;> omega) E.w
end
end Go.AW
