/- Part of the abstract walk: iterators: loops and joins over several variables (printed from D8); objects for rounds. -/
import Derived.Test.YtligpghohcfpnaaAWx2
set_option linter.unusedSimpArgs false
set_option linter.unusedVariables false
set_option linter.unusedSectionVars false
namespace Go.AW
open Go

section
variable {P : Program} {Y : YCtx P} {N : Frm} {s : StI} {Q : Exit → StI → Prop}
theorem AWpI.join0 {x y : Code} (J : StI) (I : Prop) (hx : AWpI P Y N x s (ThenI (fun st' => I ∧ LeI st' J) Q)) (hy : I → AWpI P Y N y J Q) : AWpI P Y N (.seq x y) s Q :=
 AWpI.join (fun _ : Unit => J) (fun _ => I) (hx.mono fun e _ h => by cases e <;> first | exact ⟨(), h⟩ | exact h) (fun _ h => hy h)
theorem AWpI.loop1 {α0 : Type} {c : Code} (S : α0 → StI) (I : α0 → Prop) (μ : α0 → Nat) (i0 : α0) (hi : I i0) (hs : LeI s (S i0))
  (round : ∀ a0, I a0 → AWpI P Y N c (S a0) (ThenI (fun st' => ∃ b0, I b0 ∧ μ b0 < μ a0 ∧ LeI st' (S b0)) Q)) : AWpI P Y N (.loop c) s Q :=
 AWpI.loop (ι := α0) (fun u => S u) (fun u => I u) (fun u => μ u) i0 hi hs (fun u h => (round u h).mono fun e _ h => by
  cases e <;> first | exact h | (obtain ⟨b0, h⟩ := h; exact ⟨b0, h⟩))
theorem AWpI.join1 {α0 : Type} {x y : Code} (J : α0 → StI) (I : α0 → Prop) (hx : AWpI P Y N x s (ThenI (fun st' => ∃ b0, I b0 ∧ LeI st' (J b0)) Q)) (hy : ∀ a0, I a0 → AWpI P Y N y (J a0) Q) : AWpI P Y N (.seq x y) s Q :=
 AWpI.join (ι := α0) (fun u => J u) (fun u => I u) (hx.mono fun e _ h => by cases e <;> first | exact h | (obtain ⟨b0, h⟩ := h; exact ⟨b0, h⟩)) (fun u h => hy u h)
theorem AWpI.loop2 {α0 α1 : Type} {c : Code} (S : α0 → α1 → StI) (I : α0 → α1 → Prop) (μ : α0 → α1 → Nat) (i0 : α0) (i1 : α1) (hi : I i0 i1) (hs : LeI s (S i0 i1))
  (round : ∀ a0 a1, I a0 a1 → AWpI P Y N c (S a0 a1) (ThenI (fun st' => ∃ b0 b1, I b0 b1 ∧ μ b0 b1 < μ a0 a1 ∧ LeI st' (S b0 b1)) Q)) : AWpI P Y N (.loop c) s Q :=
 AWpI.loop (ι := α0 × α1) (fun u => S u.1 u.2) (fun u => I u.1 u.2) (fun u => μ u.1 u.2) (i0, i1) hi hs (fun u h => (round u.1 u.2 h).mono fun e _ h => by
  cases e <;> first | exact h | (obtain ⟨b0, b1, h⟩ := h; exact ⟨(b0, b1), h⟩))
theorem AWpI.join2 {α0 α1 : Type} {x y : Code} (J : α0 → α1 → StI) (I : α0 → α1 → Prop) (hx : AWpI P Y N x s (ThenI (fun st' => ∃ b0 b1, I b0 b1 ∧ LeI st' (J b0 b1)) Q)) (hy : ∀ a0 a1, I a0 a1 → AWpI P Y N y (J a0 a1) Q) : AWpI P Y N (.seq x y) s Q :=
 AWpI.join (ι := α0 × α1) (fun u => J u.1 u.2) (fun u => I u.1 u.2) (hx.mono fun e _ h => by cases e <;> first | exact h | (obtain ⟨b0, b1, h⟩ := h; exact ⟨(b0, b1), h⟩)) (fun u h => hy u.1 u.2 h)
theorem AWpI.loop3 {α0 α1 α2 : Type} {c : Code} (S : α0 → α1 → α2 → StI) (I : α0 → α1 → α2 → Prop) (μ : α0 → α1 → α2 → Nat) (i0 : α0) (i1 : α1) (i2 : α2) (hi : I i0 i1 i2) (hs : LeI s (S i0 i1 i2))
  (round : ∀ a0 a1 a2, I a0 a1 a2 → AWpI P Y N c (S a0 a1 a2) (ThenI (fun st' => ∃ b0 b1 b2, I b0 b1 b2 ∧ μ b0 b1 b2 < μ a0 a1 a2 ∧ LeI st' (S b0 b1 b2)) Q)) : AWpI P Y N (.loop c) s Q :=
 AWpI.loop (ι := α0 × α1 × α2) (fun u => S u.1 u.2.1 u.2.2) (fun u => I u.1 u.2.1 u.2.2) (fun u => μ u.1 u.2.1 u.2.2) (i0, i1, i2) hi hs (fun u h => (round u.1 u.2.1 u.2.2 h).mono fun e _ h => by
  cases e <;> first | exact h | (obtain ⟨b0, b1, b2, h⟩ := h; exact ⟨(b0, b1, b2), h⟩))
theorem AWpI.join3 {α0 α1 α2 : Type} {x y : Code} (J : α0 → α1 → α2 → StI) (I : α0 → α1 → α2 → Prop) (hx : AWpI P Y N x s (ThenI (fun st' => ∃ b0 b1 b2, I b0 b1 b2 ∧ LeI st' (J b0 b1 b2)) Q)) (hy : ∀ a0 a1 a2, I a0 a1 a2 → AWpI P Y N y (J a0 a1 a2) Q) : AWpI P Y N (.seq x y) s Q :=
 AWpI.join (ι := α0 × α1 × α2) (fun u => J u.1 u.2.1 u.2.2) (fun u => I u.1 u.2.1 u.2.2) (hx.mono fun e _ h => by cases e <;> first | exact h | (obtain ⟨b0, b1, b2, h⟩ := h; exact ⟨(b0, b1, b2), h⟩)) (fun u h => hy u.1 u.2.1 u.2.2 h)
theorem AWpI.loop4 {α0 α1 α2 α3 : Type} {c : Code} (S : α0 → α1 → α2 → α3 → StI) (I : α0 → α1 → α2 → α3 → Prop) (μ : α0 → α1 → α2 → α3 → Nat) (i0 : α0) (i1 : α1) (i2 : α2) (i3 : α3) (hi : I i0 i1 i2 i3) (hs : LeI s (S i0 i1 i2 i3))
  (round : ∀ a0 a1 a2 a3, I a0 a1 a2 a3 → AWpI P Y N c (S a0 a1 a2 a3) (ThenI (fun st' => ∃ b0 b1 b2 b3, I b0 b1 b2 b3 ∧ μ b0 b1 b2 b3 < μ a0 a1 a2 a3 ∧ LeI st' (S b0 b1 b2 b3)) Q)) : AWpI P Y N (.loop c) s Q :=
 AWpI.loop (ι := α0 × α1 × α2 × α3) (fun u => S u.1 u.2.1 u.2.2.1 u.2.2.2) (fun u => I u.1 u.2.1 u.2.2.1 u.2.2.2) (fun u => μ u.1 u.2.1 u.2.2.1 u.2.2.2) (i0, i1, i2, i3) hi hs (fun u h => (round u.1 u.2.1 u.2.2.1 u.2.2.2 h).mono fun e _ h => by
  cases e <;> first | exact h | (obtain ⟨b0, b1, b2, b3, h⟩ := h; exact ⟨(b0, b1, b2, b3), h⟩))
theorem AWpI.join4 {α0 α1 α2 α3 : Type} {x y : Code} (J : α0 → α1 → α2 → α3 → StI) (I : α0 → α1 → α2 → α3 → Prop) (hx : AWpI P Y N x s (ThenI (fun st' => ∃ b0 b1 b2 b3, I b0 b1 b2 b3 ∧ LeI st' (J b0 b1 b2 b3)) Q)) (hy : ∀ a0 a1 a2 a3, I a0 a1 a2 a3 → AWpI P Y N y (J a0 a1 a2 a3) Q) : AWpI P Y N (.seq x y) s Q :=
 AWpI.join (ι := α0 × α1 × α2 × α3) (fun u => J u.1 u.2.1 u.2.2.1 u.2.2.2) (fun u => I u.1 u.2.1 u.2.2.1 u.2.2.2) (hx.mono fun e _ h => by cases e <;> first | exact h | (obtain ⟨b0, b1, b2, b3, h⟩ := h; exact ⟨(b0, b1, b2, b3), h⟩)) (fun u h => hy u.1 u.2.1 u.2.2.1 u.2.2.2 h)
end
mutual
theorem nr_ment {q : Nat} : ∀ {x : X}, x.nr = true → x.ment q = false
 | .v _, _ | .no, _ | .fz .., _ | .uni .., _ | .fp .., _ => rfl
 | .ptr .., h => by cases h
 | .slc .., h => by cases h
 | .mref _, h => by cases h
 | .agg xs, h => nrs_ments (xs := xs) h
 | .tup xs, h => nrs_ments (xs := xs) h
 | .clo _ a b, h => by
  simp only [X.nr, Bool.and_eq_true] at h
  simp only [X.ment, nrs_ments h.1, nrs_ments h.2, Bool.or_self]
theorem nrs_ments {q : Nat} : ∀ {xs : List X}, X.nrs xs = true → X.ments q xs = false
 | [], _ => rfl
 | x :: r, h => by
  simp only [X.nrs, Bool.and_eq_true] at h
  simp only [X.ments, nr_ment h.1, nrs_ments h.2, Bool.or_self]
end
theorem RObj.cells {ν : List Nat} {xs : List X} (hp : X.plains xs) (hn : X.nrs xs = true) : RObj ν (.cells xs) :=
 ⟨hp, trivial, by simp, fun ys e q h => by cases e; rw [nrs_ments hn] at h; cases h⟩
theorem RObj.rows {ν : List Nat} {s : Nat} {rs : List (List X)} (hp : X.plainr rs) (h0 : ∀ r ∈ rs, X.frees r = true) : RObj ν (.rows s rs) := ⟨hp, h0, by simp, fun ys e => by cases e⟩
theorem look_all1 {p : Obj → Prop} {m : Nat} {a : Obj} (h : p a) : ∀ {o : Nat} {ob : Obj}, look [(m, a)] o = some ob → p ob := fun {o ob} e => by
 simp only [look] at e
 cases hb : Nat.beq m o <;> rw [hb] at e <;> simp only [cond_true, cond_false, Option.some.injEq, reduceCtorEq] at e
 subst e; exact h
theorem look_all2 {p : Obj → Prop} {m n : Nat} {a b : Obj} (h : p a) (h' : p b) : ∀ {o : Nat} {ob : Obj}, look [(m, a), (n, b)] o = some ob → p ob := fun {o ob} e => by
 rw [look] at e
 cases hb : Nat.beq m o with
 | true => rw [hb] at e; simp only [cond_true, Option.some.injEq] at e; subst e; exact h
 | false => rw [hb] at e; exact look_all1 h' e
end Go.AW
/- Part of the abstract walk: fresh rows with empty slices in them. -/
namespace Go.AW
open Go

def ROle (z z' : List X) : Prop := ∀ (E : Env) (cs : Array Value) (off : Nat) (R : List Nat), RO E z cs off R → RO E z' cs off R
theorem ROle.nil : ROle [] [] := fun _ _ _ _ h => h
theorem ROle.same {x : X} {r r' : List X} (h : ROle r r') : ROle (x :: r) (x :: r') := fun E cs off R hh => by
 simp only [RO] at hh ⊢
 obtain ⟨u, R₁, R₂, h1, h2, h3, h4, h5⟩ := hh
 exact ⟨u, R₁, R₂, h1, h2, h3, h E cs _ _ h4, h5⟩
theorem ROle.nilfz {s : Nat} {r r' : List X} (h : ROle r r') : ROle (.v (.slice none 0 0) :: r) (.fz s [] :: r') := fun E cs off R hh => by
 simp only [RO] at hh ⊢
 obtain ⟨u, R₁, R₂, h1, h2, h3, h4, h5⟩ := hh
 refine ⟨u, R₁, R₂, h1, h2, ?_, h E cs _ _ h4, h5⟩
 simp only [RX] at h3 ⊢
 exact ⟨h3.2, (fun r hr => by cases hr), none, 0, h3.1, Or.inl ⟨trivial, rfl⟩⟩
theorem ROr.repl {E : Env} {z z' : List X} (hl : z.length = z'.length) (hn : X.nrs z' = true) (h : ROle z z') : ∀ (n : Nat) (cs : Array Value) (off : Nat) (R : List Nat), ROr E (List.replicate n z) cs off R → ROr E (List.replicate n z') cs off R
 | 0, _, _, _, hh => hh
 | n + 1, cs, off, R, hh => by
  rw [List.replicate_succ] at hh ⊢
  simp only [ROr] at hh ⊢
  obtain ⟨R₁, R₂, _, h2, h3, h4⟩ := hh
  exact ⟨R₁, R₂, hn, h E cs off R₁ h2, hl ▸ ROr.repl hl hn h n cs _ R₂ h3, h4⟩
theorem Sh.reZ {N : Frm} {st : St} {d s n : Nat} {z z' : List X} (hx : look st.slots d = some (.uni s (List.replicate n z))) (hl : z.length = z'.length) (hn : X.nrs z' = true) (h : ROle z z') : Sh N st (st.put d (.uni s (List.replicate n z'))) := by
 intro G _ a w hh
 obtain ⟨E, RR, rfl, hi⟩ := hh
 refine ⟨E, RR, rfl, { hi with slots := ?_ }⟩
 intro t x ht
 simp only [St.put, look] at ht
 cases hb : Nat.beq d t with
 | false => rw [hb] at ht; exact hi.slots t x ht
 | true =>
  rw [hb] at ht
  have e := Nat.eq_of_beq_eq_true hb
  subst e
  simp only [cond_true, Option.some.injEq] at ht
  subst ht
  have h0 := hi.slots d _ hx
  simp only [RX, List.length_replicate] at h0 ⊢
  obtain ⟨hu, base, cap, hc, h1⟩ := h0
  refine ⟨fun r hr => ?_, base, cap, hc, ?_⟩
  ·rw [(List.mem_replicate.1 hr).2, ← hl]
   exact hu z (List.mem_replicate.2 ⟨(List.mem_replicate.1 hr).1, rfl⟩)
  ·rcases h1 with ⟨h1, h2⟩ | ⟨b, off, cs, ty, R', h1, h2, h3, h4, h5, h6, h7⟩
   ·exact .inl ⟨by simpa using h1, h2⟩
   ·exact .inr ⟨b, off, cs, ty, R', h1, h2, h3, h4, h5, ROr.repl hl hn h n cs off R' h6, h7⟩
end Go.AW
/- Part of the abstract walk: strings are joined. -/
namespace Go.AW
open Go

section
variable {P : Program} {N : Frm} {st : St} {dst : Option Nat} {ty : TypeId} {pos : String} {af : Array Edge} {g : Option (Nat × Bool)}
end
end Go.AW
/- Part of the abstract walk: a slice that a variable holds is written no more. -/
namespace Go.AW
open Go

theorem RO.setAt {E : Env} {cs : Array Value} {x y : X} {u : Value} (hf : x.free = true) : ∀ {xs : List X} {off k : Nat} {R : List Nat}, RO E xs cs off R → xs[k]? = some x → cs[off + k]? = some u → RX E y u [] → RO E (xs.set k y) cs off R
 | [], _, _, _, _, h, _, _ => by simp at h
 | z :: r, off, 0, R, h, hy, hu, hxy => by
  simp only [RO] at h
  obtain ⟨u', R₁, R₂, hu', hs, h1, h2, rfl⟩ := h
  simp only [List.getElem?_cons_zero, Option.some.injEq] at hy
  subst hy
  have h0 := RX.free hf h1
  subst h0
  rw [Nat.add_zero, hu'] at hu
  obtain rfl := Option.some.inj hu
  simp only [List.set, RO]
  exact ⟨u', [], R₂, hu', hs, hxy, h2, rfl⟩
 | z :: r, off, k + 1, R, h, hy, hu, hxy => by
  simp only [RO] at h
  obtain ⟨u', R₁, R₂, hu', hs, h1, h2, rfl⟩ := h
  simp only [List.getElem?_cons_succ] at hy
  simp only [List.set, RO]
  exact ⟨u', R₁, R₂, hu', hs, h1, RO.setAt hf h2 hy (by rw [show off + 1 + k = off + (k + 1) by omega]; exact hu) hxy, rfl⟩
section
variable {N : Frm} {G : Ctx} {E : Env} {RR : Own → List Nat} {st : St} {a : Act}
theorem Inv.fzRows (hi : Inv G E RR st a) {o s : Nat} {rs : List (List X)} (ho : look st.objs o = some (.rows s rs)) (hf : Frees rs) (hF : G.fn.F.elem o = false) :
  ∃ E' RR', E'.w = E.w ∧ E'.β = E.β ∧ Inv G E' RR' ((st.kill o).putO o .gone) a ∧ ∀ u n, n = rs.length → RX E (.slc o s 0 n) u [] → RX E' (.fz s rs) u [] := by
 have hob := hi.objs o _ ho
 simp only [ROb] at hob
 obtain ⟨hu, hob⟩ := hob
 have hβ : Moves G E E (fun _ => False) := ⟨rfl, fun _ h => h.elim, fun _ h => h.elim, fun _ _ _ => rfl, Nat.le_refl _, rfl, rfl, rfl⟩
 have hi2 := hi.reobj hβ (o := o) (ob := .gone) (R := []) (fun _ h => h.elim) (fun q _ => rfl) (fun h => rfl) (by simp only [ROb]) List.nodup_nil (fun _ h => by cases h)
 rcases hob with ⟨h1, h2, h3⟩ | ⟨B, cs, ty, R', hB, hw, hφ, hcap, hsz, hRO, hRR⟩
 ·refine ⟨E, _, rfl, rfl, hi2, fun u n hn hx => ?_⟩
  simp only [RX] at hx ⊢
  obtain ⟨_, base, cap, hc, hcase⟩ := hx
  rcases hcase with ⟨_, _, _, h5⟩ | ⟨B, hB, _⟩
  ·subst hn
   exact ⟨trivial, hu, base, cap, hc, .inl ⟨h2, h5⟩⟩
  ·rw [h1] at hB; cases hB
 ·have hR0 := ROr.free hf hRO
  subst hR0
  have hbm : B.b ∈ RR (.obj o) := by rw [hRR]; simp
  have hle : ∀ c i v, E.φ c i = some v → (if c = B.b then cs[i]? else E.φ c i) = some v := by
   intro c i v h
   by_cases hcb : c = B.b
   ·subst hcb; rw [hφ i] at h; cases h
   ·rw [if_neg hcb]; exact h
  have hon : ∀ R : List Nat, B.b ∉ R → E.On { E with φ := fun c i => if c = B.b then cs[i]? else E.φ c i } R := by
   intro R hbR
   refine ⟨hle, fun c hc' => ⟨rfl, fun h i => ?_⟩⟩
   have : c ≠ B.b := fun e => hbR (e ▸ hc')
   show (if c = B.b then cs[i]? else E.φ c i) = none
   rw [if_neg this]; exact h i
  have hnb : ∀ p, B.b ∉ reown st RR o [] p := by
   intro p hp
   cases p with
   | obj q =>
    by_cases hq : q = o
    ·subst hq; simp [reown] at hp
    ·exact hi.apart (.obj q) (.obj o) (by simpa using hq) _ (by simpa [reown, hq] using hp) hbm
   | slot q =>
    rcases reown_slot st RR o [] q with h | h
    ·rw [h] at hp; cases hp
    ·rw [h] at hp; exact hi.apart (.slot q) (.obj o) (by simp) _ hp hbm
  refine ⟨{ E with φ := fun c i => if c = B.b then cs[i]? else E.φ c i }, _, rfl, rfl,
   {hi2 with
    frz := by
     intro c i v h
     change (if c = B.b then cs[i]? else E.φ c i) = some v at h
     by_cases hcb : c = B.b
     ·subst hcb; rw [if_pos rfl] at h
      show E.w.cell? _ = _
      rw [cell_of_heap hw]; exact h
     ·rw [if_neg hcb] at h; exact hi.frz c i v h
    slots := fun q x hx => RX.mono x _ _ (hon _ (hnb _)) (fun _ _ => rfl) (hi2.slots q x hx)
    objs := fun o ob hob => ROb.mono (hon _ (hnb _)) rfl (fun _ _ _ _ => rfl) (hi2.objs o ob hob)
    φ0 := fun c i v h => hle c i v (hi.φ0 c i v h)
    grow := by
     intro c i v h
     change (if c = B.b then cs[i]? else E.φ c i) = some v at h
     by_cases hcb : c = B.b
     ·subst hcb; exact .inr (hi.own _ _ hbm).2
     ·rw [if_neg hcb] at h; exact hi.grow c i v h }, fun u n hn hx => ?_⟩
  simp only [RX] at hx ⊢
  obtain ⟨_, base, cap, hc, hcase⟩ := hx
  subst hn
  rcases hcase with ⟨h1, _⟩ | ⟨B', hB', hlo, hn', hb⟩
  ·rw [hB] at h1; cases h1
  ·rw [hB] at hB'
   obtain rfl := Option.some.inj hB'
   rcases hb with hb | hb
   ·exact ⟨trivial, hu, base, cap, hc, .inl ⟨List.eq_nil_of_length_eq_zero (by omega), hb⟩⟩
   ·refine ⟨trivial, hu, base, cap, hc, .inr ⟨B.b, B.off, by simpa using hb, hn', ?_⟩⟩
    refine ROr.freeze (E := E) (fun i v h => ?_) hle hRO
    show (if B.b = B.b then cs[i]? else E.φ B.b i) = some v
    rw [if_pos rfl]; exact h
theorem Sh.fzObj (p o k : Nat) {s n : Nat} {xs ys : List X} {rs : List (List X)} (hp : look st.objs p = some (.cells xs)) (hk : xs[k]? = some (.slc o s 0 n)) (ho : look st.objs o = some (.rows s rs)) (hl : n = rs.length) (hf : Frees rs) (hF : N.F.elem o = false)
  (hp' : look ((st.kill o).putO o .gone).objs p = some (.cells ys)) (hk' : ys[k]? = some .no) (hfr : X.frees (ys.set k (.fz s rs)) = true) :
  Sh N st (((st.kill o).putO o .gone).putO p (.cells (ys.set k (.fz s rs)))) := by
 intro G hn a w hh
 obtain ⟨E, RR, rfl, hi⟩ := hh
 have hop := hi.objs p _ hp
 simp only [ROb] at hop
 obtain ⟨_, B, cs, ty, hB, hw, hφ, hsz, hro, hR⟩ := hop
 obtain ⟨u, Ry, R1, hcu, hs, hvy, _, _, _⟩ := RO.pick hro hk
 have h0 := RX.free (x := .slc o s 0 n) rfl hvy
 subst h0
 obtain ⟨E', RR', hw', hβ', hi', hfz⟩ := hi.fzRows ho hf (by rw [hn]; exact hF)
 have hop' := hi'.objs p _ hp'
 have hop2 := hop'
 simp only [ROb] at hop2
 obtain ⟨_, B', cs', ty', hB', hw2, hφ', hsz', hro', hR'⟩ := hop2
 rw [hβ', hB] at hB'
 obtain rfl := Option.some.inj hB'
 rw [hw', hw] at hw2
 simp only [Option.some.injEq, Go.Obj.cells.injEq] at hw2
 obtain ⟨rfl, rfl, _⟩ := hw2
 refine ⟨E', _, hw', hi'.putO (R := RR' (.obj p)) ?_ (hi'.nodup _) (fun b hb => ⟨(hi'.own _ _ hb).1, (hi'.own _ _ hb).2, fun q hq h => hi'.apart _ _ hq b h hb⟩)⟩
 simp only [ROb]
 exact ⟨hfr, B, cs, ty, by rw [hβ']; exact hB, by rw [hw']; exact hw, hφ', by rw [List.length_set]; exact hsz', RO.setAt (x := .no) rfl hro' hk' hcu (hfz u n hl hvy), hR'⟩
end
end Go.AW
