/- Part of the abstract walk: loops and joins of code in a round of a range u3 a function. -/
import Derived.Test.YtligpghohcfpnaaAWx2
import Derived.Sort.LoopGhostIn
set_option linter.unusedSimpArgs false
set_option linter.unusedVariables false
set_option linter.unusedSectionVars false
namespace Go.AW
open Go
section
variable {P : Program} {l : Nat} {N : eL} {st : St} {Q : Exit → St → Prop}
theorem bc.loop {ι : Type} {c : Code} (S : ι → St) (I : ι → Prop) (μ : ι → Nat) (i : ι) (hi : I i) (hs : Le st (S i))
  (round : ∀ i, I i → bc P l N c (S i) (gN (fun aT => ∃ j, I j ∧ μ j < μ i ∧ Le aT (S j)) Q)) : bc P l N (.loop c) st Q := by
 intro G hn a w hh
 refine wpIn_loop_ghost (fun n a w => ∃ i, μ i = n ∧ I i ∧ cy G (S i) a w) (μ i) ⟨i, rfl, hi, hs.holds hh⟩ ?_
 rintro n a w ⟨i, rfl, hI, hh⟩
 refine wpIn_mono (round i hI G hn a w hh) ?_
 rintro e a' w' ⟨aT, gL, hq⟩
 cases e with
 | normal => obtain ⟨j, hj, iU, hle⟩ := hq; exact ⟨μ j, iU, j, rfl, hj, hle.holds gL⟩
 | _ => exact ⟨aT, gL, hq⟩
theorem bc.join {ι : Type} {x y : Code} (J : ι → St) (I : ι → Prop) (hx : bc P l N x st (gN (fun aT => ∃ i, I i ∧ Le aT (J i)) Q)) (hy : ∀ i, I i → bc P l N y (J i) Q) : bc P l N (.seq x y) st Q := by
 refine bc.seq (hx.mono ?_)
 intro e z6 h
 cases e with
 | normal => obtain ⟨i, hI, hle⟩ := h; exact (hy i hI).le hle
 | _ => exact h
theorem bc.bx {dj : Nat} {p : Prop} {inst : Decidable p} {x y : Code} (hc : look st.aD dj = some (.v (.bool (decide p)))) (ht : p → bc P l N x (st.put dj (.v (.bool true))) Q) (hf : ¬ p → bc P l N y (st.put dj (.v (.bool false))) Q) : bc P l N (.cond (.tmp dj) x y) st Q := by
 refine bc.a8 (p := p) (inst := inst) hc (fun h => ?_) (fun h => ?_)
 ·exact (ht h).le (Le.test (by rw [hc, decide_eq_true h]))
 ·exact (hf h).le (Le.test (by rw [hc, decide_eq_false h]))
theorem bc.fY {α0 : Type} {c : Code} (S : α0 → St) (I : α0 → Prop) (μ : α0 → Nat) (i0 : α0) (hi : I i0) (hs : Le st (S i0))
  (round : ∀ a0, I a0 → bc P l N c (S a0) (gN (fun aT => ∃ b0, I b0 ∧ μ b0 < μ a0 ∧ Le aT (S b0)) Q)) : bc P l N (.loop c) st Q :=
 bc.loop (ι := α0) (fun u => S u) (fun u => I u) (fun u => μ u) i0 hi hs (fun u h => (round u h).mono fun e _ h => by
  cases e <;> first | exact h | (obtain ⟨b0, h⟩ := h; exact ⟨b0, h⟩))
theorem bc.fb {α0 : Type} {x y : Code} (J : α0 → St) (I : α0 → Prop) (hx : bc P l N x st (gN (fun aT => ∃ b0, I b0 ∧ Le aT (J b0)) Q)) (hy : ∀ a0, I a0 → bc P l N y (J a0) Q) : bc P l N (.seq x y) st Q :=
 bc.join (ι := α0) (fun u => J u) (fun u => I u) (hx.mono fun e _ h => by cases e <;> first | exact h | (obtain ⟨b0, h⟩ := h; exact ⟨b0, h⟩)) (fun u h => hy u h)
theorem bc.e0 {α0 α1 : Type} {c : Code} (S : α0 → α1 → St) (I : α0 → α1 → Prop) (μ : α0 → α1 → Nat) (i0 : α0) (i1 : α1) (hi : I i0 i1) (hs : Le st (S i0 i1))
  (round : ∀ a0 a1, I a0 a1 → bc P l N c (S a0 a1) (gN (fun aT => ∃ b0 b1, I b0 b1 ∧ μ b0 b1 < μ a0 a1 ∧ Le aT (S b0 b1)) Q)) : bc P l N (.loop c) st Q :=
 bc.loop (ι := α0 × α1) (fun u => S u.1 u.2) (fun u => I u.1 u.2) (fun u => μ u.1 u.2) (i0, i1) hi hs (fun u h => (round u.1 u.2 h).mono fun e _ h => by
  cases e <;> first | exact h | (obtain ⟨b0, b1, h⟩ := h; exact ⟨(b0, b1), h⟩))
theorem bc.np {α0 α1 : Type} {x y : Code} (J : α0 → α1 → St) (I : α0 → α1 → Prop) (hx : bc P l N x st (gN (fun aT => ∃ b0 b1, I b0 b1 ∧ Le aT (J b0 b1)) Q)) (hy : ∀ a0 a1, I a0 a1 → bc P l N y (J a0 a1) Q) : bc P l N (.seq x y) st Q :=
 bc.join (ι := α0 × α1) (fun u => J u.1 u.2) (fun u => I u.1 u.2) (hx.mono fun e _ h => by cases e <;> first | exact h | (obtain ⟨b0, b1, h⟩ := h; exact ⟨(b0, b1), h⟩)) (fun u h => hy u.1 u.2 h)
theorem bc.jt {α0 α1 α2 : Type} {c : Code} (S : α0 → α1 → α2 → St) (I : α0 → α1 → α2 → Prop) (μ : α0 → α1 → α2 → Nat) (i0 : α0) (i1 : α1) (i2 : α2) (hi : I i0 i1 i2) (hs : Le st (S i0 i1 i2))
  (round : ∀ a0 a1 a2, I a0 a1 a2 → bc P l N c (S a0 a1 a2) (gN (fun aT => ∃ b0 b1 b2, I b0 b1 b2 ∧ μ b0 b1 b2 < μ a0 a1 a2 ∧ Le aT (S b0 b1 b2)) Q)) : bc P l N (.loop c) st Q :=
 bc.loop (ι := α0 × α1 × α2) (fun u => S u.1 u.2.1 u.2.2) (fun u => I u.1 u.2.1 u.2.2) (fun u => μ u.1 u.2.1 u.2.2) (i0, i1, i2) hi hs (fun u h => (round u.1 u.2.1 u.2.2 h).mono fun e _ h => by
  cases e <;> first | exact h | (obtain ⟨b0, b1, b2, h⟩ := h; exact ⟨(b0, b1, b2), h⟩))
theorem bc.vE {α0 α1 α2 : Type} {x y : Code} (J : α0 → α1 → α2 → St) (I : α0 → α1 → α2 → Prop) (hx : bc P l N x st (gN (fun aT => ∃ b0 b1 b2, I b0 b1 b2 ∧ Le aT (J b0 b1 b2)) Q)) (hy : ∀ a0 a1 a2, I a0 a1 a2 → bc P l N y (J a0 a1 a2) Q) : bc P l N (.seq x y) st Q :=
 bc.join (ι := α0 × α1 × α2) (fun u => J u.1 u.2.1 u.2.2) (fun u => I u.1 u.2.1 u.2.2) (hx.mono fun e _ h => by cases e <;> first | exact h | (obtain ⟨b0, b1, b2, h⟩ := h; exact ⟨(b0, b1, b2), h⟩)) (fun u h => hy u.1 u.2.1 u.2.2 h)
theorem bc.vF {α0 α1 α2 α3 : Type} {c : Code} (S : α0 → α1 → α2 → α3 → St) (I : α0 → α1 → α2 → α3 → Prop) (μ : α0 → α1 → α2 → α3 → Nat) (i0 : α0) (i1 : α1) (i2 : α2) (i3 : α3) (hi : I i0 i1 i2 i3) (hs : Le st (S i0 i1 i2 i3))
  (round : ∀ a0 a1 a2 a3, I a0 a1 a2 a3 → bc P l N c (S a0 a1 a2 a3) (gN (fun aT => ∃ b0 b1 b2 b3, I b0 b1 b2 b3 ∧ μ b0 b1 b2 b3 < μ a0 a1 a2 a3 ∧ Le aT (S b0 b1 b2 b3)) Q)) : bc P l N (.loop c) st Q :=
 bc.loop (ι := α0 × α1 × α2 × α3) (fun u => S u.1 u.2.1 u.2.2.1 u.2.2.2) (fun u => I u.1 u.2.1 u.2.2.1 u.2.2.2) (fun u => μ u.1 u.2.1 u.2.2.1 u.2.2.2) (i0, i1, i2, i3) hi hs (fun u h => (round u.1 u.2.1 u.2.2.1 u.2.2.2 h).mono fun e _ h => by
  cases e <;> first | exact h | (obtain ⟨b0, b1, b2, b3, h⟩ := h; exact ⟨(b0, b1, b2, b3), h⟩))
theorem bc.yw {α0 α1 α2 α3 : Type} {x y : Code} (J : α0 → α1 → α2 → α3 → St) (I : α0 → α1 → α2 → α3 → Prop) (hx : bc P l N x st (gN (fun aT => ∃ b0 b1 b2 b3, I b0 b1 b2 b3 ∧ Le aT (J b0 b1 b2 b3)) Q)) (hy : ∀ a0 a1 a2 a3, I a0 a1 a2 a3 → bc P l N y (J a0 a1 a2 a3) Q) : bc P l N (.seq x y) st Q :=
 bc.join (ι := α0 × α1 × α2 × α3) (fun u => J u.1 u.2.1 u.2.2.1 u.2.2.2) (fun u => I u.1 u.2.1 u.2.2.1 u.2.2.2) (hx.mono fun e _ h => by cases e <;> first | exact h | (obtain ⟨b0, b1, b2, b3, h⟩ := h; exact ⟨(b0, b1, b2, b3), h⟩)) (fun u h => hy u.1 u.2.1 u.2.2.1 u.2.2.2 h)
theorem bc.ij {id : Nat} (L F' : List Nat) (J : St) {ops : Array Oper} (hm : P.follows .mixedOrders = true) (h : bX P N L F' ops ops.size (Array.replicate ops.size false) st (fun aT => Le aT J)) (k : Q .normal J) (hd : ops.toList.all jO = true := by rfl) : bc P l N (.region id ops true) st Q := by
 intro G hn a w hh
 obtain ⟨E, RR, hw, hi⟩ := hh.drew
 have h1 := hw ▸ h G hn E RR a _ (fun _ _ => rfl) hi
 refine wpIn_mono (kI (Q := fun e a w => e = .normal ∧ ∃ aT, Le aT J ∧ cy G aT a w) hm (fun ⟨_, _, h, _⟩ => by cases h) hd (wpAny_of_held _ _ _ _ h1)) ?_
 rintro e a w ⟨rfl, aT, hk, gL⟩
 exact ⟨J, hk.holds gL, k⟩
theorem bc.er {id : Nat} (J : St) {ops : Array Oper} (hm : P.follows .mixedOrders = true) (h : bX P N [] N.F ops ops.size (Array.replicate ops.size false) st (fun aT => Le aT J)) (k : Q .normal J) (hd : ops.toList.all jO = true := by rfl) : bc P l N (.region id ops true) st Q := bc.ij [] N.F J hm h k hd
theorem cR.three {ops : Array Oper} {K : St → Prop} {n : Nat} {ag : Array Bool} (i i1 i2 : Nat) {o o1 o2 : Oper} (ho : ops[i]? = some o) (ES : ops[i1]? = some o1) (HO : ops[i2]? = some o2) (hr : (Region.ready .any ops ag == [i, i1, i2]) = true)
  (k : aO P N ops [o] st (fun e aT => e = .normal ∧ cR P N ops n (ag.setIfInBounds i true) aT K))
  (k1 : aO P N ops [o1] st (fun e aT => e = .normal ∧ cR P N ops n (ag.setIfInBounds i1 true) aT K))
  (k2 : aO P N ops [o2] st (fun e aT => e = .normal ∧ cR P N ops n (ag.setIfInBounds i2 true) aT K)) : cR P N ops (n + 1) ag st K := by
 intro G hn a w hh
 refine wpAnyH_all (rs := [i, i1, i2]) (by simpa using hr) (by simp) ?_
 intro j hj
 simp only [List.mem_cons, List.not_mem_nil, or_false] at hj
 rcases hj with rfl | rfl | rfl
 ·exact cR.step j ho k G hn a w hh
 ·exact cR.step j ES k1 G hn a w hh
 ·exact cR.step j HO k2 G hn a w hh
end
end Go.AW
namespace Go.AW
open Go
section
variable {P : Program} {N : eL} {st : St} {dst : Option Nat} {ty : TypeId} {pos : String} {af : Array Edge} {g : Option (Nat × Bool)}
end
end Go.AW
namespace Go.AW
open Go
theorem RO.setAt {E : Env} {cs : Array Value} {x y : X} {u : Value} (hf : x.free = true) : ∀ {xs : List X} {off k : Nat} {R : List Nat}, RO E xs cs off R → xs[k]? = some x → cs[off + k]? = some u → RX E y u [] → RO E (xs.set k y) cs off R
 | [], _, _, _, _, h, _, _ => by simp at h
 | z :: r, off, 0, R, h, hy, hu, Eb => by
  simp only [RO] at h
  obtain ⟨u', R₁, R₂, yT, hs, h1, h2, rfl⟩ := h
  simp only [List.getElem?_cons_zero, Option.some.injEq] at hy
  subst hy
  have h0 := RX.free hf h1
  subst h0
  rw [Nat.add_zero, yT] at hu
  obtain rfl := Option.some.inj hu
  simp only [List.set, RO]
  exact ⟨u', [], R₂, yT, hs, Eb, h2, rfl⟩
 | z :: r, off, k + 1, R, h, hy, hu, Eb => by
  simp only [RO] at h
  obtain ⟨u', R₁, R₂, yT, hs, h1, h2, rfl⟩ := h
  simp only [List.getElem?_cons_succ] at hy
  simp only [List.set, RO]
  exact ⟨u', R₁, R₂, yT, hs, h1, RO.setAt hf h2 hy (by rw [show off + 1 + k = off + (k + 1) by omega]; exact hu) Eb, rfl⟩
section
variable {N : eL} {G : Ctx} {E : Env} {RR : Own → List Nat} {st : St} {a : Act}
theorem Inv.Ir (hi : Inv G E RR st a) {o s : Nat} {rs : List (List X)} (ho : look st.aG o = some (.rows s rs)) (hf : cQ rs) (hF : G.fn.F.elem o = false) :
  ∃ E' fg, E'.w = E.w ∧ E'.β = E.β ∧ Inv G E' fg ((st.kill o).eb o .gone) a ∧ ∀ u n, n = rs.length → RX E (.ba o s 0 n) u [] → RX E' (.fz s rs) u [] := by
 have dm := hi.aG o _ ho
 simp only [dG] at dm
 obtain ⟨hu, dm⟩ := dm
 have hβ : cZ G E E (fun _ => False) := ⟨rfl, fun _ h => h.elim, fun _ h => h.elim, fun _ _ _ => rfl, Nat.le_refl _, rfl, rfl, rfl⟩
 have lL := hi.lu hβ (o := o) (ob := .gone) (R := []) (fun _ h => h.elim) (fun q _ => rfl) (fun h => rfl) (by simp only [dG]) List.nodup_nil (fun _ h => by cases h)
 rcases dm with ⟨h1, h2, h3⟩ | ⟨B, cs, ty, R', hB, hw, hφ, o3, fu, jB, ir⟩
 ·refine ⟨E, _, rfl, rfl, lL, fun u n hn hx => ?_⟩
  simp only [RX] at hx ⊢
  obtain ⟨_, base, cap, hc, dA⟩ := hx
  rcases dA with ⟨_, _, _, h5⟩ | ⟨B, hB, _⟩
  ·subst hn
   exact ⟨trivial, hu, base, cap, hc, .inl ⟨h2, h5⟩⟩
  ·rw [h1] at hB; cases hB
 ·have DL := cH.free hf jB
  subst DL
  have mZ : B.b ∈ RR (.obj o) := by rw [ir]; simp
  have hle : ∀ c i v, E.φ c i = some v → (if c = B.b then cs[i]? else E.φ c i) = some v := by
   intro c i v h
   by_cases gn : c = B.b
   ·subst gn; rw [hφ i] at h; cases h
   ·rw [if_neg gn]; exact h
  have gx : ∀ R : List Nat, B.b ∉ R → E.On { E with φ := fun c i => if c = B.b then cs[i]? else E.φ c i } R := by
   intro R Gu
   refine ⟨hle, fun c oz => ⟨rfl, fun h i => ?_⟩⟩
   have : c ≠ B.b := fun e => Gu (e ▸ oz)
   show (if c = B.b then cs[i]? else E.φ c i) = none
   rw [if_neg this]; exact h i
  have GP : ∀ p, B.b ∉ eZ st RR o [] p := by
   intro p hp
   cases p with
   | obj q =>
    by_cases hq : q = o
    ·subst hq; simp [eZ] at hp
    ·exact hi.apart (.obj q) (.obj o) (by simpa using hq) _ (by simpa [eZ, hq] using hp) mZ
   | slot q =>
    rcases gP st RR o [] q with h | h
    ·rw [h] at hp; cases hp
    ·rw [h] at hp; exact hi.apart (.slot q) (.obj o) (by simp) _ hp mZ
  refine ⟨{ E with φ := fun c i => if c = B.b then cs[i]? else E.φ c i }, _, rfl, rfl,
   {lL with
    kR := by
     intro c i v h
     change (if c = B.b then cs[i]? else E.φ c i) = some v at h
     by_cases gn : c = B.b
     ·subst gn; rw [if_pos rfl] at h
      show E.w.cell? _ = _
      rw [dq hw]; exact h
     ·rw [if_neg gn] at h; exact hi.kR c i v h
    aD := fun q x hx => RX.mono x _ _ (gx _ (GP _)) (fun _ _ => rfl) (lL.aD q x hx)
    aG := fun o ob dm => dG.mono (gx _ (GP _)) rfl (fun _ _ _ _ => rfl) (lL.aG o ob dm)
    φ0 := fun c i v h => hle c i v (hi.φ0 c i v h)
    grow := by
     intro c i v h
     change (if c = B.b then cs[i]? else E.φ c i) = some v at h
     by_cases gn : c = B.b
     ·subst gn; exact .inr (hi.own _ _ mZ).2
     ·rw [if_neg gn] at h; exact hi.grow c i v h }, fun u n hn hx => ?_⟩
  simp only [RX] at hx ⊢
  obtain ⟨_, base, cap, hc, dA⟩ := hx
  subst hn
  rcases dA with ⟨h1, _⟩ | ⟨B', iz, Dj, pI, hb⟩
  ·rw [hB] at h1; cases h1
  ·rw [hB] at iz
   obtain rfl := Option.some.inj iz
   rcases hb with hb | hb
   ·exact ⟨trivial, hu, base, cap, hc, .inl ⟨List.eq_nil_of_length_eq_zero om, hb⟩⟩
   ·refine ⟨trivial, hu, base, cap, hc, .inr ⟨B.b, B.off, by simpa using hb, pI, ?_⟩⟩
    refine cH.freeze (E := E) (fun i v h => ?_) hle jB
    show (if B.b = B.b then cs[i]? else E.φ B.b i) = some v
    rw [if_pos rfl]; exact h
theorem Sh.ox (p o k : Nat) {s n : Nat} {xs ys : List X} {rs : List (List X)} (hp : look st.aG p = some (.cells xs)) (hk : xs[k]? = some (.ba o s 0 n)) (ho : look st.aG o = some (.rows s rs)) (hl : n = rs.length) (hf : cQ rs) (hF : N.F.elem o = false)
  (Fp : look ((st.kill o).eb o .gone).aG p = some (.cells ys)) (AM : ys[k]? = some .no) (rC : X.b9 (ys.set k (.fz s rs)) = true) :
  Sh N st (((st.kill o).eb o .gone).eb p (.cells (ys.set k (.fz s rs)))) := by
 intro G hn a w hh
 obtain ⟨E, RR, rfl, hi⟩ := hh
 have Hd := hi.aG p _ hp
 simp only [dG] at Hd
 obtain ⟨_, B, cs, ty, hB, hw, hφ, fu, yX, hR⟩ := Hd
 obtain ⟨u, Ry, R1, FA, hs, Dr, _, _, _⟩ := RO.pick yX hk
 have h0 := RX.free (x := .ba o s 0 n) rfl Dr
 subst h0
 obtain ⟨E', fg, qQ, QY, iv, My⟩ := hi.Ir ho hf (by rw [hn]; exact hF)
 have P4 := iv.aG p _ Fp
 have LF := P4
 simp only [dG] at LF
 obtain ⟨_, B', di, Qu, iz, tu, Tg, J3, P5, Gy⟩ := LF
 rw [QY, hB] at iz
 obtain rfl := Option.some.inj iz
 rw [qQ, hw] at tu
 simp only [Option.some.injEq, Go.Obj.cells.injEq] at tu
 obtain ⟨rfl, rfl, _⟩ := tu
 refine ⟨E', _, qQ, iv.eb (R := fg (.obj p)) ?_ (iv.nodup _) (fun b hb => ⟨(iv.own _ _ hb).1, (iv.own _ _ hb).2, fun q hq h => iv.apart _ _ hq b h hb⟩)⟩
 simp only [dG]
 exact ⟨rC, B, cs, ty, by rw [QY]; exact hB, by rw [qQ]; exact hw, Tg, by rw [List.length_set]; exact J3, RO.setAt (x := .no) rfl P5 AM FA (My u n hl Dr), Gy⟩
end
end Go.AW
namespace Go.AW
open Go
def tx (z z' : List X) : Prop := ∀ (E : Env) (cs : Array Value) (off : Nat) (R : List Nat), RO E z cs off R → RO E z' cs off R
theorem tx.nil : tx [] [] := fun _ _ _ _ h => h
theorem tx.same {x : X} {r r' : List X} (h : tx r r') : tx (x :: r) (x :: r') := fun E cs off R hh => by
 simp only [RO] at hh ⊢
 obtain ⟨u, R₁, R₂, h1, h2, h3, h4, h5⟩ := hh
 exact ⟨u, R₁, R₂, h1, h2, h3, h E cs _ _ h4, h5⟩
theorem tx.LG {s : Nat} {r r' : List X} (h : tx r r') : tx (.v (.slice none 0 0) :: r) (.fz s [] :: r') := fun E cs off R hh => by
 simp only [RO] at hh ⊢
 obtain ⟨u, R₁, R₂, h1, h2, h3, h4, h5⟩ := hh
 refine ⟨u, R₁, R₂, h1, h2, ?_, h E cs _ _ h4, h5⟩
 simp only [RX] at h3 ⊢
 exact ⟨h3.2, (fun r hr => by cases hr), none, 0, h3.1, Or.inl ⟨trivial, rfl⟩⟩
theorem cH.LH {E : Env} {z z' : List X} (hl : z.length = z'.length) (hn : X.gA z' = true) (h : tx z z') : ∀ (n : Nat) (cs : Array Value) (off : Nat) (R : List Nat), cH E (List.replicate n z) cs off R → cH E (List.replicate n z') cs off R
 | 0, _, _, _, hh => hh
 | n + 1, cs, off, R, hh => by
  rw [List.replicate_succ] at hh ⊢
  simp only [cH] at hh ⊢
  obtain ⟨R₁, R₂, _, h2, h3, h4⟩ := hh
  exact ⟨R₁, R₂, hn, h E cs off R₁ h2, hl ▸ cH.LH hl hn h n cs _ R₂ h3, h4⟩
theorem Sh.Th {N : eL} {st : St} {d s n : Nat} {z z' : List X} (hx : look st.aD d = some (.ei s (List.replicate n z))) (hl : z.length = z'.length) (hn : X.gA z' = true) (h : tx z z') : Sh N st (st.put d (.ei s (List.replicate n z'))) := by
 intro G _ a w hh
 obtain ⟨E, RR, rfl, hi⟩ := hh
 refine ⟨E, RR, rfl, { hi with aD := ?_ }⟩
 intro t x ht
 simp only [St.put, look] at ht
 cases hb : Nat.beq d t with
 | false => rw [hb] at ht; exact hi.aD t x ht
 | true =>
  rw [hb] at ht
  have e := Nat.eq_of_beq_eq_true hb
  subst e
  simp only [cond_true, Option.some.injEq] at ht
  subst ht
  have h0 := hi.aD d _ hx
  simp only [RX, List.length_replicate] at h0 ⊢
  obtain ⟨hu, base, cap, hc, h1⟩ := h0
  refine ⟨fun r hr => ?_, base, cap, hc, ?_⟩
  ·rw [(List.mem_replicate.1 hr).2, ← hl]
   exact hu z (List.mem_replicate.2 ⟨(List.mem_replicate.1 hr).1, rfl⟩)
  ·rcases h1 with ⟨h1, h2⟩ | ⟨b, off, cs, ty, R', h1, h2, h3, h4, h5, h6, h7⟩
   ·exact .inl ⟨by simpa using h1, h2⟩
   ·exact .inr ⟨b, off, cs, ty, R', h1, h2, h3, h4, h5, cH.LH hl hn h n cs off R' h6, h7⟩
end Go.AW
