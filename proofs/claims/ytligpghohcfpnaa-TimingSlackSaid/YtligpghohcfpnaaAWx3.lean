/- Part of the abstract walk: a slice that a variable holds is written no more. -/
import Derived.Test.YtligpghohcfpnaaAWx2
import Derived.Test.YtligpghohcfpnaaAWx1
set_option linter.unusedSimpArgs false
set_option linter.unusedVariables false
set_option linter.unusedSectionVars false
namespace Go.AW
open Go

theorem RO.setAt {E : Env} {cs : Array Value} {x y : X} {u : Value} (hf : x.free = true) : ∀ {xs : List X} {off k : Nat} {R : List Nat}, RO E xs cs off R → xs[k]? = some x → cs[off + k]? = some u → RX E y u [] → RO E (xs.set k y) cs off R
 | [], _, _, _, _, h, _, _ => by simp at h
 | z :: r, off, 0, R, h, hy, hu, BP => by
  simp only [RO] at h
  obtain ⟨u', R₁, R₂, xu, hs, h1, h2, rfl⟩ := h
  simp only [List.getElem?_cons_zero, Option.some.injEq] at hy
  subst hy
  have h0 := RX.free hf h1
  subst h0
  rw [Nat.add_zero, xu] at hu
  obtain rfl := Option.some.inj hu
  simp only [List.set, RO]
  exact ⟨u', [], R₂, xu, hs, BP, h2, rfl⟩
 | z :: r, off, k + 1, R, h, hy, hu, BP => by
  simp only [RO] at h
  obtain ⟨u', R₁, R₂, xu, hs, h1, h2, rfl⟩ := h
  simp only [List.getElem?_cons_succ] at hy
  simp only [List.set, RO]
  exact ⟨u', R₁, R₂, xu, hs, h1, RO.setAt hf h2 hy (by rw [show off + 1 + k = off + (k + 1) by omega]; exact hu) BP, rfl⟩
section
variable {N : eC} {G : Ctx} {E : Env} {RR : Own → List Nat} {st : St} {a : Act}
theorem Inv.FT (hi : Inv G E RR st a) {o s : Nat} {rs : List (List X)} (ho : look st.aA o = some (.rows s rs)) (hf : da rs) (hF : G.fn.F.elem o = false) :
  ∃ E' eU, E'.w = E.w ∧ E'.β = E.β ∧ Inv G E' eU ((st.kill o).ea o .gone) a ∧ ∀ u n, n = rs.length → RX E (.aY o s 0 n) u [] → RX E' (.fz s rs) u [] := by
 have cA := hi.aA o _ ho
 simp only [dA] at cA
 obtain ⟨hu, cA⟩ := cA
 have hβ : cW G E E (fun _ => False) := ⟨rfl, fun _ h => h.elim, fun _ h => h.elim, fun _ _ _ => rfl, Nat.le_refl _, rfl, rfl, rfl⟩
 have l3 := hi.kR hβ (o := o) (ob := .gone) (R := []) (fun _ h => h.elim) (fun q _ => rfl) (fun h => rfl) (by simp only [dA]) List.nodup_nil (fun _ h => by cases h)
 rcases cA with ⟨h1, h2, h3⟩ | ⟨B, cs, ty, R', hB, hw, hφ, nO, fe, jh, gN⟩
 ·refine ⟨E, _, rfl, rfl, l3, fun u n hn hx => ?_⟩
  simp only [RX] at hx ⊢
  obtain ⟨_, base, cap, hc, dw⟩ := hx
  rcases dw with ⟨_, _, _, h5⟩ | ⟨B, hB, _⟩
  ·subst hn
   exact ⟨trivial, hu, base, cap, hc, .inl ⟨h2, h5⟩⟩
  ·rw [h1] at hB; cases hB
 ·have Bx := cD.free hf jh
  subst Bx
  have mH : B.b ∈ RR (.obj o) := by rw [gN]; simp
  have hle : ∀ c i v, E.φ c i = some v → (if c = B.b then cs[i]? else E.φ c i) = some v := by
   intro c i v h
   by_cases fT : c = B.b
   ·subst fT; rw [hφ i] at h; cases h
   ·rw [if_neg fT]; exact h
  have ga : ∀ R : List Nat, B.b ∉ R → E.On { E with φ := fun c i => if c = B.b then cs[i]? else E.φ c i } R := by
   intro R DG
   refine ⟨hle, fun c nN => ⟨rfl, fun h i => ?_⟩⟩
   have : c ≠ B.b := fun e => DG (e ▸ nN)
   show (if c = B.b then cs[i]? else E.φ c i) = none
   rw [if_neg this]; exact h i
  have Ea : ∀ p, B.b ∉ eO st RR o [] p := by
   intro p hp
   cases p with
   | obj q =>
    by_cases hq : q = o
    ·subst hq; simp [eO] at hp
    ·exact hi.apart (.obj q) (.obj o) (by simpa using hq) _ (by simpa [eO, hq] using hp) mH
   | slot q =>
    rcases g6 st RR o [] q with h | h
    ·rw [h] at hp; cases hp
    ·rw [h] at hp; exact hi.apart (.slot q) (.obj o) (by simp) _ hp mH
  refine ⟨{ E with φ := fun c i => if c = B.b then cs[i]? else E.φ c i }, _, rfl, rfl,
   {l3 with
    ku := by
     intro c i v h
     change (if c = B.b then cs[i]? else E.φ c i) = some v at h
     by_cases fT : c = B.b
     ·subst fT; rw [if_pos rfl] at h
      show E.w.cell? _ = _
      rw [dk hw]; exact h
     ·rw [if_neg fT] at h; exact hi.ku c i v h
    a9 := fun q x hx => RX.mono x _ _ (ga _ (Ea _)) (fun _ _ => rfl) (l3.a9 q x hx)
    aA := fun o ob cA => dA.mono (ga _ (Ea _)) rfl (fun _ _ _ _ => rfl) (l3.aA o ob cA)
    φ0 := fun c i v h => hle c i v (hi.φ0 c i v h)
    grow := by
     intro c i v h
     change (if c = B.b then cs[i]? else E.φ c i) = some v at h
     by_cases fT : c = B.b
     ·subst fT; exact .inr (hi.own _ _ mH).2
     ·rw [if_neg fT] at h; exact hi.grow c i v h }, fun u n hn hx => ?_⟩
  simp only [RX] at hx ⊢
  obtain ⟨_, base, cap, hc, dw⟩ := hx
  subst hn
  rcases dw with ⟨h1, _⟩ | ⟨B', gT, y9, pN, hb⟩
  ·rw [hB] at h1; cases h1
  ·rw [hB] at gT
   obtain rfl := Option.some.inj gT
   rcases hb with hb | hb
   ·exact ⟨trivial, hu, base, cap, hc, .inl ⟨List.eq_nil_of_length_eq_zero om, hb⟩⟩
   ·refine ⟨trivial, hu, base, cap, hc, .inr ⟨B.b, B.off, by simpa using hb, pN, ?_⟩⟩
    refine cD.freeze (E := E) (fun i v h => ?_) hle jh
    show (if B.b = B.b then cs[i]? else E.φ B.b i) = some v
    rw [if_pos rfl]; exact h
theorem Sh.oZ (p o k : Nat) {s n : Nat} {xs ys : List X} {rs : List (List X)} (hp : look st.aA p = some (.cells xs)) (hk : xs[k]? = some (.aY o s 0 n)) (ho : look st.aA o = some (.rows s rs)) (hl : n = rs.length) (hf : da rs) (hF : N.F.elem o = false)
  (CP : look ((st.kill o).ea o .gone).aA p = some (.cells ys)) (yE : ys[k]? = some .no) (qo : X.bC (ys.set k (.fz s rs)) = true) :
  Sh N st (((st.kill o).ea o .gone).ea p (.cells (ys.set k (.fz s rs)))) := by
 intro G hn a w hh
 obtain ⟨E, RR, rfl, hi⟩ := hh
 have El := hi.aA p _ hp
 simp only [dA] at El
 obtain ⟨_, B, cs, ty, hB, hw, hφ, fe, xy, hR⟩ := El
 obtain ⟨u, Ry, R1, CX, hs, AY, _, _, _⟩ := RO.pick xy hk
 have h0 := RX.free (x := .aY o s 0 n) rfl AY
 subst h0
 obtain ⟨E', eU, pP, OU, gQ, Al⟩ := hi.FT ho hf (by rw [hn]; exact hF)
 have NC := gQ.aA p _ CP
 have JA := NC
 simp only [dA] at JA
 obtain ⟨_, B', dg, Ov, gT, tt, QT, Hl, ND, DK⟩ := JA
 rw [OU, hB] at gT
 obtain rfl := Option.some.inj gT
 rw [pP, hw] at tt
 simp only [Option.some.injEq, Go.Obj.cells.injEq] at tt
 obtain ⟨rfl, rfl, _⟩ := tt
 refine ⟨E', _, pP, gQ.ea (R := eU (.obj p)) ?_ (gQ.nodup _) (fun b hb => ⟨(gQ.own _ _ hb).1, (gQ.own _ _ hb).2, fun q hq h => gQ.apart _ _ hq b h hb⟩)⟩
 simp only [dA]
 exact ⟨qo, B, cs, ty, by rw [OU]; exact hB, by rw [pP]; exact hw, QT, by rw [List.length_set]; exact Hl, RO.setAt (x := .no) rfl ND yE CX (Al u n hl AY), DK⟩
end
end Go.AW
/- Part of the abstract walk: signed words of 16 bits that are read. -/
namespace Go.AW
open Go
theorem wf_i16 {z : Int} (h : (Lit.int .i16 z).wf = true) : -32768 ≤ z ∧ z ≤ 32767 := by
 simp only [Lit.wf, IntKind.min, IntKind.max, IntKind.signed, IntKind.bits] at h
 simpa using h
end Go.AW
