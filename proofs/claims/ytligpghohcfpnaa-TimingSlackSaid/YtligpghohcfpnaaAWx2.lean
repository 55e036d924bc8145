/- Part of the abstract walk: a slice of one's own is taken out of the slice that holds it. -/
import Derived.Test.YtligpghohcfpnaaAWx1
import Derived.Lib.SliceRun
import Derived.KernelRfl
import Derived.DataShut
import Derived.Laws.StructEq
import Derived.OrdersHeld
import Derived.RangeFuncLeaves
import Derived.RangeFuncSeq
import Derived.RangeFuncCalls
import Derived.TacticsIn
import Derived.OrdersIn
import Derived.Sort.LoopGhostIn
set_option linter.unusedSimpArgs false
set_option linter.unusedVariables false
set_option linter.unusedSectionVars false
namespace Go.AW
open Go

theorem X.wR : ∀ {xs : List X} (k : Nat), X.gk xs = true → X.gk (xs.set k .no) = true
 | [], _, _ => rfl
 | x :: r, 0, h => by
  simp only [X.gk, Bool.and_eq_true] at h
  simp [List.set, X.gk, X.nr, h.2]
 | x :: r, k + 1, h => by
  simp only [X.gk, Bool.and_eq_true] at h
  simp [List.set, X.gk, h.1, X.wR k h.2]
theorem RO.pick {E : Env} {cs : Array Value} {y : X} : ∀ {xs : List X} {off k : Nat} {R : List Nat}, RO E xs cs off R → xs[k]? = some y →
  ∃ u Ry R1, cs[off + k]? = some u ∧ jg u ∧ RX E y u Ry ∧ RO E (xs.set k .no) cs off R1 ∧ (R.Nodup → (Ry ++ R1).Nodup) ∧ ∀ b ∈ Ry ++ R1, b ∈ R
 | [], _, _, _, _, h => by simp at h
 | x :: r, off, 0, R, h, hy => by
  simp only [RO] at h
  obtain ⟨u, R₁, R₂, hu, hs, h1, h2, rfl⟩ := h
  simp only [List.getElem?_cons_zero, Option.some.injEq] at hy
  subst hy
  refine ⟨u, R₁, R₂, hu, hs, h1, ?_, fun h => h, fun b hb => hb⟩
  simp only [List.set, RO]
  exact ⟨u, [], R₂, hu, hs, by simp [RX], h2, rfl⟩
 | x :: r, off, k + 1, R, h, hy => by
  simp only [RO] at h
  obtain ⟨u, R₁, R₂, hu, hs, h1, h2, rfl⟩ := h
  simp only [List.getElem?_cons_succ] at hy
  obtain ⟨v, Ry, R', hv, P8, AY, xy, iw, dv⟩ := RO.pick h2 hy
  refine ⟨v, Ry, R₁ ++ R', by rw [show off + (k + 1) = off + 1 + k by omega]; exact hv, P8, AY, ?_, fun hn => ?_, fun b hb => ?_⟩
  ·simp only [List.set, RO]
   exact ⟨u, R₁, R', hu, hs, h1, xy, rfl⟩
  ·obtain ⟨n1, n2, n3⟩ := List.nodup_append.1 hn
   have h3 := iw n2
   rw [← List.append_assoc, List.nodup_append]
   obtain ⟨m1, m2, m3⟩ := List.nodup_append.1 h3
   refine ⟨?_, m2, fun a ha b hb => ?_⟩
   ·rw [List.nodup_append]
    exact ⟨m1, n1, fun a ha b hb e => n3 b hb a (dv a (List.mem_append.2 (.inl ha))) e.symm⟩
   ·rcases List.mem_append.1 ha with h | h
    ·exact m3 a h b hb
    ·exact n3 a h b (dv b (List.mem_append.2 (.inr hb)))
  ·rcases List.mem_append.1 hb with h | h
   ·exact List.mem_append.2 (.inr (dv b (List.mem_append.2 (.inl h))))
   ·rcases List.mem_append.1 h with h | h
    ·exact List.mem_append.2 (.inl h)
    ·exact List.mem_append.2 (.inr (dv b (List.mem_append.2 (.inr h))))
theorem cD.pick {E : Env} {cs : Array Value} {y : X} {s : Nat} : ∀ {rs : List (List X)} {row : List X} {off i k : Nat} {R : List Nat}, cu s rs → cD E rs cs off R → rs[i]? = some row → row[k]? = some y →
  ∃ u Ry R1, cs[off + (i * s + k)]? = some u ∧ jg u ∧ RX E y u Ry ∧ cD E (rs.set i (row.set k .no)) cs off R1 ∧ (R.Nodup → (Ry ++ R1).Nodup) ∧ ∀ b ∈ Ry ++ R1, b ∈ R
 | [], _, _, _, _, _, _, _, h, _ => by simp at h
 | r :: rs, row, off, 0, k, R, _, h, hr, hy => by
  simp only [cD] at h
  obtain ⟨R₁, R₂, hn, h1, h2, rfl⟩ := h
  simp only [List.getElem?_cons_zero, Option.some.injEq] at hr
  subst hr
  obtain ⟨u, Ry, R', hu, hs, AY, xy, iw, dv⟩ := RO.pick h1 hy
  refine ⟨u, Ry, R' ++ R₂, by rw [Nat.zero_mul, Nat.zero_add]; exact hu, hs, AY, ?_, fun pN => ?_, fun b hb => ?_⟩
  ·simp only [List.set, cD, List.length_set]
   exact ⟨R', R₂, X.wR k hn, xy, h2, rfl⟩
  ·obtain ⟨n1, n2, n3⟩ := List.nodup_append.1 pN
   rw [← List.append_assoc, List.nodup_append]
   exact ⟨iw n1, n2, fun a ha b hb => n3 a (dv a ha) b hb⟩
  ·rw [← List.append_assoc] at hb
   rcases List.mem_append.1 hb with h | h
   ·exact List.mem_append.2 (.inl (dv b h))
   ·exact List.mem_append.2 (.inr h)
 | r :: rs, row, off, i + 1, k, R, hU, h, hr, hy => by
  simp only [cD] at h
  obtain ⟨R₁, R₂, hn, h1, h2, rfl⟩ := h
  simp only [List.getElem?_cons_succ] at hr
  have hl : r.length = s := hU r (List.mem_cons_self ..)
  obtain ⟨u, Ry, R', hu, hs, AY, xy, iw, dv⟩ := cD.pick (fun x hx => hU x (List.mem_cons_of_mem _ hx)) h2 hr hy
  refine ⟨u, Ry, R₁ ++ R', by rw [show off + ((i + 1) * s + k) = off + r.length + (i * s + k) by rw [Nat.add_mul, hl]; omega]; exact hu, hs, AY, ?_, fun pN => ?_, fun b hb => ?_⟩
  ·simp only [List.set, cD]
   exact ⟨R₁, R', hn, h1, xy, rfl⟩
  ·obtain ⟨n1, n2, n3⟩ := List.nodup_append.1 pN
   have h3 := iw n2
   rw [← List.append_assoc, List.nodup_append]
   obtain ⟨m1, m2, m3⟩ := List.nodup_append.1 h3
   refine ⟨?_, m2, fun a ha b hb => ?_⟩
   ·rw [List.nodup_append]
    exact ⟨m1, n1, fun a ha b hb e => n3 b hb a (dv a (List.mem_append.2 (.inl ha))) e.symm⟩
   ·rcases List.mem_append.1 ha with h | h
    ·exact m3 a h b hb
    ·exact n3 a h b (dv b (List.mem_append.2 (.inr hb)))
  ·rcases List.mem_append.1 hb with h | h
   ·exact List.mem_append.2 (.inr (dv b (List.mem_append.2 (.inl h))))
   ·rcases List.mem_append.1 h with h | h
    ·exact List.mem_append.2 (.inl h)
    ·exact List.mem_append.2 (.inr (dv b (List.mem_append.2 (.inr h))))
section
variable {P : Program} {N : eC} {st : St} {Q : Exit → St → Prop} {all : Array Oper} {rest : List Oper} {d : Nat} {ty : TypeId} {pos : String} {af : Array Edge}
theorem aL.HE {t : TypeId} {x : Operand} {o s i k : Nat} {y : X} {row : List X} {rs : List (List X)} (sd : List (List X)) (ht : TY.shape P t = some none) (hx : bR st x = some (.ptr o s i k)) (ho : look st.aA o = some (.rows s rs)) (hr : rs[i]? = some row) (hy : row[k]? = some y)
  (he : rs.set i (row.set k .no) = sd) (hd : d < N.n) (kk : aL P N all rest ((st.ea o (.rows s sd)).put d y) Q) :
  aL P N all (⟨some d, .load t x, ty, pos, af, none⟩ :: rest) st Q := by
 subst he
 refine aL.yR (fun G E RR a hn hi => ?_) kk
 obtain ⟨R, hp⟩ := hi.eval hx
 simp only [RX] at hp
 obtain ⟨_, B, hB, hc⟩ := hp
 have cA := hi.aA o _ ho
 have iw := hi.nodup (.obj o)
 simp only [dA] at cA
 obtain ⟨hu, cA⟩ := cA
 rcases cA with ⟨_, h, _⟩ | ⟨B', cs, tb, R', gT, hw, hφ, nO, hlen, jh, gN⟩
 ·subst h; simp at hr
 rw [hB] at gT
 obtain rfl := Option.some.inj gT
 obtain ⟨u, Ry, R1, CX, hs, AY, xy, Li, dv⟩ := cD.pick hu jh hr hy
 rw [gN] at iw
 obtain ⟨tU, mF⟩ := List.nodup_cons.1 iw
 have K4 := Li mF
 obtain ⟨m1, m2, m3⟩ := List.nodup_append.1 K4
 have CY : ∀ b ∈ Ry ++ R1, b ∈ RR (.obj o) := fun b hb => by rw [gN]; exact List.mem_cons.2 (.inr (dv b hb))
 have l3 : Inv G E (fm RR (.obj o) (B.b :: R1)) (st.ea o (.rows s (rs.set i (row.set k .no)))) a := by
  refine hi.ea ?_ ?_ ?_
  ·simp only [dA]
   refine ⟨hu.set (by rw [List.length_set]; exact hu row (List.mem_of_getElem? hr)), .inr ⟨B, cs, tb, R1, hB, hw, hφ, by simpa using nO, hlen, xy, rfl⟩⟩
  ·exact List.nodup_cons.2 ⟨fun h => tU (dv _ (List.mem_append.2 (.inr h))), m2⟩
  ·intro b hb
   have mH : b ∈ RR (.obj o) := by
    rcases List.mem_cons.1 hb with h | h
    ·rw [gN, h]; simp
    ·exact CY b (List.mem_append.2 (.inr h))
   exact ⟨(hi.own _ _ mH).1, (hi.own _ _ mH).2, fun p hp h => hi.apart _ _ hp b h mH⟩
 refine ⟨u, E, _, ?_, l3.put (by rw [hn]; exact hd) AY m1 fun b hb => ?_⟩
 ·show (do let z ← Instr.loadAt t (a.eval x); pure (Next.value z) : Sem Next).run P E.w = _
  rw [hc]
  refine dI ?_
  have fE : E.w.cell? ⟨B.b, B.off + (i * s + k), none⟩ = some u := by rw [dk hw]; exact CX
  simp only [Instr.loadAt, Instr.sureAddr, loadVar, Sem.run_bind, Sem.run_pure, Result.andThen_ok, (TY.g5 ht E.w).1]
  simp [fE]
 ·have mH := CY b (List.mem_append.2 (.inl hb))
  refine ⟨(hi.own _ _ mH).1, (hi.own _ _ mH).2, fun p hp h => ?_⟩
  unfold fm at h
  split at h
  ·rename_i Ox
   rcases List.mem_cons.1 h with h' | h'
   ·exact tU (h' ▸ dv b (List.mem_append.2 (.inl hb)))
   ·exact m3 b hb b h' rfl
  ·rename_i Ox
   exact hi.apart _ _ Ox b h mH
theorem aL.BL {t : TypeId} {x : Operand} {o s i k Ga tv : Nat} {rows : List (List X)} {Bp : List X} {rs : List (List X)} (sd : List (List X)) (ht : TY.size P t = some 1) (hx : bR st x = some (.ptr o s i k)) (hy : look st.a9 tv = some (.ep Ga rows))
  (ho : look st.aA o = some (.rows s rs)) (hr : rs[i]? = some Bp) (hk : k + 1 ≤ Bp.length) (he : rs.set i (jw Bp k [.ep Ga rows]) = sd) (kk : aL P N all rest ((st.put tv .no).ea o (.rows s sd)) Q) :
  aL P N all (⟨none, .store t x (.tmp tv), ty, pos, af, none⟩ :: rest) st Q := by
 subst he; exact aL.DS ht hx hy (row := []) rfl ho hr hk kk
end
end Go.AW
/- Part of the abstract walk: slices of slices of one's own. -/
namespace Go.AW
open Go

theorem RO.BM {E : Env} {cs : Array Value} {e off : Nat} {R : List Nat} (h : RO E [.v (.slice none 0 0)] cs off R) : RO E [.ep e []] cs off R := by
 simp only [RO] at h ⊢
 obtain ⟨u, R₁, R₂, hu, hs, h1, h2, h3⟩ := h
 simp only [RX] at h1
 refine ⟨u, R₁, R₂, hu, hs, ?_, h2, h3⟩
 simp only [RX]
 exact ⟨fun _ h => (by cases h), none, 0, h1.1, .inl ⟨by trivial, by trivial, h1.2⟩⟩
theorem cD.BM {E : Env} {cs : Array Value} {e : Nat} : ∀ {n off : Nat} {R : List Nat}, cD E (List.replicate n [.v (.slice none 0 0)]) cs off R → cD E (List.replicate n [.ep e []]) cs off R
 | 0, _, _, h => by simpa [cD] using h
 | n + 1, off, R, h => by
  simp only [List.replicate_succ, cD] at h ⊢
  obtain ⟨R₁, R₂, _, h1, h2, h3⟩ := h
  exact ⟨R₁, R₂, rfl, h1.BM, cD.BM h2, h3⟩
section
variable {N : eC} {st : St} {d : Nat}
theorem Sh.BN (e : Nat) {n : Nat} (hx : look st.a9 d = some (.ep 1 (List.replicate n [.v (.slice none 0 0)]))) : Sh N st (st.put d (.ep 1 (List.replicate n [.ep e []]))) := by
 intro G hn a w hh
 obtain ⟨E, RR, rfl, hi⟩ := hh
 have hv := hi.a9 d _ hx
 refine ⟨E, _, rfl, hi.relabel (d := d) (R := RR (.slot d)) ?_ (hi.nodup _) (fun b hb => ⟨(hi.own _ _ hb).1, (hi.own _ _ hb).2, fun p hp h => hi.apart _ _ hp b h hb⟩)⟩
 simp only [RX] at hv ⊢
 obtain ⟨_, base, cap, hc, h⟩ := hv
 refine ⟨fun r hr => by rw [(List.mem_replicate.1 hr).2]; rfl, base, cap, by simpa using hc, ?_⟩
 rcases h with ⟨h1, h2, h3⟩ | ⟨b, off, cs, ty, R', h1, h2, h3, h4, h5, h6, h7⟩
 ·refine .inl ⟨?_, h2, h3⟩
  have : n = 0 := by simpa using congrArg List.length h1
  subst this; rfl
 ·exact .inr ⟨b, off, cs, ty, R', h1, h2, by simpa using h3, h4, h5, h6.BM, h7⟩
end
theorem BO {α : Type} {l : List α} {f : α → List X} {m : Nat} {r : List X} (h : m < l.length) : ((l.map f).set (0 + m) r)[0 + m]? = some r := by
 rw [Nat.zero_add, List.getElem?_set_self (by simpa using h)]
theorem zw {α : Type} {l : List α} {f : α → List X} {m : Nat} {r q : List X} {v : α} (h : q = f v) : ((l.map f).set (0 + m) r).set (0 + m) q = (l.set m v).map f := by
 rw [Nat.zero_add, List.set_set, h, List.map_set]
theorem xA {α : Type} {l : List α} {f : α → List X} {m n : Nat} (h : n = l.length - m) : ((l.map f).drop (0 + m)).take n = (l.drop m).map f := by
 rw [Nat.zero_add, ← List.map_drop, List.take_of_length_le (by simp; omega)]
theorem X.qJ {α : Type} {f g : α → List X} (h : ∀ a, X.iS (f a) = g a) : ∀ l : List α, X.mM (l.map f) = l.map g
 | [] => rfl
 | a :: r => by simp only [List.map_cons, X.mM, h, X.qJ h r]
theorem Sh.vz {α : Type} {f g : α → List X} {N : eC} {st : St} {d s : Nat} {l : List α} (h : ∀ a, X.iS (f a) = g a) (hx : look st.a9 d = some (.ep s (l.map f))) : Sh N st (st.put d (.fz s (l.map g))) :=
 Sh.o7 hx (by simp only [X.lD, X.qJ h])
end Go.AW
/- Part of the abstract walk: is a frozen slice nil; a nil slice in a variable gets a name. -/
namespace Go.AW
open Go

section
variable {P : Program} {N : eC} {st : St} {Q : Exit → St → Prop} {all : Array Oper} {rest : List Oper} {d : Nat} {ty : TypeId} {pos : String} {af : Array Edge}
theorem RO.qK {E : Env} {cs : Array Value} {x y : X} (BP : ∀ c, RX E x c [] → RX E y c []) (hf : x.free = true) : ∀ {xs : List X} {off k : Nat} {R : List Nat}, RO E xs cs off R → xs[k]? = some x → RO E (xs.set k y) cs off R
 | [], _, _, _, _, h => by simp at h
 | z :: r, off, 0, R, h, hy => by
  simp only [RO] at h
  obtain ⟨u, R₁, R₂, hu, hs, h1, h2, rfl⟩ := h
  simp only [List.getElem?_cons_zero, Option.some.injEq] at hy
  subst hy
  have h0 := RX.free hf h1
  subst h0
  simp only [List.set, RO]
  exact ⟨u, [], R₂, hu, hs, BP u h1, h2, rfl⟩
 | z :: r, off, k + 1, R, h, hy => by
  simp only [RO] at h
  obtain ⟨u, R₁, R₂, hu, hs, h1, h2, rfl⟩ := h
  simp only [List.getElem?_cons_succ] at hy
  simp only [List.set, RO]
  exact ⟨u, R₁, R₂, hu, hs, h1, RO.qK BP hf h2 hy, rfl⟩
theorem Sh.eF (o q s k : Nat) {xs : List X} (ho : look (st.kill q).aA o = some (.cells xs)) (hk : xs[k]? = some (.v (.slice none 0 0))) (qo : X.bC (xs.set k (.aY q s 0 0)) = true) (P9 : Nat.beq q o = false) (hF : N.F.elem q = false) :
  Sh N st (((st.kill q).ea q (.rows s [])).ea o (.cells (xs.set k (.aY q s 0 0)))) := by
 intro G hn a w hh
 obtain ⟨E, RR, rfl, hi⟩ := hh
 obtain ⟨E', eU, hw, h1, h2⟩ := hi.nil q s (by rw [hn]; exact hF)
 have cA := h1.aA o (.cells xs) (by simp only [St.ea, look, P9, cond_false]; exact ho)
 have BQ := cA
 simp only [dA] at BQ
 obtain ⟨_, B, cs, ty, hB, pP, hφ, fe, xy, hR⟩ := BQ
 refine ⟨E', _, hw, h1.ea (R := eU (.obj o)) ?_ (h1.nodup _) (fun b hb => ⟨(h1.own _ _ hb).1, (h1.own _ _ hb).2, fun p hp h => h1.apart _ _ hp b h hb⟩)⟩
 simp only [dA]
 refine ⟨qo, B, cs, ty, hB, pP, hφ, by rw [List.length_set]; exact fe, RO.qK (x := .v (.slice none 0 0)) (fun c hc => ?_) rfl xy hk, hR⟩
 simp only [RX] at hc
 rw [hc.1]; exact h2
theorem bz.qK {E : Env} {x y : X} (BP : ∀ c, RX E x c [] → RX E y c []) (hf : x.free = true) : ∀ {xs : List X} {k : Nat} {cs : List Value} {R : List Nat}, bz E xs cs R → xs[k]? = some x → bz E (xs.set k y) cs R
 | [], _, _, _, _, h => by simp at h
 | z :: r, 0, cs, R, h, hy => by
  simp only [bz] at h
  obtain ⟨c, dg, R₁, R₂, rI, hs, h1, h2, rfl⟩ := h
  simp only [List.getElem?_cons_zero, Option.some.injEq] at hy
  subst hy
  have h0 := RX.free hf h1
  subst h0
  simp only [List.set, bz]
  exact ⟨c, dg, [], R₂, rI, hs, BP c h1, h2, rfl⟩
 | z :: r, k + 1, cs, R, h, hy => by
  simp only [bz] at h
  obtain ⟨c, dg, R₁, R₂, rI, hs, h1, h2, rfl⟩ := h
  simp only [List.getElem?_cons_succ] at hy
  simp only [List.set, bz]
  exact ⟨c, dg, R₁, R₂, rI, hs, h1, bz.qK BP hf h2 hy, rfl⟩
theorem Sh.CZ (s k : Nat) {d : Nat} {xs : List X} (hx : look st.a9 d = some (.agg xs)) (hk : xs[k]? = some (.v (.slice none 0 0))) : Sh N st (st.put d (.agg (xs.set k (.fz s [])))) := by
 intro G hn a w hh
 obtain ⟨E, RR, rfl, hi⟩ := hh
 have hv := hi.a9 d _ hx
 refine ⟨E, _, rfl, hi.relabel (d := d) (R := RR (.slot d)) ?_ (hi.nodup _) (fun b hb => ⟨(hi.own _ _ hb).1, (hi.own _ _ hb).2, fun p hp h => hi.apart _ _ hp b h hb⟩)⟩
 simp only [RX] at hv ⊢
 obtain ⟨cs, hc, h⟩ := hv
 refine ⟨cs, hc, bz.qK (x := .v (.slice none 0 0)) (fun c hc => ?_) rfl h hk⟩
 simp only [RX] at hc ⊢
 exact ⟨trivial, fun _ h => (by cases h), none, 0, hc.1, .inl ⟨by trivial, by trivial⟩⟩
end
end Go.AW
/- Part of the abstract walk: the rules that are used most, under short names. -/
namespace Go.AW
open Go

section
variable {P : Program} {N : eC} {st : St} {Q : Exit → St → Prop} {all : Array Oper} {rest : List Oper} {d dd j : Nat} {want : Bool} {op : Op} {ty : TypeId} {pos : String} {af : Array Edge} {x : X} {u : Value}
theorem aL.vl (hy : Yields P N st ⟨some d, op, ty, pos, af, none⟩ x) (k : aL P N all rest (st.put d x) Q) (hd : d < N.n := by decide) : aL P N all (⟨some d, op, ty, pos, af, none⟩ :: rest) st Q := aL.val hy hd k
theorem aL.gs (d : Nat) (hj : (all[j]?).bind (·.dst) = some d) (hx : look st.a9 d = some (.v u)) (e7 : qB want u = true) (k : aL P N all rest (st.put dd (.v undef)) Q) (hd : d < N.n := by decide) (BF : dd < N.n := by decide) :
  aL P N all (⟨some dd, op, ty, pos, af, some (j, want)⟩ :: rest) st Q := aL.aG hj hd BF hx e7 k
theorem dn.sr {id : Nat} {l : List Oper} {y : Code} (h : aL P N l.toArray l st (g0 (fun aR => dn P N y aR Q) Q)) : dn P N (.seq (.region id l.toArray false) y) st Q := dn.seq (dn.region h)
variable {ops : Array Oper} {l0 rs l : List Nat} {t i dj : Nat} {ag : Array Bool} {K : Array Bool → St → Prop}
theorem AQ.cn (i : Nat) (ho : ops[i]? = some ⟨some d, op, ty, pos, af, none⟩) (hy : Yields P N st ⟨some d, op, ty, pos, af, none⟩ x) (k : AQ P N ops l0 rs t l (ag.setIfInBounds i true) (st.put d x) K)
  (hB : (Region.noSelect ops && Region.free .any ops ag i && (Region.ready .any ops ag).contains i) = true := by kernel_rfl) (hd : d < N.n := by decide) : AQ P N ops l0 rs t (i :: l) ag st K := AQ.cons ho hB hy hd k
theorem AQ.sk (i : Nat) (ho : ops[i]? = some ⟨some d, op, ty, pos, af, some (j, want)⟩) (hj : (ops[j]?).bind (·.dst) = some dj) (hx : look st.a9 dj = some (.v u)) (e7 : qB want u = true) (k : AQ P N ops l0 rs t l (ag.setIfInBounds i true) (st.put d (.v undef)) K)
  (hB : (Region.noSelect ops && Region.free .any ops ag i && (Region.ready .any ops ag).contains i) = true := by kernel_rfl) (qH : dj < N.n := by decide) (hd : d < N.n := by decide) : AQ P N ops l0 rs t (i :: l) ag st K := AQ.skip ho hB hj qH hd hx e7 k
theorem AQ.rn (i : Nat) (ho : ops[i]? = some ⟨some d, op, ty, pos, af, some (j, want)⟩) (hj : (ops[j]?).bind (·.dst) = some dj) (hx : look st.a9 dj = some (.v (.bool want))) (hy : Yields P N st ⟨some d, op, ty, pos, af, some (j, want)⟩ x) (k : AQ P N ops l0 rs t l (ag.setIfInBounds i true) (st.put d x) K)
  (hB : (Region.noSelect ops && Region.free .any ops ag i && (Region.ready .any ops ag).contains i) = true := by kernel_rfl) (qH : dj < N.n := by decide) (hd : d < N.n := by decide) : AQ P N ops l0 rs t (i :: l) ag st K := AQ.run ho hB hj qH hx hy hd k
end
section
variable {P : Program} {N : eC} {st : St} {Q : Exit → St → Prop} {all : Array Oper} {rest : List Oper} {d : Nat} {ty : TypeId} {pos : String} {af : Array Edge} {y p : X}
theorem aL.mv {x : Operand} (k : aL P N all rest (st.put d y) Q) (hx : bR st x = some y := by rfl) (hf : y.free = true := by rfl) (hd : d < N.n := by decide) : aL P N all (⟨some d, .move x, ty, pos, af, none⟩ :: rest) st Q := aL.val (Y.move hx hf) hd k
theorem aL.an {x : Operand} (k : aL P N all rest (st.put d y) Q) (hx : bR st x = some y := by rfl) (hf : y.free = true := by rfl) (hd : d < N.n := by decide) : aL P N all (⟨some d, .assign x, ty, pos, af, none⟩ :: rest) st Q := aL.val (Y.assign hx hf) hd k
theorem aL.ld {t : TypeId} {x : Operand} {row : List X} (ht : TY.shape P t = some none) (k : aL P N all rest (st.put d y) Q) (hx : bR st x = some p := by rfl) (hr : rowAt st p = some row := by rfl) (hy : row[ko p]? = some y := by rfl) (hf : y.free = true := by rfl) (hd : d < N.n := by decide) :
  aL P N all (⟨some d, .load t x, ty, pos, af, none⟩ :: rest) st Q := aL.val (Y.load ht hx hr hy hf) hd k
end
section
variable {P : Program} {N : eC} {st : St} {Q : Exit → St → Prop} {all : Array Oper} {rest : List Oper} {d dd j : Nat} {want : Bool} {op : Op} {ty : TypeId} {pos : String} {af : Array Edge} {x y p q : X} {u : Value}
theorem aL.gw (d : Nat) (hy : Yields P N st ⟨some dd, op, ty, pos, af, some (j, want)⟩ x) (k : aL P N all rest (st.put dd x) Q) (hj : (all[j]?).bind (·.dst) = some d := by rfl) (hx : look st.a9 d = some (.v (.bool want)) := by rfl) (hd : d < N.n := by decide) (BF : dd < N.n := by decide) :
  aL P N all (⟨some dd, op, ty, pos, af, some (j, want)⟩ :: rest) st Q := aL.aO hj hd hx (aL.val hy BF k)
theorem aL.gz (d : Nat) (k : aL P N all rest (st.put dd (.v undef)) Q) (hj : (all[j]?).bind (·.dst) = some d := by rfl) (hx : look st.a9 d = some (.v u) := by rfl) (e7 : qB want u = true := by rfl) (hd : d < N.n := by decide) (BF : dd < N.n := by decide) :
  aL P N all (⟨some dd, op, ty, pos, af, some (j, want)⟩ :: rest) st Q := aL.aG hj hd BF hx e7 k
theorem aL.pk {c a b : Operand} {v : Bool} (k : aL P N all rest (st.put d y) Q) (hc : bR st c = some (.v (.bool v)) := by rfl) (hz : bR st (if v then a else b) = some y := by rfl) (hf : y.free = true := by rfl) (hd : d < N.n := by decide) :
  aL P N all (⟨some d, .pick c a b, ty, pos, af, none⟩ :: rest) st Q := aL.val (Y.pick hc hz hf) hd k
theorem aL.fa {t : TypeId} {a : Operand} {f off : Nat} {ft : TypeId} (ht : TY.jq P t f = some (off, ft)) (k : aL P N all rest (st.put d q) Q) (hx : bR st a = some p := by rfl) (hq : p.on off = some q := by rfl) (hd : d < N.n := by decide) :
  aL P N all (⟨some d, .fieldAddr t a f, ty, pos, af, none⟩ :: rest) st Q := aL.val (Y.fieldAddr ht hx hq) hd k
end
theorem eD.c {α : Type} {l l' : List (Nat × α)} {s : Nat} {x : α} (hr : eD l l') (h : look l s = some x := by rfl) : eD l ((s, x) :: l') := eD.cons h hr
theorem eD.c2 {α : Type} {l l' : List (Nat × α)} {s t : Nat} {x y : α} (hr : eD l l') (h : look l s = some x := by rfl) (h1 : look l t = some y := by rfl) : eD l ((s, x) :: (t, y) :: l') := eD.cons h (eD.cons h1 hr)
theorem eD.c4 {α : Type} {l l' : List (Nat × α)} {s t s1 t1 : Nat} {x y x1 y1 : α} (hr : eD l l') (h : look l s = some x := by rfl) (h1 : look l t = some y := by rfl) (h2 : look l s1 = some x1 := by rfl) (h3 : look l t1 = some y1 := by rfl) : eD l ((s, x) :: (t, y) :: (s1, x1) :: (t1, y1) :: l') := eD.c2 (eD.c2 hr h2 h3) h h1
theorem eD.c8 {α : Type} {l l' : List (Nat × α)} {s t s1 t1 s2 t2 s3 t3 : Nat} {x y x1 y1 x2 y2 x3 y3 : α} (hr : eD l l') (h : look l s = some x := by rfl) (h1 : look l t = some y := by rfl) (h2 : look l s1 = some x1 := by rfl) (h3 : look l t1 = some y1 := by rfl) (h4 : look l s2 = some x2 := by rfl) (h5 : look l t2 = some y2 := by rfl) (h6 : look l s3 = some x3 := by rfl) (h7 : look l t3 = some y3 := by rfl) : eD l ((s, x) :: (t, y) :: (s1, x1) :: (t1, y1) :: (s2, x2) :: (t2, y2) :: (s3, x3) :: (t3, y3) :: l') := eD.c4 (eD.c4 hr h4 h5 h6 h7) h h1 h2 h3
theorem dG {α β : Type} {f : α → β} {l : List α} : some (l.map f).length = some l.length := congrArg some (List.length_map ..)
theorem Ends.rb {P : Program} {mr : List ResultVar} {st : St} {b b' : Bool} (h0 : jk P st mr = some [.v (.bool b)]) (h : b = b') : Ends P mr ([] : List Obj).length (fun r o => r = .v (.bool b') ∧ o = []) .ret st := ⟨_, _, h0, rfl, by rw [h]; exact ⟨rfl, rfl⟩⟩
theorem Ends.ri {P : Program} {mr : List ResultVar} {st : St} {k : IntKind} {b b' : Int} (h0 : jk P st mr = some [.v (.int k b)]) (h : b = b') : Ends P mr ([] : List Obj).length (fun r o => r = .v (.int k b') ∧ o = []) .ret st := ⟨_, _, h0, rfl, by rw [h]; exact ⟨rfl, rfl⟩⟩
end Go.AW
/- Part of the abstract walk: words without signs that are read. -/
namespace Go.AW
open Go
end Go.AW
/- Part of the abstract walk: structs are compared. -/
namespace Go.AW
open Go

section
variable {P : Program} {N : eC} {st : St} {dst : Option Nat} {ty : TypeId} {pos : String} {af : Array Edge} {g : Option (Nat × Bool)}
end
end Go.AW
/- Part of the abstract walk: operations that do not look at memory, for open orders. -/
namespace Go.AW
open Go

section
variable {P : Program} {N : eC} {st : St} {dst : Option Nat} {ty : TypeId} {pos : String} {af : Array Edge} {g : Option (Nat × Bool)}
theorem ao.bin {op : BinOp} {t t' : TypeId} {x y : Operand} {u v r : Value} (hx : bR st x = some (.v u)) (hy : bR st y = some (.v v))
  (hr : ∀ w, (do eqGuard op t x y u v; binOp op t u v : Sem Value).run P w = .ok r w) : ao P N st ⟨dst, .binOp op t x y t', ty, pos, af, g⟩ (.v r) := by
 intro G E RR a _ hi
 refine ⟨r, fun w => ?_, by simp [RX]⟩
 show (do let x ← (do eqGuard op t x y (a.eval x) (a.eval y); binOp op t (a.eval x) (a.eval y) : Sem Value); pure (Next.value x) : Sem Next).run P w = _
 rw [hi.val hx, hi.val hy]
 exact dI (hr _)

section ints
variable {t t' : TypeId} {x y : Operand} {k : IntKind} {a b r : Int}
theorem ao.add (hx : bR st x = some (.v (.int k a))) (hy : bR st y = some (.v (.int k b))) (hr : k.wrap (a + b) = r) : ao P N st ⟨dst, .binOp .add t x y t', ty, pos, af, g⟩ (.v (.int k r)) :=
 ao.bin hx hy fun w => by subst hr; simp [eqGuard, binOp, Op.intArith]
theorem ao.sub (hx : bR st x = some (.v (.int k a))) (hy : bR st y = some (.v (.int k b))) (hr : k.wrap (a - b) = r) : ao P N st ⟨dst, .binOp .sub t x y t', ty, pos, af, g⟩ (.v (.int k r)) :=
 ao.bin hx hy fun w => by subst hr; simp [eqGuard, binOp, Op.intArith]
theorem ao.mul (hx : bR st x = some (.v (.int k a))) (hy : bR st y = some (.v (.int k b))) (hr : k.wrap (a * b) = r) : ao P N st ⟨dst, .binOp .mul t x y t', ty, pos, af, g⟩ (.v (.int k r)) :=
 ao.bin hx hy fun w => by subst hr; simp [eqGuard, binOp, Op.intArith]
theorem ao.rem (hx : bR st x = some (.v (.int k a))) (hy : bR st y = some (.v (.int k b))) (h0 : b ≠ 0) (hr : a.tmod b = r) : ao P N st ⟨dst, .binOp .rem t x y t', ty, pos, af, g⟩ (.v (.int k r)) :=
 ao.bin hx hy fun w => by subst hr; simp [eqGuard, binOp, Op.intDiv, h0]
theorem ao.lss (hx : bR st x = some (.v (.int k a))) (hy : bR st y = some (.v (.int k b))) : ao P N st ⟨dst, .binOp .lss t x y t', ty, pos, af, g⟩ (.v (.bool (decide (a < b)))) :=
 ao.bin hx hy fun w => by simp [eqGuard, binOp, Op.intCmp]
theorem ao.leq (hx : bR st x = some (.v (.int k a))) (hy : bR st y = some (.v (.int k b))) : ao P N st ⟨dst, .binOp .leq t x y t', ty, pos, af, g⟩ (.v (.bool (decide (a ≤ b)))) :=
 ao.bin hx hy fun w => by simp [eqGuard, binOp, Op.intCmp]
theorem ao.gtr (hx : bR st x = some (.v (.int k a))) (hy : bR st y = some (.v (.int k b))) : ao P N st ⟨dst, .binOp .gtr t x y t', ty, pos, af, g⟩ (.v (.bool (decide (b < a)))) :=
 ao.bin hx hy fun w => by simp [eqGuard, binOp, Op.intCmp]
theorem ao.geq (hx : bR st x = some (.v (.int k a))) (hy : bR st y = some (.v (.int k b))) : ao P N st ⟨dst, .binOp .geq t x y t', ty, pos, af, g⟩ (.v (.bool (decide (b ≤ a)))) :=
 ao.bin hx hy fun w => by simp [eqGuard, binOp, Op.intCmp]
theorem ao.eql (hx : bR st x = some (.v (.int k a))) (hy : bR st y = some (.v (.int k b))) : ao P N st ⟨dst, .binOp .eql t x y t', ty, pos, af, g⟩ (.v (.bool (decide (a = b)))) :=
 ao.bin hx hy fun w => by simp [eqGuard, binOp, Op.intCmp, BEq.beq]
theorem ao.neq (hx : bR st x = some (.v (.int k a))) (hy : bR st y = some (.v (.int k b))) : ao P N st ⟨dst, .binOp .neq t x y t', ty, pos, af, g⟩ (.v (.bool (decide (a ≠ b)))) :=
 ao.bin hx hy fun w => by simp [eqGuard, binOp, Op.intCmp, bne, BEq.beq]
end ints
theorem ao.un {op : UnOp} {t : TypeId} {x : Operand} {u r : Value} (hx : bR st x = some (.v u)) (hr : ∀ w, (Op.unary op u).run P w = .ok r w) : ao P N st ⟨dst, .unOp op t x, ty, pos, af, g⟩ (.v r) := by
 intro G E RR a _ hi
 refine ⟨r, fun w => ?_, by simp [RX]⟩
 show (do let x ← Op.unary op (a.eval x); pure (Next.value x) : Sem Next).run P w = _
 rw [hi.val hx]
 exact dI (hr _)
theorem ao.not {t : TypeId} {x : Operand} {b : Bool} (hx : bR st x = some (.v (.bool b))) : ao P N st ⟨dst, .unOp .not t x, ty, pos, af, g⟩ (.v (.bool (!b))) :=
 ao.un hx fun _ => rfl
theorem ao.conv {s d : TypeId} {x : Operand} {k k' : IntKind} {n r : Int} (hs : TY.isInt P s = some k') (hd : TY.isInt P d = some k) (hx : bR st x = some (.v (.int k' n))) (hr : k.wrap n = r) :
  ao P N st ⟨dst, .convert s d x, ty, pos, af, g⟩ (.v (.int k r)) := by
 intro G E RR a _ hi
 refine ⟨.int k r, fun w => ?_, by simp [RX]⟩
 show (do let x ← convert s d (a.eval x); pure (Next.value x) : Sem Next).run P w = _
 rw [hi.val hx]
 refine dI ?_
 have h1 : P.underlying s = some (.int k') := by unfold TY.isInt at hs; split at hs <;> simp_all
 have h2 : P.underlying d = some (.int k) := by unfold TY.isInt at hd; split at hd <;> simp_all
 simp [convert, run_underlying h1, run_underlying h2, Conv.intToInt, hr]

section
variable {t t' : TypeId} {x y : Operand} {a b : Int}
theorem ao.aT (hx : bR st x = some (.v (.int .i64 a))) (hy : bR st y = some (.v (.int .i64 b))) (hr : -9223372036854775808 ≤ a + b ∧ a + b ≤ 9223372036854775807) : ao P N st ⟨dst, .binOp .add t x y t', ty, pos, af, g⟩ (.v (.int .i64 (a + b))) :=
 ao.add hx hy (IntWalk.i64_in _ hr)
theorem ao.iy (hx : bR st x = some (.v (.int .i64 a))) (hy : bR st y = some (.v (.int .i64 b))) (hr : -9223372036854775808 ≤ a - b ∧ a - b ≤ 9223372036854775807) : ao P N st ⟨dst, .binOp .sub t x y t', ty, pos, af, g⟩ (.v (.int .i64 (a - b))) :=
 ao.sub hx hy (IntWalk.i64_in _ hr)
theorem ao.bJ (hx : bR st x = some (.v (.int .i64 a))) (hy : bR st y = some (.v (.int .i64 b))) (hr : -9223372036854775808 ≤ a * b ∧ a * b ≤ 9223372036854775807) : ao P N st ⟨dst, .binOp .mul t x y t', ty, pos, af, g⟩ (.v (.int .i64 (a * b))) :=
 ao.mul hx hy (IntWalk.i64_in _ hr)
theorem ao.jH {k : IntKind} (hx : bR st x = some (.v (.int k a))) (hy : bR st y = some (.v (.int k b))) (hr : 0 ≤ a ∧ 1 ≤ b) : ao P N st ⟨dst, .binOp .rem t x y t', ty, pos, af, g⟩ (.v (.int k (a % b))) :=
 ao.rem hx hy om (IntWalk.rem_in a b hr.1)
end
theorem ao.fo {s d : TypeId} {x : Operand} {k k' : IntKind} {n : Int} (hs : TY.isInt P s = some k') (hd : TY.isInt P d = some k) (hx : bR st x = some (.v (.int k' n))) (hr : k.wrap n = n) :
  ao P N st ⟨dst, .convert s d x, ty, pos, af, g⟩ (.v (.int k n)) := ao.conv hs hd hx hr
theorem ao.len {t e s cZ : Nat} {x : Operand} {y : X} {n : Nat} (ht : TY.slice P t = some (e, s, cZ)) (hx : bR st x = some y) (hn : y.len = some n) :
  ao P N st ⟨dst, .call ⟨.builtin .len, #[x], #[t]⟩, ty, pos, af, g⟩ (.v (.int .i64 (n : Int))) := by
 intro G E RR a _ hi
 obtain ⟨R, hp⟩ := hi.eval hx
 obtain ⟨base, cap, hc⟩ := hp.len hn
 refine ⟨.int .i64 (n : Int), fun w => gG ?_, by simp [RX]⟩
 obtain ⟨hu, _⟩ := TY.et ht
 simp [builtin, Builtin.len_, hc, run_underlying hu, goInt]

theorem ao.aK {t e s cZ : Nat} {x ix : Operand} {rows : List (List X)} {row : List X} {k : IntKind} {n : Int} {m : Nat} (ht : TY.slice P t = some (e, s, cZ)) (hx : bR st x = some (.fz s rows))
  (va : bR st ix = some (.v (.int k n))) (hn : n = (m : Int)) (hr : rows[m]? = some row) : ao P N st ⟨dst, .indexAddr t x ix, ty, pos, af, g⟩ (.fp row 0) := by
 intro G E RR a _ hi
 obtain ⟨R, hp⟩ := hi.eval hx
 have hm : m < rows.length := by
  rcases Nat.lt_or_ge m rows.length with h' | h'
  ·exact h'
  ·simp [List.getElem?_eq_none h'] at hr
 simp only [RX] at hp
 obtain ⟨_, hu, base, cap, hc, h⟩ := hp
 rcases h with ⟨h, _⟩ | ⟨b, off, rfl, hl, hf⟩
 ·subst h; simp at hr
 ·refine ⟨.pointer (some ⟨b, off + m * s, none⟩), fun w => ?_, ?_⟩
  ·show (do let z ← Instr.indexAt t (a.eval x) (a.eval ix); pure (Next.value z) : Sem Next).run P w = _
   rw [hc, hi.val va]
   exact dI (kv ht hn hm w)
  ·simp only [RX]
   exact ⟨trivial, b, off + m * s, rfl, jE.get hu hf hr⟩

theorem ao.bc {t e s cZ : Nat} {x ix : Operand} {o lo len : Nat} {k : IntKind} {n : Int} {m : Nat} (ht : TY.slice P t = some (e, s, cZ)) (hx : bR st x = some (.aY o s lo len))
  (va : bR st ix = some (.v (.int k n))) (hn : n = (m : Int)) (hm : m < len) : ao P N st ⟨dst, .indexAddr t x ix, ty, pos, af, g⟩ (.ptr o s (lo + m) 0) := by
 intro G E RR a _ hi
 obtain ⟨R, hp⟩ := hi.eval hx
 simp only [RX] at hp
 obtain ⟨_, base, cap, hc, h⟩ := hp
 rcases h with ⟨_, _, h, _⟩ | ⟨B, hB, _, hl, hb⟩
 ·omega
 ·have fV : base = some ⟨B.b, B.off + lo * s, none⟩ := hb.resolve_left om
  subst fV
  refine ⟨.pointer (some ⟨B.b, B.off + lo * s + m * s, none⟩), fun w => ?_, ?_⟩
  ·show (do let z ← Instr.indexAt t (a.eval x) (a.eval ix); pure (Next.value z) : Sem Next).run P w = _
   rw [hc, hi.val va]
   exact dI (kv ht hn hm w)
  ·simp only [RX]
   exact ⟨trivial, B, hB, by rw [Nat.add_mul]; simp [Nat.add_assoc]⟩

theorem ao.gg {t len e s : Nat} {x ix : Operand} {p q : X} {k : IntKind} {n : Int} {m : Nat} (ht : TY.array P t = some (len, e, s)) (hx : bR st x = some p)
  (va : bR st ix = some (.v (.int k n))) (hn : n = (m : Int)) (hm : m < len) (hq : p.on (m * s) = some q) : ao P N st ⟨dst, .indexAddr t x ix, ty, pos, af, g⟩ q := by
 intro G E RR a _ hi
 obtain ⟨R, hp⟩ := hi.eval hx
 obtain ⟨b, o, hc, h⟩ := hp.on hq
 refine ⟨_, fun w => ?_, h⟩
 show (do let z ← Instr.indexAt t (a.eval x) (a.eval ix); pure (Next.value z) : Sem Next).run P w = _
 rw [hc, hi.val va]
 refine dI ?_
 obtain ⟨hu, i, ij, hs⟩ := TY.q2 ht
 subst hn
 simp [Instr.indexAt, Instr.sureAddr, asIntOf, run_underlying hu, hm, run_sizeOf ij, hs, gS]

end
end Go.AW
/- Part of the abstract walk: open orders with loads of what nobody writes. -/
namespace Go.AW
open Go

section
variable {P : Program} {N : eC} {st : St} {ops : Array Oper} {d : Nat} {ty : TypeId} {pos : String} {af : Array Edge} {K : St → Prop}

def SG (G : Ctx) (w : World) : Prop := (∀ b, G.K b → w.heap[b]? = G.w0.heap[b]?) ∧ ∀ b i v, G.φ0 b i = some v → w.cell? ⟨b, i, none⟩ = some v
theorem ct.sg {G : Ctx} {a : Act} {w : World} (h : ct G st a w) : SG G w := by
  obtain ⟨E, RR, rfl, hi⟩ := h
  exact ⟨hi.ai, fun b i v hv => hi.ku b i v (hi.φ0 b i v hv)⟩
def lh (G : Ctx) (E : Env) (L : List Nat) (T : Nat → List Nat) (F' : List Nat) : Ctx := ⟨fun b => G.K b ∨ ∃ o, o ∈ L ∧ b ∈ T o, E.w, E.φ, E.β, ⟨G.fn.n, F'⟩, G.ds⟩

def cN (P : Program) (N : eC) (ops : Array Oper) (n : Nat) (ag : Array Bool) (st : St) (K : St → Prop) : Prop :=
  ∀ G : Ctx, G.fn = N → ∀ a w, ct G st a w → wpAnyH P .any ops (fun e a w => e = .normal ∧ ∃ aR, K aR ∧ ct G aR a w) (SG G) n ag a w
def bX (P : Program) (N : eC) (L F' : List Nat) (ops : Array Oper) (n : Nat) (ag : Array Bool) (st : St) (K : St → Prop) : Prop :=
  ∀ G : Ctx, G.fn = N → ∀ E RR a (T : Nat → List Nat), (∀ o ∈ L, RR (.obj o) = T o) → Inv G E RR st a →
    wpAnyH P .any ops (fun e a w => e = .normal ∧ ∃ aR, K aR ∧ ct G aR a w) (SG (lh G E L T F')) n ag a E.w

theorem Inv.Cx {G : Ctx} {E : Env} {RR : Own → List Nat} {a : Act} (hi : Inv G E RR st a) (L : List Nat) (T : Nat → List Nat) (F' : List Nat) : SG (lh G E L T F') E.w := ⟨fun _ _ => rfl, hi.ku⟩
theorem bX.blind {L F' : List Nat} {n : Nat} {ag : Array Bool} (i : Nat) {op : Op} {x : X} (ho : ops[i]? = some ⟨some d, op, ty, pos, af, none⟩)
    (hB : (Region.noSelect ops && Region.free .any ops ag i && (Region.ready .any ops ag).contains i) = true) (hy : ao P N st ⟨some d, op, ty, pos, af, none⟩ x) (hd : d < N.n)
    (k : bX P N L F' ops n (ag.setIfInBounds i true) (st.put d x) K) : bX P N L F' ops (n + 1) ag st K := by
  intro G hn E RR a T hT hi
  obtain ⟨u, hr, hx⟩ := hy G E RR a hn hi
  simp only [Bool.and_eq_true] at hB
  refine wpAnyH_take (v := u) ho hB.1.1 hB.1.2 hB.2 ?_ (.inl ⟨by simp [Region.wanted], fun w _ => hr w⟩) (hi.Cx L T F') (k G hn E _ _ T ?_ (hi.gd (hn ▸ hd) hx))
  · intro c a w h
    cases h.1
  · intro o ho
    have := hT o ho
    simpa [fm] using this
def s4 (L : List Nat) : X → Bool
  | .fp .. => true
  | .ptr o .. => L.elem o
  | _ => false
theorem Inv.held {G : Ctx} {E : Env} {RR : Own → List Nat} {a : Act} {L F' : List Nat} {T : Nat → List Nat} (hi : Inv G E RR st a) (hT : ∀ o ∈ L, RR (.obj o) = T o) {p : X} {c : Value} {R : List Nat} {row : List X}
    (hp : RX E p c R) (hr : rowAt st p = some row) (hL : s4 L p = true) :
    ∃ b off, c = .pointer (some ⟨b, off + ko p, none⟩) ∧ ∀ w, SG (lh G E L T F') w → ∀ j, j < row.length → w.cell? ⟨b, off + j, none⟩ = E.w.cell? ⟨b, off + j, none⟩ := by
  cases p with
  | fp row' k' =>
    simp only [rowAt, Option.some.injEq] at hr
    subst hr
    simp only [RX] at hp
    obtain ⟨_, b, off, hc, hf⟩ := hp
    refine ⟨b, off, hc, fun w hw j hj => ?_⟩
    obtain ⟨vs, hl, hv, hx⟩ := RF.cells hf
    obtain ⟨v, PU⟩ : ∃ v, vs[j]? = some v := ⟨vs[j]'om, List.getElem?_eq_getElem om⟩
    have h1 := hv j v PU
    rw [hi.ku _ _ _ h1]
    exact hw.2 _ _ _ h1
  | ptr o s i k' =>
    simp only [RX] at hp
    obtain ⟨_, B, hB, hc⟩ := hp
    have Ge : o ∈ L := List.elem_iff.1 hL
    have Mf := hT o Ge
    have hb : B.b ∈ T o := by
      simp only [rowAt] at hr
      split at hr
      · rename_i xs ho
        have h0 := hi.aA o _ ho
        simp only [dA] at h0
        obtain ⟨_, B', cs, ty, gT, hw, _, _, jh, hR⟩ := h0
        rw [hB] at gT
        obtain rfl := Option.some.inj gT
        rw [← Mf, hR]; simp
      · rename_i s' rs ho
        have h0 := hi.aA o _ ho
        simp only [dA] at h0
        obtain ⟨hu, h0⟩ := h0
        rcases h0 with ⟨h0, _⟩ | ⟨B', cs, ty, R', gT, hw, _, _, _, _, hR⟩
        · rw [hB] at h0; cases h0
        · rw [hB] at gT
          obtain rfl := Option.some.inj gT
          rw [← Mf, hR]; simp
      · cases hr
    refine ⟨B.b, B.off + i * s, by rw [hc]; simp [ko, Nat.add_assoc], fun w hw j _ => ?_⟩
    have := hw.1 B.b (.inr ⟨o, Ge, hb⟩)
    unfold World.cell?
    simp only [lh] at this
    rw [this]
  | _ => cases hL
theorem oR {b b' o o' k : Nat} (h : Value.pointer (some ⟨b, o + k, none⟩) = Value.pointer (some ⟨b', o' + k, none⟩)) : b = b' ∧ o = o' := by
  simp only [Value.pointer.injEq, Option.some.injEq, Addr.mk.injEq] at h
  omega
theorem bX.load {L F' : List Nat} {n : Nat} {ag : Array Bool} (i : Nat) {t : TypeId} {x : Operand} {p y : X} {row : List X} (ho : ops[i]? = some ⟨some d, .load t x, ty, pos, af, none⟩)
    (hB : (Region.noSelect ops && Region.free .any ops ag i && (Region.ready .any ops ag).contains i) = true) (ht : TY.shape P t = some none) (hx : bR st x = some p) (hL : s4 L p = true) (hr : rowAt st p = some row)
    (hy : row[ko p]? = some y) (hf : y.free = true) (hd : d < N.n)
    (k : bX P N L F' ops n (ag.setIfInBounds i true) (st.put d y) K) : bX P N L F' ops (n + 1) ag st K := by
  intro G hn E RR a T hT hi
  obtain ⟨R, hp⟩ := hi.eval hx
  obtain ⟨b, off, hc, gf⟩ := hi.behind hp hr
  obtain ⟨b', qf, nN, mc⟩ := hi.held (F' := F') hT hp hr hL
  obtain ⟨rfl, rfl⟩ := oR (hc.symm.trans nN)
  have hk : ko p < row.length := by
    rcases Nat.lt_or_ge (ko p) row.length with h' | h'
    · exact h'
    · simp [List.getElem?_eq_none h'] at hy
  obtain ⟨vs, R', hl, hv, fh⟩ := gf (ko p) 1 om
  rw [getElem?_drop_take_one hy] at fh
  simp only [bz] at fh
  obtain ⟨c, dg, R₁, R₂, Bl, _, h1, ⟨rfl, rfl⟩, rfl⟩ := fh
  subst Bl
  have h0 := RX.free hf h1
  subst h0
  simp only [Bool.and_eq_true] at hB
  refine wpAnyH_take (v := c) ho hB.1.1 hB.1.2 hB.2 ?_ (.inl ⟨by simp [Region.wanted], fun w hw => ?_⟩) (hi.Cx L T F') (k G hn E _ _ T ?_ (hi.gd (hn ▸ hd) h1))
  · intro c a w h
    cases h.1
  · show (do let z ← Instr.loadAt t (a.eval x); pure (Next.value z) : Sem Next).run P w = _
    rw [hc]
    refine dI ?_
    have fE := hv 0 c rfl
    simp only [Instr.loadAt, Instr.sureAddr, loadVar, Sem.run_bind, Sem.run_pure, Result.andThen_ok, (TY.g5 ht w).1]
    simp only [Nat.add_zero] at fE
    rw [← mc w hw _ hk] at fE
    simp [fE]
  · intro o ho
    have := hT o ho
    simpa [fm] using this
theorem bX.aM {L F' : List Nat} {n : Nat} {ag : Array Bool} (i : Nat) {t : TypeId} {x : Operand} {p : X} {row : List X} {m : Nat} {ys : List X} (ho : ops[i]? = some ⟨some d, .load t x, ty, pos, af, none⟩)
    (hB : (Region.noSelect ops && Region.free .any ops ag i && (Region.ready .any ops ag).contains i) = true) (ht : TY.shape P t = some (some m)) (hx : bR st x = some p) (hL : s4 L p = true) (hr : rowAt st p = some row)
    (hm : ko p + m ≤ row.length) (tM : (row.drop (ko p)).take m = ys) (hf : X.bC ys = true) (hd : d < N.n)
    (k : bX P N L F' ops n (ag.setIfInBounds i true) (st.put d (.agg ys)) K) : bX P N L F' ops (n + 1) ag st K := by
  intro G hn E RR a T hT hi
  obtain ⟨R, hp⟩ := hi.eval hx
  obtain ⟨b, off, hc, gf⟩ := hi.behind hp hr
  obtain ⟨b', qf, nN, mc⟩ := hi.held (F' := F') hT hp hr hL
  obtain ⟨rfl, rfl⟩ := oR (hc.symm.trans nN)
  obtain ⟨vs, R', hl, hv, fh⟩ := gf (ko p) m hm
  rw [tM] at fh
  have h0 := bz.free hf fh
  subst h0
  simp only [Bool.and_eq_true] at hB
  refine wpAnyH_take (v := .agg vs.toArray) ho hB.1.1 hB.1.2 hB.2 ?_ (.inl ⟨by simp [Region.wanted], fun w hw => ?_⟩) (hi.Cx L T F') (k G hn E _ _ T ?_ (hi.gd (hn ▸ hd) (by simp only [RX]; exact ⟨_, rfl, fh⟩)))
  · intro c a w h
    cases h.1
  · show (do let z ← Instr.loadAt t (a.eval x); pure (Next.value z) : Sem Next).run P w = _
    rw [hc]
    refine dI ?_
    obtain ⟨h1, h2⟩ := TY.l6 ht w
    have h3 : (loadCells ⟨b, off + ko p, none⟩ m).run P w = .ok vs.toArray w := by
      rw [← hl]
      refine run_loadCells_list (w := w) _ vs fun j v hj => ?_
      have pO : j < vs.length := (List.getElem?_eq_some_iff.1 hj).1
      rw [gS, Nat.add_assoc, mc w hw _ om]; exact hv j v hj
    simp only [Instr.loadAt, Instr.sureAddr, loadVar, Sem.run_bind, Sem.run_pure, Result.andThen_ok, h1, if_true, h2, h3]
  · intro o ho
    have := hT o ho
    simpa [fm] using this

def St.back (st : St) : List Nat → List (Nat × Obj) → List (Nat × Obj)
  | [], r => r
  | o :: L, r => match look st.aA o with
    | some ob => (o, ob) :: st.back L r
    | none => st.back L r
theorem s5 (st : St) {r : List (Nat × Obj)} {q : Nat} {x : Obj} : ∀ {L : List Nat}, (∀ o ∈ L, ∃ ob, look st.aA o = some ob) → look (st.back L r) q = some x → (q ∈ L ∧ look st.aA q = some x) ∨ (q ∉ L ∧ look r q = some x)
  | [], _, h => .inr ⟨by simp, h⟩
  | o :: L, hL, h => by
    obtain ⟨ob, cA⟩ := hL o (by simp)
    simp only [St.back, cA, look] at h
    cases hb : Nat.beq o q with
    | true =>
      have := Nat.eq_of_beq_eq_true hb
      subst this
      simp only [hb, cond_true, Option.some.injEq] at h
      exact .inl ⟨by simp, by rw [cA, h]⟩
    | false =>
      simp only [hb, cond_false] at h
      have e7 : q ≠ o := Ne.symm (Nat.ne_of_beq_eq_false hb)
      rcases s5 st (fun o ho => hL o (List.mem_cons_of_mem _ ho)) h with ⟨h1, h2⟩ | ⟨h1, h2⟩
      · exact .inl ⟨List.mem_cons_of_mem _ h1, h2⟩
      · exact .inr ⟨by simp [e7, h1], h2⟩
def bV (st : St) (L F' : List Nat) : Prop := ∀ o ∈ L, ∃ ob, look st.aA o = some ob ∧ ∀ xs, ob = .cells xs → ∀ q, X.cC q xs = true → F'.elem q = true

theorem lh.down {G : Ctx} {E : Env} {RR : Own → List Nat} {a : Act} {L F' : List Nat} {T : Nat → List Nat} (hi : Inv G E RR st a) (hT : ∀ o ∈ L, RR (.obj o) = T o) {x8 : St} (hle : Le st x8) (IM : ∀ o ∈ L, look x8.aA o = none) :
    ct (lh G E L T F') x8 a E.w := by
  refine ⟨E, fun p => match p with | .obj o => if o ∈ L then [] else RR (.obj o) | p => RR p, rfl, ?_⟩
  have sub : ∀ p b, b ∈ (match p with | .obj o => if o ∈ L then [] else RR (.obj o) | p => RR p : List Nat) → b ∈ RR p ∧ ∀ o, p = .obj o → o ∉ L := by
    intro p b h
    cases p with
    | obj o =>
      by_cases hL : o ∈ L
      · simp [hL] at h
      · simp only [hL, if_false] at h
        exact ⟨h, fun q hq => by cases hq; exact hL⟩
    | slot s => exact ⟨h, fun q hq => by cases hq⟩
  exact {
    ku := hi.ku
    a9 := fun s x hx => hi.a9 s x (hle.1 s x hx)
    aA := fun o ob ho => by
      by_cases hL : o ∈ L
      · rw [IM o hL] at ho; cases ho
      · simp only [hL, if_false]; exact hi.aA o ob (hle.2 o ob ho)
    nodup := fun p => by
      cases p with
      | obj o =>
        by_cases hL : o ∈ L
        · simp [hL]
        · simp only [hL, if_false]; exact hi.nodup _
      | slot s => exact hi.nodup _
    apart := fun p q kQ b hb fV => hi.apart p q kQ b (sub p b hb).1 (sub q b fV).1
    own := fun p b hb => by
      obtain ⟨h1, h2⟩ := sub p b hb
      refine ⟨(hi.own p b h1).1, fun tR => ?_⟩
      rcases (tR : G.K b ∨ ∃ o, o ∈ L ∧ b ∈ T o) with h | ⟨o, ho, s6⟩
      · exact (hi.own p b h1).2 h
      · rw [← hT o ho] at s6
        have e7 : p ≠ .obj o := fun e => h2 o e ho
        exact hi.apart p (.obj o) e7 b h1 s6
    ai := fun _ _ => rfl
    size := Nat.le_refl _
    small := fun b tR => by
      rcases (tR : G.K b ∨ ∃ o, o ∈ L ∧ b ∈ T o) with h | ⟨o, ho, s6⟩
      · exact Nat.lt_of_lt_of_le (hi.small b h) hi.size
      · rw [← hT o ho] at s6
        exact (hi.own _ b s6).1
    os := rfl
    tape := rfl
    output := rfl
    φ0 := fun _ _ _ h => h
    grow := fun _ _ _ h => .inl h
    fixed := fun _ _ => rfl
    tmps := hi.tmps
    defers := hi.defers }
theorem lh.up {G : Ctx} {E : Env} {RR : Own → List Nat} {a : Act} {L F' : List Nat} {T : Nat → List Nat} (hi : Inv G E RR st a) (hT : ∀ o ∈ L, RR (.obj o) = T o) (hF : ∀ o, G.fn.F.elem o = true → F'.elem o = true) (EV : ∀ o ∈ L, F'.elem o = true)
    (cA : bV st L F') {aR : St} {a' : Act} {w' : World} (h : ct (lh G E L T F') aR a' w') : ct G ⟨aR.a9, st.back L aR.aA⟩ a' w' := by
  obtain ⟨E', eU, rfl, hj⟩ := h
  have Bn : ∀ {o b}, o ∈ L → b ∈ RR (.obj o) → (lh G E L T F').K b := fun ho hb => .inr ⟨_, ho, by rw [← hT _ ho]; exact hb⟩
  have sub : ∀ p b, b ∈ (match p with | .obj o => if o ∈ L then RR (.obj o) else eU (.obj o) | p => eU p : List Nat) → (∃ o, o ∈ L ∧ p = .obj o ∧ b ∈ RR p) ∨ ((∀ o, p = .obj o → o ∉ L) ∧ b ∈ eU p) := by
    intro p b h
    cases p with
    | obj o =>
      by_cases hL : o ∈ L
      · simp only [hL, if_true] at h
        exact .inl ⟨o, hL, rfl, h⟩
      · simp only [hL, if_false] at h
        exact .inr ⟨fun q hq => by cases hq; exact hL, h⟩
    | slot s => exact .inr ⟨fun q hq => (by cases hq), h⟩
  refine ⟨E', fun p => match p with | .obj o => if o ∈ L then RR (.obj o) else eU (.obj o) | p => eU p, rfl, ?_⟩
  exact {
    ku := hj.ku
    a9 := fun s x hx => hj.a9 s x hx
    aA := fun o ob ho => by
      rcases s5 st (fun o ho => (cA o ho).imp fun _ h => h.1) ho with ⟨h1, h2⟩ | ⟨h1, h2⟩
      · simp only [h1, if_true]
        obtain ⟨uR, IN, BQ⟩ := cA o h1
        rw [h2] at IN
        obtain rfl := Option.some.inj IN
        refine dA.mono ⟨hj.φ0, fun b hb => ⟨hj.ai b (Bn h1 hb), fun hn i => ?_⟩⟩ (hj.fixed o (EV o h1)) (fun xs fh q hq => hj.fixed q (BQ xs fh q hq)) (hi.aA o ob h2)
        cases hφ : E'.φ b i with
        | none => rfl
        | some v =>
          rcases hj.grow b i v hφ with h3 | h3
          · have h4 := hn i
            change E.φ b i = some v at h3
            rw [h4] at h3; cases h3
          · exact absurd (Bn h1 hb) h3
      · simp only [h1, if_false]; exact hj.aA o ob h2
    nodup := fun p => by
      cases p with
      | obj o =>
        by_cases hL : o ∈ L
        · simp only [hL, if_true]; exact hi.nodup _
        · simp only [hL, if_false]; exact hj.nodup _
      | slot s => exact hj.nodup _
    apart := fun p q kQ b hb fV => by
      rcases sub p b hb with ⟨o, ho, rfl, h1⟩ | ⟨_, h1⟩ <;> rcases sub q b fV with ⟨o', kO, rfl, h2⟩ | ⟨_, h2⟩
      · exact hi.apart _ _ kQ b h1 h2
      · exact (hj.own _ b h2).2 (Bn ho h1)
      · exact (hj.own _ b h1).2 (Bn kO h2)
      · exact hj.apart _ _ kQ b h1 h2
    own := fun p b hb => by
      rcases sub p b hb with ⟨o, ho, rfl, h1⟩ | ⟨_, h1⟩
      · exact ⟨Nat.lt_of_lt_of_le (hi.own _ b h1).1 hj.size, (hi.own _ b h1).2⟩
      · exact ⟨(hj.own _ b h1).1, fun hk => (hj.own _ b h1).2 (.inl hk)⟩
    ai := fun b hb => (hj.ai b (.inl hb)).trans (hi.ai b hb)
    size := Nat.le_trans hi.size hj.size
    small := hi.small
    os := hj.os.trans hi.os
    tape := hj.tape.trans hi.tape
    output := hj.output.trans hi.output
    φ0 := fun b i v h => hj.φ0 b i v (hi.φ0 b i v h)
    grow := fun b i v h => by
      rcases hj.grow b i v h with h1 | h1
      · exact hi.grow b i v h1
      · exact .inr fun hk => h1 (.inl hk)
    fixed := fun o ho => (hj.fixed o (hF o ho)).trans (hi.fixed o ho)
    tmps := hj.tmps
    defers := hj.defers }

theorem og {Q1 Q2 : Exit → Act → World → Prop} {K1 K2 : Act → World → Prop} {j : Nat} {a : Act} {w : World} (hQ : ∀ e a w, e ≠ .normal → Q1 e a w → False) (hK : ∀ a w, K1 a w → K2 a w) (h : wpOp P ops Q1 j K1 a w) : wpOp P ops Q2 j K2 a w := by
  unfold wpOp at *
  cases ho : ops[j]? with
  | none => simp only [ho] at h ⊢; first | exact hK _ _ h | exact h
  | some o =>
    simp only [ho] at *
    split
    · rename_i hw
      simp only [hw, if_true] at h
      rcases h with h | ⟨_, hl⟩
      · refine .inl ?_
        unfold Oper.wp at *
        generalize (execOp a.eval o).run P w = r at *
        cases r with
        | ok nx w' =>
          cases nx <;> simp only [Oper.upon] at h ⊢ <;> first
            | exact hK _ _ h
            | exact Calls.mono h (fun e Om he => by
                cases e with
                | returned u => exact hK _ _ he
                | panicked c => exact (hQ _ _ _ (by simp) he).elim
                | outgrown => exact (let ⟨_, _, h'⟩ := he; hQ _ _ _ (by simp) h').elim)
            | exact Rows.mono h (fun _ _ he => hK _ _ he)
        | halt x w' => cases x <;> simp only [Oper.upon] at h ⊢ <;> first | exact (hQ _ _ _ (by simp) h).elim | exact (let ⟨_, _, h'⟩ := h; hQ _ _ _ (by simp) h').elim | exact h
      · obtain ⟨_, _, h'⟩ := hl
        exact (hQ _ _ _ (by simp) h').elim
    · rename_i hw
      simp only [hw] at h
      exact hK _ _ h
theorem qa {md : Region.Mode} {S : World → Prop} {Q1 Q2 : Exit → Act → World → Prop} (hQ : ∀ e a w, e ≠ .normal → Q1 e a w → False) (hN : ∀ a w, Q1 .normal a w → Q2 .normal a w) :
    ∀ (n : Nat) (ag : Array Bool) (a : Act) (w : World), wpAnyH P md ops Q1 S n ag a w → wpAnyH P md ops Q2 S n ag a w
  | 0, _, _, _, h => ⟨h.1, hN _ _ h.2⟩
  | n + 1, _, _, _, h => ⟨fun h0 => hN _ _ (h.1 h0), fun i hi => og hQ (fun a w h' => ⟨h'.1, qa hQ hN n _ a w h'.2⟩) (h.2 i hi)⟩

theorem bX.go {L F' : List Nat} {n : Nat} {ag : Array Bool} (x8 : St) (hle : Le st x8) (IM : ∀ o ∈ L, look x8.aA o = none) (hF : ∀ o, N.F.elem o = true → F'.elem o = true) (EV : ∀ o ∈ L, F'.elem o = true)
    (cA : bV st L F') (k : cN P ⟨N.n, F'⟩ ops n ag x8 (fun aR => K ⟨aR.a9, st.back L aR.aA⟩)) : bX P N L F' ops n ag st K := by
  intro G hn E RR a T hT hi
  refine qa (fun e a w he h => he h.1) ?_ n ag a E.w (k (lh G E L T F') (by simp [lh, hn]) a E.w (lh.down hi hT hle IM))
  rintro a' w' ⟨_, aR, hk, hh⟩
  exact ⟨rfl, _, hk, lh.up hi hT (by rw [hn]; exact hF) EV cA hh⟩

theorem cN.step {n : Nat} {ag : Array Bool} (j : Nat) {o : Oper} (ho : ops[j]? = some o)
    (k : aL P N ops [o] st (fun e aR => e = .normal ∧ cN P N ops n (ag.setIfInBounds j true) aR K)) (G : Ctx) (hn : G.fn = N) (a : Act) (w : World) (hh : ct G st a w) :
    wpOp P ops (fun e a w => e = .normal ∧ ∃ aR, K aR ∧ ct G aR a w) j (fun a' w' => SG G w' ∧ wpAnyH P .any ops (fun e a w => e = .normal ∧ ∃ aR, K aR ∧ ct G aR a w) (SG G) n (ag.setIfInBounds j true) a' w') a w := by
  have hk := k G hn a w hh
  have key : wpOp P ops (fun e a w => mq G (fun e aR => e = .normal ∧ cN P N ops n (ag.setIfInBounds j true) aR K) e a w) j
      (fun a w => mq G (fun e aR => e = .normal ∧ cN P N ops n (ag.setIfInBounds j true) aR K) .normal a w) a w := by
    unfold wpOp; simp only [ho]; exact hk
  refine og ?_ ?_ key
  · rintro e a w he ⟨aR, _, h, _⟩
    exact he h
  · rintro a w ⟨aR, gy, _, yE⟩
    exact ⟨gy.sg, yE G hn a w gy⟩
theorem cN.one {n : Nat} {ag : Array Bool} (i : Nat) {o : Oper} (ho : ops[i]? = some o) (hr : (Region.ready .any ops ag == [i]) = true)
    (k : aL P N ops [o] st (fun e aR => e = .normal ∧ cN P N ops n (ag.setIfInBounds i true) aR K)) : cN P N ops (n + 1) ag st K := by
  intro G hn a w hh
  refine wpAnyH_all (rs := [i]) (by simpa using hr) (by simp) ?_
  intro j hj
  have : j = i := by simpa using hj
  subst this
  exact cN.step j ho k G hn a w hh
theorem cN.two {n : Nat} {ag : Array Bool} (i i' : Nat) {o o' : Oper} (ho : ops[i]? = some o) (kO : ops[i']? = some o') (hr : (Region.ready .any ops ag == [i, i']) = true)
    (k : aL P N ops [o] st (fun e aR => e = .normal ∧ cN P N ops n (ag.setIfInBounds i true) aR K))
    (k' : aL P N ops [o'] st (fun e aR => e = .normal ∧ cN P N ops n (ag.setIfInBounds i' true) aR K)) : cN P N ops (n + 1) ag st K := by
  intro G hn a w hh
  refine wpAnyH_all (rs := [i, i']) (by simpa using hr) (by simp) ?_
  intro j hj
  simp only [List.mem_cons, List.not_mem_nil, or_false] at hj
  rcases hj with rfl | rfl
  · exact cN.step j ho k G hn a w hh
  · exact cN.step j kO k' G hn a w hh
theorem cN.blind {n : Nat} {ag : Array Bool} (i : Nat) {op : Op} {x : X} (ho : ops[i]? = some ⟨some d, op, ty, pos, af, none⟩)
    (hB : (Region.noSelect ops && Region.free .any ops ag i && (Region.ready .any ops ag).contains i) = true) (hy : ao P N st ⟨some d, op, ty, pos, af, none⟩ x) (hd : d < N.n)
    (k : cN P N ops n (ag.setIfInBounds i true) (st.put d x) K) : cN P N ops (n + 1) ag st K := by
  intro G hn a w hh
  have hS := hh.sg
  obtain ⟨E, RR, rfl, hi⟩ := hh
  obtain ⟨u, hr, hx⟩ := hy G E RR a hn hi
  simp only [Bool.and_eq_true] at hB
  refine wpAnyH_take (v := u) ho hB.1.1 hB.1.2 hB.2 ?_ (.inl ⟨by simp [Region.wanted], fun w _ => hr w⟩) hS (k G hn _ _ ⟨E, _, rfl, hi.gd (hn ▸ hd) hx⟩)
  intro c a w h
  cases h.1
theorem cN.done {n : Nat} {ag : Array Bool} (hr : (Region.ready .any ops ag).isEmpty = true) (h : K st) : cN P N ops n ag st K :=
  fun _ _ _ _ hh => wpAnyH_done (by simpa using hr) ⟨rfl, st, h, hh⟩ n

theorem dn.eK (L F' : List Nat) {Q : Exit → St → Prop} {id : Nat} (hm : P.follows .mixedOrders = true) (h : bX P N L F' ops ops.size (Array.replicate ops.size false) st (fun aR => Q .normal aR)) : dn P N (.region id ops true) st Q := by
  intro G hn a w hh
  obtain ⟨E, RR, hw, hi⟩ := hh.drew
  refine wp_mono (wp_region_held (S := SG (lh G E L (fun o => RR (.obj o)) F')) hm (hw ▸ h G hn E RR a _ (fun _ _ => rfl) hi)) ?_
  rintro e a w ⟨rfl, aR, hk, gy⟩
  exact ⟨aR, gy, hk⟩
theorem gJ {L : List Nat} {q : Nat} {x : Obj} : ∀ {l : List (Nat × Obj)}, look (l.filter fun p => !L.elem p.1) q = some x → look l q = some x ∧ q ∉ L
  | [], h => by simp [look] at h
  | (o, ob) :: r, h => by
    rw [List.filter_cons] at h
    cases hL : L.elem o with
    | true =>
      simp only [hL, Bool.not_true, Bool.false_eq_true, if_false] at h
      obtain ⟨h1, h2⟩ := gJ h
      refine ⟨?_, h2⟩
      have e7 : Nat.beq o q = false := by
        cases hb : Nat.beq o q with
        | false => rfl
        | true =>
          have := Nat.eq_of_beq_eq_true hb
          subst this
          exact absurd (List.elem_iff.1 hL) h2
      simp only [look, e7, cond_false]; exact h1
    | false =>
      simp only [hL, Bool.not_false, if_true, look] at h ⊢
      cases hb : Nat.beq o q with
      | true =>
        have := Nat.eq_of_beq_eq_true hb
        subst this
        simp only [hb, cond_true] at h ⊢
        exact ⟨h, fun hm => by rw [List.elem_iff.2 hm] at hL; cases hL⟩
      | false =>
        simp only [hb, cond_false] at h ⊢
        exact gJ h
theorem dn.eJ {Q : Exit → St → Prop} {id : Nat} (hm : P.follows .mixedOrders = true) (h : bX P N [] N.F ops ops.size (Array.replicate ops.size false) st (fun aR => Q .normal aR)) : dn P N (.region id ops true) st Q := dn.eK [] N.F hm h
theorem Le.aA {st : St} {l : List (Nat × Obj)} (h : eD st.aA l) : Le st ⟨st.a9, l⟩ := ⟨fun _ _ h => h, h⟩
theorem bV.nil {F' : List Nat} : bV st [] F' := fun _ h => by cases h
def ownNames : List X → List Nat
  | [] => []
  | .ptr o .. :: r | .aY o .. :: r | .mref o :: r => o :: ownNames r
  | .v _ :: r | .fz .. :: r | .no :: r | .fp .. :: r | .ep .. :: r => ownNames r
  | _ :: r => ownNames r
def xm : List X → Bool
  | [] => true
  | .agg _ :: _ | .tup _ :: _ | .gl .. :: _ => false
  | _ :: r => xm r
theorem kL {q : Nat} : ∀ {xs : List X}, xm xs = true → X.cC q xs = true → q ∈ ownNames xs
  | [], _, h => by simp [X.cC] at h
  | x :: r, hf, h => by
    simp only [X.cC, Bool.or_eq_true] at h
    cases x <;> simp only [xm, Bool.false_eq_true] at hf <;> simp only [ownNames, X.dL, Bool.false_eq_true, false_or, beq_iff_eq, List.mem_cons] at h ⊢ <;>
      first
        | exact kL hf h
        | (rcases h with h | h
           · first | exact .inl h.symm | exact .inl h | exact .inl (Nat.eq_of_beq_eq_true h).symm | exact .inl (Nat.eq_of_beq_eq_true h)
           · exact .inr (kL hf h))
theorem bV.cells {F' L : List Nat} {o : Nat} {xs : List X} (ho : look st.aA o = some (.cells xs)) (hf : xm xs = true) (hn : (ownNames xs).all (fun q => F'.elem q) = true) (hL : bV st L F') : bV st (o :: L) F' := by
  intro p hp
  rcases List.mem_cons.1 hp with rfl | hp
  · exact ⟨_, ho, fun ys tM q hq => by cases tM; exact List.all_eq_true.1 hn q (kL hf hq)⟩
  · exact hL p hp
theorem bX.yn {L F' : List Nat} {n : Nat} {ag : Array Bool} (hF : N.F.all (fun o => F'.elem o) = true) (EV : L.all (fun o => F'.elem o) = true)
    (cA : bV st L F') (k : cN P ⟨N.n, F'⟩ ops n ag ⟨st.a9, st.aA.filter fun p => !L.elem p.1⟩ (fun aR => K ⟨aR.a9, st.back L aR.aA⟩)) : bX P N L F' ops n ag st K :=
  bX.go ⟨st.a9, st.aA.filter fun p => !L.elem p.1⟩ ⟨fun _ _ h => h, fun _ _ h => (gJ h).1⟩ (fun o ho => by
    have key : ∀ x, look (st.aA.filter fun p => !L.elem p.1) o ≠ some x := fun x h => absurd ho (gJ h).2
    show look (st.aA.filter fun p => !L.elem p.1) o = none
    generalize look (st.aA.filter fun p => !L.elem p.1) o = z at key
    cases z with
    | none => rfl
    | some x => exact absurd rfl (key x)) (fun o ho => List.all_eq_true.1 hF o (List.elem_iff.1 ho)) (fun o ho => List.all_eq_true.1 EV o ho) cA k
theorem bX.uZ {n : Nat} {ag : Array Bool} (k : cN P N ops n ag st K) : bX P N [] N.F ops n ag st K :=
  bX.go st (Le.refl st) (fun _ h => by cases h) (fun _ h => h) (fun _ h => by cases h) bV.nil k
end
end Go.AW
/- Part of the abstract walk: structs that own slices. -/
namespace Go.AW
open Go

theorem bz.Ag {E E' : Env} {x y : X} {o : Nat} (hβ : ∀ q, q ≠ o → E'.β q = E.β q) (hf : x.free = true) : ∀ {xs : List X} {cs : List Value} {R : List Nat} {k : Nat}, bz E xs cs R → xs[k]? = some x → E.On E' R → X.cC o (xs.set k .no) = false →
  ∃ c Ra Rb, R = Ra ++ Rb ∧ RX E x c [] ∧ ∀ R1, RX E' y c R1 → bz E' (xs.set k y) cs (Ra ++ (R1 ++ Rb))
 | [], _, _, _, _, h, _, _ => by simp at h
 | z :: r, cs, R, 0, h, hy, hE, hm => by
  simp only [bz] at h
  obtain ⟨c, dg, R₁, R₂, rfl, hs, h1, h2, rfl⟩ := h
  simp only [List.getElem?_cons_zero, Option.some.injEq] at hy
  subst hy
  have h0 := RX.free hf h1
  subst h0
  simp only [List.set, X.cC, Bool.or_eq_false_iff] at hm
  refine ⟨c, [], R₂, rfl, h1, fun R1 h3 => ?_⟩
  simp only [List.set, bz, List.nil_append]
  exact ⟨c, dg, R1, R₂, rfl, hs, h3, bz.mono _ _ _ hE (fun q hq => hβ q (fun e => by rw [e, hm.2] at hq; cases hq)) h2, rfl⟩
 | z :: r, cs, R, k + 1, h, hy, hE, hm => by
  simp only [bz] at h
  obtain ⟨c0, dg, R₁, R₂, rfl, hs, h1, h2, rfl⟩ := h
  simp only [List.getElem?_cons_succ] at hy
  simp only [List.set, X.cC, Bool.or_eq_false_iff] at hm
  obtain ⟨c, Ra, Rb, rfl, hc, hk⟩ := bz.Ag hβ hf h2 hy (hE.sub (fun _ h => List.mem_append.2 (.inr h))) hm.2
  refine ⟨c, R₁ ++ Ra, Rb, by rw [List.append_assoc], hc, fun R1 h3 => ?_⟩
  simp only [List.set, bz]
  exact ⟨c0, dg, R₁, Ra ++ (R1 ++ Rb), rfl, hs, RX.mono _ _ _ (hE.sub (fun _ h => List.mem_append.2 (.inl h))) (fun q hq => hβ q (fun e => by rw [e, hm.1] at hq; cases hq)) h1, hk R1 h3, by rw [List.append_assoc]⟩
theorem bz.Dr {E : Env} {x y : X} {o : Nat} : ∀ {xs : List X} {cs : List Value} {R : List Nat} {k : Nat}, bz E xs cs R → xs[k]? = some x → X.cC o (xs.set k .no) = false →
  ∃ c Ra R0 Rb, R = Ra ++ (R0 ++ Rb) ∧ RX E x c R0 ∧ ∀ (E' : Env), (∀ q, q ≠ o → E'.β q = E.β q) → E.On E' R → ∀ R1, RX E' y c R1 → bz E' (xs.set k y) cs (Ra ++ (R1 ++ Rb))
 | [], _, _, _, _, h, _ => by simp at h
 | z :: r, cs, R, 0, h, hy, hm => by
  simp only [bz] at h
  obtain ⟨c, dg, R₁, R₂, rfl, hs, h1, h2, rfl⟩ := h
  simp only [List.getElem?_cons_zero, Option.some.injEq] at hy
  subst hy
  simp only [List.set, X.cC, Bool.or_eq_false_iff] at hm
  refine ⟨c, [], R₁, R₂, rfl, h1, fun E' hβ hE R1 h3 => ?_⟩
  simp only [List.set, bz, List.nil_append]
  exact ⟨c, dg, R1, R₂, rfl, hs, h3, bz.mono _ _ _ (hE.sub (fun _ h => List.mem_append.2 (.inr h))) (fun q hq => hβ q (fun e => by rw [e, hm.2] at hq; cases hq)) h2, rfl⟩
 | z :: r, cs, R, k + 1, h, hy, hm => by
  simp only [bz] at h
  obtain ⟨c0, dg, R₁, R₂, rfl, hs, h1, h2, rfl⟩ := h
  simp only [List.getElem?_cons_succ] at hy
  simp only [List.set, X.cC, Bool.or_eq_false_iff] at hm
  obtain ⟨c, Ra, R0, Rb, rfl, hc, hk⟩ := bz.Dr (y := y) h2 hy hm.2
  refine ⟨c, R₁ ++ Ra, R0, Rb, by rw [List.append_assoc], hc, fun E' hβ hE R1 h3 => ?_⟩
  simp only [List.set, bz]
  exact ⟨c0, dg, R₁, Ra ++ (R1 ++ Rb), rfl, hs, RX.mono _ _ _ (hE.sub (fun _ h => List.mem_append.2 (.inl h))) (fun q hq => hβ q (fun e => by rw [e, hm.1] at hq; cases hq)) h1, hk E' hβ (hE.sub (fun _ h => List.mem_append.2 (.inr h))) R1 h3, by rw [List.append_assoc]⟩
section
variable {N : eC} {st : St} {d : Nat}
theorem Sh.IP (k o : Nat) {s n : Nat} {xs : List X} {rows : List (List X)} (hx : look st.a9 d = some (.agg xs)) (hk : xs[k]? = some (.aY o s 0 n)) (ho : look st.aA o = some (.rows s rows)) (hl : n = rows.length) (hm : X.cC o (xs.set k .no) = false) (hF : N.F.elem o = false) :
  Sh N st (((st.kill o).ea o (.rows 0 [])).put d (.agg (xs.set k (.ep s rows)))) := by
 intro G hn a w hh
 obtain ⟨E, RR, rfl, hi⟩ := hh
 subst hl
 have hv := hi.a9 d _ hx
 have cA := hi.aA o _ ho
 have iw := hi.nodup (.obj o)
 have tV := hi.nodup (.slot d)
 simp only [RX] at hv
 obtain ⟨cs, rI, fh⟩ := hv
 simp only [dA] at cA
 obtain ⟨hu, cA⟩ := cA
 have hβ : cW G E { E with β := fun q => if q = o then none else E.β q } (fun _ => False) :=
  ⟨rfl, fun _ h => h.elim, fun _ h => h.elim, fun _ _ _ => rfl, Nat.le_refl _, rfl, rfl, rfl⟩
 have h4 := hi.kR hβ (o := o) (ob := .rows 0 []) (R := []) (fun _ h => h.elim) (fun q hq => by simp [hq]) (fun h => by rw [hn, hF] at h; cases h)
  (by simp only [dA]; exact ⟨fun _ h => (by cases h), .inl ⟨by simp, trivial, trivial⟩⟩) List.nodup_nil (fun _ h => by cases h)
 have ga : ∀ R', E.On { E with β := fun q => if q = o then none else E.β q } R' := fun R' => ⟨fun _ _ _ h => h, fun _ _ => ⟨rfl, fun h => h⟩⟩
 obtain ⟨c, Ra, Rb, u5, IQ, sI⟩ := bz.Ag (E' := { E with β := fun q => if q = o then none else E.β q }) (y := .ep s rows) (o := o) (fun q hq => by simp [hq]) rfl fh hk (ga _) hm
 simp only [RX] at IQ
 obtain ⟨_, base, cap, hc, dw⟩ := IQ
 have Hc : ∃ R, RX { E with β := fun q => if q = o then none else E.β q } (.ep s rows) c R ∧ R.Nodup ∧ ∀ b ∈ R, b ∈ RR (.obj o) := by
  simp only [RX]
  rcases cA with ⟨h1, h2, h3⟩ | ⟨B, cs, ty, R', hB, hw, hφ, nO, fe, jh, gN⟩
  ·rcases dw with ⟨_, _, _, h5⟩ | ⟨B, hB, _⟩
   ·exact ⟨[], ⟨hu, base, cap, hc, .inl ⟨h2, h5, rfl⟩⟩, List.nodup_nil, fun _ h => by cases h⟩
   ·rw [h1] at hB; cases hB
  ·rcases dw with ⟨h1, _⟩ | ⟨B', gT, y9, pN, hb⟩
   ·rw [hB] at h1; cases h1
   ·rw [hB] at gT
    obtain rfl := Option.some.inj gT
    rcases hb with hb | hb
    ·refine ⟨[], ⟨hu, base, cap, hc, .inl ⟨List.eq_nil_of_length_eq_zero om, hb, rfl⟩⟩, List.nodup_nil, fun _ h => by cases h⟩
    ·refine ⟨RR (.obj o), ⟨hu, base, cap, hc, .inr ⟨B.b, B.off, cs, ty, R', by simpa using hb, hw, om, by rw [show cap = B.cap by omega]; exact fe, hφ, cD.mono _ _ _ _ (ga R') jh, gN⟩⟩, iw, fun _ h => h⟩
 obtain ⟨R, ph, tS, Bq⟩ := Hc
 have qg : ∀ b ∈ Ra ++ (R ++ Rb), b ∈ RR (.slot d) ∨ b ∈ RR (.obj o) := by
  intro b hb
  rcases List.mem_append.1 hb with h | h
  ·exact .inl (by rw [u5]; exact List.mem_append.2 (.inl h))
  ·rcases List.mem_append.1 h with h | h
   ·exact .inr (Bq b h)
   ·exact .inl (by rw [u5]; exact List.mem_append.2 (.inr h))
 have EW : ∀ b ∈ RR (.slot d), b ∉ RR (.obj o) := fun b hb => hi.apart (.slot d) (.obj o) (by simp) b hb
 rw [u5] at tV EW
 obtain ⟨m1, m2, m3⟩ := List.nodup_append.1 tV
 refine ⟨{ E with β := fun q => if q = o then none else E.β q }, _, rfl, h4.relabel (d := d) (R := Ra ++ (R ++ Rb)) ?_ ?_ (fun c hc => ?_)⟩
 ·simp only [RX]
  exact ⟨cs, rI, sI R ph⟩
 ·rw [List.nodup_append, List.nodup_append]
  refine ⟨m1, ⟨tS, m2, fun x hx y hy e => EW y (List.mem_append.2 (.inr hy)) (by rw [← e]; exact Bq x hx)⟩, fun x hx y hy e => ?_⟩
  rcases List.mem_append.1 hy with h | h
  ·exact EW x (List.mem_append.2 (.inl hx)) (by rw [e]; exact Bq y h)
  ·exact m3 x hx y h e
 ·have l8 : c < E.w.heap.size ∧ ¬ G.K c := by rcases qg c hc with h | h <;> exact hi.own _ _ h
  refine ⟨l8.1, l8.2, fun p hp m9 => ?_⟩
  have key : ∀ q, q ≠ .slot d → q ≠ .obj o → c ∉ RR q := by
   intro q h1 h2 h3
   rcases qg c hc with h | h
   ·exact hi.apart q (.slot d) h1 c h3 h
   ·exact hi.apart q (.obj o) h2 c h3 h
  cases p with
  | obj q =>
   by_cases hq : q = o
   ·subst hq; simp [eO] at m9
   ·have : c ∈ RR (.obj q) := by simpa [eO, hq] using m9
    exact key (.obj q) (by simp) (by simpa using hq) this
  | slot q =>
   rcases g6 st RR o [] q with h | h
   ·rw [h] at m9; cases m9
   ·rw [h] at m9; exact key (.slot q) hp (by simp) m9
theorem Sh.IS (k o : Nat) {s : Nat} {xs : List X} {rows : List (List X)} (hx : look st.a9 d = some (.agg xs)) (hk : xs[k]? = some (.ep s rows)) (hm : X.cC o (xs.set k .no) = false) (hF : N.F.elem o = false) :
  Sh N st (((st.kill o).ea o (.rows s rows)).put d (.agg (xs.set k (.aY o s 0 rows.length)))) := by
 intro G hn a w hh
 obtain ⟨E, RR, rfl, hi⟩ := hh
 have hv := hi.a9 d _ hx
 have iw := hi.nodup (.slot d)
 simp only [RX] at hv
 obtain ⟨JZ, rI, fh⟩ := hv
 have l3 := hi.no d
 have EX : ∀ b ∈ RR (.slot d), b < E.w.heap.size ∧ ¬ G.K b ∧ ∀ p, b ∉ fm RR (.slot d) [] p := by
  intro b hb
  refine ⟨(hi.own _ _ hb).1, (hi.own _ _ hb).2, fun p hp => ?_⟩
  unfold fm at hp
  split at hp
  ·cases hp
  ·rename_i h; exact hi.apart _ _ h b hp hb
 have ga : ∀ (bk : Option y7) R', E.On { E with β := fun q => if q = o then bk else E.β q } R' := fun _ R' => ⟨fun _ _ _ h => h, fun _ _ => ⟨rfl, fun h => h⟩⟩
 have hβ : ∀ (bk : Option y7), cW G E { E with β := fun q => if q = o then bk else E.β q } (fun _ => False) := fun _ =>
  ⟨rfl, fun _ h => h.elim, fun _ h => h.elim, fun _ _ _ => rfl, Nat.le_refl _, rfl, rfl, rfl⟩
 have fin : ∀ (bk : Option y7) (Ra R0 Rb : List Nat), RR (.slot d) = Ra ++ (R0 ++ Rb) → dA { E with β := fun q => if q = o then bk else E.β q } o (.rows s rows) R0 → bz { E with β := fun q => if q = o then bk else E.β q } (xs.set k (.aY o s 0 rows.length)) JZ.toList (Ra ++ ([] ++ Rb)) →
   ct G (((st.kill o).ea o (.rows s rows)).put d (.agg (xs.set k (.aY o s 0 rows.length)))) a E.w := by
  intro bk Ra R0 Rb hR cA mD
  rw [hR] at iw
  obtain ⟨m1, m2, m3⟩ := List.nodup_append.1 iw
  obtain ⟨m4, m5, m6⟩ := List.nodup_append.1 m2
  have h4 := l3.kR (hβ bk) (o := o) (ob := .rows s rows) (R := R0) (fun _ h => h.elim) (fun q hq => by simp [hq]) (fun h => by rw [hn, hF] at h; cases h) cA m4
   (fun c hc => by
    obtain ⟨a1, a2, a3⟩ := EX c (by rw [hR]; simp [hc])
    exact ⟨a1, a2, fun p _ => a3 p⟩)
  have h5 := h4.relabel (d := d) (x := .agg (xs.set k (.aY o s 0 rows.length))) (R := Ra ++ ([] ++ Rb)) (by simp only [RX]; exact ⟨JZ, rI, mD⟩)
   (by
    rw [List.nil_append, List.nodup_append]
    exact ⟨m1, m5, fun x hx y hy => m3 x hx y (List.mem_append.2 (.inr hy))⟩)
   (fun c hc => by
    have DH : c ∈ RR (.slot d) := by
     rw [hR]
     rcases List.mem_append.1 hc with h | h
     ·exact List.mem_append.2 (.inl h)
     ·exact List.mem_append.2 (.inr (List.mem_append.2 (.inr (by simpa using h))))
    have Ds : c ∉ R0 := by
     intro h0
     rcases List.mem_append.1 hc with h | h
     ·exact m3 c h c (List.mem_append.2 (.inl h0)) rfl
     ·exact m6 c h0 c (by simpa using h) rfl
    obtain ⟨a1, a2, a3⟩ := EX c DH
    refine ⟨a1, a2, fun p hp m9 => ?_⟩
    cases p with
    | obj q =>
     by_cases hq : q = o
     ·subst hq; exact Ds (by simpa [eO] using m9)
     ·exact a3 (.obj q) (by simpa [eO, hq] using m9)
    | slot q =>
     rcases g6 (st.put d .no) (fm RR (.slot d) []) o R0 q with h | h
     ·rw [h] at m9; cases m9
     ·rw [h] at m9; exact a3 _ m9)
  refine ⟨{ E with β := fun q => if q = o then bk else E.β q }, _, rfl, { h5 with a9 := fun q y hy => h5.a9 q y ?_, aA := fun q y hy => h5.aA q y hy }⟩
  simp only [St.put, St.ea, St.kill, q3, List.map_cons, look] at hy ⊢
  cases hb : Nat.beq d q with
  | true => rw [hb] at hy; simpa using hy
  | false => rw [hb] at hy; simpa using hy
 obtain ⟨c0, Ra, R0, Rb, hR, Ds, sI⟩ := bz.Dr (y := .aY o s 0 rows.length) (o := o) fh hk hm
 simp only [RX] at Ds
 obtain ⟨hu, base, cap, hc, dw⟩ := Ds
 rcases dw with ⟨h1, h2, h3⟩ | ⟨b, off, cs, ty, R', hb, hw, hl, ho, hφ, jh, gN⟩
 ·refine fin none Ra R0 Rb hR ?_ (sI _ (fun q hq => by simp [hq]) (ga none _) [] ?_)
  ·simp only [dA]; exact ⟨hu, .inl ⟨by simp, h1, h3⟩⟩
  ·simp only [RX]; exact ⟨trivial, base, cap, hc, .inl ⟨by simp, trivial, by simp [h1], h2⟩⟩
 ·refine fin (some ⟨b, off, cap⟩) Ra R0 Rb hR ?_ (sI _ (fun q hq => by simp [hq]) (ga _ _) [] ?_)
  ·simp only [dA]; exact ⟨hu, .inr ⟨⟨b, off, cap⟩, cs, ty, R', by simp, hw, hφ, hl, ho, cD.mono _ _ _ _ (ga _ _) jh, gN⟩⟩
  ·simp only [RX]; exact ⟨trivial, base, cap, hc, .inr ⟨⟨b, off, cap⟩, by simp, by simp, hl, .inr (by simpa using hb)⟩⟩
end
end Go.AW
/- Part of the abstract walk: results that are structs with slices of their own. -/
namespace Go.AW
open Go
section
variable {P : Program}
def IT (P : Program) (mr : List ResultVar) (F : List Nat) (k : Nat) (Q : X → List Obj → Prop) : Exit → St → Prop
 | .normal, st | .ret, st => ∃ xs, jk P st mr = some xs ∧ ∃ Cy r bg, Sh ⟨1, F⟩ ⟨[(0, nR xs)], st.aA⟩ Cy ∧ look Cy.a9 0 = some r ∧ iK Cy.aA 0 k = some bg ∧ Q r bg
 | _, _ => False
theorem az.Mg {f : FuncId} {fn : Func} {c : Code} {args : List X} {aA : List Obj} {F : List Nat} {Q : X → List Obj → Prop} {n : Nat} {mr : List ResultVar} (hf : P.funcs[f]? = some fn) (hb : fn.body = some c) (hn : fn.ntmps = n) (hr : fn.results.toList = mr)
  (iw : (gm mr).Nodup) (hle : args.length ≤ n) (h : dn P ⟨n, F⟩ c ⟨dp 0 args, dp 0 aA⟩ (IT P mr F aA.length Q)) : az P f args aA F Q := by
 intro K E RR cF hi
 refine calls_of_wp hf hb ?_
 have rI : cF.size = args.length := hi.tmps
 have gQ : Inv (mJ K E ⟨n, F⟩) E RR ⟨dp 0 args, dp 0 aA⟩ ⟨cF ++ Array.replicate (fn.ntmps - cF.size) undef, []⟩ := by
  refine { hi with a9 := ?_, tmps := ?_, defers := rfl }
  ·intro s x hx
   have h0 := hi.a9 s x hx
   have hs : s < cF.size := by
    rw [rI]
    have gR : look (dp 0 args) s = some x := hx
    rw [fW] at gR
    rcases Nat.lt_or_ge s args.length with h' | h'
    ·exact h'
    ·simp [List.getElem?_eq_none h'] at gR
   have : (cF ++ Array.replicate (fn.ntmps - cF.size) undef).getD s undef = cF.getD s undef := by
    simp only [Array.getD_eq_getD_getElem?, Array.getElem?_append_left hs]
   show RX E x ((cF ++ Array.replicate (fn.ntmps - cF.size) undef).getD s undef) (RR (.slot s))
   rw [this]; exact h0
  ·show (cF ++ Array.replicate (fn.ntmps - cF.size) undef).size = n
   simp; omega
 refine wp_mono (h (mJ K E ⟨n, F⟩) rfl _ _ ⟨E, RR, rfl, gQ⟩) ?_
 rintro e a w ⟨st, ⟨E', eU, rfl, h1⟩, hq⟩
 have key : (∃ xs, jk P st mr = some xs ∧ ∃ Cy r bg, Sh ⟨1, F⟩ ⟨[(0, nR xs)], st.aA⟩ Cy ∧ look Cy.a9 0 = some r ∧ iK Cy.aA 0 aA.length = some bg ∧ Q r bg) → a.defers = [] ∧ ∃ v, (results fn a.tmps).run P E'.w = .ok v E'.w ∧
   ∃ v' r bg, Ending.returned v = .returned v' ∧ Q r bg ∧ bg.length = aA.length ∧ ∃ kx q9, kx.w = E'.w ∧ Inv (mJ K E ⟨1, F⟩) kx q9 ⟨[(0, r)], dp 0 bg⟩ ⟨#[v'], []⟩ := by
  rintro ⟨xs, vm, Cy, r2, bg, Ah, Gc, mu, hQ⟩
  obtain ⟨hlen, za⟩ := l9 mu
  have kS : ∀ j, j < aA.length → look Cy.aA j = bg[j]? := fun j hj => by have := za j hj; rwa [Nat.zero_add] at this
  refine ⟨h1.defers, ?_⟩
  obtain ⟨cs, R, g7, hx, Hq, KG⟩ := sM h1 vm iw
  have qA : (results fn a.tmps).run P E'.w = .ok (if h : cs.toArray.size = 1 then cs.toArray[0] else .tuple cs.toArray) E'.w := by
   have e : results fn a.tmps = (do let vs ← fn.results.mapM (nS a.tmps); Pure.pure (if h : vs.size = 1 then vs[0] else .tuple vs) : Sem Value) := rfl
   rw [e, show fn.results = mr.toArray by rw [← hr]]
   refine iR (u := cs.toArray) ?_ rfl
   rw [List.mapM_toArray]
   simp only [Sem.run_map, g7]
   rfl
  refine ⟨_, qA, _, r2, bg, rfl, hQ, hlen, ?_⟩
  have KH : RX E' (nR xs) (if h : cs.toArray.size = 1 then cs.toArray[0] else .tuple cs.toArray) R := by
   cases xs with
   | nil =>
    simp only [dZ] at hx
    obtain ⟨rfl, rfl⟩ := hx
    simp only [nR, RX]
    exact ⟨#[], by simp, by simp [dZ]⟩
   | cons x xs =>
    cases xs with
    | nil =>
     simp only [dZ] at hx
     obtain ⟨c, dg, R₁, R₂, rfl, h1, ⟨rfl, rfl⟩, rfl⟩ := hx
     simpa [nR] using h1
    | cons y ys =>
     have gR := hx
     simp only [dZ] at hx
     obtain ⟨c, dg, R₁, R₂, rfl, _, ⟨c', DX, R₃, R₄, rfl, _⟩, _⟩ := hx
     simp only [nR, RX]
     exact ⟨(c :: c' :: DX).toArray, by simp, by simpa using gR⟩
  let n9 : Own → List Nat := fun p => match p with
   | .slot s => if s = 0 then R else []
   | .obj o => eU (.obj o)
  have pQ : ∀ p b, b ∈ n9 p → ∃ q, b ∈ eU q ∧ ((∃ o, p = .obj o ∧ q = .obj o) ∨ (p = .slot 0 ∧ ∃ t, q = .slot t)) := by
   intro p b hb
   cases p with
   | slot s =>
    by_cases hs : s = 0
    ·subst hs
     simp only [n9, if_true] at hb
     obtain ⟨t, _, ht⟩ := KG b hb
     exact ⟨.slot t, ht, .inr ⟨rfl, t, rfl⟩⟩
    ·simp [n9, hs] at hb
   | obj o => exact ⟨.obj o, hb, .inl ⟨o, rfl, rfl⟩⟩
  have h3 : ct (mJ K E ⟨1, F⟩) ⟨[(0, nR xs)], st.aA⟩ ⟨#[if h : cs.toArray.size = 1 then cs.toArray[0] else .tuple cs.toArray], []⟩ E'.w := by
   refine ⟨E', n9, rfl, { h1 with a9 := ?_, aA := ?_, nodup := ?_, apart := ?_, own := ?_, tmps := ?_, defers := rfl }⟩
   ·intro s x gR
    simp only [look] at gR
    cases tR : Nat.beq 0 s with
    | false => simp [tR] at gR
    | true =>
     have := Nat.eq_of_beq_eq_true tR
     subst this
     simp only [tR, cond_true, Option.some.injEq] at gR
     subst gR
     simpa [n9] using KH
   ·intro o ob ho
    exact h1.aA o ob ho
   ·intro p
    cases p with
    | slot s => by_cases hs : s = 0 <;> simp [n9, hs, Hq]
    | obj o => exact h1.nodup _
   ·intro p q kQ b hb fV
    obtain ⟨p', CP, KL⟩ := pQ p b hb
    obtain ⟨q', xw, Hr⟩ := pQ q b fV
    have e7 : p' ≠ q' := by
     rcases KL with ⟨o, rfl, rfl⟩ | ⟨rfl, t, rfl⟩
     ·rcases Hr with ⟨o', rfl, rfl⟩ | ⟨rfl, t', rfl⟩
      ·exact kQ
      ·simp
     ·rcases Hr with ⟨o', rfl, rfl⟩ | ⟨rfl, t', rfl⟩
      ·simp
      ·exact absurd rfl kQ
    exact h1.apart p' q' e7 b CP xw
   ·intro p b hb
    obtain ⟨q, xw, _⟩ := pQ p b hb
    exact h1.own q b xw
   ·rfl
  obtain ⟨E2, O8, tt, h2⟩ := Ah _ rfl _ _ h3
  refine ⟨E2, O8, tt, { h2 with a9 := ?_, aA := ?_ }⟩
  ·intro s x gR
   simp only [look] at gR
   cases tR : Nat.beq 0 s with
   | false => simp [tR] at gR
   | true =>
    have := Nat.eq_of_beq_eq_true tR
    subst this
    simp only [tR, cond_true, Option.some.injEq] at gR
    subst gR
    exact h2.a9 0 _ Gc
  ·intro o ob ho
   have kO : look (dp 0 bg) o = some ob := ho
   rw [fW] at kO
   have iv : o < aA.length := by
    rcases Nat.lt_or_ge o aA.length with h' | h'
    ·exact h'
    ·rw [List.getElem?_eq_none om] at kO; cases kO
   exact h2.aA o ob (by rw [kS o iv]; exact kO)
 cases e with
 | normal => exact key hq
 | ret => exact key hq
 | _ => exact hq.elim

theorem Sh.then {N : eC} {a b c : St} (h1 : Sh N a b) (h2 : Sh N b c) : Sh N a c := fun G hn x w hh => h2 G hn x w (h1 G hn x w hh)
end
end Go.AW
/- Part of the abstract walk: structs that own slices, among several results. -/
namespace Go.AW
open Go
section
variable {N : eC} {st : St} {d : Nat}
theorem Sh.lk (k o : Nat) {s n : Nat} {xs zs : List X} {rows : List (List X)} (hx : look st.a9 d = some (.tup (.agg xs :: zs))) (hz : X.cC o zs = false) (hk : xs[k]? = some (.aY o s 0 n)) (ho : look st.aA o = some (.rows s rows)) (hl : n = rows.length) (hm : X.cC o (xs.set k .no) = false) (hF : N.F.elem o = false) :
  Sh N st (((st.kill o).ea o (.rows 0 [])).put d (.tup (.agg (xs.set k (.ep s rows)) :: zs))) := by
 intro G hn a w hh
 obtain ⟨E, RR, rfl, hi⟩ := hh
 subst hl
 have hv := hi.a9 d _ hx
 have cA := hi.aA o _ ho
 have iw := hi.nodup (.obj o)
 have tV := hi.nodup (.slot d)
 simp only [RX, dZ] at hv
 obtain ⟨ts, Ec, c1, Og, R1, R2, Mh, ⟨cs, rfl, fh⟩, JO, hR12⟩ := hv
 simp only [dA] at cA
 obtain ⟨hu, cA⟩ := cA
 have hβ : cW G E { E with β := fun q => if q = o then none else E.β q } (fun _ => False) :=
  ⟨rfl, fun _ h => h.elim, fun _ h => h.elim, fun _ _ _ => rfl, Nat.le_refl _, rfl, rfl, rfl⟩
 have h4 := hi.kR hβ (o := o) (ob := .rows 0 []) (R := []) (fun _ h => h.elim) (fun q hq => by simp [hq]) (fun h => by rw [hn, hF] at h; cases h)
  (by simp only [dA]; exact ⟨fun _ h => (by cases h), .inl ⟨by simp, trivial, trivial⟩⟩) List.nodup_nil (fun _ h => by cases h)
 have ga : ∀ R', E.On { E with β := fun q => if q = o then none else E.β q } R' := fun R' => ⟨fun _ _ _ h => h, fun _ _ => ⟨rfl, fun h => h⟩⟩
 obtain ⟨c, Ra, Ka, IU, IQ, IV⟩ := bz.Ag (E' := { E with β := fun q => if q = o then none else E.β q }) (y := .ep s rows) (o := o) (fun q hq => by simp [hq]) rfl fh hk (ga _) hm
 have u5 : RR (.slot d) = Ra ++ (Ka ++ R2) := by rw [hR12, IU, List.append_assoc]
 have sI : ∀ R', RX { E with β := fun q => if q = o then none else E.β q } (.ep s rows) c R' → RX { E with β := fun q => if q = o then none else E.β q } (.tup (.agg (xs.set k (.ep s rows)) :: zs)) (a.tmps.getD d undef) (Ra ++ (R' ++ (Ka ++ R2))) := by
  intro R' h'
  rw [Ec]
  simp only [RX, dZ]
  exact ⟨ts, rfl, .agg cs, Og, Ra ++ (R' ++ Ka), R2, Mh, ⟨cs, rfl, IV R' h'⟩, dZ.mono _ _ _ (ga _) (fun q hq => by
   have e7 : q ≠ o := fun e => by rw [e, hz] at hq; cases hq
   simp [e7]) JO, by simp only [List.append_assoc]⟩
 generalize Ka ++ R2 = Rb at u5 sI
 simp only [RX] at IQ
 obtain ⟨_, base, cap, hc, dw⟩ := IQ
 have Hc : ∃ R, RX { E with β := fun q => if q = o then none else E.β q } (.ep s rows) c R ∧ R.Nodup ∧ ∀ b ∈ R, b ∈ RR (.obj o) := by
  simp only [RX]
  rcases cA with ⟨h1, h2, h3⟩ | ⟨B, cs, ty, R', hB, hw, hφ, nO, fe, jh, gN⟩
  ·rcases dw with ⟨_, _, _, h5⟩ | ⟨B, hB, _⟩
   ·exact ⟨[], ⟨hu, base, cap, hc, .inl ⟨h2, h5, rfl⟩⟩, List.nodup_nil, fun _ h => by cases h⟩
   ·rw [h1] at hB; cases hB
  ·rcases dw with ⟨h1, _⟩ | ⟨B', gT, y9, pN, hb⟩
   ·rw [hB] at h1; cases h1
   ·rw [hB] at gT
    obtain rfl := Option.some.inj gT
    rcases hb with hb | hb
    ·refine ⟨[], ⟨hu, base, cap, hc, .inl ⟨List.eq_nil_of_length_eq_zero om, hb, rfl⟩⟩, List.nodup_nil, fun _ h => by cases h⟩
    ·refine ⟨RR (.obj o), ⟨hu, base, cap, hc, .inr ⟨B.b, B.off, cs, ty, R', by simpa using hb, hw, om, by rw [show cap = B.cap by omega]; exact fe, hφ, cD.mono _ _ _ _ (ga R') jh, gN⟩⟩, iw, fun _ h => h⟩
 obtain ⟨R, ph, tS, Bq⟩ := Hc
 have qg : ∀ b ∈ Ra ++ (R ++ Rb), b ∈ RR (.slot d) ∨ b ∈ RR (.obj o) := by
  intro b hb
  rcases List.mem_append.1 hb with h | h
  ·exact .inl (by rw [u5]; exact List.mem_append.2 (.inl h))
  ·rcases List.mem_append.1 h with h | h
   ·exact .inr (Bq b h)
   ·exact .inl (by rw [u5]; exact List.mem_append.2 (.inr h))
 have EW : ∀ b ∈ RR (.slot d), b ∉ RR (.obj o) := fun b hb => hi.apart (.slot d) (.obj o) (by simp) b hb
 rw [u5] at tV EW
 obtain ⟨m1, m2, m3⟩ := List.nodup_append.1 tV
 refine ⟨{ E with β := fun q => if q = o then none else E.β q }, _, rfl, h4.relabel (d := d) (R := Ra ++ (R ++ Rb)) ?_ ?_ (fun c hc => ?_)⟩
 ·exact sI R ph
 ·rw [List.nodup_append, List.nodup_append]
  refine ⟨m1, ⟨tS, m2, fun x hx y hy e => EW y (List.mem_append.2 (.inr hy)) (by rw [← e]; exact Bq x hx)⟩, fun x hx y hy e => ?_⟩
  rcases List.mem_append.1 hy with h | h
  ·exact EW x (List.mem_append.2 (.inl hx)) (by rw [e]; exact Bq y h)
  ·exact m3 x hx y h e
 ·have l8 : c < E.w.heap.size ∧ ¬ G.K c := by rcases qg c hc with h | h <;> exact hi.own _ _ h
  refine ⟨l8.1, l8.2, fun p hp m9 => ?_⟩
  have key : ∀ q, q ≠ .slot d → q ≠ .obj o → c ∉ RR q := by
   intro q h1 h2 h3
   rcases qg c hc with h | h
   ·exact hi.apart q (.slot d) h1 c h3 h
   ·exact hi.apart q (.obj o) h2 c h3 h
  cases p with
  | obj q =>
   by_cases hq : q = o
   ·subst hq; simp [eO] at m9
   ·have : c ∈ RR (.obj q) := by simpa [eO, hq] using m9
    exact key (.obj q) (by simp) (by simpa using hq) this
  | slot q =>
   rcases g6 st RR o [] q with h | h
   ·rw [h] at m9; cases m9
   ·rw [h] at m9; exact key (.slot q) hp (by simp) m9
end
theorem Sh.Ai {N : eC} {st : St} {d : Nat} (k o n : Nat) {s : Nat} {xs : List X} {rows : List (List X)} (hx : look st.a9 d = some (.agg xs)) (hk : xs[k]? = some (.ep s rows)) (hm : X.cC o (xs.set k .no) = false) (hF : N.F.elem o = false) (hn : n = rows.length) :
  Sh N st (((st.kill o).ea o (.rows s rows)).put d (.agg (xs.set k (.aY o s 0 n)))) := by subst hn; exact Sh.IS k o hx hk hm hF
theorem dn.fN {P : Program} {N : eC} {st : St} {ops : Array Oper} (L F' : List Nat) (J : St) {Q : Exit → St → Prop} {id : Nat} (hm : P.follows .mixedOrders = true) (h : bX P N L F' ops ops.size (Array.replicate ops.size false) st (fun aR => Le aR J)) (k : Q .normal J) : dn P N (.region id ops true) st Q := by
 intro G hn a w hh
 obtain ⟨E, RR, hw, hi⟩ := hh.drew
 refine wp_mono (wp_region_held (S := SG (lh G E L (fun o => RR (.obj o)) F')) hm (hw ▸ h G hn E RR a _ (fun _ _ => rfl) hi)) ?_
 rintro e a w ⟨rfl, aR, hk, gy⟩
 exact ⟨J, hk.holds gy, k⟩
theorem dn.ei {P : Program} {N : eC} {st : St} {ops : Array Oper} (J : St) {Q : Exit → St → Prop} {id : Nat} (hm : P.follows .mixedOrders = true) (h : bX P N [] N.F ops ops.size (Array.replicate ops.size false) st (fun aR => Le aR J)) (k : Q .normal J) : dn P N (.region id ops true) st Q := dn.fN [] N.F J hm h k
theorem u6 (x : Nat) : IntKind.u8.wrap (x : Int) = ((x % 256 : Nat) : Int) := by
 unfold IntKind.wrap
 simp only [IntKind.signed, IntKind.bits]
 simp
end Go.AW
/- Part of the abstract walk: open orders in which a variable is loaded first and written last. -/
namespace Go.AW
open Go

section
variable {P : Program} {ops : Array Oper} {Q : Exit → Act → World → Prop} {md : Region.Mode} {S : World → Prop}
def wpAnyL (P : Program) (md : Region.Mode) (ops : Array Oper) (Q : Exit → Act → World → Prop) (S : World → Prop) (LT : List Nat) : Nat → Array Bool → Act → World → Prop
 | 0, ag, a, w => Region.ready md ops ag = [] ∧ Q .normal a w
 | n + 1, ag, a, w => (Region.ready md ops ag = [] → Q .normal a w) ∧
   ∀ i ∈ Region.ready md ops ag, wpOp P ops Q i (fun a' w' => (i ∈ LT ∨ S w') ∧ wpAnyL P md ops Q S LT n (ag.setIfInBounds i true) a' w') a w
theorem s7 {LT : List Nat} : ∀ (n : Nat) (ag : Array Bool) (a : Act) (w : World), (∀ j, ag.getD j true = false → j ∈ LT) → wpAny P md ops Q n ag a w → wpAnyL P md ops Q S LT n ag a w
 | 0, _, _, _, _, h => h
 | n + 1, ag, _, _, hl, h => ⟨h.1, fun i hi => wpOp_mono (fun a' w' h' => ⟨.inl (hl i (mem_ready.1 hi).1), s7 n _ a' w' (fun j hj => by
   refine hl j ?_
   by_cases JY : i = j
   ·subst JY; exact (mem_ready.1 hi).1
   ·rw [getD_set_ne true JY] at hj; exact hj) h'⟩) (h.2 i hi)⟩
theorem wpAnyL_first {LT : List Nat} {i : Nat} {oi : Oper} {v : Value} (hi : ops[i]? = some oi) (zn : ∀ (j : Nat) (o : Oper) cs b, ops[j]? = some o → o.op ≠ .select cs b)
  (hQ : ∀ c a w, Q (.panic c) (a.put oi.dst v) w → Q (.panic c) a w) (iv : ∀ j ∈ LT, ∀ oj, ops[j]? = some oj → ∃ e ∈ oj.after, Region.binds md e = true ∧ e.on = i) :
  ∀ (n : Nat) (ag : Array Bool) (a : Act) (w : World), (∀ j oj, ops[j]? = some oj → j ≠ i → ag.getD j true = false → (∀ e ∈ oj.after, Region.binds md e = true → e.on ≠ i) → oi.apart ops oj = true) →
   i ∈ Region.ready md ops ag → YieldsIf P ops S oi v a → S w → wpAnyL P md ops Q S LT n (ag.setIfInBounds i true) (a.put oi.dst v) w → wpAnyL P md ops Q S LT (n + 1) ag a w := by
 intro n
 induction n with
 | zero =>
  intro ag a w _ hr hy hS H
  refine ⟨fun h => (by rw [h] at hr; cases hr), fun j hj => ?_⟩
  by_cases uV : j = i
  ·subst uV; exact hy.wpOp hi hS ⟨.inr hS, H⟩
  ·have := ready_mono hj uV
   rw [H.1] at this
   cases this
 | succ n ih =>
  intro ag a w kT hr hy hS H
  refine ⟨fun h => (by rw [h] at hr; cases hr), fun j hj => ?_⟩
  by_cases uV : j = i
  ·subst uV; exact hy.wpOp hi hS ⟨.inr hS, H⟩
  ·have h1 := H.2 j (ready_mono hj uV)
   obtain ⟨IW, oj, yF, rJ⟩ := mem_ready.1 hj
   have BK : ∀ e ∈ oj.after, Region.binds md e = true → e.on ≠ i := by
    intro e he hb heq
    have h3 := rJ e he hb
    have h4 := (mem_ready.1 hr).1
    rw [heq] at h3
    rcases Nat.lt_or_ge i ag.size with h' | h'
    ·simp [h'] at h3 h4; rw [h3] at h4; cases h4
    ·simp [Array.getElem?_eq_none h'] at h3
   have pO : j ∉ LT := fun hm => by
    obtain ⟨e, he, hb, ho⟩ := iv j hm oj yF
    exact BK e he hb ho
   have h2 := wpOp_putIf yF (kT j oj yF uV IW BK) (fun cs b => zn i oi cs b hi) (fun cs b => zn j oj cs b yF) hQ hy h1
   refine wpOp_mono (fun a' w' h3 => ⟨h3.2.1, ih (ag.setIfInBounds j true) a' w' ?_ (ready_mono hr (Ne.symm uV)) h3.1 (h3.2.1.resolve_left pO) ?_⟩) h2
   ·intro k ok hk uU HB BD
    refine kT k ok hk uU ?_ BD
    by_cases rZ : j = k
    ·subst rZ; exact IW
    ·rw [getD_set_ne true rZ] at HB; exact HB
   ·rw [Array.setIfInBounds_comm _ _ uV]; exact h3.2.2
end
end Go.AW
/- Part of the abstract walk: open orders in which variables are loaded first, and written last. -/
namespace Go.AW
open Go

section
variable {P : Program} {N : eC} {st : St} {ops : Array Oper} {d : Nat} {ty : TypeId} {pos : String} {af : Array Edge} {K : St → Prop}
def u7 (ops : Array Oper) (LT : List Nat) (i : Nat) : Bool := LT.all fun j => match ops[j]? with
 | some oj => oj.after.toList.any fun e => Region.binds .any e && e.on == i
 | none => true
theorem kB {Q : Exit → Act → World → Prop} {S : World → Prop} {LT : List Nat} {i : Nat} {oi : Oper} {v : Value} {n : Nat} {ag : Array Bool} {a : Act} {w : World} (hi : ops[i]? = some oi)
  (hs : Region.noSelect ops = true) (hf : Region.free .any ops ag i = true) (hr : (Region.ready .any ops ag).contains i = true) (iv : u7 ops LT i = true)
  (hQ : ∀ c a w, Q (.panic c) (a.put oi.dst v) w → Q (.panic c) a w) (hy : YieldsIf P ops S oi v a) (hS : S w)
  (h : wpAnyL P .any ops Q S LT n (ag.setIfInBounds i true) (a.put oi.dst v) w) : wpAnyL P .any ops Q S LT (n + 1) ag a w :=
 wpAnyL_first hi (Region.noSelect_spec hs) hQ (fun j hj oj yF => by
  have h1 := List.all_eq_true.1 iv j hj
  simp only [yF, List.any_eq_true, Bool.and_eq_true, beq_iff_eq, Array.mem_toList_iff] at h1
  exact h1) n ag a w (Region.free_spec hi hf) (by simpa using hr) hy hS h
theorem vZ {Q : Exit → Act → World → Prop} {S : World → Prop} {LT rs : List Nat} {n : Nat} {ag : Array Bool} {a : Act} {w : World} (hr : Region.ready .any ops ag = rs) (e7 : rs ≠ [])
  (h : ∀ i ∈ rs, wpOp P ops Q i (fun a' w' => S w' ∧ wpAnyL P .any ops Q S LT n (ag.setIfInBounds i true) a' w') a w) : wpAnyL P .any ops Q S LT (n + 1) ag a w :=
 ⟨fun h0 => absurd (hr ▸ h0) e7, fun i hi => wpOp_mono (fun _ _ h' => ⟨.inr h'.1, h'.2⟩) (h i (hr ▸ hi))⟩

def fO (P : Program) (N : eC) (LT : List Nat) (ops : Array Oper) (R : Nat → Array Bool → St → Prop) (n : Nat) (ag : Array Bool) (st : St) : Prop :=
 ∀ G : Ctx, G.fn = N → ∀ Q : Exit → Act → World → Prop, (∀ c a w, Q (.panic c) a w → False) →
  (∀ n' l' aR a' w', R n' l' aR → ct G aR a' w' → wpAnyL P .any ops Q (SG G) LT n' l' a' w') → ∀ a w, ct G st a w → wpAnyL P .any ops Q (SG G) LT n ag a w
def hY (P : Program) (N : eC) (LT L F' : List Nat) (ops : Array Oper) (n : Nat) (ag : Array Bool) (st : St) (K : St → Prop) : Prop :=
 ∀ G : Ctx, G.fn = N → ∀ E RR a (T : Nat → List Nat), (∀ o ∈ L, RR (.obj o) = T o) → Inv G E RR st a →
  wpAnyL P .any ops (fun e a w => e = .normal ∧ ∃ aR, K aR ∧ ct G aR a w) (SG (lh G E L T F')) LT n ag a E.w
theorem hY.blind {LT L F' : List Nat} {n : Nat} {ag : Array Bool} (i : Nat) {op : Op} {x : X} (ho : ops[i]? = some ⟨some d, op, ty, pos, af, none⟩)
  (hB : (Region.noSelect ops && Region.free .any ops ag i && (Region.ready .any ops ag).contains i) = true) (iv : u7 ops LT i = true) (hy : ao P N st ⟨some d, op, ty, pos, af, none⟩ x) (hd : d < N.n)
  (k : hY P N LT L F' ops n (ag.setIfInBounds i true) (st.put d x) K) : hY P N LT L F' ops (n + 1) ag st K := by
 intro G hn E RR a T hT hi
 obtain ⟨u, hr, hx⟩ := hy G E RR a hn hi
 simp only [Bool.and_eq_true] at hB
 refine kB (v := u) ho hB.1.1 hB.1.2 hB.2 iv ?_ (.inl ⟨by simp [Region.wanted], fun w _ => hr w⟩) (hi.Cx L T F') (k G hn E _ _ T ?_ (hi.gd (hn ▸ hd) hx))
 ·intro c a w h
  cases h.1
 ·intro o ho
  have := hT o ho
  simpa [fm] using this
theorem hY.load {LT L F' : List Nat} {n : Nat} {ag : Array Bool} (i : Nat) {t : TypeId} {x : Operand} {p y : X} {row : List X} (ho : ops[i]? = some ⟨some d, .load t x, ty, pos, af, none⟩)
  (hB : (Region.noSelect ops && Region.free .any ops ag i && (Region.ready .any ops ag).contains i) = true) (iv : u7 ops LT i = true) (ht : TY.shape P t = some none) (hx : bR st x = some p) (hL : s4 L p = true) (hr : rowAt st p = some row)
  (hy : row[ko p]? = some y) (hf : y.free = true) (hd : d < N.n)
  (k : hY P N LT L F' ops n (ag.setIfInBounds i true) (st.put d y) K) : hY P N LT L F' ops (n + 1) ag st K := by
 intro G hn E RR a T hT hi
 obtain ⟨R, hp⟩ := hi.eval hx
 obtain ⟨b, off, hc, gf⟩ := hi.behind hp hr
 obtain ⟨b', qf, nN, mc⟩ := hi.held (F' := F') hT hp hr hL
 obtain ⟨rfl, rfl⟩ := oR (hc.symm.trans nN)
 have hk : ko p < row.length := by
  rcases Nat.lt_or_ge (ko p) row.length with h' | h'
  ·exact h'
  ·simp [List.getElem?_eq_none h'] at hy
 obtain ⟨vs, R', hl, hv, fh⟩ := gf (ko p) 1 om
 rw [getElem?_drop_take_one hy] at fh
 simp only [bz] at fh
 obtain ⟨c, dg, R₁, R₂, Bl, _, h1, ⟨rfl, rfl⟩, rfl⟩ := fh
 subst Bl
 have h0 := RX.free hf h1
 subst h0
 simp only [Bool.and_eq_true] at hB
 refine kB (v := c) ho hB.1.1 hB.1.2 hB.2 iv ?_ (.inl ⟨by simp [Region.wanted], fun w hw => ?_⟩) (hi.Cx L T F') (k G hn E _ _ T ?_ (hi.gd (hn ▸ hd) h1))
 ·intro c a w h
  cases h.1
 ·show (do let z ← Instr.loadAt t (a.eval x); pure (Next.value z) : Sem Next).run P w = _
  rw [hc]
  refine dI ?_
  have fE := hv 0 c rfl
  simp only [Instr.loadAt, Instr.sureAddr, loadVar, Sem.run_bind, Sem.run_pure, Result.andThen_ok, (TY.g5 ht w).1]
  simp only [Nat.add_zero] at fE
  rw [← mc w hw _ hk] at fE
  simp [fE]
 ·intro o ho
  have := hT o ho
  simpa [fm] using this
theorem hY.aM {LT L F' : List Nat} {n : Nat} {ag : Array Bool} (i : Nat) {t : TypeId} {x : Operand} {p : X} {row : List X} {m : Nat} {ys : List X} (ho : ops[i]? = some ⟨some d, .load t x, ty, pos, af, none⟩)
  (hB : (Region.noSelect ops && Region.free .any ops ag i && (Region.ready .any ops ag).contains i) = true) (iv : u7 ops LT i = true) (ht : TY.shape P t = some (some m)) (hx : bR st x = some p) (hL : s4 L p = true) (hr : rowAt st p = some row)
  (hm : ko p + m ≤ row.length) (tM : (row.drop (ko p)).take m = ys) (hf : X.bC ys = true) (hd : d < N.n)
  (k : hY P N LT L F' ops n (ag.setIfInBounds i true) (st.put d (.agg ys)) K) : hY P N LT L F' ops (n + 1) ag st K := by
 intro G hn E RR a T hT hi
 obtain ⟨R, hp⟩ := hi.eval hx
 obtain ⟨b, off, hc, gf⟩ := hi.behind hp hr
 obtain ⟨b', qf, nN, mc⟩ := hi.held (F' := F') hT hp hr hL
 obtain ⟨rfl, rfl⟩ := oR (hc.symm.trans nN)
 obtain ⟨vs, R', hl, hv, fh⟩ := gf (ko p) m hm
 rw [tM] at fh
 have h0 := bz.free hf fh
 subst h0
 simp only [Bool.and_eq_true] at hB
 refine kB (v := .agg vs.toArray) ho hB.1.1 hB.1.2 hB.2 iv ?_ (.inl ⟨by simp [Region.wanted], fun w hw => ?_⟩) (hi.Cx L T F') (k G hn E _ _ T ?_ (hi.gd (hn ▸ hd) (by simp only [RX]; exact ⟨_, rfl, fh⟩)))
 ·intro c a w h
  cases h.1
 ·show (do let z ← Instr.loadAt t (a.eval x); pure (Next.value z) : Sem Next).run P w = _
  rw [hc]
  refine dI ?_
  obtain ⟨h1, h2⟩ := TY.l6 ht w
  have h3 : (loadCells ⟨b, off + ko p, none⟩ m).run P w = .ok vs.toArray w := by
   rw [← hl]
   refine run_loadCells_list (w := w) _ vs fun j v hj => ?_
   have pO : j < vs.length := (List.getElem?_eq_some_iff.1 hj).1
   rw [gS, Nat.add_assoc, mc w hw _ om]; exact hv j v hj
  simp only [Instr.loadAt, Instr.sureAddr, loadVar, Sem.run_bind, Sem.run_pure, Result.andThen_ok, h1, if_true, h2, h3]
 ·intro o ho
  have := hT o ho
  simpa [fm] using this

def Dt (P : Program) (N : eC) (LT L : List Nat) (ops : Array Oper) (st : St) (K : St → Prop) (n' : Nat) (l' : Array Bool) (aR : St) : Prop :=
 ((List.range l'.size).all fun j => l'.getD j true || LT.elem j) = true ∧ eE P N ops n' l' ⟨aR.a9, st.back L aR.aA⟩ K
theorem hY.yn {LT L F' : List Nat} {n : Nat} {ag : Array Bool} (hF : N.F.all (fun o => F'.elem o) = true) (EV : L.all (fun o => F'.elem o) = true)
  (cA : bV st L F') (k : fO P ⟨N.n, F'⟩ LT ops (Dt P N LT L ops st K) n ag ⟨st.a9, st.aA.filter fun p => !L.elem p.1⟩) : hY P N LT L F' ops n ag st K := by
 intro G hn E RR a T hT hi
 refine k (lh G E L T F') (by simp [lh, hn]) _ (fun c a w h => by cases h.1) ?_ a E.w (lh.down hi hT ⟨fun _ _ h => h, fun _ _ h => (gJ h).1⟩ ?_)
 ·rintro n' l' aR a' w' ⟨hl, hk⟩ hh
  refine s7 n' l' a' w' (fun j hj => ?_) (hk G hn a' w' (lh.up hi hT (fun o ho => List.all_eq_true.1 hF o (List.elem_iff.1 (hn ▸ ho))) (fun o ho => List.all_eq_true.1 EV o ho) cA hh))
  rcases Nat.lt_or_ge j l'.size with h' | h'
  ·have h1 := List.all_eq_true.1 hl j (List.mem_range.2 h')
   rw [hj, Bool.false_or] at h1
   exact List.elem_iff.1 h1
  ·simp [Array.getD, Nat.not_lt.2 h'] at hj
 ·intro o ho
  have key : ∀ x, look (st.aA.filter fun p => !L.elem p.1) o ≠ some x := fun x h => absurd ho (gJ h).2
  show look (st.aA.filter fun p => !L.elem p.1) o = none
  generalize look (st.aA.filter fun p => !L.elem p.1) o = z at key
  cases z with
  | none => rfl
  | some x => exact absurd rfl (key x)
section
variable {LT : List Nat} {R : Nat → Array Bool → St → Prop}
theorem fO.back {n : Nat} {ag : Array Bool} (h : R n ag st) : fO P N LT ops R n ag st := fun _ _ _ _ hR _ _ hh => hR _ _ _ _ _ h hh
theorem fO.late {N0 : eC} {L : List Nat} {O9 : St} {n : Nat} {ag : Array Bool} (h : ((List.range ag.size).all fun j => ag.getD j true || LT.elem j) = true)
  (k : eE P N0 ops n ag ⟨st.a9, O9.back L st.aA⟩ K) : fO P N LT ops (Dt P N0 LT L ops O9 K) n ag st := fO.back ⟨h, k⟩
theorem fO.step {n : Nat} {ag : Array Bool} (j : Nat) {o : Oper} (ho : ops[j]? = some o)
  (k : aL P N ops [o] st (fun e aR => e = .normal ∧ fO P N LT ops R n (ag.setIfInBounds j true) aR)) (G : Ctx) (hn : G.fn = N) (Q : Exit → Act → World → Prop) (hQ : ∀ c a w, Q (.panic c) a w → False)
  (hR : ∀ n' l' aR a' w', R n' l' aR → ct G aR a' w' → wpAnyL P .any ops Q (SG G) LT n' l' a' w') (a : Act) (w : World) (hh : ct G st a w) :
  wpOp P ops Q j (fun a' w' => SG G w' ∧ wpAnyL P .any ops Q (SG G) LT n (ag.setIfInBounds j true) a' w') a w := by
 have hk := k G hn a w hh
 have key : wpOp P ops (fun e a w => mq G (fun e aR => e = .normal ∧ fO P N LT ops R n (ag.setIfInBounds j true) aR) e a w) j
   (fun a w => mq G (fun e aR => e = .normal ∧ fO P N LT ops R n (ag.setIfInBounds j true) aR) .normal a w) a w := by
  unfold wpOp; simp only [ho]; exact hk
 refine og ?_ ?_ key
 ·rintro e a w he ⟨aR, _, h, _⟩
  exact he h
 ·rintro a w ⟨aR, gy, _, yE⟩
  exact ⟨gy.sg, yE G hn Q hQ hR a w gy⟩
theorem fO.one {n : Nat} {ag : Array Bool} (i : Nat) {o : Oper} (ho : ops[i]? = some o) (hr : (Region.ready .any ops ag == [i]) = true)
  (k : aL P N ops [o] st (fun e aR => e = .normal ∧ fO P N LT ops R n (ag.setIfInBounds i true) aR)) : fO P N LT ops R (n + 1) ag st := by
 intro G hn Q hQ hR a w hh
 refine vZ (rs := [i]) (by simpa using hr) (by simp) ?_
 intro j hj
 have : j = i := by simpa using hj
 subst this
 exact fO.step j ho k G hn Q hQ hR a w hh
theorem fO.blind {n : Nat} {ag : Array Bool} (i : Nat) {op : Op} {x : X} (ho : ops[i]? = some ⟨some d, op, ty, pos, af, none⟩)
  (hB : (Region.noSelect ops && Region.free .any ops ag i && (Region.ready .any ops ag).contains i) = true) (iv : u7 ops LT i = true) (hy : ao P N st ⟨some d, op, ty, pos, af, none⟩ x) (hd : d < N.n)
  (k : fO P N LT ops R n (ag.setIfInBounds i true) (st.put d x)) : fO P N LT ops R (n + 1) ag st := by
 intro G hn Q hQ hR a w hh
 have hS := hh.sg
 obtain ⟨E, RR, rfl, hi⟩ := hh
 obtain ⟨u, hr, hx⟩ := hy G E RR a hn hi
 simp only [Bool.and_eq_true] at hB
 refine kB (v := u) ho hB.1.1 hB.1.2 hB.2 iv ?_ (.inl ⟨by simp [Region.wanted], fun w _ => hr w⟩) hS (k G hn Q hQ hR _ _ ⟨E, _, rfl, hi.gd (hn ▸ hd) hx⟩)
 intro c a w h
 exact (hQ _ _ _ h).elim
end
end
end Go.AW
/- Part of the abstract walk: guards in open orders with loads of what nobody writes. -/
namespace Go.AW
open Go

section
variable {P : Program} {N : eC} {st : St} {ops : Array Oper} {d : Nat} {ty : TypeId} {pos : String} {af : Array Edge} {K : St → Prop} {L F' : List Nat} {n : Nat} {ag : Array Bool}
theorem Inv.le {G : Ctx} {E : Env} {RR : Own → List Nat} {a : Act} {aR : St} (hi : Inv G E RR st a) (h : Le st aR) : Inv G E RR aR a :=
 {hi with a9 := fun s x hx => hi.a9 s x (h.1 s x hx), aA := fun o x hx => hi.aA o x (h.2 o x hx) }
theorem bX.le {aR : St} (hl : Le st aR) (h : bX P N L F' ops n ag aR K) : bX P N L F' ops n ag st K := fun G hn E RR a T hT hi => h G hn E RR a T hT (hi.le hl)
theorem bX.split {b : Bool} (hx : look st.a9 d = some (.v (.bool b))) (ht : b = true → bX P N L F' ops n ag (st.put d (.v (.bool true))) K) (hf : b = false → bX P N L F' ops n ag (st.put d (.v (.bool false))) K) : bX P N L F' ops n ag st K := by
 have : Le st (st.put d (.v (.bool b))) := ⟨eD.cons hx (fun _ _ h => h), fun _ _ h => h⟩
 cases b
 ·exact (hf rfl).le this
 ·exact (ht rfl).le this
theorem bX.aE {p : Prop} {inst : Decidable p} (hx : look st.a9 d = some (.v (.bool (decide p)))) (ht : p → bX P N L F' ops n ag (st.put d (.v (.bool true))) K) (hf : ¬ p → bX P N L F' ops n ag (st.put d (.v (.bool false))) K) : bX P N L F' ops n ag st K :=
 bX.split hx (fun h => ht (of_decide_eq_true h)) (fun h => hf (of_decide_eq_false h))
theorem Inv.wanted {G : Ctx} {E : Env} {RR : Own → List Nat} {a : Act} {j dj : Nat} {want : Bool} {dst : Option Nat} {op : Op} (hi : Inv G E RR st a) (hj : (ops[j]?).bind (·.dst) = some dj) (qH : dj < G.fn.n) (hx : look st.a9 dj = some (.v (.bool want))) :
  Region.wanted ⟨dst, op, ty, pos, af, some (j, want)⟩ (yielded ops a.tmps) = true := by
 have hs := hi.a9 dj _ hx
 simp only [RX] at hs
 have fe : dj < a.tmps.size := by rw [hi.tmps]; exact qH
 have hv : a.tmps[dj]? = some (.bool want) := by
  have := hs.1
  simp only [Array.getD, fe, dif_pos] at this
  rw [Array.getElem?_eq_getElem fe]
  exact congrArg some this
 simp [Region.wanted, yielded, hj, hv]
theorem bX.bU (i : Nat) {op : Op} {j dj : Nat} {want : Bool} {u : Value} (ho : ops[i]? = some ⟨some d, op, ty, pos, af, some (j, want)⟩)
  (hB : (Region.noSelect ops && Region.free .any ops ag i && (Region.ready .any ops ag).contains i) = true)
  (hj : (ops[j]?).bind (·.dst) = some dj) (qH : dj < N.n) (hd : d < N.n) (hx : look st.a9 dj = some (.v u)) (e7 : qB want u = true)
  (k : bX P N L F' ops n (ag.setIfInBounds i true) (st.put d (.v undef)) K) : bX P N L F' ops (n + 1) ag st K := by
 intro G hn E RR a T hT hi
 simp only [Bool.and_eq_true] at hB
 have hw := kV (all := ops) (dst := some d) (op := op) (ty := ty) (pos := pos) (af := af) hi hj (hn ▸ qH) hx e7
 refine wpAnyH_take (v := undef) ho hB.1.1 hB.1.2 hB.2 ?_ (.inr ⟨hw, rfl⟩) (hi.Cx L T F') (k G hn E _ _ T ?_ (hi.gd (hn ▸ hd) (by simp [RX])))
 ·intro c a w h
  cases h.1
 ·intro o ho
  have := hT o ho
  simpa [fm] using this
theorem bX.eX (i : Nat) {op : Op} {x : X} {j dj : Nat} {want : Bool} (ho : ops[i]? = some ⟨some d, op, ty, pos, af, some (j, want)⟩)
  (hB : (Region.noSelect ops && Region.free .any ops ag i && (Region.ready .any ops ag).contains i) = true)
  (hj : (ops[j]?).bind (·.dst) = some dj) (qH : dj < N.n) (hx : look st.a9 dj = some (.v (.bool want))) (hy : ao P N st ⟨some d, op, ty, pos, af, some (j, want)⟩ x) (hd : d < N.n)
  (k : bX P N L F' ops n (ag.setIfInBounds i true) (st.put d x) K) : bX P N L F' ops (n + 1) ag st K := by
 intro G hn E RR a T hT hi
 obtain ⟨u, hr, gR⟩ := hy G E RR a hn hi
 simp only [Bool.and_eq_true] at hB
 refine wpAnyH_take (v := u) ho hB.1.1 hB.1.2 hB.2 ?_ (.inl ⟨hi.wanted hj (hn ▸ qH) hx, fun w _ => hr w⟩) (hi.Cx L T F') (k G hn E _ _ T ?_ (hi.gd (hn ▸ hd) gR))
 ·intro c a w h
  cases h.1
 ·intro o ho
  have := hT o ho
  simpa [fm] using this
theorem bX.tu (i : Nat) {t : TypeId} {x : Operand} {p y : X} {row : List X} {j dj : Nat} {want : Bool} (ho : ops[i]? = some ⟨some d, .load t x, ty, pos, af, some (j, want)⟩)
  (hB : (Region.noSelect ops && Region.free .any ops ag i && (Region.ready .any ops ag).contains i) = true)
  (hj : (ops[j]?).bind (·.dst) = some dj) (qH : dj < N.n) (hg : look st.a9 dj = some (.v (.bool want))) (ht : TY.shape P t = some none) (hx : bR st x = some p) (hL : s4 L p = true) (hr : rowAt st p = some row)
  (hy : row[ko p]? = some y) (hf : y.free = true) (hd : d < N.n)
  (k : bX P N L F' ops n (ag.setIfInBounds i true) (st.put d y) K) : bX P N L F' ops (n + 1) ag st K := by
 intro G hn E RR a T hT hi
 have IX := hi.wanted (ops := ops) (dst := some d) (op := .load t x) (ty := ty) (pos := pos) (af := af) hj (hn ▸ qH) hg
 obtain ⟨R, hp⟩ := hi.eval hx
 obtain ⟨b, off, hc, gf⟩ := hi.behind hp hr
 obtain ⟨b', qf, nN, mc⟩ := hi.held (F' := F') hT hp hr hL
 obtain ⟨rfl, rfl⟩ := oR (hc.symm.trans nN)
 have hk : ko p < row.length := by
  rcases Nat.lt_or_ge (ko p) row.length with h' | h'
  ·exact h'
  ·simp [List.getElem?_eq_none h'] at hy
 obtain ⟨vs, R', hl, hv, fh⟩ := gf (ko p) 1 om
 rw [getElem?_drop_take_one hy] at fh
 simp only [bz] at fh
 obtain ⟨c, dg, R₁, R₂, Bl, _, h1, ⟨rfl, rfl⟩, rfl⟩ := fh
 subst Bl
 have h0 := RX.free hf h1
 subst h0
 simp only [Bool.and_eq_true] at hB
 refine wpAnyH_take (v := c) ho hB.1.1 hB.1.2 hB.2 ?_ (.inl ⟨IX, fun w hw => ?_⟩) (hi.Cx L T F') (k G hn E _ _ T ?_ (hi.gd (hn ▸ hd) h1))
 ·intro c a w h
  cases h.1
 ·show (do let z ← Instr.loadAt t (a.eval x); pure (Next.value z) : Sem Next).run P w = _
  rw [hc]
  refine dI ?_
  have fE := hv 0 c rfl
  simp only [Instr.loadAt, Instr.sureAddr, loadVar, Sem.run_bind, Sem.run_pure, Result.andThen_ok, (TY.g5 ht w).1]
  simp only [Nat.add_zero] at fE
  rw [← mc w hw _ hk] at fE
  simp [fE]
 ·intro o ho
  have := hT o ho
  simpa [fm] using this
theorem ao.pick {c x y : Operand} {b : Bool} {z : X} {dst : Option Nat} {g : Option (Nat × Bool)} (hc : bR st c = some (.v (.bool b))) (hz : bR st (if b then x else y) = some z) (hf : z.free = true) : ao P N st ⟨dst, .pick c x y, ty, pos, af, g⟩ z := by
 intro G E RR a _ hi
 obtain ⟨R, h⟩ := hi.eval hz
 have := RX.free hf h
 subst this
 refine ⟨a.eval (if b then x else y), fun w => ?_, h⟩
 have nN := hi.val hc
 simp only [execOp, nN]
 cases b <;> rfl
theorem cN.le {aR : St} (hl : Le st aR) (h : cN P N ops n ag aR K) : cN P N ops n ag st K := fun G hn a w hh => h G hn a w (hl.holds hh)
theorem cN.split {b : Bool} (hx : look st.a9 d = some (.v (.bool b))) (ht : b = true → cN P N ops n ag (st.put d (.v (.bool true))) K) (hf : b = false → cN P N ops n ag (st.put d (.v (.bool false))) K) : cN P N ops n ag st K := by
 have : Le st (st.put d (.v (.bool b))) := ⟨eD.cons hx (fun _ _ h => h), fun _ _ h => h⟩
 cases b
 ·exact (hf rfl).le this
 ·exact (ht rfl).le this
theorem cN.aE {p : Prop} {inst : Decidable p} (hx : look st.a9 d = some (.v (.bool (decide p)))) (ht : p → cN P N ops n ag (st.put d (.v (.bool true))) K) (hf : ¬ p → cN P N ops n ag (st.put d (.v (.bool false))) K) : cN P N ops n ag st K :=
 cN.split hx (fun h => ht (of_decide_eq_true h)) (fun h => hf (of_decide_eq_false h))
theorem cN.bU (i : Nat) {op : Op} {j dj : Nat} {want : Bool} {u : Value} (ho : ops[i]? = some ⟨some d, op, ty, pos, af, some (j, want)⟩)
  (hB : (Region.noSelect ops && Region.free .any ops ag i && (Region.ready .any ops ag).contains i) = true)
  (hj : (ops[j]?).bind (·.dst) = some dj) (qH : dj < N.n) (hd : d < N.n) (hx : look st.a9 dj = some (.v u)) (e7 : qB want u = true)
  (k : cN P N ops n (ag.setIfInBounds i true) (st.put d (.v undef)) K) : cN P N ops (n + 1) ag st K := by
 intro G hn a w hh
 have hS := hh.sg
 obtain ⟨E, RR, rfl, hi⟩ := hh
 simp only [Bool.and_eq_true] at hB
 have hw := kV (all := ops) (dst := some d) (op := op) (ty := ty) (pos := pos) (af := af) hi hj (hn ▸ qH) hx e7
 refine wpAnyH_take (v := undef) ho hB.1.1 hB.1.2 hB.2 ?_ (.inr ⟨hw, rfl⟩) hS (k G hn _ _ ⟨E, _, rfl, hi.gd (hn ▸ hd) (by simp [RX])⟩)
 intro c a w h
 cases h.1
theorem cN.eX (i : Nat) {op : Op} {x : X} {j dj : Nat} {want : Bool} (ho : ops[i]? = some ⟨some d, op, ty, pos, af, some (j, want)⟩)
  (hB : (Region.noSelect ops && Region.free .any ops ag i && (Region.ready .any ops ag).contains i) = true)
  (hj : (ops[j]?).bind (·.dst) = some dj) (qH : dj < N.n) (hx : look st.a9 dj = some (.v (.bool want))) (hy : ao P N st ⟨some d, op, ty, pos, af, some (j, want)⟩ x) (hd : d < N.n)
  (k : cN P N ops n (ag.setIfInBounds i true) (st.put d x) K) : cN P N ops (n + 1) ag st K := by
 intro G hn a w hh
 have hS := hh.sg
 obtain ⟨E, RR, rfl, hi⟩ := hh
 obtain ⟨u, hr, gR⟩ := hy G E RR a hn hi
 simp only [Bool.and_eq_true] at hB
 refine wpAnyH_take (v := u) ho hB.1.1 hB.1.2 hB.2 ?_ (.inl ⟨hi.wanted hj (hn ▸ qH) hx, fun w _ => hr w⟩) hS (k G hn _ _ ⟨E, _, rfl, hi.gd (hn ▸ hd) gR⟩)
 intro c a w h
 cases h.1
end
end Go.AW
/- Part of the abstract walk: what is carried out everywhere is carried out in a round of a range sN a function too. -/
namespace Go.AW
open Go

def FR (ro : Option Nat) : Fence := { Fence.wide with round := ro }
def jv (o : Oper) : Bool := match o.op with | .defer _ => false | _ => true
theorem wc {o : Oper} (h : jv o = true) : ∀ c, o.op ≠ .defer c := fun c e => by simp [jv, e] at h
section
variable {P : Program} {Q : Exit → Act → World → Prop} {a : Act} {w : World} {ro : Option Nat} {o : Oper} {next : Act → World → Prop}
theorem rz {f : FuncId} {args : Array Value} {R : Ending → World → Prop} {n : Nat} (h : Calls P f args w R) : CallsIn (FR ro) n P f args w R := (callsIn_wide (n := n)).2 h
theorem CA {row : String} {args : Array Value} {R : Value → World → Prop} {n : Nat} (h : Rows P row args w R) : RowsIn (FR ro) n P row args w R :=
 fun c cs _ => let ⟨v, w', r, s⟩ := h c cs; ⟨v, w', r, stepsIn_wide.2 s⟩
theorem CB {r : Result Next} (h : o.upon P a next Q r) : o.uponIn (FR ro) 0 P a next Q r := by
 cases r with
 | ok x w' =>
  cases x
  case value v => exact h
  case skip => exact h
  case defer d => exact h
  case enter f args => exact ⟨fun h => by simp [FR, Fence.wide] at h, rz h⟩
  case row row args => exact ⟨fun h => by simp [FR, Fence.wide] at h, CA h⟩
  all_goals exact (show False from h).elim
 | halt x w' =>
  cases x
  case panic v => exact h
  all_goals exact (show False from h).elim
theorem Ao (hd : jv o = true) (h : o.wp P a w next Q) : o.wpIn (FR ro) 0 P a w next Q := by
 refine ⟨fun _ _ => trivial, ?_⟩
 rw [Oper.semAt_eq _ _ _ (wc hd)]
 exact CB h
theorem pG {ops : Array Oper} (hQ : ¬ LetsOut Q) : ∀ {l : List Oper} {a : Act} {w : World}, l.all jv = true → wpList P ops Q l a w → wpListIn (FR ro) 0 P ops Q l a w
 | [], _, _, _, h => h
 | o :: rest, a, w, hd, h => by
  simp only [List.all_cons, Bool.and_eq_true] at hd
  unfold wpList at h
  unfold wpListIn
  split at h
  ·rename_i hw
   rw [if_pos hw]
   rcases h with h | h
   ·exact Oper.wpIn_mono (fun _ _ h => pG hQ hd.2 h) (Ao hd.1 h)
   ·exact absurd h.2 hQ
  ·rename_i hw
   rw [if_neg hw]
   exact ⟨fun _ _ => trivial, pG hQ hd.2 h⟩
theorem oS {ops : Array Oper} (hQ : ¬ LetsOut Q) (hd : ops.toList.all jv = true) : ∀ {l : List Nat} {a : Act} {w : World}, wpOps P ops Q l a w → wpOpsIn (FR ro) 0 P ops Q l a w
 | [], _, _, h => h
 | i :: rest, a, w, h => by
  unfold wpOps at h
  unfold wpOpsIn
  cases ho : ops[i]? with
  | none => rw [ho] at h; exact oS hQ hd h
  | some o =>
   rw [ho] at h
   simp only at h ⊢
   have Kc : jv o = true := List.all_eq_true.1 hd o (Array.mem_toList_iff.2 (Array.mem_of_getElem? ho))
   split at h
   ·rename_i hw
    rw [if_pos hw]
    rcases h with h | h
    ·exact Oper.wpIn_mono (fun _ _ h => oS hQ hd h) (Ao Kc h)
    ·exact absurd h.2 hQ
   ·rename_i hw
    rw [if_neg hw]
    exact ⟨fun _ _ => trivial, oS hQ hd h⟩
theorem yt {id : Nat} {l : List Oper} (hQ : ¬ LetsOut Q) (hd : l.all jv = true) (h : wpList P l.toArray Q l a w) : (Code.region id l.toArray false).wpIn (FR ro) 0 P Q a w :=
 wpIn_region_lit (pG hQ hd h)
theorem kg {id : Nat} {ops : Array Oper} (hm : P.follows .mixedOrders = true) (hQ : ¬ LetsOut Q) (hd : ops.toList.all jv = true) (h : wpAny P .any ops Q ops.size (Array.replicate ops.size false) a { w with drawn := w.drawn + 1 }) :
  (Code.region id ops true).wpIn (FR ro) 0 P Q a w :=
 wpIn_region_draw fun t => by
  simp only [Region.schedule, hm, Bool.true_or, if_true]
  exact oS hQ hd (wpAny_sound ops.size t _ a _ h)
theorem tx {c : Code} : c.wpIn (FR none) 0 P Q a w ↔ c.wp P Q a w := wpIn_wide
end

def yu (K : St → Prop) : Exit → St → Prop
 | .normal, st => K st
 | _, _ => False
def Ctx.to (G : Ctx) (w : World) : Ctx := { G with w0 := w }
theorem ct.we {G : Ctx} {st : St} {a : Act} {w w' : World} {S : Nat → Prop} (h : ct G st a w) (hS : ∀ b, S b → G.K b ∧ ∀ i, G.φ0 b i = none) (fe : w.heap.size ≤ w'.heap.size)
  (hw : ∀ b, b < w.heap.size → ¬ S b → w'.heap[b]? = w.heap[b]?) : ct (G.to w') st a w' := by
 obtain ⟨E, RR, rfl, hi⟩ := h
 have Gv : ∀ b i, S b → E.φ b i = none := fun b i hb => by
  cases he : E.φ b i with
  | none => rfl
  | some v =>
   rcases hi.grow b i v he with h1 | h1
   ·rw [(hS b hb).2 i] at h1; cases h1
   ·exact absurd (hS b hb).1 h1
 have fE : ∀ b i v, E.φ b i = some v → w'.cell? ⟨b, i, none⟩ = some v := fun b i v hv => by
  have h1 := hi.ku b i v hv
  have hb : b < E.w.heap.size := by
   rcases Nat.lt_or_ge b E.w.heap.size with h2 | h2
   ·exact h2
   ·unfold World.cell? at h1
    rw [Array.getElem?_eq_none h2] at h1; cases h1
  unfold World.cell? at h1 ⊢
  rw [hw b hb (fun h2 => by rw [Gv b i h2] at hv; cases hv)]; exact h1
 have l8 : ∀ p b, b ∈ RR p → w'.heap[b]? = E.w.heap[b]? := fun p b hb => hw b (hi.own p b hb).1 (fun h2 => (hi.own p b hb).2 (hS b h2).1)
 have ga : ∀ p, E.On { E with w := w' } (RR p) := fun p => ⟨fun _ _ _ h => h, fun c hc => ⟨l8 p c hc, fun h i => h i⟩⟩
 refine ⟨{ E with w := w' }, RR, rfl, ?_⟩
 constructor
 case ku => exact fE
 case a9 => exact fun s x hx => RX.mono x _ _ (ga _) (fun _ _ => rfl) (hi.a9 s x hx)
 case aA => exact fun o ob cA => dA.mono (ga _) rfl (fun _ _ _ _ => rfl) (hi.aA o ob cA)
 case nodup => exact hi.nodup
 case apart => exact hi.apart
 case own => exact fun p b hb => ⟨Nat.lt_of_lt_of_le (hi.own p b hb).1 fe, (hi.own p b hb).2⟩
 case ai => exact fun _ _ => rfl
 case size => exact Nat.le_refl _
 case small => exact fun b hb => Nat.lt_of_lt_of_le (Nat.lt_of_lt_of_le (hi.small b hb) hi.size) fe
 case os => rfl
 case tape => rfl
 case output => rfl
 case φ0 => exact hi.φ0
 case grow => exact hi.grow
 case fixed => exact hi.fixed
 case tmps => exact hi.tmps
 case defers => exact hi.defers
end Go.AW
/- Part of the abstract walk: iterators. A function that calls yield for the elements of a list, one by one; what the rounds do is the caller's affair. -/
namespace Go.AW
open Go

abbrev yv := List (Int × Int)
abbrev oh := yv × St
structure Kp (S : Nat → Prop) (W W' : World) : Prop where
 size : W.heap.size ≤ W'.heap.size
 same : ∀ b, b < W.heap.size → ¬ S b → W'.heap[b]? = W.heap[b]?
 os : W'.os = W.os
 tape : W'.tape = W.tape
 output : W'.output = W.output
theorem Kp.refl (S : Nat → Prop) (W : World) : Kp S W W := ⟨Nat.le_refl _, fun _ _ _ => rfl, rfl, rfl, rfl⟩
theorem Kp.trans {S : Nat → Prop} {A B C : World} (h : Kp S A B) (k : Kp S B C) : Kp S A C :=
 ⟨Nat.le_trans h.size k.size, fun b hb hs => (k.same b (Nat.lt_of_lt_of_le hb h.size) hs).trans (h.same b hb hs), k.os.trans h.os, k.tape.trans h.tape, k.output.trans h.output⟩
structure qk (P : Program) where
 l : Nat
 n1 : Nat
 S : Nat → Prop
 J : yv → World → Prop
 Good : Int × Int → Prop
 Fi : ∀ i W W', J i W → W.heap.size ≤ W'.heap.size → (∀ b, b < n1 → W'.heap[b]? = W.heap[b]?) → J i W'
 yield : ∀ i x W, J i W → Good x → n1 ≤ W.heap.size → YieldAt (FR none) 0 P l #[.int .i64 x.1, .int .i64 x.2] W (fun e W' => e = .returned (.bool true) ∧ J (i ++ [x]) W' ∧ Kp S W W')
 lt : ∀ b, S b → b < n1
abbrev qk.v {P : Program} (Y : qk P) : X := .v (.func (.yield Y.l) #[] #[])
def iO (P : Program) (f : FuncId) (args : List X) (g : yv) : Prop :=
 ∀ (Y : qk P) (i : yv) (E : Env) (cF : List Value), Y.J i E.w → Y.n1 ≤ E.w.heap.size → (∀ x ∈ g, Y.Good x) → dZ E args cF [] → (∀ b k v, E.φ b k = some v → E.w.cell? ⟨b, k, none⟩ = some v) → (∀ b k, Y.S b → E.φ b k = none) →
  Calls P f (#[.func (.yield Y.l) #[] #[]] ++ cF.toArray) E.w (fun e W' => ∃ v, e = .returned v ∧ Y.J (i ++ g) W' ∧ Kp Y.S E.w W')

structure Gw {P : Program} (Y : qk P) (G : Ctx) : Prop where
 DV : ∀ b, b < G.w0.heap.size → G.K b
 n1 : Y.n1 ≤ G.w0.heap.size
 φ : ∀ b i, Y.S b → G.φ0 b i = none
structure HI {P : Program} (Y : qk P) (G : Ctx) (s : oh) (a : Act) (w : World) : Prop where
 j : Y.J s.1 w
 h : ct (G.to w) s.2 a w
 kp : Kp Y.S G.w0 w
def aF (P : Program) (Y : qk P) (N : eC) (c : Code) (s : oh) (Q : Exit → oh → Prop) : Prop :=
 ∀ G : Ctx, G.fn = N → Gw Y G → ∀ a w, HI Y G s a w → c.wp P (fun e a w => ∃ s', HI Y G s' a w ∧ Q e s') a w
def aQ (P : Program) (Y : qk P) (N : eC) (all : Array Oper) (rest : List Oper) (s : oh) (Q : Exit → oh → Prop) : Prop :=
 ∀ G : Ctx, G.fn = N → Gw Y G → ∀ a w, HI Y G s a w → wpListIn (FR none) 0 P all (fun e a w => ∃ s', HI Y G s' a w ∧ Q e s') rest a w
def ml (K : oh → Prop) (Q : Exit → oh → Prop) : Exit → oh → Prop
 | .normal, st => K st
 | e, st => Q e st
def uE (id : Nat) (Q : Exit → oh → Prop) : Exit → oh → Prop
 | .exit id', st => bif Nat.beq id' id then Q .normal st else Q (.exit id') st
 | e, st => Q e st
def tz (s s' : oh) : Prop := s.1 = s'.1 ∧ Le s.2 s'.2

section
variable {P : Program} {Y : qk P} {N : eC} {s : oh} {Q Q' : Exit → oh → Prop} {i : yv} {st aR : St} {id : Nat} {x y c : Code}
theorem HI.le {G : Ctx} {s s' : oh} {a : Act} {w : World} (hl : tz s s') (h : HI Y G s a w) : HI Y G s' a w := ⟨hl.1 ▸ h.j, hl.2.holds h.h, h.kp⟩
theorem HI.step {G : Ctx} (hG : Gw Y G) {a a' : Act} {w w' : World} (h : HI Y G (i, st) a w) (h' : ct (G.to w) aR a' w') : HI Y G (i, aR) a' w' := by
 have hr : ct (G.to w') aR a' w' := ct.we (G := G.to w) (S := fun _ => False) h' (fun _ h => h.elim) (Nat.le_refl _) (fun _ _ _ => rfl)
 obtain ⟨E, RR, rfl, hi⟩ := h'
 have fe : w.heap.size ≤ E.w.heap.size := hi.size
 have hold : ∀ b, b < G.w0.heap.size → E.w.heap[b]? = w.heap[b]? := fun b hb => hi.ai b (hG.DV b hb)
 exact ⟨Y.Fi i w E.w h.j fe (fun b hb => hold b (Nat.lt_of_lt_of_le hb hG.n1)), hr, Nat.le_trans h.kp.size fe, fun b hb hs => (hold b hb).trans (h.kp.same b hb hs), hi.os.trans h.kp.os, hi.tape.trans h.kp.tape, hi.output.trans h.kp.output⟩
theorem HI.Jg {G : Ctx} (hG : Gw Y G) {a : Act} {w w' : World} {i' : yv} (h : HI Y G (i, st) a w) (hj : Y.J i' w') (hk : Kp Y.S w w') : HI Y G (i', st) a w' :=
 ⟨hj, ct.we (G := G.to w) (S := Y.S) h.h (fun b hb => ⟨hG.DV b (Nat.lt_of_lt_of_le (Y.lt b hb) hG.n1), fun k => hG.φ b k hb⟩) hk.size hk.same,
  Nat.le_trans h.kp.size hk.size, fun b hb hs => (hk.same b (Nat.lt_of_lt_of_le hb h.kp.size) hs).trans (h.kp.same b hb hs), hk.os.trans h.kp.os, hk.tape.trans h.kp.tape, hk.output.trans h.kp.output⟩
theorem HI.n1 {G : Ctx} (hG : Gw Y G) {a : Act} {w : World} (h : HI Y G s a w) : Y.n1 ≤ w.heap.size := Nat.le_trans hG.n1 h.kp.size

theorem aF.of (h : dn P N c st (fun e aR => Q e (i, aR))) : aF P Y N c (i, st) Q := by
 intro G hn hG a w hh
 refine wp_mono (h (G.to w) hn a w hh.h) ?_
 rintro e a' w' ⟨aR, h', hq⟩
 exact ⟨_, hh.step hG h', hq⟩
theorem aF.le {s' : oh} (hl : tz s s') (h : aF P Y N c s' Q) : aF P Y N c s Q := fun G hn hG a w hh => h G hn hG a w (hh.le hl)
theorem aF.sh (h : Sh N st aR) (k : aF P Y N c (i, aR) Q) : aF P Y N c (i, st) Q := fun G hn hG a w hh => k G hn hG a w ⟨hh.j, h (G.to w) hn a w hh.h, hh.kp⟩
theorem aF.mono (h : aF P Y N c s Q) (hq : ∀ e s, Q e s → Q' e s) : aF P Y N c s Q' := fun G hn hG a w hh => wp_mono (h G hn hG a w hh) fun _ _ _ ⟨s', h', xw⟩ => ⟨s', h', hq _ _ xw⟩
theorem aF.skip (h : Q .normal s) : aF P Y N .skip s Q := fun _ _ _ _ _ hh => wp_skip ⟨s, hh, h⟩
theorem aF.exit (h : Q (.exit id) s) : aF P Y N (.exit id) s Q := fun _ _ _ _ _ hh => wp_exit ⟨s, hh, h⟩
theorem aF.ret (h : Q .ret s) : aF P Y N .ret s Q := fun _ _ _ _ _ hh => wp_ret ⟨s, hh, h⟩
theorem aF.seq (h : aF P Y N x s (ml (fun s' => aF P Y N y s' Q) Q)) : aF P Y N (.seq x y) s Q := by
 intro G hn hG a w hh
 refine wp_seq (wp_mono (h G hn hG a w hh) ?_)
 rintro e a' w' ⟨s', gy, hq⟩
 cases e <;> first | exact hq G hn hG a' w' gy | exact ⟨s', gy, hq⟩
theorem aF.block (h : aF P Y N c s (uE id Q)) : aF P Y N (.block id c) s Q := by
 intro G hn hG a w hh
 refine wp_block (wp_mono (h G hn hG a w hh) ?_)
 rintro e a' w' ⟨s', gy, hq⟩
 cases e with
 | exit id' =>
  simp only [uE] at hq
  simp only [Exit.inBlock]
  cases hb : Nat.beq id' id with
  | true =>
   rw [hb] at hq
   rw [if_pos (Nat.eq_of_beq_eq_true hb)]
   exact ⟨s', gy, hq⟩
  | false =>
   rw [hb] at hq
   rw [if_neg (Nat.ne_of_beq_eq_false hb)]
   exact ⟨s', gy, hq⟩
 | _ => exact ⟨s', gy, hq⟩
theorem aF.cond {o : Operand} {b : Bool} (hc : bR s.2 o = some (.v (.bool b))) (ht : b = true → aF P Y N x s Q) (hf : b = false → aF P Y N y s Q) : aF P Y N (.cond o x y) s Q := by
 intro G hn hG a w hh
 obtain ⟨E, RR, rfl, hi⟩ := hh.h
 exact wp_cond_split (hi.val hc) (fun h => ht h G hn hG a E.w hh) (fun h => hf h G hn hG a E.w hh)
theorem aF.aB {o : Operand} {p : Prop} {inst : Decidable p} (hc : bR s.2 o = some (.v (.bool (decide p)))) (ht : p → aF P Y N x s Q) (hf : ¬ p → aF P Y N y s Q) : aF P Y N (.cond o x y) s Q :=
 aF.cond hc (fun h => ht (of_decide_eq_true h)) (fun h => hf (of_decide_eq_false h))
theorem aF.aV {o : Operand} (hc : bR s.2 o = some (.v (.bool true))) (h : aF P Y N x s Q) : aF P Y N (.cond o x y) s Q := aF.cond hc (fun _ => h) (fun h => by cases h)
theorem aF.cX {o : Operand} (hc : bR s.2 o = some (.v (.bool false))) (h : aF P Y N y s Q) : aF P Y N (.cond o x y) s Q := aF.cond hc (fun h => by cases h) (fun _ => h)
theorem aF.wM {d : Nat} {b : Bool} (hc : look st.a9 d = some (.v (.bool b))) (ht : b = true → aF P Y N x (i, st.put d (.v (.bool true))) Q) (hf : b = false → aF P Y N y (i, st.put d (.v (.bool false))) Q) : aF P Y N (.cond (.tmp d) x y) (i, st) Q := by
 refine aF.cond (s := (i, st)) (b := b) hc (fun h => ?_) (fun h => ?_)
 ·subst h; exact aF.le (s := (i, st)) (s' := (i, st.put d (.v (.bool true)))) ⟨rfl, Le.test hc⟩ (ht rfl)
 ·subst h; exact aF.le (s := (i, st)) (s' := (i, st.put d (.v (.bool false)))) ⟨rfl, Le.test hc⟩ (hf rfl)
theorem aF.bD {d : Nat} {p : Prop} {inst : Decidable p} (hc : look st.a9 d = some (.v (.bool (decide p)))) (ht : p → aF P Y N x (i, st.put d (.v (.bool true))) Q) (hf : ¬ p → aF P Y N y (i, st.put d (.v (.bool false))) Q) : aF P Y N (.cond (.tmp d) x y) (i, st) Q :=
 aF.wM hc (fun h => ht (of_decide_eq_true h)) (fun h => hf (of_decide_eq_false h))
theorem aF.loop {ι : Type} (S : ι → oh) (I : ι → Prop) (μ : ι → Nat) (i0 : ι) (hi : I i0) (hs : tz s (S i0)) (round : ∀ i, I i → aF P Y N c (S i) (ml (fun s' => ∃ j, I j ∧ μ j < μ i ∧ tz s' (S j)) Q)) : aF P Y N (.loop c) s Q := by
 intro G hn hG a w hh
 refine qz (fun i a w => I i ∧ HI Y G (S i) a w) μ ?_ ⟨hi, hh.le hs⟩
 rintro i a w ⟨hI, hh⟩
 refine wp_mono (round i hI G hn hG a w hh) ?_
 rintro e a' w' ⟨s', gy, hq⟩
 cases e with
 | normal => obtain ⟨j, hj, iv, hle⟩ := hq; exact ⟨j, ⟨hj, gy.le hle⟩, iv⟩
 | _ => exact ⟨s', gy, hq⟩
theorem aF.join {ι : Type} (J : ι → oh) (I : ι → Prop) (hx : aF P Y N x s (ml (fun aR => ∃ i, I i ∧ tz aR (J i)) Q)) (hy : ∀ i, I i → aF P Y N y (J i) Q) : aF P Y N (.seq x y) s Q := by
 refine aF.seq (hx.mono ?_)
 intro e x8 h
 cases e with
 | normal => obtain ⟨i, hI, hle⟩ := h; exact (hy i hI).le hle
 | _ => exact h
theorem aF.region {l : List Oper} (h : aL P N l.toArray l st (g0 (fun aR => Q .normal (i, aR)) (fun e aR => Q e (i, aR)))) : aF P Y N (.region id l.toArray false) (i, st) Q :=
 aF.of ((dn.region h).mono fun e st h => by cases e <;> exact h)
theorem aF.sr {l : List Oper} (h : aL P N l.toArray l st (g0 (fun aR => aF P Y N y (i, aR) Q) (fun e aR => Q e (i, aR)))) : aF P Y N (.seq (.region id l.toArray false) y) (i, st) Q :=
 aF.seq (aF.of ((dn.region h).mono fun e st h => by cases e <;> exact h))
theorem aF.lR {l : List Oper} (h : aQ P Y N l.toArray l s Q) : aF P Y N (.region id l.toArray false) s Q := fun G hn hG a w hh => tx.1 (wpIn_region_lit (h G hn hG a w hh))
end
end Go.AW
/- Part of the abstract walk: iterators: calls of yield, helpers, contracts. -/
namespace Go.AW
open Go

theorem Ap {P : Program} {o : Oper} {Q1 Q2 : Exit → Act → World → Prop} {K1 K2 : Act → World → Prop} {a : Act} {w : World} (hQ : ∀ e a w, e ≠ .normal → Q1 e a w → False) (hK : ∀ a w, K1 a w → K2 a w) (h : o.wp P a w K1 Q1) : o.wp P a w K2 Q2 := by
 unfold Oper.wp at *
 generalize (execOp a.eval o).run P w = r at *
 cases r with
 | ok nx w' =>
  cases nx <;> simp only [Oper.upon] at h ⊢ <;> first
   | exact hK _ _ h
   | exact Calls.mono h (fun e Om he => by
     cases e with
     | returned u => exact hK _ _ he
     | panicked c => exact (hQ _ _ _ (by simp) he).elim
     | outgrown => exact (let ⟨_, _, h'⟩ := he; hQ _ _ _ (by simp) h').elim)
   | exact Rows.mono h (fun _ _ he => hK _ _ he)
 | halt x w' => cases x <;> simp only [Oper.upon] at h ⊢ <;> first | exact (hQ _ _ _ (by simp) h).elim | exact (let ⟨_, _, h'⟩ := h; hQ _ _ _ (by simp) h').elim | exact h

theorem X.s8 : ∀ {xs : List X} {k : Nat} {x : X}, X.bC xs = true → xs[k]? = some x → x.free = true
 | [], _, _, _, h => by simp at h
 | y :: r, 0, x, hf, h => by
  simp only [X.bC, Bool.and_eq_true] at hf
  simp only [List.getElem?_cons_zero, Option.some.injEq] at h
  subst h; exact hf.1
 | y :: r, k + 1, x, hf, h => by
  simp only [X.bC, Bool.and_eq_true] at hf
  simp only [List.getElem?_cons_succ] at h
  exact X.s8 hf.2 h
section
variable {P : Program} {Y : qk P} {N : eC} {s : oh} {Q : Exit → oh → Prop} {i : yv} {st : St} {all : Array Oper} {rest : List Oper} {o : Oper} {d : Nat} {ty : TypeId} {pos : String} {af : Array Edge}
theorem aQ.nil (h : Q .normal s) : aQ P Y N all [] s Q := fun _ _ _ _ _ hh => ⟨s, hh, h⟩
theorem aQ.op (h : aL P N all [o] st (yu (fun aR => aQ P Y N all rest (i, aR) Q))) (hd : jv o = true := by rfl) : aQ P Y N all (o :: rest) (i, st) Q := by
 intro G hn hG a w hh
 have h1 := h (G.to w) hn a w hh.h
 have hk : ∀ a' w', mq (G.to w) (yu (fun aR => aQ P Y N all rest (i, aR) Q)) .normal a' w' → wpListIn (FR none) 0 P all (fun e a w => ∃ s', HI Y G s' a w ∧ Q e s') rest a' w' := by
  rintro a' w' ⟨aR, h', hq⟩
  exact hq G hn hG a' w' (hh.step hG h')
 have OG : ∀ e a' w', e ≠ .normal → mq (G.to w) (yu (fun aR => aQ P Y N all rest (i, aR) Q)) e a' w' → False := by
  rintro e a' w' he ⟨aR, _, hq⟩
  cases e <;> first | exact he rfl | exact hq
 unfold wpList at h1
 unfold wpListIn
 split at h1
 ·rename_i hw
  rw [if_pos hw]
  rcases h1 with h1 | ⟨_, _, _, h2⟩
  ·exact Ao hd (Ap OG hk h1)
  ·exact (OG _ _ _ (by simp) h2).elim
 ·rename_i hw
  rw [if_neg hw]
  exact ⟨fun _ _ => trivial, hk _ _ h1⟩
theorem aQ.le {s' : oh} (hl : tz s s') (h : aQ P Y N all rest s' Q) : aQ P Y N all rest s Q := fun G hn hG a w hh => h G hn hG a w (hh.le hl)
theorem aQ.split {b : Bool} (hx : look st.a9 d = some (.v (.bool b))) (ht : b = true → aQ P Y N all rest (i, st.put d (.v (.bool true))) Q) (hf : b = false → aQ P Y N all rest (i, st.put d (.v (.bool false))) Q) : aQ P Y N all rest (i, st) Q := by
 cases b
 ·exact aQ.le (s := (i, st)) (s' := (i, st.put d (.v (.bool false)))) ⟨rfl, Le.test hx⟩ (hf rfl)
 ·exact aQ.le (s := (i, st)) (s' := (i, st.put d (.v (.bool true)))) ⟨rfl, Le.test hx⟩ (ht rfl)
theorem aQ.aE {p : Prop} {inst : Decidable p} (hx : look st.a9 d = some (.v (.bool (decide p)))) (ht : p → aQ P Y N all rest (i, st.put d (.v (.bool true))) Q) (hf : ¬ p → aQ P Y N all rest (i, st.put d (.v (.bool false))) Q) : aQ P Y N all rest (i, st) Q :=
 aQ.split hx (fun h => ht (of_decide_eq_true h)) (fun h => hf (of_decide_eq_false h))
theorem aQ.aO {dst : Option Nat} {op : Op} {j : Nat} {want : Bool} (hj : (all[j]?).bind (·.dst) = some d) (hd : d < N.n) (hx : look st.a9 d = some (.v (.bool want)))
  (k : aQ P Y N all (⟨dst, op, ty, pos, af, none⟩ :: rest) (i, st) Q) : aQ P Y N all (⟨dst, op, ty, pos, af, some (j, want)⟩ :: rest) (i, st) Q := by
 intro G hn hG a w hh
 have hk := k G hn hG a w hh
 obtain ⟨E, RR, rfl, hi⟩ := hh.h
 have hw := hi.wanted (ops := all) (dst := dst) (op := op) (ty := ty) (pos := pos) (af := af) hj (by show d < (G.to E.w).fn.n; rw [show (G.to E.w).fn = N from hn]; exact hd) hx
 unfold wpListIn at hk ⊢
 rw [if_pos hw]
 rw [if_pos (by simp [Region.wanted])] at hk
 exact hk
theorem s9 {x : Operand} {cx : Array Operand} {mA : Array TypeId} {a : Act} {w : World} {f : Fn} {cc : Array Value} {dst : Option Nat} {g : Option (Nat × Bool)} (hx : a.eval x = .func f #[] cc) :
  (execOp a.eval ⟨dst, .call ⟨.value x, cx, mA⟩, ty, pos, af, g⟩).run P w = (invoke (.fn f cc) (#[] ++ cx.map a.eval)).run P w := by
 have e : (execOp a.eval ⟨dst, .call ⟨.value x, cx, mA⟩, ty, pos, af, g⟩).run P w = (do let d ← Deferred.ofValue (a.eval x) (cx.map a.eval); invoke d.target d.args : Sem Next).run P w := rfl
 rw [e, hx]; rfl
theorem aQ.yield {x : Operand} {cx : Array Operand} {mA : Array TypeId} {p q : Int} (hx : bR st x = some Y.v) (fh : jG st cx.toList = some [.v (.int .i64 p), .v (.int .i64 q)]) (hg : Y.Good (p, q)) (hd : d < N.n)
  (k : aQ P Y N all rest (i ++ [(p, q)], st.put d (.v (.bool true))) Q) : aQ P Y N all (⟨some d, .call ⟨.value x, cx, mA⟩, ty, pos, af, none⟩ :: rest) (i, st) Q := by
 intro G hn hG a w hh
 have DP := hh.n1 hG
 obtain ⟨E, RR, rfl, hi⟩ := hh.h
 have hv := hi.val hx
 obtain ⟨vr, CR⟩ := o4 hi fh
 have dM : cx.map a.eval = #[.int .i64 p, .int .i64 q] := by
  obtain ⟨o1, CC, R1, ph⟩ := CR 0 _ rfl
  obtain ⟨o2, Fj, R2, tS⟩ := CR 1 _ rfl
  simp only [RX] at ph tS
  have hl : cx.toList.length = 2 := vr.symm
  apply Array.ext'
  rw [Array.toList_map]
  match hm : cx.toList, hl with
  | [u1, u2], _ =>
   rw [hm] at CC Fj
   simp only [List.getElem?_cons_zero, List.getElem?_cons_succ, Option.some.injEq] at CC Fj
   subst CC; subst Fj
   simp [ph.1, tS.1]
 obtain ⟨fn, tmps, assign, body, hy, hR⟩ := Y.yield i (p, q) E.w hh.j hg DP
 have g7 : (execOp a.eval ⟨some d, .call ⟨.value x, cx, mA⟩, ty, pos, af, none⟩).run P E.w = .ok (.round Y.l fn tmps assign body) E.w := by
  rw [s9 hv, dM]; exact hy
 refine wpListIn_plain rfl fun K hK => ?_
 refine ⟨fun _ _ => trivial, ?_⟩
 rw [show (FR none).round = none from rfl, Oper.semAt_none, g7]
 refine ⟨fun h => by simp [FR, Fence.wide] at h, hR.mono ?_⟩
 rintro e W' ⟨rfl, hj, hk⟩
 refine hK _ _ (k G hn hG _ _ ?_)
 have ht := HI.Jg hG hh hj hk
 obtain ⟨E', eU, rfl, gQ⟩ := ht.h
 exact ⟨ht.j, ⟨E', _, rfl, gQ.gd (by show d < (G.to E'.w).fn.n; rw [show (G.to E'.w).fn = N from hn]; exact hd) (by simp [RX])⟩, ht.kp⟩
theorem aQ.Fk {f : FuncId} {g : yv} {x y : Operand} {mA : Array TypeId} {kC : List X} (hx : bR st x = some (.gl (.func f) [] kC)) (jf : aU P f = true) (eW : iO P f kC g) (hy : bR st y = some Y.v) (hg : ∀ e ∈ g, Y.Good e) (hd : d < N.n)
  (k : aQ P Y N all rest (i ++ g, st.put d .no) Q) : aQ P Y N all (⟨some d, .call ⟨.value x, #[y], mA⟩, ty, pos, af, none⟩ :: rest) (i, st) Q := by
 intro G hn hG a w hh
 have DP := hh.n1 hG
 obtain ⟨E, RR, rfl, hi⟩ := hh.h
 have hv := hi.val hy
 obtain ⟨Rx, Bo⟩ := hi.eval hx
 simp only [RX] at Bo
 obtain ⟨_, ff, cc, Lc, CV, Gf⟩ := Bo
 simp only [dZ] at CV
 have zr : ff = #[] := by
  have := CV.1
  cases ff; simp_all
 subst zr
 have hφ : ∀ b k, Y.S b → E.φ b k = none := fun b k hb => by
  cases he : E.φ b k with
  | none => rfl
  | some v =>
   rcases hi.grow b k v he with h1 | h1
   ·rw [show (G.to E.w).φ0 b k = G.φ0 b k from rfl, hG.φ b k hb] at h1; cases h1
   ·exact absurd (hG.DV b (Nat.lt_of_lt_of_le (Y.lt b hb) hG.n1)) h1
 have hc := eW Y i E cc.toList hh.j DP hg Gf hi.ku hφ
 have g7 : (execOp a.eval ⟨some d, .call ⟨.value x, #[y], mA⟩, ty, pos, af, none⟩).run P E.w = .ok (.enter f (#[.func (.yield Y.l) #[] #[]] ++ cc.toList.toArray)) E.w := by
  rw [s9 Lc]
  show (callFunc f ((#[] ++ #[y].map a.eval) ++ cc)).run P E.w = _
  rw [lB jf]
  congr 2
  apply Array.ext'
  simp [hv]
 refine wpListIn_plain rfl fun K hK => ?_
 refine ⟨fun _ _ => trivial, ?_⟩
 rw [show (FR none).round = none from rfl, Oper.semAt_none, g7]
 refine ⟨fun h => by simp [FR, Fence.wide] at h, rz (hc.mono ?_)⟩
 rintro e W' ⟨v, rfl, hj, hk⟩
 refine hK _ _ (k G hn hG _ _ ?_)
 have ht := HI.Jg hG hh hj hk
 obtain ⟨E', eU, rfl, gQ⟩ := ht.h
 exact ⟨ht.j, ⟨E', _, rfl, gQ.gd (by show d < (G.to E'.w).fn.n; rw [show (G.to E'.w).fn = N from hn]; exact hd) (by simp [RX])⟩, ht.kp⟩

theorem iO.of {f : FuncId} {fn : Func} {c : Code} {args : List X} {g : yv} {n : Nat} (hf : P.funcs[f]? = some fn) (hb : fn.body = some c) (hn : fn.ntmps = n) (hr : fn.results = #[]) (hle : args.length + 1 ≤ n)
  (h : ∀ (Y : qk P) (i : yv), (∀ x ∈ g, Y.Good x) → aF P Y ⟨n, []⟩ c (i, ⟨dp 0 (Y.v :: args), []⟩) (fun e s => (e = .normal ∨ e = .ret) ∧ s.1 = i ++ g)) (qo : X.bC args = true) : iO P f args g := by
 intro Y i E cF hJ DP hg dM Al hφ
 refine calls_of_wp hf hb ?_
 let G : Ctx := ⟨fun b => b < E.w.heap.size, E.w, E.φ, E.β, ⟨n, []⟩, []⟩
 have hG : Gw Y G := ⟨fun _ h => h, DP, hφ⟩
 have hlen : ∀ {l : List X} {c : List Value} {R : List Nat}, dZ E l c R → l.length = c.length := by
  intro l
  induction l with
  | nil => intro c R h; simp only [dZ] at h; rw [h.1]; rfl
  | cons y r ih =>
   intro c R h
   simp only [dZ] at h
   obtain ⟨_, c', _, _, rfl, _, h2, _⟩ := h
   simp [ih h2]
 have hl := hlen dM
 have hH : HI Y G (i, ⟨dp 0 (Y.v :: args), []⟩) ⟨(#[.func (.yield Y.l) #[] #[]] ++ cF.toArray) ++ Array.replicate (fn.ntmps - (#[Value.func (.yield Y.l) #[] #[]] ++ cF.toArray).size) undef, []⟩ E.w := by
  refine ⟨hJ, ⟨E, fun _ => [], rfl, ?_⟩, Kp.refl _ _⟩
  constructor
  case ku => exact Al
  case a9 =>
   intro s x hx
   have gR : look (dp 0 (Y.v :: args)) s = some x := hx
   rw [fW] at gR
   have hs : s < args.length + 1 := by
    rcases Nat.lt_or_ge s (args.length + 1) with h' | h'
    ·exact h'
    ·rw [List.getElem?_eq_none (by simpa using h')] at gR; cases gR
   have e1 : ((#[Value.func (.yield Y.l) #[] #[]] ++ cF.toArray) ++ Array.replicate (fn.ntmps - (#[Value.func (.yield Y.l) #[] #[]] ++ cF.toArray).size) undef).getD s undef = (Value.func (.yield Y.l) #[] #[] :: cF).getD s undef := by
    rw [Array.getD_eq_getD_getElem?, Array.getElem?_append_left (by simp; omega)]
    simp [List.getD_eq_getElem?_getD]
   show RX E x _ []
   rw [e1]
   cases s with
   | zero =>
    simp only [List.getElem?_cons_zero, Option.some.injEq] at gR
    subst gR
    simp [RX]
   | succ s =>
    simp only [List.getElem?_cons_succ] at gR
    obtain ⟨u, R, hu, hR⟩ := dZ.get dM gR
    have h0 := RX.free (X.s8 qo gR) hR
    subst h0
    rw [List.getD_cons_succ, List.getD_eq_getElem?_getD, hu]; exact hR
  case aA => intro o ob h; cases h
  case nodup => exact fun _ => List.nodup_nil
  case apart => exact fun _ _ _ _ h => by cases h
  case own => exact fun _ _ h => by cases h
  case ai => exact fun _ _ => rfl
  case size => exact Nat.le_refl _
  case small => exact fun _ h => h
  case os => rfl
  case tape => rfl
  case output => rfl
  case φ0 => exact fun _ _ _ h => h
  case grow => exact fun _ _ _ h => .inl h
  case fixed => exact fun _ _ => rfl
  case tmps => show Array.size _ = n; simp; omega
  case defers => rfl
 refine wp_mono (h Y i hg G rfl hG _ _ hH) ?_
 rintro e a w ⟨s, hs, he, hi⟩
 have hd : a.defers = [] := by obtain ⟨_, _, _, h⟩ := hs.h; exact h.defers
 have vm : (results fn a.tmps).run P w = .ok (.tuple #[]) w := by
  have e : results fn a.tmps = (do let vs ← fn.results.mapM (nS a.tmps); Pure.pure (if h : vs.size = 1 then vs[0] else .tuple vs) : Sem Value) := rfl
  rw [e, hr]
  refine iR (u := #[]) (by simp [Sem.run_pure]) rfl
 have hk : a.defers = [] ∧ ∃ v, (results fn a.tmps).run P w = .ok v w ∧ ∃ v', Ending.returned v = .returned v' ∧ Y.J (i ++ g) w ∧ Kp Y.S E.w w := ⟨hd, _, vm, _, rfl, hi ▸ hs.j, hs.kp⟩
 rcases he with rfl | rfl
 ·exact hk
 ·exact hk
end
end Go.AW
/- Part of the abstract walk: code in a round of a range sN a function. -/
namespace Go.AW
open Go

def aZ (P : Program) (l : Nat) (N : eC) (c : Code) (st : St) (Q : Exit → St → Prop) : Prop :=
 ∀ G : Ctx, G.fn = N → ∀ a w, ct G st a w → c.wpIn (FR (some l)) 0 P (mq G Q) a w
section
variable {P : Program} {l : Nat} {N : eC} {st aR : St} {Q Q' : Exit → St → Prop} {id : Nat} {x y c : Code}
theorem aZ.le (hl : Le st aR) (h : aZ P l N c aR Q) : aZ P l N c st Q := fun G hn a w hh => h G hn a w (hl.holds hh)
theorem aZ.mono (h : aZ P l N c st Q) (hq : ∀ e st, Q e st → Q' e st) : aZ P l N c st Q' := fun G hn a w hh => wpIn_mono (h G hn a w hh) fun e _ _ hp => mq.mono (hq e) hp
theorem aZ.sh (h : Sh N st aR) (k : aZ P l N c aR Q) : aZ P l N c st Q := fun G hn a w hh => k G hn a w (h G hn a w hh)
theorem aZ.skip (h : Q .normal st) : aZ P l N .skip st Q := fun _ _ _ _ hh => wpIn_skip ⟨st, hh, h⟩
theorem aZ.exit (h : Q (.exit id) st) : aZ P l N (.exit id) st Q := fun _ _ _ _ hh => wpIn_exit ⟨st, hh, h⟩
theorem aZ.seq (h : aZ P l N x st (g0 (fun aR => aZ P l N y aR Q) Q)) : aZ P l N (.seq x y) st Q := by
 intro G hn a w hh
 refine wpIn_seq (wpIn_mono (h G hn a w hh) ?_)
 rintro e a' w' ⟨aR, gy, hq⟩
 cases e <;> first | exact hq G hn a' w' gy | exact ⟨aR, gy, hq⟩
theorem aZ.block (h : aZ P l N c st (nq id Q)) : aZ P l N (.block id c) st Q := by
 intro G hn a w hh
 refine wpIn_block (wpIn_mono (h G hn a w hh) ?_)
 rintro e a' w' ⟨aR, gy, hq⟩
 cases e with
 | exit id' =>
  simp only [nq] at hq
  simp only [Exit.inBlock]
  cases hb : Nat.beq id' id with
  | true =>
   rw [hb] at hq
   rw [if_pos (Nat.eq_of_beq_eq_true hb)]
   exact ⟨aR, gy, hq⟩
  | false =>
   rw [hb] at hq
   rw [if_neg (Nat.ne_of_beq_eq_false hb)]
   exact ⟨aR, gy, hq⟩
 | _ => exact ⟨aR, gy, hq⟩
theorem aZ.cond {o : Operand} {b : Bool} (hc : bR st o = some (.v (.bool b))) (ht : b = true → aZ P l N x st Q) (hf : b = false → aZ P l N y st Q) : aZ P l N (.cond o x y) st Q := by
 intro G hn a w hh
 obtain ⟨E, RR, rfl, hi⟩ := hh
 have hv := hi.val hc
 cases b with
 | true => exact wpIn_cond (t := true) hv (by simpa using ht rfl G hn a E.w ⟨E, RR, rfl, hi⟩)
 | false => exact wpIn_cond (t := false) hv (by simpa using hf rfl G hn a E.w ⟨E, RR, rfl, hi⟩)
theorem aZ.aB {o : Operand} {p : Prop} {inst : Decidable p} (hc : bR st o = some (.v (.bool (decide p)))) (ht : p → aZ P l N x st Q) (hf : ¬ p → aZ P l N y st Q) : aZ P l N (.cond o x y) st Q :=
 aZ.cond hc (fun h => ht (of_decide_eq_true h)) (fun h => hf (of_decide_eq_false h))
theorem aZ.aV {o : Operand} (hc : bR st o = some (.v (.bool true))) (h : aZ P l N x st Q) : aZ P l N (.cond o x y) st Q := aZ.cond hc (fun _ => h) (fun h => by cases h)
theorem aZ.cX {o : Operand} (hc : bR st o = some (.v (.bool false))) (h : aZ P l N y st Q) : aZ P l N (.cond o x y) st Q := aZ.cond hc (fun h => by cases h) (fun _ => h)
theorem aZ.qC {x y : Code} (J : St) (I : Prop) (hx : aZ P l N x st (g0 (fun aR => I ∧ Le aR J) Q)) (hy : I → aZ P l N y J Q) : aZ P l N (.seq x y) st Q :=
 aZ.seq (hx.mono fun e x8 h => by cases e with
  | normal => exact (hy h.1).le h.2
  | _ => exact h)
theorem aZ.region {ops : List Oper} (h : aL P N ops.toArray ops st (yu (fun aR => Q .normal aR))) (hd : ops.all jv = true := by rfl) : aZ P l N (.region id ops.toArray false) st Q := by
 intro G hn a w hh
 refine wpIn_mono (yt (Q := mq G (yu (fun aR => Q .normal aR))) (fun ⟨_, _, _, _, h⟩ => h) hd (h G hn a w hh)) ?_
 rintro e a' w' ⟨aR, gy, hq⟩
 cases e <;> first | exact ⟨aR, gy, hq⟩ | exact hq.elim
theorem aZ.sr {ops : List Oper} (h : aL P N ops.toArray ops st (yu (fun aR => aZ P l N y aR Q))) (hd : ops.all jv = true := by rfl) : aZ P l N (.seq (.region id ops.toArray false) y) st Q :=
 aZ.seq (aZ.region (Q := g0 (fun aR => aZ P l N y aR Q) Q) h hd)
theorem aZ.eK (L F' : List Nat) {ops : Array Oper} (hm : P.follows .mixedOrders = true) (h : bX P N L F' ops ops.size (Array.replicate ops.size false) st (fun aR => Q .normal aR)) (hd : ops.toList.all jv = true := by rfl) : aZ P l N (.region id ops true) st Q := by
 intro G hn a w hh
 obtain ⟨E, RR, hw, hi⟩ := hh.drew
 have h1 := hw ▸ h G hn E RR a _ (fun _ _ => rfl) hi
 refine wpIn_mono (kg (Q := fun e a w => e = .normal ∧ ∃ aR, Q .normal aR ∧ ct G aR a w) hm (fun ⟨_, _, h, _⟩ => by cases h) hd (wpAny_of_held _ _ _ _ h1)) ?_
 rintro e a w ⟨rfl, aR, hk, gy⟩
 exact ⟨aR, gy, hk⟩
theorem aZ.eJ {ops : Array Oper} (hm : P.follows .mixedOrders = true) (h : bX P N [] N.F ops ops.size (Array.replicate ops.size false) st (fun aR => Q .normal aR)) (hd : ops.toList.all jv = true := by rfl) : aZ P l N (.region id ops true) st Q := aZ.eK [] N.F hm h hd
theorem aZ.j8 {ops : Array Oper} (hm : P.follows .mixedOrders = true) (h : eE P N ops ops.size (Array.replicate ops.size false) st (fun aR => Q .normal aR)) (hd : ops.toList.all jv = true := by rfl) : aZ P l N (.region id ops true) st Q := by
 intro G hn a w hh
 have h1 := h G hn a _ hh.drew
 refine wpIn_mono (kg (Q := fun e a w => e = .normal ∧ ∃ aR, Q .normal aR ∧ ct G aR a w) hm (fun ⟨_, _, h, _⟩ => by cases h) hd h1) ?_
 rintro e a w ⟨rfl, aR, hk, gy⟩
 exact ⟨aR, gy, hk⟩
end
end Go.AW
/- Part of the abstract walk: the statement that ranges sN a function. -/
namespace Go.AW
open Go

structure Ext (G G' : Ctx) : Prop where
 fn : G'.fn = G.fn
 K : ∀ b, G.K b → G'.K b
 ai : ∀ b, G.K b → G'.w0.heap[b]? = G.w0.heap[b]?
 size : G.w0.heap.size ≤ G'.w0.heap.size
 os : G'.w0.os = G.w0.os
 tape : G'.w0.tape = G.w0.tape
 output : G'.w0.output = G.w0.output
 φ0 : ∀ b i v, G.φ0 b i = some v → G'.φ0 b i = some v
 grow : ∀ b i v, G'.φ0 b i = some v → G.φ0 b i = some v ∨ ¬ G.K b
 fixed : ∀ o, G.fn.F.elem o = true → G'.β0 o = G.β0 o
 marks : ∃ ms : List Nat, G'.ds = ms.map (fun D => { target := .collected D, args := #[] }) ++ G.ds ∧ ms.Nodup ∧ ∀ D ∈ ms, G'.K D ∧ ¬ G.K D ∧ G'.w0.heap[D]? = some (.deferred (some []))
theorem Ext.refl (G : Ctx) : Ext G G := ⟨rfl, fun _ h => h, fun _ _ => rfl, Nat.le_refl _, rfl, rfl, rfl, fun _ _ _ h => h, fun _ _ _ h => .inl h, fun _ _ => rfl, [], rfl, List.nodup_nil, fun _ h => by cases h⟩
theorem Ext.trans {A B C : Ctx} (h : Ext A B) (k : Ext B C) : Ext A C := by
 obtain ⟨ms, h1, h2, h3⟩ := h.marks
 obtain ⟨ns, k1, k2, k3⟩ := k.marks
 refine ⟨k.fn.trans h.fn, fun b hb => k.K b (h.K b hb), fun b hb => (k.ai b (h.K b hb)).trans (h.ai b hb), Nat.le_trans h.size k.size, k.os.trans h.os, k.tape.trans h.tape, k.output.trans h.output, fun b i v hv => k.φ0 b i v (h.φ0 b i v hv), fun b i v hv => ?_,
  fun o ho => (k.fixed o (by rw [h.fn]; exact ho)).trans (h.fixed o ho), ns ++ ms, ?_, ?_, ?_⟩
 ·rcases k.grow b i v hv with h4 | h4
  ·exact h.grow b i v h4
  ·exact .inr (fun hb => h4 (h.K b hb))
 ·rw [k1, h1, List.map_append, List.append_assoc]
 ·refine List.nodup_append.2 ⟨k2, h2, fun a ha b hb e => ?_⟩
  subst e
  exact (k3 a ha).2.1 (h3 a hb).1
 ·intro D hD
  rcases List.mem_append.1 hD with hD | hD
  ·obtain ⟨a, b, c⟩ := k3 D hD
   exact ⟨a, fun hk => b (h.K D hk), c⟩
  ·obtain ⟨a, b, c⟩ := h3 D hD
   exact ⟨k.K D a, b, (k.ai D a).trans c⟩
def Dv (G : Ctx) (Q : Exit → St → Prop) (e : Exit) (a : Act) (w : World) : Prop := ∃ G', Ext G G' ∧ mq G' Q e a w
def ev (P : Program) (N : eC) (c : Code) (st : St) (Q : Exit → St → Prop) : Prop :=
 ∀ G : Ctx, G.fn = N → ∀ a w, ct G st a w → c.wp P (Dv G Q) a w
section
variable {P : Program} {N : eC} {st aR : St} {Q Q' : Exit → St → Prop} {id : Nat} {x y c : Code}
theorem ev.of (h : dn P N c st Q) : ev P N c st Q := fun G hn a w hh => wp_mono (h G hn a w hh) fun _ _ _ hp => ⟨G, .refl G, hp⟩
theorem ev.le (hl : Le st aR) (h : ev P N c aR Q) : ev P N c st Q := fun G hn a w hh => h G hn a w (hl.holds hh)
theorem ev.sh (h : Sh N st aR) (k : ev P N c aR Q) : ev P N c st Q := fun G hn a w hh => k G hn a w (h G hn a w hh)
theorem ev.seq (h : ev P N x st (g0 (fun aR => ev P N y aR Q) Q)) : ev P N (.seq x y) st Q := by
 intro G hn a w hh
 refine wp_seq (wp_mono (h G hn a w hh) ?_)
 rintro e a' w' ⟨G', hx, aR, gy, hq⟩
 cases e with
 | normal => exact wp_mono (hq G' (hx.fn.trans hn) a' w' gy) fun _ _ _ ⟨Qi, gR, hp⟩ => ⟨Qi, hx.trans gR, hp⟩
 | _ => exact ⟨G', hx, aR, gy, hq⟩
theorem ev.pH (h : dn P N x st (g0 (fun aR => ev P N y aR Q) Q)) : ev P N (.seq x y) st Q := ev.seq (ev.of h)
theorem ev.block (h : ev P N c st (nq id Q)) : ev P N (.block id c) st Q := by
 intro G hn a w hh
 refine wp_block (wp_mono (h G hn a w hh) ?_)
 rintro e a' w' ⟨G', hx, aR, gy, hq⟩
 cases e with
 | exit id' =>
  simp only [nq] at hq
  simp only [Exit.inBlock]
  cases hb : Nat.beq id' id with
  | true =>
   rw [hb] at hq
   rw [if_pos (Nat.eq_of_beq_eq_true hb)]
   exact ⟨G', hx, aR, gy, hq⟩
  | false =>
   rw [hb] at hq
   rw [if_neg (Nat.ne_of_beq_eq_false hb)]
   exact ⟨G', hx, aR, gy, hq⟩
 | _ => exact ⟨G', hx, aR, gy, hq⟩

theorem oT {fn : Func} {tmps : Array Value} {R : Ending → World → Prop} : ∀ (ms : List Nat) (w : World), ms.Nodup → (∀ D ∈ ms, w.heap[D]? = some (.deferred (some []))) →
  (∀ w' : World, w'.heap.size = w.heap.size → w'.os = w.os → w'.tape = w.tape → w'.output = w.output → (∀ b, b ∉ ms → w'.heap[b]? = w.heap[b]?) → ∃ v, (results fn tmps).run P w' = .ok v w' ∧ R (.returned v) w') →
  LeavesInM (FR none) 0 P fn tmps R (ms.map (fun D => { target := .collected D, args := #[] })) .returning w
 | [], w, _, _, h => h w rfl rfl rfl rfl (fun _ _ => rfl)
 | D :: ms, w, hn, hD, h => by
  refine ⟨by simp, .inl ⟨D, w.putObj D (.deferred none), rfl, run_takeDeferred (hD D (List.mem_cons_self ..)), ?_⟩⟩
  have pN := List.nodup_cons.1 hn
  refine oT ms _ pN.2 (fun D' OH => ?_) (fun w' h1 h2 h3 h4 h5 => ?_)
  ·rw [World.putObj_heap_other (show D' ≠ D from fun e => pN.1 (by rw [← e]; exact OH))]; exact hD D' (List.mem_cons_of_mem _ OH)
  ·refine h w' (by rw [h1]; simp) (h2.trans rfl) (h3.trans rfl) (h4.trans rfl) (fun b hb => ?_)
   rw [h5 b (fun e => hb (List.mem_cons_of_mem _ e)), World.putObj_heap_other (show b ≠ D from fun e => hb (by rw [e]; exact List.mem_cons_self ..))]
theorem az.ofM {f : FuncId} {fn : Func} {c : Code} {args : List X} {aA : List Obj} {F : List Nat} {Q : X → List Obj → Prop} {n : Nat} {mr : List ResultVar} (hf : P.funcs[f]? = some fn) (hb : fn.body = some c) (hn : fn.ntmps = n) (hr : fn.results.toList = mr)
  (iw : (gm mr).Nodup) (hle : args.length ≤ n) (h : ev P ⟨n, F⟩ c ⟨dp 0 args, dp 0 aA⟩ (Ends P mr aA.length Q)) : az P f args aA F Q := by
 intro K E RR cF hi
 refine (callsIn_wide (n := 0)).1 (callsIn_of_wp_marks (F := FR none) hf hb trivial (tx.2 ?_))
 refine wp_mono (h (mJ K E ⟨n, F⟩) rfl _ _ ⟨E, RR, rfl, hi.enter hn hle⟩) ?_
 rintro e a w ⟨G', hx, st, ⟨E', eU, rfl, h1⟩, hq⟩
 obtain ⟨ms, KX, Hf, Kd⟩ := hx.marks
 have Qj : a.defers = ms.map (fun D => { target := .collected D, args := #[] }) := by rw [h1.defers, KX]; exact List.append_nil _
 have hD : ∀ D ∈ ms, E'.w.heap[D]? = some (.deferred (some [])) := fun D hD => (h1.ai D (Kd D hD).1).trans (Kd D hD).2.2
 have fin : (∃ xs bg, jk P st mr = some xs ∧ iK st.aA 0 aA.length = some bg ∧ Q (nR xs) bg) → LeavesInM (FR none) 0 P fn a.tmps
   (fun e w' => ∃ v r bg, e = .returned v ∧ Q r bg ∧ bg.length = aA.length ∧ ∃ E' eU, E'.w = w' ∧ Inv (mJ K E ⟨1, F⟩) E' eU ⟨[(0, r)], dp 0 bg⟩ ⟨#[v], []⟩) a.defers .returning E'.w := by
  intro hq
  rw [Qj]
  refine oT ms E'.w Hf hD fun w' fe Qk Ql Qm hw => ?_
  have Qn : ∀ D ∈ ms, ∀ i v, E'.φ D i = some v → False := fun D My i v hv => by
   have h2 := h1.ku D i v hv
   unfold World.cell? at h2
   rw [hD D My] at h2; cases h2
  have Qo : ∀ p, ∀ D ∈ ms, D ∉ eU p := fun p D My hb => (h1.own p D hb).2 (Kd D My).1
  have ga : ∀ p, E'.On { E' with w := w' } (eU p) := fun p => ⟨fun _ _ _ h => h, fun b hb => ⟨hw b (fun hm => Qo p b hm hb), fun h i => h i⟩⟩
  have h2 : Inv (mJ K E ⟨n, F⟩) { E' with w := w' } eU st ⟨a.tmps, []⟩ := by
   constructor
   case ku =>
    intro b i v hv
    have h2 := h1.ku b i v hv
    unfold World.cell? at h2 ⊢
    rw [hw b (fun hm => Qn b hm i v hv)]; exact h2
   case a9 => exact fun s x hx => RX.mono x _ _ (ga _) (fun _ _ => rfl) (h1.a9 s x hx)
   case aA => exact fun o ob cA => dA.mono (ga _) rfl (fun _ _ _ _ => rfl) (h1.aA o ob cA)
   case nodup => exact h1.nodup
   case apart => exact h1.apart
   case own => exact fun p b hb => ⟨by have := (h1.own p b hb).1; show b < w'.heap.size; omega, fun hk => (h1.own p b hb).2 (hx.K b hk)⟩
   case ai => exact fun b hb => (hw b (fun hm => (Kd b hm).2.1 hb)).trans ((h1.ai b (hx.K b hb)).trans (hx.ai b hb))
   case size => show E.w.heap.size ≤ w'.heap.size; rw [fe]; exact Nat.le_trans hx.size h1.size
   case small => exact hi.small
   case os => exact Qk.trans (h1.os.trans hx.os)
   case tape => exact Ql.trans (h1.tape.trans hx.tape)
   case output => exact Qm.trans (h1.output.trans hx.output)
   case φ0 => exact fun b i v hv => h1.φ0 b i v (hx.φ0 b i v hv)
   case grow =>
    intro b i v hv
    rcases h1.grow b i v hv with h3 | h3
    ·exact hx.grow b i v h3
    ·exact .inr (fun hb => h3 (hx.K b hb))
   case fixed => exact fun o ho => (h1.fixed o (by rw [hx.fn]; exact ho)).trans (hx.fixed o ho)
   case tmps => exact h1.tmps.trans (by rw [hx.fn])
   case defers => rfl
  obtain ⟨_, v, vm, v', r, bg, he, hQ, hl, hE⟩ := tW (P := P) (aA := aA) (Q := Q) hr iw h2 hq
  exact ⟨v, vm, v', r, bg, he, hQ, hl, hE⟩
 cases e with
 | normal => exact fin hq
 | ret => exact fin hq
 | _ => exact hq.elim
end
end Go.AW
/- Part of the abstract walk: the statement that ranges sN a function, by the iterator's contract and one walk of its body. -/
namespace Go.AW
open Go Go.RowKit

def r3 (β : Nat → Option y7) (o : Nat) : List Nat := match β o with
 | some B => [B.b]
 | none => []
structure ql (ν : List Nat) (ob : Obj) : Prop where
 plain : ob.plain
 Jh : gW ob
 ng : ob ≠ .gone
 dL : ∀ xs, ob = .cells xs → ∀ q, X.cC q xs = true → q ∈ ν
theorem dA.r3 {E : Env} {o : Nat} {ob : Obj} {R : List Nat} (h : dA E o ob R) (h0 : gW ob) (hg : ob ≠ .gone) : R = r3 E.β o ∧ ∀ b ∈ r3 E.β o, ∀ i, E.φ b i = none := by
 cases ob with
 | cells xs =>
  simp only [dA] at h
  obtain ⟨_, B, cs, ty, hB, _, hφ, _, _, rfl⟩ := h
  unfold AW.r3
  rw [hB]
  exact ⟨rfl, fun b hb => by rw [List.mem_singleton.1 hb]; exact hφ⟩
 | rows s rs =>
  simp only [dA] at h
  obtain ⟨_, ⟨hB, _, rfl⟩ | ⟨B, cs, ty, R', hB, _, hφ, _, _, hR, rfl⟩⟩ := h
  ·unfold AW.r3
   rw [hB]
   exact ⟨rfl, fun b hb => by cases hb⟩
  ·have h1 := cD.free h0 hR
   subst h1
   unfold AW.r3
   rw [hB]
   exact ⟨rfl, fun b hb => by rw [List.mem_singleton.1 hb]; exact hφ⟩
 | uQ es =>
  simp only [dA] at h
  obtain ⟨B, pc, clock, hB, _, hφ, _, rfl⟩ := h
  unfold AW.r3
  rw [hB]
  exact ⟨rfl, fun b hb => by rw [List.mem_singleton.1 hb]; exact hφ⟩
 | gone => exact absurd rfl hg
theorem uF {α : Type} : ∀ {l : List (Nat × α)} {o : Nat}, o ∈ l.map Prod.fst → ∃ x, look l o = some x
 | (t, x) :: r, o, h => by
  simp only [look]
  cases hb : Nat.beq t o with
  | true => exact ⟨x, rfl⟩
  | false =>
   rcases List.mem_cons.1 h with h1 | h1
   ·subst h1; simp at hb
   ·exact uF h1
theorem lq {α : Type} : ∀ {l : List (Nat × α)} {o : Nat} {x : α}, look l o = some x → o ∈ l.map Prod.fst
 | (t, y) :: r, o, x, h => by
  simp only [look] at h
  cases hb : Nat.beq t o with
  | true => rw [Nat.eq_of_beq_eq_true hb]; exact List.mem_cons_self ..
  | false => rw [hb] at h; exact List.mem_cons_of_mem _ (lq h)
theorem uG {α : Type} : ∀ {l m : List (Nat × α)} {o : Nat} {x : α}, look (l ++ m) o = some x → look l o = some x ∨ (o ∉ l.map Prod.fst ∧ look m o = some x)
 | [], _, _, _, h => .inr ⟨by simp, h⟩
 | (t, y) :: r, m, o, x, h => by
  simp only [List.cons_append, look] at h ⊢
  cases hb : Nat.beq t o with
  | true => rw [hb] at h; exact .inl h
  | false =>
   rw [hb] at h
   rcases uG (l := r) h with h1 | ⟨h1, h2⟩
   ·exact .inl h1
   ·refine .inr ⟨?_, h2⟩
    rw [List.map_cons, List.mem_cons]
    rintro (h3 | h3)
    ·have h3 : o = t := h3
     subst h3; simp at hb
    ·exact h1 h3
theorem sA : ∀ {l : List (Nat × X)} {s : Nat} {x : X}, l.all (fun q => q.2.free) = true → look l s = some x → x.free = true
 | (t, y) :: r, s, x, h, hx => by
  simp only [List.all_cons, Bool.and_eq_true] at h
  simp only [look] at hx
  cases hb : Nat.beq t s with
  | true => rw [hb] at hx; simp only [cond_true, Option.some.injEq] at hx; subst hx; exact h.1
  | false => rw [hb] at hx; exact sA h.2 hx

section
variable {P : Program} {N : eC} {st : St} {Q : Exit → St → Prop}
set_option maxHeartbeats 1000000 in
theorem ev.rangeFunc {g : Operand} {ps : Array Tmp} {p1 p2 : Nat} {assign body : Code} {f : FuncId} {kC : List X} {gen : yv} (ν : List Nat) (O : yv → List (Nat × Obj)) (Good : Int × Int → Prop) (tA : List (Nat × X))
  (hg : bR st g = some (.gl (.func f) [] kC)) (jf : aU P f = true) (eW : iO P f kC gen) (OI : ps = #[p1, p2]) (Mz : p1 < N.n) (ER : p2 < N.n) (hp : p1 ≠ p2)
  (hs : eD st.a9 tA) (qo : tA.all (fun q => q.2.free) = true) (OJ : eD st.aA (O [])) (Fl : ∀ i, (O i).map Prod.fst = ν) (M0 : ∀ i o ob, look (O i) o = some ob → ql ν ob)
  (Ji : ∀ l i x, (∀ y ∈ i, Good y) → Good x → aZ P l ⟨N.n, ν⟩ assign ⟨(p1, .v (.int .i64 x.1)) :: (p2, .v (.int .i64 x.2)) :: tA, O i⟩ (g0 (fun aR => aZ P l ⟨N.n, ν⟩ body aR (fun e aR => e = .normal ∧ eD aR.aA (O (i ++ [x])))) (fun _ _ => False)))
  (mn : ∀ y ∈ gen, Good y) (k : Q .normal ⟨st.a9, O gen ++ st.aA⟩) : ev P N (.rangeFunc g ps assign body) st Q := by
 intro G hn a w hh
 obtain ⟨E0, Gx, rfl, hi⟩ := hh
 obtain ⟨Rg, Dw⟩ := hi.eval hg
 simp only [RX] at Dw
 obtain ⟨_, ff, cc, Qp, CV, Gf⟩ := Dw
 simp only [dZ] at CV
 have zr : ff = #[] := by
  have := CV.1
  cases ff; simp_all
 subst zr
 obtain ⟨n0, uT⟩ : ∃ n0, n0 = E0.w.heap.size := ⟨_, rfl⟩
 -- the objects
 have hν : ∀ o ∈ ν, ∃ ob, look (O []) o = some ob ∧ dA E0 o ob (Gx (.obj o)) := fun o ho => by
  obtain ⟨ob, cA⟩ := uF (l := O []) (o := o) (by rw [Fl]; exact ho)
  exact ⟨ob, cA, hi.aA o ob (OJ o ob cA)⟩
 have wg : ∀ o ∈ ν, Gx (.obj o) = r3 E0.β o ∧ ∀ b ∈ r3 E0.β o, ∀ i, E0.φ b i = none := fun o ho => by
  obtain ⟨ob, cA, hr⟩ := hν o ho
  exact hr.r3 (M0 _ _ _ cA).Jh (M0 _ _ _ cA).ng
 have Bi : ∀ o ∈ ν, ∀ b ∈ r3 E0.β o, b < n0 ∧ ¬ G.K b := fun o ho b hb => by
  have := hi.own (.obj o) b (by rw [(wg o ho).1]; exact hb)
  rw [uT]; exact this
 let S : Nat → Prop := fun b => b = n0 + 1 ∨ ∃ o ∈ ν, b ∈ r3 E0.β o
 have Ke : ∀ b i v, E0.φ b i = some v → b < n0 := fun b i v hv => by
  have h1 := hi.ku b i v hv
  rcases Nat.lt_or_ge b n0 with h2 | h2
  ·exact h2
  ·unfold World.cell? at h1
   rw [Array.getElem?_eq_none (show E0.w.heap.size ≤ b by omega)] at h1; cases h1
 have Gv : ∀ b i, S b → E0.φ b i = none := fun b i hb => by
  rcases hb with rfl | ⟨o, ho, hb⟩
  ·cases he : E0.φ (n0 + 1) i with
   | none => rfl
   | some v => have := Ke _ _ _ he; omega
  ·exact (wg o ho).2 b hb i
 have M1 : ∀ b, S b → b < n0 + 2 := fun b hb => by
  rcases hb with rfl | ⟨o, ho, hb⟩
  ·omega
  ·have := (Bi o ho b hb).1; omega
 refine tx.1 (wpIn_rangeFunc fun fn _ => ?_)
 obtain ⟨rec, wh⟩ : ∃ rec : LoopState → Option Code → Loop, rec = fun st pe => { state := st, pending := pe, fn, tmps := a.tmps, params := ps, assign, body, defers := n0 } := ⟨_, rfl⟩
 obtain ⟨W1, Gy⟩ : ∃ W1, (E0.w.alloc (.deferred (some []))).alloc (.loop (rec .ready none)) = W1 := ⟨_, rfl⟩
 have Qq : W1.heap.size = n0 + 2 := by rw [← Gy, uT]; simp
 have IM : W1.heap[n0 + 1]? = some (.loop (rec .ready none)) := by
  rw [← Gy, uT]; have := World.alloc_heap_new (E0.w.alloc (.deferred (some []))) (.loop (rec .ready none)); rwa [World.size_alloc] at this
 have Qr : W1.heap[n0]? = some (.deferred (some [])) := by
  rw [← Gy, uT]; exact (Below.heap_alloc _ _ _ (by simp)).trans (World.alloc_heap_new E0.w _)
 have Aq : ∀ b, b < n0 → W1.heap[b]? = E0.w.heap[b]? := fun b hb => by
  rw [← Gy]; exact (Below.heap_alloc _ _ _ (by simp; omega)).trans (Below.heap_alloc _ _ _ om)
 have wi : ∀ b i v, E0.φ b i = some v → W1.cell? ⟨b, i, none⟩ = some v := fun b i v hv => by
  have h1 := hi.ku b i v hv
  unfold World.cell? at h1 ⊢
  rw [Aq b (Ke b i v hv)]; exact h1
 have Fm : W1.os = E0.w.os ∧ W1.tape = E0.w.tape ∧ W1.output = E0.w.output := by rw [← Gy]; exact ⟨rfl, rfl, rfl⟩
 let J : yv → World → Prop := fun i W => n0 + 2 ≤ W.heap.size ∧ (∀ y ∈ i, Good y) ∧ (∀ b, b < n0 + 2 → ¬ S b → W.heap[b]? = W1.heap[b]?) ∧ W.heap[n0 + 1]? = some (.loop (rec .ready none)) ∧
  ∀ o ob, look (O i) o = some ob → dA ⟨E0.φ, E0.β, W⟩ o ob (r3 E0.β o)
 have Fo : ∀ i W, J i W → ∀ b k v, E0.φ b k = some v → W.cell? ⟨b, k, none⟩ = some v := fun i W hJ b k v hv => by
  have h1 := wi b k v hv
  have h2 := Ke b k v hv
  unfold World.cell? at h1 ⊢
  rw [hJ.2.2.1 b om (fun hb => by rw [Gv b k hb] at hv; cases hv)]; exact h1
 have CD : ∀ i W W', J i W → W.heap.size ≤ W'.heap.size → (∀ b, b < n0 + 2 → W'.heap[b]? = W.heap[b]?) → J i W' := fun i W W' hJ fe hw => by
  obtain ⟨h1, h2, h3, h4, h5⟩ := hJ
  refine ⟨om, h2, fun b hb hs => (hw b hb).trans (h3 b hb hs), (hw _ om).trans h4, fun o ob cA => ?_⟩
  have ho : o ∈ ν := by rw [← Fl i]; exact lq cA
  exact dA.mono (E := ⟨E0.φ, E0.β, W⟩) ⟨fun _ _ _ h => h, fun b hb => ⟨hw b (by have := (Bi o ho b hb).1; omega), fun h i => h i⟩⟩ rfl (fun _ _ _ _ => rfl) (h5 o ob cA)
 have Fp : ∀ i x W, J i W → Good x → n0 + 2 ≤ W.heap.size → YieldAt (FR none) 0 P (n0 + 1) #[.int .i64 x.1, .int .i64 x.2] W (fun e W' => e = .returned (.bool true) ∧ J (i ++ [x]) W' ∧ Kp S W W') := fun i x W hJ hx fe => by
  obtain ⟨Qs, DL, OK, M3, OL⟩ := hJ
  have hJ : J i W := ⟨Qs, DL, OK, M3, OL⟩
  have hy := run_yield (P := P) (args := #[.int .i64 x.1, .int .i64 x.2]) M3 (by rw [wh]; simp [OI])
  refine ⟨fn, _, assign, body, by rw [hy, wh], roundIn_of_wpIn (F := FR none) trivial ?_⟩
  let Gr : Ctx := ⟨fun b => b < W.heap.size ∧ (¬ S b ∨ b = n0 + 1), W, E0.φ, E0.β, ⟨N.n, ν⟩, []⟩
  let Er : Env := ⟨E0.φ, E0.β, W⟩
  let Kf : Own → List Nat := fun p => match p with
   | .slot _ => []
   | .obj o => if o ∈ ν then r3 E0.β o else []
  have gN : ∀ p b, b ∈ Kf p → ∃ o ∈ ν, p = .obj o ∧ b ∈ r3 E0.β o := fun p b hb => by
   cases p with
   | slot s => cases hb
   | obj o =>
    by_cases ho : o ∈ ν
    ·simp only [Kf, ho, if_true] at hb; exact ⟨o, ho, rfl, hb⟩
    ·simp [Kf, ho] at hb
  have hH : ct Gr ⟨(p1, .v (.int .i64 x.1)) :: (p2, .v (.int .i64 x.2)) :: tA, O i⟩ ⟨(a.tmps.setIfInBounds p1 (.int .i64 x.1)).setIfInBounds p2 (.int .i64 x.2), []⟩ W := by
   have Ec : a.tmps.size = N.n := hi.tmps.trans (by rw [hn])
   refine ⟨Er, Kf, rfl, ?_⟩
   constructor
   case ku => exact Fo i W hJ
   case a9 =>
    intro s y hy
    simp only [look] at hy
    show RX Er y (((a.tmps.setIfInBounds p1 (.int .i64 x.1)).setIfInBounds p2 (.int .i64 x.2)).getD s undef) []
    cases Kg : Nat.beq p1 s with
    | true =>
     rw [Kg] at hy
     have e := Nat.eq_of_beq_eq_true Kg
     subst e
     simp only [cond_true, Option.some.injEq] at hy
     subst hy
     simp only [RX, and_true]
     simp [Array.getD_eq_getD_getElem?, Array.getElem?_setIfInBounds, Ec, Mz, Ne.symm hp]
    | false =>
     rw [Kg] at hy
     have M4 := Nat.ne_of_beq_eq_false Kg
     simp only [cond_false] at hy
     cases rL : Nat.beq p2 s with
     | true =>
      rw [rL] at hy
      have e := Nat.eq_of_beq_eq_true rL
      subst e
      simp only [cond_true, Option.some.injEq] at hy
      subst hy
      simp only [RX, and_true]
      simp [Array.getD_eq_getD_getElem?, Array.getElem?_setIfInBounds, Ec, ER]
     | false =>
      rw [rL] at hy
      have M5 := Nat.ne_of_beq_eq_false rL
      simp only [cond_false] at hy
      have h0 := hi.a9 s y (hs s y hy)
      have hf := RX.free (sA qo hy) h0
      rw [hf] at h0
      have e : ((a.tmps.setIfInBounds p1 (.int .i64 x.1)).setIfInBounds p2 (.int .i64 x.2)).getD s undef = a.tmps.getD s undef := by
       simp [Array.getD_eq_getD_getElem?, Array.getElem?_setIfInBounds, M4, M5]
      rw [e]
      exact RX.mono (E := E0) (E' := Er) y _ _ ⟨fun _ _ _ h => h, fun _ h => by cases h⟩ (fun _ _ => rfl) h0
   case aA =>
    intro o ob cA
    have ho : o ∈ ν := by rw [← Fl i]; exact lq cA
    show dA Er o ob (if o ∈ ν then r3 E0.β o else [])
    rw [if_pos ho]
    exact OL o ob cA
   case nodup =>
    intro p
    cases p with
    | slot s => exact List.nodup_nil
    | obj o =>
     show (if o ∈ ν then r3 E0.β o else []).Nodup
     split
     ·unfold AW.r3; split <;> simp
     ·exact List.nodup_nil
   case apart =>
    intro p q kQ b hb fV
    obtain ⟨o, ho, rfl, s6⟩ := gN p b hb
    obtain ⟨o', kO, rfl, Jj⟩ := gN q b fV
    rw [← (wg o ho).1] at s6
    rw [← (wg o' kO).1] at Jj
    exact hi.apart _ _ kQ b s6 Jj
   case own =>
    intro p b hb
    obtain ⟨o, ho, rfl, s6⟩ := gN p b hb
    have h1 := (Bi o ho b s6).1
    refine ⟨by show b < W.heap.size; omega, fun hk => ?_⟩
    rcases hk.2 with h2 | h2
    ·exact h2 (.inr ⟨o, ho, s6⟩)
    ·omega
   case ai => exact fun _ _ => rfl
   case size => exact Nat.le_refl _
   case small => exact fun _ h => h.1
   case os => rfl
   case tape => rfl
   case output => rfl
   case φ0 => exact fun _ _ _ h => h
   case grow => exact fun _ _ _ h => .inl h
   case fixed => exact fun _ _ => rfl
   case tmps => show Array.size _ = N.n; simp [Ec]
   case defers => rfl
  refine (fun (h : ∀ T : Array Value, T = (a.tmps.setIfInBounds p1 (.int .i64 x.1)).setIfInBounds p2 (.int .i64 x.2) → Code.wpIn ((FR none).inRound (n0 + 1)) 0 P assign _ { tmps := T, defers := [] } W) => h _ (by simp [OI])) ?_
  rintro T rfl
  have M6 : Gr.K (n0 + 1) := ⟨om, .inr rfl⟩
  refine wpIn_mono (Ji (n0 + 1) i x DL hx Gr rfl _ W hH) ?_
  rintro e a1 w1 ⟨x8, HG, hq⟩
  cases e with
  | normal =>
   have wj : ∀ b, Gr.K b → w1.heap[b]? = W.heap[b]? := by obtain ⟨E, RR, rfl, h⟩ := HG; exact h.ai
   have M7 : W.heap.size ≤ w1.heap.size := by obtain ⟨E, RR, rfl, h⟩ := HG; exact h.size
   have CC : w1.os = W.os ∧ w1.tape = W.tape ∧ w1.output = W.output := by obtain ⟨E, RR, rfl, h⟩ := HG; exact ⟨h.os, h.tape, h.output⟩
   have OM : w1.heap[n0 + 1]? = some (.loop (rec .ready none)) := (wj _ M6).trans M3
   refine ⟨_, run_beginRound OM (by rw [wh]), ?_⟩
   obtain ⟨w2, tt⟩ : ∃ w2, w1.putObj (n0 + 1) (.loop { rec .ready none with state := .busy }) = w2 := ⟨_, rfl⟩
   rw [tt]
   have Qt : ct (Gr.to w2) x8 a1 w2 := ct.we (S := fun b => b = n0 + 1) HG (fun b hb => by
    subst hb; exact ⟨M6, fun k => Gv _ k (.inl rfl)⟩) (by rw [← tt]; simp) (fun b _ hb => by rw [← tt]; exact World.putObj_heap_other hb)
   refine wpIn_mono (hq (Gr.to w2) rfl a1 w2 Qt) ?_
   rintro e a2 w3 ⟨RD, ⟨E3, O8, rfl, h3⟩, rfl, dv⟩
   have M8 : ∀ b, Gr.K b → E3.w.heap[b]? = w2.heap[b]? := h3.ai
   have DQ : w2.heap[n0 + 1]? = some (.loop { rec .ready none with state := .busy }) := by rw [← tt]; exact World.putObj_heap_same (Array.getElem?_eq_some_iff.1 OM).1
   have M9 : E3.w.heap[n0 + 1]? = some (.loop { rec .ready none with state := .busy }) := (M8 _ M6).trans DQ
   refine ⟨_, _, run_endRound none M9, rfl, ?_, ?_⟩
   ·have Qu : W.heap.size ≤ E3.w.heap.size := by
     have h4 : w2.heap.size ≤ E3.w.heap.size := h3.size
     rw [← tt] at h4; simp at h4; omega
    refine ⟨by simp; omega, fun y hy => ?_, fun b hb xn => ?_, ?_, fun o ob cA => ?_⟩
    ·rcases List.mem_append.1 hy with h4 | h4
     ·exact DL y h4
     ·rw [List.mem_singleton.1 h4]; exact hx
    ·have e7 : b ≠ n0 + 1 := fun e => xn (.inl e)
     have Jk : Gr.K b := ⟨om, .inl xn⟩
     rw [World.putObj_heap_other e7, M8 b Jk, ← tt, World.putObj_heap_other e7, wj b Jk]
     exact OK b hb xn
    ·rw [World.putObj_heap_same (Array.getElem?_eq_some_iff.1 M9).1, wh]; rfl
    ·have ho : o ∈ ν := by rw [← Fl (i ++ [x])]; exact lq cA
     have jf := M0 _ _ _ cA
     have hr := h3.aA o ob (dv o ob cA)
     have hβ : ∀ q ∈ ν, E3.β q = E0.β q := fun q hq => h3.fixed q (show ν.elem q = true from List.elem_iff.2 hq)
     have hR := (hr.r3 jf.Jh jf.ng).1
     have Qv : r3 E3.β o = r3 E0.β o := by unfold AW.r3; rw [hβ o ho]
     rw [hR, Qv] at hr
     have Gc : dA ⟨E0.φ, E3.β, E3.w.putObj (n0 + 1) (.loop { ({ rec .ready none with state := .busy } : Loop) with state := if (none : Option Code).isNone then .ready else .done, pending := none })⟩ o ob (r3 E0.β o) := by
      refine dA.off jf.plain (fun b hb => ⟨World.putObj_heap_other (by have := (Bi o ho b hb).1; omega), fun h i => ?_⟩) (fun _ => rfl) hr
      cases he : E0.φ b i with
      | none => rfl
      | some v => have h5 := h3.φ0 b i v he; rw [h i] at h5; cases h5
     exact dA.mono (E := ⟨E0.φ, E3.β, _⟩) ⟨fun _ _ _ h => h, fun _ _ => ⟨rfl, fun h i => h i⟩⟩ (hβ o ho).symm (fun xs e q hq => (hβ q (jf.dL xs e q hq)).symm) Gc
   ·have h4 : w2.heap.size ≤ E3.w.heap.size := h3.size
    have h5 : w2.heap.size = w1.heap.size := by rw [← tt]; simp
    refine ⟨by simp; omega, fun b hb xn => ?_, ?_, ?_, ?_⟩
    ·have e7 : b ≠ n0 + 1 := fun e => xn (.inl e)
     have Jk : Gr.K b := ⟨hb, .inl xn⟩
     rw [World.putObj_heap_other e7, M8 b Jk, ← tt, World.putObj_heap_other e7, wj b Jk]
    ·exact (show E3.w.os = _ from h3.os.trans (by rw [← tt]; exact CC.1))
    ·exact (show E3.w.tape = _ from h3.tape.trans (by rw [← tt]; exact CC.2.1))
    ·exact (show E3.w.output = _ from h3.output.trans (by rw [← tt]; exact CC.2.2))
  | _ => exact hq.elim
 let Y : qk P := ⟨n0 + 1, n0 + 2, S, J, Good, CD, Fp, M1⟩
 have MA : dZ ⟨E0.φ, E0.β, W1⟩ kC cc.toList [] := dZ.mono (E := E0) (E' := ⟨E0.φ, E0.β, W1⟩) kC _ _ ⟨fun _ _ _ h => h, fun _ h => by cases h⟩ (fun _ _ => rfl) Gf
 have Qw : J [] W1 := by
  refine ⟨om, fun _ h => (by cases h), fun _ _ _ => rfl, IM, fun o ob cA => ?_⟩
  have ho : o ∈ ν := by rw [← Fl []]; exact lq cA
  have hr := hi.aA o ob (OJ o ob cA)
  rw [(wg o ho).1] at hr
  exact dA.mono (E := E0) ⟨fun _ _ _ h => h, fun b hb => ⟨Aq b (Bi o ho b hb).1, fun h i => h i⟩⟩ rfl (fun _ _ _ _ => rfl) hr
 obtain ⟨cF, Ar⟩ : ∃ cF, (#[.func (.yield (n0 + 1)) #[] #[]] ++ cc.toList.toArray : Array Value) = cF := ⟨_, rfl⟩
 have Fq := eW Y [] ⟨E0.φ, E0.β, W1⟩ cc.toList Qw (by show n0 + 2 ≤ W1.heap.size; omega) mn MA wi (fun b i hb => Gv b i hb)
 have Jl : Calls P f cF W1 (fun e W' => ∃ v, e = .returned v ∧ J ([] ++ gen) W' ∧ Kp S W1 W') := by rw [← Ar]; exact Fq
 refine ⟨n0 + 1, [{ target := .collected n0, args := #[] }], W1, { target := .fn (.func f) cc, args := #[.func (.yield (n0 + 1)) #[] #[]] }, W1, f, cF, W1, ?_, ?_, fun _ _ => trivial, ?_, ?_, ?_⟩
 ·rw [← Gy, wh, uT]; exact run_enterLoop_outer _ _ _ _ _
 ·simp only [resolve, Qp]
  simp [go_sem]
 ·rw [← Ar]; simp [invoke, go_sem, lB jf]
 ·intro h; simp [FR, Fence.wide] at h
 ·refine rz (Jl.mono ?_)
  rintro e W3 ⟨v, rfl, ⟨j1, j2, j3, j4, j5⟩, hk⟩
  simp only [List.nil_append] at j2 j5
  refine ⟨none, _, (by have := run_endLoop (P := P) j4 (by rw [wh]; simp); rw [wh] at this; exact this), ?_⟩
  obtain ⟨W4, Fs⟩ : ∃ W4, W3.putObj (n0 + 1) (.loop { ({ state := .ready, pending := none, fn, tmps := a.tmps, params := ps, assign, body, defers := n0 } : Loop) with state := .exhausted }) = W4 := ⟨_, rfl⟩
  show Dv G Q .normal { a with defers := [{ target := .collected n0, args := #[] }] ++ a.defers } _
  rw [Fs]
  have MB : ∀ b, b < n0 + 2 → ¬ S b → W4.heap[b]? = W1.heap[b]? := fun b hb xn => by rw [← Fs, World.putObj_heap_other (fun e => xn (.inl e))]; exact j3 b hb xn
  have Qx : n0 + 2 ≤ W4.heap.size := by rw [← Fs]; simp; exact j1
  have Qy : ∀ b, b < n0 → (∀ o ∈ ν, b ∉ Gx (.obj o)) → ¬ S b := fun b hb BD xn => by
   rcases xn with rfl | ⟨o, ho, s6⟩
   ·omega
   ·exact BD o ho (by rw [(wg o ho).1]; exact s6)
  have Dx : ∀ b, b < n0 → (∀ o ∈ ν, b ∉ Gx (.obj o)) → W4.heap[b]? = E0.w.heap[b]? := fun b hb BD => (MB b om (Qy b hb BD)).trans (Aq b hb)
  have Qz : W4.heap[n0]? = some (.deferred (some [])) := (MB n0 om (fun xn => by
   rcases xn with h | ⟨o, ho, s6⟩
   ·omega
   ·have := (Bi o ho n0 s6).1; omega)).trans Qr
  have MC : ¬ G.K n0 := fun hk => by have h1 := hi.small n0 hk; have h2 := hi.size; omega
  have Dy : ∀ b, G.K b → b < n0 := fun b hb => by have h1 := hi.small b hb; have h2 := hi.size; omega
  let G2 : Ctx := ⟨fun b => G.K b ∨ b = n0, W4, E0.φ, G.β0, G.fn, [{ target := .collected n0, args := #[] }] ++ G.ds⟩
  refine ⟨G2, ?_, ⟨st.a9, O gen ++ st.aA⟩, ⟨⟨E0.φ, E0.β, W4⟩, Gx, rfl, ?_⟩, k⟩
  ·refine ⟨rfl, fun b hb => .inl hb, fun b hb => ?_, ?_, ?_, ?_, ?_, hi.φ0, hi.grow, fun _ _ => rfl, [n0], rfl, by simp, fun D hD => ?_⟩
   ·exact (Dx b (Dy b hb) (fun o ho s6 => (hi.own _ b s6).2 hb)).trans (hi.ai b hb)
   ·have := hi.size; show G.w0.heap.size ≤ W4.heap.size; omega
   ·exact (show W4.os = _ by rw [← Fs]; exact (hk.os.trans Fm.1).trans hi.os)
   ·exact (show W4.tape = _ by rw [← Fs]; exact (hk.tape.trans Fm.2.1).trans hi.tape)
   ·exact (show W4.output = _ by rw [← Fs]; exact (hk.output.trans Fm.2.2).trans hi.output)
   ·rw [List.mem_singleton.1 hD]; exact ⟨.inr rfl, MC, Qz⟩
  ·have ga : ∀ p, (∀ o ∈ ν, p ≠ .obj o) → E0.On ⟨E0.φ, E0.β, W4⟩ (Gx p) := fun p hp => ⟨fun _ _ _ h => h, fun b hb => ⟨Dx b (by rw [uT]; exact (hi.own p b hb).1) (fun o ho s6 => hi.apart p (.obj o) (hp o ho) b hb s6), fun h i => h i⟩⟩
   constructor
   case ku =>
    intro b i v hv
    have h1 := wi b i v hv
    have h2 := Ke b i v hv
    unfold World.cell? at h1 ⊢
    show (match W4.heap[b]? with | some (.cells cs _ _) => cs[i]? | _ => none) = _
    rw [MB b om (fun hb => by rw [Gv b i hb] at hv; cases hv)]; exact h1
   case a9 => exact fun s x hx => RX.mono x _ _ (ga _ (fun o _ => by simp)) (fun _ _ => rfl) (hi.a9 s x hx)
   case aA =>
    intro o ob cA
    rcases uG cA with h1 | ⟨h1, h2⟩
    ·have ho : o ∈ ν := by rw [← Fl gen]; exact lq h1
     rw [(wg o ho).1]
     exact dA.mono (E := ⟨E0.φ, E0.β, W3⟩) ⟨fun _ _ _ h => h, fun b hb => ⟨by rw [← Fs]; exact World.putObj_heap_other (by have := (Bi o ho b hb).1; omega), fun h i => h i⟩⟩ rfl (fun _ _ _ _ => rfl) (j5 o ob h1)
    ·rw [Fl gen] at h1
     exact dA.mono (ga _ (fun o' kO e => by cases e; exact h1 kO)) rfl (fun _ _ _ _ => rfl) (hi.aA o ob h2)
   case nodup => exact hi.nodup
   case apart => exact hi.apart
   case own =>
    intro p b hb
    have h1 := hi.own p b hb
    refine ⟨by show b < W4.heap.size; omega, fun hk => ?_⟩
    rcases hk with h2 | h2
    ·exact h1.2 h2
    ·omega
   case ai => exact fun _ _ => rfl
   case size => exact Nat.le_refl _
   case small =>
    rintro b (hb | hb)
    ·have := Dy b hb; show b < W4.heap.size; omega
    ·show b < W4.heap.size; omega
   case os => rfl
   case tape => rfl
   case output => rfl
   case φ0 => exact fun _ _ _ h => h
   case grow => exact fun _ _ _ h => .inl h
   case fixed => exact hi.fixed
   case tmps => exact hi.tmps
   case defers => show _ ++ a.defers = _ ++ G.ds; rw [hi.defers]
end
end Go.AW
/- Part of the abstract walk: iterators: loops and joins sN several variables (printed from D8); objects for rounds. -/
namespace Go.AW
open Go

section
variable {P : Program} {Y : qk P} {N : eC} {s : oh} {Q : Exit → oh → Prop}
theorem aF.qC {x y : Code} (J : oh) (I : Prop) (hx : aF P Y N x s (ml (fun aR => I ∧ tz aR J) Q)) (hy : I → aF P Y N y J Q) : aF P Y N (.seq x y) s Q :=
 aF.join (fun _ : Unit => J) (fun _ => I) (hx.mono fun e _ h => by cases e <;> first | exact ⟨(), h⟩ | exact h) (fun _ h => hy h)
theorem aF.lZ {α0 : Type} {c : Code} (S : α0 → oh) (I : α0 → Prop) (μ : α0 → Nat) (i0 : α0) (hi : I i0) (hs : tz s (S i0))
  (round : ∀ a0, I a0 → aF P Y N c (S a0) (ml (fun aR => ∃ b0, I b0 ∧ μ b0 < μ a0 ∧ tz aR (S b0)) Q)) : aF P Y N (.loop c) s Q :=
 aF.loop (ι := α0) (fun u => S u) (fun u => I u) (fun u => μ u) i0 hi hs (fun u h => (round u h).mono fun e _ h => by
  cases e <;> first | exact h | (obtain ⟨b0, h⟩ := h; exact ⟨b0, h⟩))
theorem aF.eP {α0 : Type} {x y : Code} (J : α0 → oh) (I : α0 → Prop) (hx : aF P Y N x s (ml (fun aR => ∃ b0, I b0 ∧ tz aR (J b0)) Q)) (hy : ∀ a0, I a0 → aF P Y N y (J a0) Q) : aF P Y N (.seq x y) s Q :=
 aF.join (ι := α0) (fun u => J u) (fun u => I u) (hx.mono fun e _ h => by cases e <;> first | exact h | (obtain ⟨b0, h⟩ := h; exact ⟨b0, h⟩)) (fun u h => hy u h)
theorem aF.dT {α0 α1 : Type} {c : Code} (S : α0 → α1 → oh) (I : α0 → α1 → Prop) (μ : α0 → α1 → Nat) (i0 : α0) (i1 : α1) (hi : I i0 i1) (hs : tz s (S i0 i1))
  (round : ∀ a0 a1, I a0 a1 → aF P Y N c (S a0 a1) (ml (fun aR => ∃ b0 b1, I b0 b1 ∧ μ b0 b1 < μ a0 a1 ∧ tz aR (S b0 b1)) Q)) : aF P Y N (.loop c) s Q :=
 aF.loop (ι := α0 × α1) (fun u => S u.1 u.2) (fun u => I u.1 u.2) (fun u => μ u.1 u.2) (i0, i1) hi hs (fun u h => (round u.1 u.2 h).mono fun e _ h => by
  cases e <;> first | exact h | (obtain ⟨b0, b1, h⟩ := h; exact ⟨(b0, b1), h⟩))
theorem aF.mQ {α0 α1 : Type} {x y : Code} (J : α0 → α1 → oh) (I : α0 → α1 → Prop) (hx : aF P Y N x s (ml (fun aR => ∃ b0 b1, I b0 b1 ∧ tz aR (J b0 b1)) Q)) (hy : ∀ a0 a1, I a0 a1 → aF P Y N y (J a0 a1) Q) : aF P Y N (.seq x y) s Q :=
 aF.join (ι := α0 × α1) (fun u => J u.1 u.2) (fun u => I u.1 u.2) (hx.mono fun e _ h => by cases e <;> first | exact h | (obtain ⟨b0, b1, h⟩ := h; exact ⟨(b0, b1), h⟩)) (fun u h => hy u.1 u.2 h)
theorem aF.iT {α0 α1 α2 : Type} {c : Code} (S : α0 → α1 → α2 → oh) (I : α0 → α1 → α2 → Prop) (μ : α0 → α1 → α2 → Nat) (i0 : α0) (i1 : α1) (i2 : α2) (hi : I i0 i1 i2) (hs : tz s (S i0 i1 i2))
  (round : ∀ a0 a1 a2, I a0 a1 a2 → aF P Y N c (S a0 a1 a2) (ml (fun aR => ∃ b0 b1 b2, I b0 b1 b2 ∧ μ b0 b1 b2 < μ a0 a1 a2 ∧ tz aR (S b0 b1 b2)) Q)) : aF P Y N (.loop c) s Q :=
 aF.loop (ι := α0 × α1 × α2) (fun u => S u.1 u.2.1 u.2.2) (fun u => I u.1 u.2.1 u.2.2) (fun u => μ u.1 u.2.1 u.2.2) (i0, i1, i2) hi hs (fun u h => (round u.1 u.2.1 u.2.2 h).mono fun e _ h => by
  cases e <;> first | exact h | (obtain ⟨b0, b1, b2, h⟩ := h; exact ⟨(b0, b1, b2), h⟩))
theorem aF.wN {α0 α1 α2 : Type} {x y : Code} (J : α0 → α1 → α2 → oh) (I : α0 → α1 → α2 → Prop) (hx : aF P Y N x s (ml (fun aR => ∃ b0 b1 b2, I b0 b1 b2 ∧ tz aR (J b0 b1 b2)) Q)) (hy : ∀ a0 a1 a2, I a0 a1 a2 → aF P Y N y (J a0 a1 a2) Q) : aF P Y N (.seq x y) s Q :=
 aF.join (ι := α0 × α1 × α2) (fun u => J u.1 u.2.1 u.2.2) (fun u => I u.1 u.2.1 u.2.2) (hx.mono fun e _ h => by cases e <;> first | exact h | (obtain ⟨b0, b1, b2, h⟩ := h; exact ⟨(b0, b1, b2), h⟩)) (fun u h => hy u.1 u.2.1 u.2.2 h)
theorem aF.wO {α0 α1 α2 α3 : Type} {c : Code} (S : α0 → α1 → α2 → α3 → oh) (I : α0 → α1 → α2 → α3 → Prop) (μ : α0 → α1 → α2 → α3 → Nat) (i0 : α0) (i1 : α1) (i2 : α2) (i3 : α3) (hi : I i0 i1 i2 i3) (hs : tz s (S i0 i1 i2 i3))
  (round : ∀ a0 a1 a2 a3, I a0 a1 a2 a3 → aF P Y N c (S a0 a1 a2 a3) (ml (fun aR => ∃ b0 b1 b2 b3, I b0 b1 b2 b3 ∧ μ b0 b1 b2 b3 < μ a0 a1 a2 a3 ∧ tz aR (S b0 b1 b2 b3)) Q)) : aF P Y N (.loop c) s Q :=
 aF.loop (ι := α0 × α1 × α2 × α3) (fun u => S u.1 u.2.1 u.2.2.1 u.2.2.2) (fun u => I u.1 u.2.1 u.2.2.1 u.2.2.2) (fun u => μ u.1 u.2.1 u.2.2.1 u.2.2.2) (i0, i1, i2, i3) hi hs (fun u h => (round u.1 u.2.1 u.2.2.1 u.2.2.2 h).mono fun e _ h => by
  cases e <;> first | exact h | (obtain ⟨b0, b1, b2, b3, h⟩ := h; exact ⟨(b0, b1, b2, b3), h⟩))
theorem aF.zk {α0 α1 α2 α3 : Type} {x y : Code} (J : α0 → α1 → α2 → α3 → oh) (I : α0 → α1 → α2 → α3 → Prop) (hx : aF P Y N x s (ml (fun aR => ∃ b0 b1 b2 b3, I b0 b1 b2 b3 ∧ tz aR (J b0 b1 b2 b3)) Q)) (hy : ∀ a0 a1 a2 a3, I a0 a1 a2 a3 → aF P Y N y (J a0 a1 a2 a3) Q) : aF P Y N (.seq x y) s Q :=
 aF.join (ι := α0 × α1 × α2 × α3) (fun u => J u.1 u.2.1 u.2.2.1 u.2.2.2) (fun u => I u.1 u.2.1 u.2.2.1 u.2.2.2) (hx.mono fun e _ h => by cases e <;> first | exact h | (obtain ⟨b0, b1, b2, b3, h⟩ := h; exact ⟨(b0, b1, b2, b3), h⟩)) (fun u h => hy u.1 u.2.1 u.2.2.1 u.2.2.2 h)
end
mutual
theorem CE {q : Nat} : ∀ {x : X}, x.nr = true → x.dL q = false
 | .v _, _ | .no, _ | .fz .., _ | .ep .., _ | .fp .., _ => rfl
 | .ptr .., h => by cases h
 | .aY .., h => by cases h
 | .mref _, h => by cases h
 | .agg xs, h => jB (xs := xs) h
 | .tup xs, h => jB (xs := xs) h
 | .gl _ a b, h => by
  simp only [X.nr, Bool.and_eq_true] at h
  simp only [X.dL, jB h.1, jB h.2, Bool.or_self]
theorem jB {q : Nat} : ∀ {xs : List X}, X.gk xs = true → X.cC q xs = false
 | [], _ => rfl
 | x :: r, h => by
  simp only [X.gk, Bool.and_eq_true] at h
  simp only [X.cC, CE h.1, jB h.2, Bool.or_self]
end
theorem ql.cells {ν : List Nat} {xs : List X} (hp : X.gV xs) (hn : X.gk xs = true) : ql ν (.cells xs) :=
 ⟨hp, trivial, by simp, fun ys e q h => by cases e; rw [jB hn] at h; cases h⟩
theorem ql.rows {ν : List Nat} {s : Nat} {rs : List (List X)} (hp : X.lA rs) (h0 : ∀ r ∈ rs, X.bC r = true) : ql ν (.rows s rs) := ⟨hp, h0, by simp, fun ys e => by cases e⟩
theorem yw {p : Obj → Prop} {m : Nat} {a : Obj} (h : p a) : ∀ {o : Nat} {ob : Obj}, look [(m, a)] o = some ob → p ob := fun {o ob} e => by
 simp only [look] at e
 cases hb : Nat.beq m o <;> rw [hb] at e <;> simp only [cond_true, cond_false, Option.some.injEq, reduceCtorEq] at e
 subst e; exact h
theorem pI {p : Obj → Prop} {m n : Nat} {a b : Obj} (h : p a) (h' : p b) : ∀ {o : Nat} {ob : Obj}, look [(m, a), (n, b)] o = some ob → p ob := fun {o ob} e => by
 rw [look] at e
 cases hb : Nat.beq m o with
 | true => rw [hb] at e; simp only [cond_true, Option.some.injEq] at e; subst e; exact h
 | false => rw [hb] at e; exact yw h' e
end Go.AW
/- Part of the abstract walk: loops and joins of code in a round of a range sN a function. -/
namespace Go.AW
open Go

section
variable {P : Program} {l : Nat} {N : eC} {st : St} {Q : Exit → St → Prop}
theorem aZ.loop {ι : Type} {c : Code} (S : ι → St) (I : ι → Prop) (μ : ι → Nat) (i : ι) (hi : I i) (hs : Le st (S i))
  (round : ∀ i, I i → aZ P l N c (S i) (g0 (fun aR => ∃ j, I j ∧ μ j < μ i ∧ Le aR (S j)) Q)) : aZ P l N (.loop c) st Q := by
 intro G hn a w hh
 refine wpIn_loop_ghost (fun n a w => ∃ i, μ i = n ∧ I i ∧ ct G (S i) a w) (μ i) ⟨i, rfl, hi, hs.holds hh⟩ ?_
 rintro n a w ⟨i, rfl, hI, hh⟩
 refine wpIn_mono (round i hI G hn a w hh) ?_
 rintro e a' w' ⟨aR, gy, hq⟩
 cases e with
 | normal => obtain ⟨j, hj, iv, hle⟩ := hq; exact ⟨μ j, iv, j, rfl, hj, hle.holds gy⟩
 | _ => exact ⟨aR, gy, hq⟩
theorem aZ.join {ι : Type} {x y : Code} (J : ι → St) (I : ι → Prop) (hx : aZ P l N x st (g0 (fun aR => ∃ i, I i ∧ Le aR (J i)) Q)) (hy : ∀ i, I i → aZ P l N y (J i) Q) : aZ P l N (.seq x y) st Q := by
 refine aZ.seq (hx.mono ?_)
 intro e x8 h
 cases e with
 | normal => obtain ⟨i, hI, hle⟩ := h; exact (hy i hI).le hle
 | _ => exact h
theorem aZ.bD {dj : Nat} {p : Prop} {inst : Decidable p} {x y : Code} (hc : look st.a9 dj = some (.v (.bool (decide p)))) (ht : p → aZ P l N x (st.put dj (.v (.bool true))) Q) (hf : ¬ p → aZ P l N y (st.put dj (.v (.bool false))) Q) : aZ P l N (.cond (.tmp dj) x y) st Q := by
 refine aZ.aB (p := p) (inst := inst) hc (fun h => ?_) (fun h => ?_)
 ·exact (ht h).le (Le.test (by rw [hc, decide_eq_true h]))
 ·exact (hf h).le (Le.test (by rw [hc, decide_eq_false h]))
theorem aZ.lZ {α0 : Type} {c : Code} (S : α0 → St) (I : α0 → Prop) (μ : α0 → Nat) (i0 : α0) (hi : I i0) (hs : Le st (S i0))
  (round : ∀ a0, I a0 → aZ P l N c (S a0) (g0 (fun aR => ∃ b0, I b0 ∧ μ b0 < μ a0 ∧ Le aR (S b0)) Q)) : aZ P l N (.loop c) st Q :=
 aZ.loop (ι := α0) (fun u => S u) (fun u => I u) (fun u => μ u) i0 hi hs (fun u h => (round u h).mono fun e _ h => by
  cases e <;> first | exact h | (obtain ⟨b0, h⟩ := h; exact ⟨b0, h⟩))
theorem aZ.eP {α0 : Type} {x y : Code} (J : α0 → St) (I : α0 → Prop) (hx : aZ P l N x st (g0 (fun aR => ∃ b0, I b0 ∧ Le aR (J b0)) Q)) (hy : ∀ a0, I a0 → aZ P l N y (J a0) Q) : aZ P l N (.seq x y) st Q :=
 aZ.join (ι := α0) (fun u => J u) (fun u => I u) (hx.mono fun e _ h => by cases e <;> first | exact h | (obtain ⟨b0, h⟩ := h; exact ⟨b0, h⟩)) (fun u h => hy u h)
theorem aZ.dT {α0 α1 : Type} {c : Code} (S : α0 → α1 → St) (I : α0 → α1 → Prop) (μ : α0 → α1 → Nat) (i0 : α0) (i1 : α1) (hi : I i0 i1) (hs : Le st (S i0 i1))
  (round : ∀ a0 a1, I a0 a1 → aZ P l N c (S a0 a1) (g0 (fun aR => ∃ b0 b1, I b0 b1 ∧ μ b0 b1 < μ a0 a1 ∧ Le aR (S b0 b1)) Q)) : aZ P l N (.loop c) st Q :=
 aZ.loop (ι := α0 × α1) (fun u => S u.1 u.2) (fun u => I u.1 u.2) (fun u => μ u.1 u.2) (i0, i1) hi hs (fun u h => (round u.1 u.2 h).mono fun e _ h => by
  cases e <;> first | exact h | (obtain ⟨b0, b1, h⟩ := h; exact ⟨(b0, b1), h⟩))
theorem aZ.mQ {α0 α1 : Type} {x y : Code} (J : α0 → α1 → St) (I : α0 → α1 → Prop) (hx : aZ P l N x st (g0 (fun aR => ∃ b0 b1, I b0 b1 ∧ Le aR (J b0 b1)) Q)) (hy : ∀ a0 a1, I a0 a1 → aZ P l N y (J a0 a1) Q) : aZ P l N (.seq x y) st Q :=
 aZ.join (ι := α0 × α1) (fun u => J u.1 u.2) (fun u => I u.1 u.2) (hx.mono fun e _ h => by cases e <;> first | exact h | (obtain ⟨b0, b1, h⟩ := h; exact ⟨(b0, b1), h⟩)) (fun u h => hy u.1 u.2 h)
theorem aZ.iT {α0 α1 α2 : Type} {c : Code} (S : α0 → α1 → α2 → St) (I : α0 → α1 → α2 → Prop) (μ : α0 → α1 → α2 → Nat) (i0 : α0) (i1 : α1) (i2 : α2) (hi : I i0 i1 i2) (hs : Le st (S i0 i1 i2))
  (round : ∀ a0 a1 a2, I a0 a1 a2 → aZ P l N c (S a0 a1 a2) (g0 (fun aR => ∃ b0 b1 b2, I b0 b1 b2 ∧ μ b0 b1 b2 < μ a0 a1 a2 ∧ Le aR (S b0 b1 b2)) Q)) : aZ P l N (.loop c) st Q :=
 aZ.loop (ι := α0 × α1 × α2) (fun u => S u.1 u.2.1 u.2.2) (fun u => I u.1 u.2.1 u.2.2) (fun u => μ u.1 u.2.1 u.2.2) (i0, i1, i2) hi hs (fun u h => (round u.1 u.2.1 u.2.2 h).mono fun e _ h => by
  cases e <;> first | exact h | (obtain ⟨b0, b1, b2, h⟩ := h; exact ⟨(b0, b1, b2), h⟩))
theorem aZ.wN {α0 α1 α2 : Type} {x y : Code} (J : α0 → α1 → α2 → St) (I : α0 → α1 → α2 → Prop) (hx : aZ P l N x st (g0 (fun aR => ∃ b0 b1 b2, I b0 b1 b2 ∧ Le aR (J b0 b1 b2)) Q)) (hy : ∀ a0 a1 a2, I a0 a1 a2 → aZ P l N y (J a0 a1 a2) Q) : aZ P l N (.seq x y) st Q :=
 aZ.join (ι := α0 × α1 × α2) (fun u => J u.1 u.2.1 u.2.2) (fun u => I u.1 u.2.1 u.2.2) (hx.mono fun e _ h => by cases e <;> first | exact h | (obtain ⟨b0, b1, b2, h⟩ := h; exact ⟨(b0, b1, b2), h⟩)) (fun u h => hy u.1 u.2.1 u.2.2 h)
theorem aZ.wO {α0 α1 α2 α3 : Type} {c : Code} (S : α0 → α1 → α2 → α3 → St) (I : α0 → α1 → α2 → α3 → Prop) (μ : α0 → α1 → α2 → α3 → Nat) (i0 : α0) (i1 : α1) (i2 : α2) (i3 : α3) (hi : I i0 i1 i2 i3) (hs : Le st (S i0 i1 i2 i3))
  (round : ∀ a0 a1 a2 a3, I a0 a1 a2 a3 → aZ P l N c (S a0 a1 a2 a3) (g0 (fun aR => ∃ b0 b1 b2 b3, I b0 b1 b2 b3 ∧ μ b0 b1 b2 b3 < μ a0 a1 a2 a3 ∧ Le aR (S b0 b1 b2 b3)) Q)) : aZ P l N (.loop c) st Q :=
 aZ.loop (ι := α0 × α1 × α2 × α3) (fun u => S u.1 u.2.1 u.2.2.1 u.2.2.2) (fun u => I u.1 u.2.1 u.2.2.1 u.2.2.2) (fun u => μ u.1 u.2.1 u.2.2.1 u.2.2.2) (i0, i1, i2, i3) hi hs (fun u h => (round u.1 u.2.1 u.2.2.1 u.2.2.2 h).mono fun e _ h => by
  cases e <;> first | exact h | (obtain ⟨b0, b1, b2, b3, h⟩ := h; exact ⟨(b0, b1, b2, b3), h⟩))
theorem aZ.zk {α0 α1 α2 α3 : Type} {x y : Code} (J : α0 → α1 → α2 → α3 → St) (I : α0 → α1 → α2 → α3 → Prop) (hx : aZ P l N x st (g0 (fun aR => ∃ b0 b1 b2 b3, I b0 b1 b2 b3 ∧ Le aR (J b0 b1 b2 b3)) Q)) (hy : ∀ a0 a1 a2 a3, I a0 a1 a2 a3 → aZ P l N y (J a0 a1 a2 a3) Q) : aZ P l N (.seq x y) st Q :=
 aZ.join (ι := α0 × α1 × α2 × α3) (fun u => J u.1 u.2.1 u.2.2.1 u.2.2.2) (fun u => I u.1 u.2.1 u.2.2.1 u.2.2.2) (hx.mono fun e _ h => by cases e <;> first | exact h | (obtain ⟨b0, b1, b2, b3, h⟩ := h; exact ⟨(b0, b1, b2, b3), h⟩)) (fun u h => hy u.1 u.2.1 u.2.2.1 u.2.2.2 h)
theorem aZ.fN {id : Nat} (L F' : List Nat) (J : St) {ops : Array Oper} (hm : P.follows .mixedOrders = true) (h : bX P N L F' ops ops.size (Array.replicate ops.size false) st (fun aR => Le aR J)) (k : Q .normal J) (hd : ops.toList.all jv = true := by rfl) : aZ P l N (.region id ops true) st Q := by
 intro G hn a w hh
 obtain ⟨E, RR, hw, hi⟩ := hh.drew
 have h1 := hw ▸ h G hn E RR a _ (fun _ _ => rfl) hi
 refine wpIn_mono (kg (Q := fun e a w => e = .normal ∧ ∃ aR, Le aR J ∧ ct G aR a w) hm (fun ⟨_, _, h, _⟩ => by cases h) hd (wpAny_of_held _ _ _ _ h1)) ?_
 rintro e a w ⟨rfl, aR, hk, gy⟩
 exact ⟨J, hk.holds gy, k⟩
theorem aZ.ei {id : Nat} (J : St) {ops : Array Oper} (hm : P.follows .mixedOrders = true) (h : bX P N [] N.F ops ops.size (Array.replicate ops.size false) st (fun aR => Le aR J)) (k : Q .normal J) (hd : ops.toList.all jv = true := by rfl) : aZ P l N (.region id ops true) st Q := aZ.fN [] N.F J hm h k hd
theorem cN.three {ops : Array Oper} {K : St → Prop} {n : Nat} {ag : Array Bool} (i i1 i2 : Nat) {o o1 o2 : Oper} (ho : ops[i]? = some o) (CC : ops[i1]? = some o1) (Fj : ops[i2]? = some o2) (hr : (Region.ready .any ops ag == [i, i1, i2]) = true)
  (k : aL P N ops [o] st (fun e aR => e = .normal ∧ cN P N ops n (ag.setIfInBounds i true) aR K))
  (k1 : aL P N ops [o1] st (fun e aR => e = .normal ∧ cN P N ops n (ag.setIfInBounds i1 true) aR K))
  (k2 : aL P N ops [o2] st (fun e aR => e = .normal ∧ cN P N ops n (ag.setIfInBounds i2 true) aR K)) : cN P N ops (n + 1) ag st K := by
 intro G hn a w hh
 refine wpAnyH_all (rs := [i, i1, i2]) (by simpa using hr) (by simp) ?_
 intro j hj
 simp only [List.mem_cons, List.not_mem_nil, or_false] at hj
 rcases hj with rfl | rfl | rfl
 ·exact cN.step j ho k G hn a w hh
 ·exact cN.step j CC k1 G hn a w hh
 ·exact cN.step j Fj k2 G hn a w hh
end
end Go.AW
/- Part of the abstract walk: fresh rows with empty slices in them. -/
namespace Go.AW
open Go

def rT (z z' : List X) : Prop := ∀ (E : Env) (cs : Array Value) (off : Nat) (R : List Nat), RO E z cs off R → RO E z' cs off R
theorem rT.nil : rT [] [] := fun _ _ _ _ h => h
theorem rT.same {x : X} {r r' : List X} (h : rT r r') : rT (x :: r) (x :: r') := fun E cs off R hh => by
 simp only [RO] at hh ⊢
 obtain ⟨u, R₁, R₂, h1, h2, h3, h4, h5⟩ := hh
 exact ⟨u, R₁, R₂, h1, h2, h3, h E cs _ _ h4, h5⟩
theorem rT.J8 {s : Nat} {r r' : List X} (h : rT r r') : rT (.v (.slice none 0 0) :: r) (.fz s [] :: r') := fun E cs off R hh => by
 simp only [RO] at hh ⊢
 obtain ⟨u, R₁, R₂, h1, h2, h3, h4, h5⟩ := hh
 refine ⟨u, R₁, R₂, h1, h2, ?_, h E cs _ _ h4, h5⟩
 simp only [RX] at h3 ⊢
 exact ⟨h3.2, (fun r hr => by cases hr), none, 0, h3.1, Or.inl ⟨trivial, rfl⟩⟩
theorem cD.J9 {E : Env} {z z' : List X} (hl : z.length = z'.length) (hn : X.gk z' = true) (h : rT z z') : ∀ (n : Nat) (cs : Array Value) (off : Nat) (R : List Nat), cD E (List.replicate n z) cs off R → cD E (List.replicate n z') cs off R
 | 0, _, _, _, hh => hh
 | n + 1, cs, off, R, hh => by
  rw [List.replicate_succ] at hh ⊢
  simp only [cD] at hh ⊢
  obtain ⟨R₁, R₂, _, h2, h3, h4⟩ := hh
  exact ⟨R₁, R₂, hn, h E cs off R₁ h2, hl ▸ cD.J9 hl hn h n cs _ R₂ h3, h4⟩
theorem Sh.QS {N : eC} {st : St} {d s n : Nat} {z z' : List X} (hx : look st.a9 d = some (.ep s (List.replicate n z))) (hl : z.length = z'.length) (hn : X.gk z' = true) (h : rT z z') : Sh N st (st.put d (.ep s (List.replicate n z'))) := by
 intro G _ a w hh
 obtain ⟨E, RR, rfl, hi⟩ := hh
 refine ⟨E, RR, rfl, { hi with a9 := ?_ }⟩
 intro t x ht
 simp only [St.put, look] at ht
 cases hb : Nat.beq d t with
 | false => rw [hb] at ht; exact hi.a9 t x ht
 | true =>
  rw [hb] at ht
  have e := Nat.eq_of_beq_eq_true hb
  subst e
  simp only [cond_true, Option.some.injEq] at ht
  subst ht
  have h0 := hi.a9 d _ hx
  simp only [RX, List.length_replicate] at h0 ⊢
  obtain ⟨hu, base, cap, hc, h1⟩ := h0
  refine ⟨fun r hr => ?_, base, cap, hc, ?_⟩
  ·rw [(List.mem_replicate.1 hr).2, ← hl]
   exact hu z (List.mem_replicate.2 ⟨(List.mem_replicate.1 hr).1, rfl⟩)
  ·rcases h1 with ⟨h1, h2⟩ | ⟨b, off, cs, ty, R', h1, h2, h3, h4, h5, h6, h7⟩
   ·exact .inl ⟨by simpa using h1, h2⟩
   ·exact .inr ⟨b, off, cs, ty, R', h1, h2, h3, h4, h5, cD.J9 hl hn h n cs off R' h6, h7⟩
end Go.AW
/- Part of the abstract walk: strings are joined. -/
namespace Go.AW
open Go

section
variable {P : Program} {N : eC} {st : St} {dst : Option Nat} {ty : TypeId} {pos : String} {af : Array Edge} {g : Option (Nat × Bool)}
end
end Go.AW
