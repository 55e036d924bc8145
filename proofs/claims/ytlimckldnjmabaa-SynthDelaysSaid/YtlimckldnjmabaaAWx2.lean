/- Part of the abstract walk: a slice of one's own is taken out of the slice that holds it. -/
import Derived.Test.YtlimckldnjmabaaAWx1
import Derived.Lib.SliceRun
import Derived.KernelRfl
import Derived.Laws.StructEq
import Derived.DataShut
import Derived.OrdersHeld
import Derived.RangeFuncLeaves
import Derived.RangeFuncSeq
import Derived.RangeFuncCalls
import Derived.TacticsIn
import Derived.OrdersIn
set_option linter.unusedSimpArgs false
set_option linter.unusedVariables false
set_option linter.unusedSectionVars false
namespace Go.AW
open Go
theorem X.uS : ∀ {xs : List X} (k : Nat), X.fm xs = true → X.fm (xs.set k .no) = true
 | [], _, _ => rfl
 | x :: r, 0, h => by
  simp only [X.fm, Bool.and_eq_true] at h
  simp [List.set, X.fm, X.nr, h.2]
 | x :: r, k + 1, h => by
  simp only [X.fm, Bool.and_eq_true] at h
  simp [List.set, X.fm, h.1, X.uS k h.2]
theorem RO.pick {E : Env} {cs : Array Value} {y : X} : ∀ {xs : List X} {off k : Nat} {R : List Nat}, RO E xs cs off R → xs[k]? = some y →
  ∃ u Ry R1, cs[off + k]? = some u ∧ gI u ∧ RX E y u Ry ∧ RO E (xs.set k .no) cs off R1 ∧ (R.Nodup → (Ry ++ R1).Nodup) ∧ ∀ b ∈ Ry ++ R1, b ∈ R
 | [], _, _, _, _, h => by simp at h
 | x :: r, off, 0, R, h, hy => by
  simp only [RO] at h
  obtain ⟨u, R₁, R₂, hu, hs, h1, h2, rfl⟩ := h
  simp only [List.getElem?_cons_zero, Option.some.injEq] at hy
  subst hy
  refine ⟨u, R₁, R₂, hu, hs, h1, ?_, fun h => h, fun b hb => hb⟩
  simp only [List.set, RO]
  exact ⟨u, [], R₂, hu, hs, by simp [RX], h2, rfl⟩
 | x :: r, off, k + 1, R, h, hy => by
  simp only [RO] at h
  obtain ⟨u, R₁, R₂, hu, hs, h1, h2, rfl⟩ := h
  simp only [List.getElem?_cons_succ] at hy
  obtain ⟨v, Ry, R', hv, O5, z9, tz, iP, cF⟩ := RO.pick h2 hy
  refine ⟨v, Ry, R₁ ++ R', by rw [show off + (k + 1) = off + 1 + k by omega]; exact hv, O5, z9, ?_, fun hn => ?_, fun b hb => ?_⟩
  ·simp only [List.set, RO]
   exact ⟨u, R₁, R', hu, hs, h1, tz, rfl⟩
  ·obtain ⟨n1, n2, n3⟩ := List.nodup_append.1 hn
   have h3 := iP n2
   rw [← List.append_assoc, List.nodup_append]
   obtain ⟨m1, m2, m3⟩ := List.nodup_append.1 h3
   refine ⟨?_, m2, fun a ha b hb => ?_⟩
   ·rw [List.nodup_append]
    exact ⟨m1, n1, fun a ha b hb e => n3 b hb a (cF a (List.mem_append.2 (.inl ha))) e.symm⟩
   ·rcases List.mem_append.1 ha with h | h
    ·exact m3 a h b hb
    ·exact n3 a h b (cF b (List.mem_append.2 (.inr hb)))
  ·rcases List.mem_append.1 hb with h | h
   ·exact List.mem_append.2 (.inr (cF b (List.mem_append.2 (.inl h))))
   ·rcases List.mem_append.1 h with h | h
    ·exact List.mem_append.2 (.inl h)
    ·exact List.mem_append.2 (.inr (cF b (List.mem_append.2 (.inr h))))
theorem bR.pick {E : Env} {cs : Array Value} {y : X} {s : Nat} : ∀ {rs : List (List X)} {row : List X} {off i k : Nat} {R : List Nat}, bG s rs → bR E rs cs off R → rs[i]? = some row → row[k]? = some y →
  ∃ u Ry R1, cs[off + (i * s + k)]? = some u ∧ gI u ∧ RX E y u Ry ∧ bR E (rs.set i (row.set k .no)) cs off R1 ∧ (R.Nodup → (Ry ++ R1).Nodup) ∧ ∀ b ∈ Ry ++ R1, b ∈ R
 | [], _, _, _, _, _, _, _, h, _ => by simp at h
 | r :: rs, row, off, 0, k, R, _, h, hr, hy => by
  simp only [bR] at h
  obtain ⟨R₁, R₂, hn, h1, h2, rfl⟩ := h
  simp only [List.getElem?_cons_zero, Option.some.injEq] at hr
  subst hr
  obtain ⟨u, Ry, R', hu, hs, z9, tz, iP, cF⟩ := RO.pick h1 hy
  refine ⟨u, Ry, R' ++ R₂, by rw [Nat.zero_mul, Nat.zero_add]; exact hu, hs, z9, ?_, fun o5 => ?_, fun b hb => ?_⟩
  ·simp only [List.set, bR, List.length_set]
   exact ⟨R', R₂, X.uS k hn, tz, h2, rfl⟩
  ·obtain ⟨n1, n2, n3⟩ := List.nodup_append.1 o5
   rw [← List.append_assoc, List.nodup_append]
   exact ⟨iP n1, n2, fun a ha b hb => n3 a (cF a ha) b hb⟩
  ·rw [← List.append_assoc] at hb
   rcases List.mem_append.1 hb with h | h
   ·exact List.mem_append.2 (.inl (cF b h))
   ·exact List.mem_append.2 (.inr h)
 | r :: rs, row, off, i + 1, k, R, hU, h, hr, hy => by
  simp only [bR] at h
  obtain ⟨R₁, R₂, hn, h1, h2, rfl⟩ := h
  simp only [List.getElem?_cons_succ] at hr
  have hl : r.length = s := hU r (List.mem_cons_self ..)
  obtain ⟨u, Ry, R', hu, hs, z9, tz, iP, cF⟩ := bR.pick (fun x hx => hU x (List.mem_cons_of_mem _ hx)) h2 hr hy
  refine ⟨u, Ry, R₁ ++ R', by rw [show off + ((i + 1) * s + k) = off + r.length + (i * s + k) by rw [Nat.add_mul, hl]; omega]; exact hu, hs, z9, ?_, fun o5 => ?_, fun b hb => ?_⟩
  ·simp only [List.set, bR]
   exact ⟨R₁, R', hn, h1, tz, rfl⟩
  ·obtain ⟨n1, n2, n3⟩ := List.nodup_append.1 o5
   have h3 := iP n2
   rw [← List.append_assoc, List.nodup_append]
   obtain ⟨m1, m2, m3⟩ := List.nodup_append.1 h3
   refine ⟨?_, m2, fun a ha b hb => ?_⟩
   ·rw [List.nodup_append]
    exact ⟨m1, n1, fun a ha b hb e => n3 b hb a (cF a (List.mem_append.2 (.inl ha))) e.symm⟩
   ·rcases List.mem_append.1 ha with h | h
    ·exact m3 a h b hb
    ·exact n3 a h b (cF b (List.mem_append.2 (.inr hb)))
  ·rcases List.mem_append.1 hb with h | h
   ·exact List.mem_append.2 (.inr (cF b (List.mem_append.2 (.inl h))))
   ·rcases List.mem_append.1 h with h | h
    ·exact List.mem_append.2 (.inl h)
    ·exact List.mem_append.2 (.inr (cF b (List.mem_append.2 (.inr h))))
section
variable {P : Program} {N : dV} {st : St} {Q : Exit → St → Prop} {all : Array Oper} {rest : List Oper} {d : Nat} {ty : TypeId} {pos : String} {af : Array Edge}
theorem aa.FB {t : TypeId} {x : Operand} {o s i k : Nat} {y : X} {row : List X} {rs : List (List X)} (q7 : List (List X)) (ht : TY.shape P t = some none) (hx : bx st x = some (.ptr o s i k)) (ho : look st.aA o = some (.rows s rs)) (hr : rs[i]? = some row) (hy : row[k]? = some y)
  (he : rs.set i (row.set k .no) = q7) (hd : d < N.n) (kk : aa P N all rest ((st.dE o (.rows s q7)).put d y) Q) :
  aa P N all (⟨some d, .load t x, ty, pos, af, none⟩ :: rest) st Q := by
 subst he
 refine aa.wO (fun G E RR a hn hi => ?_) kk
 obtain ⟨R, hp⟩ := hi.eval hx
 simp only [RX] at hp
 obtain ⟨_, B, hB, hc⟩ := hp
 have aP := hi.aA o _ ho
 have iP := hi.nodup (.obj o)
 simp only [dD] at aP
 obtain ⟨hu, aP⟩ := aP
 rcases aP with ⟨_, h, _⟩ | ⟨B', cs, tb, R', g7, hw, hφ, kl, hlen, iJ, gM⟩
 ·subst h; simp at hr
 rw [hB] at g7
 obtain rfl := Option.some.inj g7
 obtain ⟨u, Ry, R1, BN, hs, z9, tz, Jp, cF⟩ := bR.pick hu iJ hr hy
 rw [gM] at iP
 obtain ⟨rY, kq⟩ := List.nodup_cons.1 iP
 have ID := Jp kq
 obtain ⟨m1, m2, m3⟩ := List.nodup_append.1 ID
 have BO : ∀ b ∈ Ry ++ R1, b ∈ RR (.obj o) := fun b hb => by rw [gM]; exact List.mem_cons.2 (.inr (cF b hb))
 have jT : Inv G E (e9 RR (.obj o) (B.b :: R1)) (st.dE o (.rows s (rs.set i (row.set k .no)))) a := by
  refine hi.dE ?_ ?_ ?_
  ·simp only [dD]
   refine ⟨hu.set (by rw [List.length_set]; exact hu row (List.mem_of_getElem? hr)), .inr ⟨B, cs, tb, R1, hB, hw, hφ, by simpa using kl, hlen, tz, rfl⟩⟩
  ·exact List.nodup_cons.2 ⟨fun h => rY (cF _ (List.mem_append.2 (.inr h))), m2⟩
  ·intro b hb
   have ks : b ∈ RR (.obj o) := by
    rcases List.mem_cons.1 hb with h | h
    ·rw [gM, h]; simp
    ·exact BO b (List.mem_append.2 (.inr h))
   exact ⟨(hi.own _ _ ks).1, (hi.own _ _ ks).2, fun p hp h => hi.apart _ _ hp b h ks⟩
 refine ⟨u, E, _, ?_, jT.put (by rw [hn]; exact hd) z9 m1 fun b hb => ?_⟩
 ·show (do let z ← Instr.loadAt t (a.eval x); pure (Next.value z) : Sem Next).run P E.w = _
  rw [hc]
  refine cE ?_
  have fP : E.w.cell? ⟨B.b, B.off + (i * s + k), none⟩ = some u := by rw [cp hw]; exact BN
  simp only [Instr.loadAt, Instr.sureAddr, loadVar, Sem.run_bind, Sem.run_pure, Result.andThen_ok, (TY.gg ht E.w).1]
  simp [fP]
 ·have ks := BO b (List.mem_append.2 (.inl hb))
  refine ⟨(hi.own _ _ ks).1, (hi.own _ _ ks).2, fun p hp h => ?_⟩
  unfold e9 at h
  split at h
  ·rename_i Mr
   rcases List.mem_cons.1 h with h' | h'
   ·exact rY (h' ▸ cF b (List.mem_append.2 (.inl hb)))
   ·exact m3 b hb b h' rfl
  ·rename_i Mr
   exact hi.apart _ _ Mr b h ks
theorem aa.Af {t : TypeId} {x : Operand} {o s i k Eo tv : Nat} {rows : List (List X)} {zK : List X} {rs : List (List X)} (q7 : List (List X)) (ht : TY.size P t = some 1) (hx : bx st x = some (.ptr o s i k)) (hy : look st.a7 tv = some (.di Eo rows))
  (ho : look st.aA o = some (.rows s rs)) (hr : rs[i]? = some zK) (hk : k + 1 ≤ zK.length) (he : rs.set i (gW zK k [.di Eo rows]) = q7) (kk : aa P N all rest ((st.put tv .no).dE o (.rows s q7)) Q) :
  aa P N all (⟨none, .store t x (.tmp tv), ty, pos, af, none⟩ :: rest) st Q := by
 subst he; exact aa.CA ht hx hy (row := []) rfl ho hr hk kk
end
end Go.AW
namespace Go.AW
open Go
theorem RO.Ag {E : Env} {cs : Array Value} {e off : Nat} {R : List Nat} (h : RO E [.v (.slice none 0 0)] cs off R) : RO E [.di e []] cs off R := by
 simp only [RO] at h ⊢
 obtain ⟨u, R₁, R₂, hu, hs, h1, h2, h3⟩ := h
 simp only [RX] at h1
 refine ⟨u, R₁, R₂, hu, hs, ?_, h2, h3⟩
 simp only [RX]
 exact ⟨fun _ h => (by cases h), none, 0, h1.1, .inl ⟨by trivial, by trivial, h1.2⟩⟩
theorem bR.Ag {E : Env} {cs : Array Value} {e : Nat} : ∀ {n off : Nat} {R : List Nat}, bR E (List.replicate n [.v (.slice none 0 0)]) cs off R → bR E (List.replicate n [.di e []]) cs off R
 | 0, _, _, h => by simpa [bR] using h
 | n + 1, off, R, h => by
  simp only [List.replicate_succ, bR] at h ⊢
  obtain ⟨R₁, R₂, _, h1, h2, h3⟩ := h
  exact ⟨R₁, R₂, rfl, h1.Ag, bR.Ag h2, h3⟩
section
variable {N : dV} {st : St} {d : Nat}
theorem Sh.Ah (e : Nat) {n : Nat} (hx : look st.a7 d = some (.di 1 (List.replicate n [.v (.slice none 0 0)]))) : Sh N st (st.put d (.di 1 (List.replicate n [.di e []]))) := by
 intro G hn a w hh
 obtain ⟨E, RR, rfl, hi⟩ := hh
 have hv := hi.a7 d _ hx
 refine ⟨E, _, rfl, hi.relabel (d := d) (R := RR (.slot d)) ?_ (hi.nodup _) (fun b hb => ⟨(hi.own _ _ hb).1, (hi.own _ _ hb).2, fun p hp h => hi.apart _ _ hp b h hb⟩)⟩
 simp only [RX] at hv ⊢
 obtain ⟨_, base, cap, hc, h⟩ := hv
 refine ⟨fun r hr => by rw [(List.mem_replicate.1 hr).2]; rfl, base, cap, by simpa using hc, ?_⟩
 rcases h with ⟨h1, h2, h3⟩ | ⟨b, off, cs, ty, R', h1, h2, h3, h4, h5, h6, h7⟩
 ·refine .inl ⟨?_, h2, h3⟩
  have : n = 0 := by simpa using congrArg List.length h1
  subst this; rfl
 ·exact .inr ⟨b, off, cs, ty, R', h1, h2, by simpa using h3, h4, h5, h6.Ag, h7⟩
end
theorem Ai {α : Type} {l : List α} {f : α → List X} {m : Nat} {r : List X} (h : m < l.length) : ((l.map f).set (0 + m) r)[0 + m]? = some r := by
 rw [Nat.zero_add, List.getElem?_set_self (by simpa using h)]
theorem xw {α : Type} {l : List α} {f : α → List X} {m : Nat} {r q : List X} {v : α} (h : q = f v) : ((l.map f).set (0 + m) r).set (0 + m) q = (l.set m v).map f := by
 rw [Nat.zero_add, List.set_set, h, List.map_set]
theorem vJ {α : Type} {l : List α} {f : α → List X} {m n : Nat} (h : n = l.length - m) : ((l.map f).drop (0 + m)).take n = (l.drop m).map f := by
 rw [Nat.zero_add, ← List.map_drop, List.take_of_length_le (by simp; omega)]
theorem X.oK {α : Type} {f g : α → List X} (h : ∀ a, X.iM (f a) = g a) : ∀ l : List α, X.lO (l.map f) = l.map g
 | [] => rfl
 | a :: r => by simp only [List.map_cons, X.lO, h, X.oK h r]
theorem Sh.tN {α : Type} {f g : α → List X} {N : dV} {st : St} {d s : Nat} {l : List α} (h : ∀ a, X.iM (f a) = g a) (hx : look st.a7 d = some (.di s (l.map f))) : Sh N st (st.put d (.fz s (l.map g))) :=
 Sh.zY hx (by simp only [X.lN, X.oK h])
end Go.AW
namespace Go.AW
open Go
section
variable {P : Program} {N : dV} {st : St} {Q : Exit → St → Prop} {all : Array Oper} {rest : List Oper} {d : Nat} {ty : TypeId} {pos : String} {af : Array Edge}
theorem aa.BP {t t' e s cy : Nat} {x y : Operand} {s' : Nat} {rows : List (List X)} (ht : TY.slice P t = some (e, s, cy)) (hx : bx st x = some (.fz s' rows)) (hy : bx st y = some (.v (.slice none 0 0))) (hd : d < N.n)
  (k : ∀ b : Bool, (b = true → rows = []) → aa P N all rest (st.put d (.v (.bool b))) Q) : aa P N all (⟨some d, .binOp .eql t x y t', ty, pos, af, none⟩ :: rest) st Q := by
 intro G hn a w hh
 obtain ⟨E, RR, rfl, hi⟩ := hh
 obtain ⟨R, hp⟩ := hi.eval hx
 have O6 := hi.val hy
 obtain ⟨hu, _⟩ := TY.c7 ht
 simp only [RX] at hp
 obtain ⟨_, hU, base, cap, hc, cA⟩ := hp
 have hr : (execOp a.eval ⟨some d, .binOp .eql t x y t', ty, pos, af, none⟩).run P E.w = .ok (.value (.bool base.isNone)) E.w := by
  show (do let x ← (do eqGuard .eql t x y (a.eval x) (a.eval y); binOp .eql t (a.eval x) (a.eval y) : Sem Value); pure (Next.value x) : Sem Next).run P E.w = _
  rw [O6, hc]
  refine cE ?_
  have := Lib.run_eql_slice_nil (P := P) E.w t e base rows.length cap 0 0 hu
  simp only [eqGuard, Sem.run_bind]
  simpa using this
 refine wpList_plain rfl fun K hK => ?_
 simp only [Oper.wp, hr, Oper.upon_value]
 refine hK _ _ (k base.isNone (fun h => ?_) G hn _ _ ⟨E, _, rfl, hi.fg (by rw [hn]; exact hd) (by simp [RX])⟩)
 rcases cA with ⟨h1, _⟩ | ⟨b, off, h1, _⟩
 ·exact h1
 ·rw [h1] at h; cases h
theorem RO.mZ {E : Env} {cs : Array Value} {x y : X} (wA : ∀ c, RX E x c [] → RX E y c []) (hf : x.free = true) : ∀ {xs : List X} {off k : Nat} {R : List Nat}, RO E xs cs off R → xs[k]? = some x → RO E (xs.set k y) cs off R
 | [], _, _, _, _, h => by simp at h
 | z :: r, off, 0, R, h, hy => by
  simp only [RO] at h
  obtain ⟨u, R₁, R₂, hu, hs, h1, h2, rfl⟩ := h
  simp only [List.getElem?_cons_zero, Option.some.injEq] at hy
  subst hy
  have h0 := RX.free hf h1
  subst h0
  simp only [List.set, RO]
  exact ⟨u, [], R₂, hu, hs, wA u h1, h2, rfl⟩
 | z :: r, off, k + 1, R, h, hy => by
  simp only [RO] at h
  obtain ⟨u, R₁, R₂, hu, hs, h1, h2, rfl⟩ := h
  simp only [List.getElem?_cons_succ] at hy
  simp only [List.set, RO]
  exact ⟨u, R₁, R₂, hu, hs, h1, RO.mZ wA hf h2 hy, rfl⟩
theorem Sh.oq (o q s k : Nat) {xs : List X} (ho : look (st.kill q).aA o = some (.cells xs)) (hk : xs[k]? = some (.v (.slice none 0 0))) (oc : X.bc (xs.set k (.aY q s 0 0)) = true) (O7 : Nat.beq q o = false) (hF : N.F.elem q = false) :
  Sh N st (((st.kill q).dE q (.rows s [])).dE o (.cells (xs.set k (.aY q s 0 0)))) := by
 intro G hn a w hh
 obtain ⟨E, RR, rfl, hi⟩ := hh
 obtain ⟨E', eC, hw, h1, h2⟩ := hi.nil q s (by rw [hn]; exact hF)
 have aP := h1.aA o (.cells xs) (by simp only [St.dE, look, O7, cond_false]; exact ho)
 have Aj := aP
 simp only [dD] at Aj
 obtain ⟨_, B, cs, ty, hB, nV, hφ, et, tz, hR⟩ := Aj
 refine ⟨E', _, hw, h1.dE (R := eC (.obj o)) ?_ (h1.nodup _) (fun b hb => ⟨(h1.own _ _ hb).1, (h1.own _ _ hb).2, fun p hp h => h1.apart _ _ hp b h hb⟩)⟩
 simp only [dD]
 refine ⟨oc, B, cs, ty, hB, nV, hφ, by rw [List.length_set]; exact et, RO.mZ (x := .v (.slice none 0 0)) (fun c hc => ?_) rfl tz hk, hR⟩
 simp only [RX] at hc
 rw [hc.1]; exact h2
theorem br.mZ {E : Env} {x y : X} (wA : ∀ c, RX E x c [] → RX E y c []) (hf : x.free = true) : ∀ {xs : List X} {k : Nat} {cs : List Value} {R : List Nat}, br E xs cs R → xs[k]? = some x → br E (xs.set k y) cs R
 | [], _, _, _, _, h => by simp at h
 | z :: r, 0, cs, R, h, hy => by
  simp only [br] at h
  obtain ⟨c, c1, R₁, R₂, rU, hs, h1, h2, rfl⟩ := h
  simp only [List.getElem?_cons_zero, Option.some.injEq] at hy
  subst hy
  have h0 := RX.free hf h1
  subst h0
  simp only [List.set, br]
  exact ⟨c, c1, [], R₂, rU, hs, wA c h1, h2, rfl⟩
 | z :: r, k + 1, cs, R, h, hy => by
  simp only [br] at h
  obtain ⟨c, c1, R₁, R₂, rU, hs, h1, h2, rfl⟩ := h
  simp only [List.getElem?_cons_succ] at hy
  simp only [List.set, br]
  exact ⟨c, c1, R₁, R₂, rU, hs, h1, br.mZ wA hf h2 hy, rfl⟩
theorem Sh.Ms (s k : Nat) {d : Nat} {xs : List X} (hx : look st.a7 d = some (.agg xs)) (hk : xs[k]? = some (.v (.slice none 0 0))) : Sh N st (st.put d (.agg (xs.set k (.fz s [])))) := by
 intro G hn a w hh
 obtain ⟨E, RR, rfl, hi⟩ := hh
 have hv := hi.a7 d _ hx
 refine ⟨E, _, rfl, hi.relabel (d := d) (R := RR (.slot d)) ?_ (hi.nodup _) (fun b hb => ⟨(hi.own _ _ hb).1, (hi.own _ _ hb).2, fun p hp h => hi.apart _ _ hp b h hb⟩)⟩
 simp only [RX] at hv ⊢
 obtain ⟨cs, hc, h⟩ := hv
 refine ⟨cs, hc, br.mZ (x := .v (.slice none 0 0)) (fun c hc => ?_) rfl h hk⟩
 simp only [RX] at hc ⊢
 exact ⟨trivial, fun _ h => (by cases h), none, 0, hc.1, .inl ⟨by trivial, by trivial⟩⟩
theorem Sh.oL (o s k : Nat) {xs : List X} (ho : look st.aA o = some (.cells xs)) (hk : xs[k]? = some (.v (.slice none 0 0))) (oc : X.bc (xs.set k (.fz s [])) = true) :
  Sh N st (st.dE o (.cells (xs.set k (.fz s [])))) := by
 intro G hn a w hh
 obtain ⟨E, RR, rfl, hi⟩ := hh
 have aP := hi.aA o _ ho
 simp only [dD] at aP
 obtain ⟨_, B, cs, ty, hB, nV, hφ, et, tz, hR⟩ := aP
 refine ⟨E, _, rfl, hi.dE (R := RR (.obj o)) ?_ (hi.nodup _) (fun b hb => ⟨(hi.own _ _ hb).1, (hi.own _ _ hb).2, fun p hp h => hi.apart _ _ hp b h hb⟩)⟩
 simp only [dD]
 refine ⟨oc, B, cs, ty, hB, nV, hφ, by rw [List.length_set]; exact et, RO.mZ (x := .v (.slice none 0 0)) (fun c hc => ?_) rfl tz hk, hR⟩
 simp only [RX] at hc ⊢
 exact ⟨trivial, fun _ h => (by cases h), none, 0, hc.1, .inl ⟨by trivial, by trivial⟩⟩
end
end Go.AW
namespace Go.AW
open Go
section
variable {P : Program} {N : dV} {st : St} {Q : Exit → St → Prop} {all : Array Oper} {rest : List Oper} {d dd j : Nat} {want : Bool} {op : Op} {ty : TypeId} {pos : String} {af : Array Edge} {x : X} {u : Value}
theorem aa.vl (hy : Yields P N st ⟨some d, op, ty, pos, af, none⟩ x) (k : aa P N all rest (st.put d x) Q) (hd : d < N.n := by decide) : aa P N all (⟨some d, op, ty, pos, af, none⟩ :: rest) st Q := aa.val hy hd k
theorem aa.gs (d : Nat) (hj : (all[j]?).bind (·.dst) = some d) (hx : look st.a7 d = some (.v u)) (eB : oF want u = true) (k : aa P N all rest (st.put dd (.v undef)) Q) (hd : d < N.n := by decide) (zZ : dd < N.n := by decide) :
  aa P N all (⟨some dd, op, ty, pos, af, some (j, want)⟩ :: rest) st Q := aa.aF hj hd zZ hx eB k
theorem ae.sr {id : Nat} {l : List Oper} {y : Code} (h : aa P N l.toArray l st (jr (fun aW => ae P N y aW Q) Q)) : ae P N (.seq (.region id l.toArray false) y) st Q := ae.seq (ae.region h)
variable {ops : Array Oper} {l0 rs l : List Nat} {t i dj : Nat} {ag : Array Bool} {K : Array Bool → St → Prop}
theorem AQ.cn (i : Nat) (ho : ops[i]? = some ⟨some d, op, ty, pos, af, none⟩) (hy : Yields P N st ⟨some d, op, ty, pos, af, none⟩ x) (k : AQ P N ops l0 rs t l (ag.setIfInBounds i true) (st.put d x) K)
  (hB : (Region.noSelect ops && Region.free .any ops ag i && (Region.ready .any ops ag).contains i) = true := by kernel_rfl) (hd : d < N.n := by decide) : AQ P N ops l0 rs t (i :: l) ag st K := AQ.cons ho hB hy hd k
theorem AQ.sk (i : Nat) (ho : ops[i]? = some ⟨some d, op, ty, pos, af, some (j, want)⟩) (hj : (ops[j]?).bind (·.dst) = some dj) (hx : look st.a7 dj = some (.v u)) (eB : oF want u = true) (k : AQ P N ops l0 rs t l (ag.setIfInBounds i true) (st.put d (.v undef)) K)
  (hB : (Region.noSelect ops && Region.free .any ops ag i && (Region.ready .any ops ag).contains i) = true := by kernel_rfl) (pP : dj < N.n := by decide) (hd : d < N.n := by decide) : AQ P N ops l0 rs t (i :: l) ag st K := AQ.skip ho hB hj pP hd hx eB k
theorem AQ.rn (i : Nat) (ho : ops[i]? = some ⟨some d, op, ty, pos, af, some (j, want)⟩) (hj : (ops[j]?).bind (·.dst) = some dj) (hx : look st.a7 dj = some (.v (.bool want))) (hy : Yields P N st ⟨some d, op, ty, pos, af, some (j, want)⟩ x) (k : AQ P N ops l0 rs t l (ag.setIfInBounds i true) (st.put d x) K)
  (hB : (Region.noSelect ops && Region.free .any ops ag i && (Region.ready .any ops ag).contains i) = true := by kernel_rfl) (pP : dj < N.n := by decide) (hd : d < N.n := by decide) : AQ P N ops l0 rs t (i :: l) ag st K := AQ.run ho hB hj pP hx hy hd k
end
section
variable {P : Program} {N : dV} {st : St} {Q : Exit → St → Prop} {all : Array Oper} {rest : List Oper} {d : Nat} {ty : TypeId} {pos : String} {af : Array Edge} {y p : X}
theorem aa.mv {x : Operand} (k : aa P N all rest (st.put d y) Q) (hx : bx st x = some y := by rfl) (hf : y.free = true := by rfl) (hd : d < N.n := by decide) : aa P N all (⟨some d, .move x, ty, pos, af, none⟩ :: rest) st Q := aa.val (Y.zf hx hf) hd k
theorem aa.an {x : Operand} (k : aa P N all rest (st.put d y) Q) (hx : bx st x = some y := by rfl) (hf : y.free = true := by rfl) (hd : d < N.n := by decide) : aa P N all (⟨some d, .assign x, ty, pos, af, none⟩ :: rest) st Q := aa.val (Y.qe hx hf) hd k
theorem aa.ld {t : TypeId} {x : Operand} {row : List X} (ht : TY.shape P t = some none) (k : aa P N all rest (st.put d y) Q) (hx : bx st x = some p := by rfl) (hr : rowAt st p = some row := by rfl) (hy : row[jq p]? = some y := by rfl) (hf : y.free = true := by rfl) (hd : d < N.n := by decide) :
  aa P N all (⟨some d, .load t x, ty, pos, af, none⟩ :: rest) st Q := aa.val (Y.qz ht hx hr hy hf) hd k
end
section
variable {P : Program} {N : dV} {st : St} {Q : Exit → St → Prop} {all : Array Oper} {rest : List Oper} {d dd j : Nat} {want : Bool} {op : Op} {ty : TypeId} {pos : String} {af : Array Edge} {x y p q : X} {u : Value}
theorem aa.gw (d : Nat) (hy : Yields P N st ⟨some dd, op, ty, pos, af, some (j, want)⟩ x) (k : aa P N all rest (st.put dd x) Q) (hj : (all[j]?).bind (·.dst) = some d := by rfl) (hx : look st.a7 d = some (.v (.bool want)) := by rfl) (hd : d < N.n := by decide) (zZ : dd < N.n := by decide) :
  aa P N all (⟨some dd, op, ty, pos, af, some (j, want)⟩ :: rest) st Q := aa.aO hj hd hx (aa.val hy zZ k)
theorem aa.gz (d : Nat) (k : aa P N all rest (st.put dd (.v undef)) Q) (hj : (all[j]?).bind (·.dst) = some d := by rfl) (hx : look st.a7 d = some (.v u) := by rfl) (eB : oF want u = true := by rfl) (hd : d < N.n := by decide) (zZ : dd < N.n := by decide) :
  aa P N all (⟨some dd, op, ty, pos, af, some (j, want)⟩ :: rest) st Q := aa.aF hj hd zZ hx eB k
theorem aa.pk {c a b : Operand} {v : Bool} (k : aa P N all rest (st.put d y) Q) (hc : bx st c = some (.v (.bool v)) := by rfl) (hz : bx st (if v then a else b) = some y := by rfl) (hf : y.free = true := by rfl) (hd : d < N.n := by decide) :
  aa P N all (⟨some d, .pick c a b, ty, pos, af, none⟩ :: rest) st Q := aa.val (Y.zl hc hz hf) hd k
theorem aa.fa {t : TypeId} {a : Operand} {f off : Nat} {ft : TypeId} (ht : TY.iI P t f = some (off, ft)) (k : aa P N all rest (st.put d q) Q) (hx : bx st a = some p := by rfl) (hq : p.on off = some q := by rfl) (hd : d < N.n := by decide) :
  aa P N all (⟨some d, .fieldAddr t a f, ty, pos, af, none⟩ :: rest) st Q := aa.val (Y.qo ht hx hq) hd k
end
theorem eO.c {α : Type} {l l' : List (Nat × α)} {s : Nat} {x : α} (hr : eO l l') (h : look l s = some x := by rfl) : eO l ((s, x) :: l') := eO.cons h hr
theorem eO.c2 {α : Type} {l l' : List (Nat × α)} {s t : Nat} {x y : α} (hr : eO l l') (h : look l s = some x := by rfl) (h1 : look l t = some y := by rfl) : eO l ((s, x) :: (t, y) :: l') := eO.cons h (eO.cons h1 hr)
theorem eO.c4 {α : Type} {l l' : List (Nat × α)} {s t s1 t1 : Nat} {x y x1 y1 : α} (hr : eO l l') (h : look l s = some x := by rfl) (h1 : look l t = some y := by rfl) (h2 : look l s1 = some x1 := by rfl) (h3 : look l t1 = some y1 := by rfl) : eO l ((s, x) :: (t, y) :: (s1, x1) :: (t1, y1) :: l') := eO.c2 (eO.c2 hr h2 h3) h h1
theorem eO.c8 {α : Type} {l l' : List (Nat × α)} {s t s1 t1 s2 t2 s3 t3 : Nat} {x y x1 y1 x2 y2 x3 y3 : α} (hr : eO l l') (h : look l s = some x := by rfl) (h1 : look l t = some y := by rfl) (h2 : look l s1 = some x1 := by rfl) (h3 : look l t1 = some y1 := by rfl) (h4 : look l s2 = some x2 := by rfl) (h5 : look l t2 = some y2 := by rfl) (h6 : look l s3 = some x3 := by rfl) (h7 : look l t3 = some y3 := by rfl) : eO l ((s, x) :: (t, y) :: (s1, x1) :: (t1, y1) :: (s2, x2) :: (t2, y2) :: (s3, x3) :: (t3, y3) :: l') := eO.c4 (eO.c4 hr h4 h5 h6 h7) h h1 h2 h3
theorem gT {α β : Type} {f : α → β} {l : List α} : some (l.map f).length = some l.length := congrArg some (List.length_map ..)
theorem Ends.rb {P : Program} {od : List ResultVar} {st : St} {b b' : Bool} (h0 : jA P st od = some [.v (.bool b)]) (h : b = b') : Ends P od ([] : List Obj).length (fun r o => r = .v (.bool b') ∧ o = []) .ret st := ⟨_, _, h0, rfl, by rw [h]; exact ⟨rfl, rfl⟩⟩
theorem Ends.ri {P : Program} {od : List ResultVar} {st : St} {k : IntKind} {b b' : Int} (h0 : jA P st od = some [.v (.int k b)]) (h : b = b') : Ends P od ([] : List Obj).length (fun r o => r = .v (.int k b') ∧ o = []) .ret st := ⟨_, _, h0, rfl, by rw [h]; exact ⟨rfl, rfl⟩⟩
end Go.AW
namespace Go.AW
open Go
section
variable {P : Program} {N : dV} {st : St} {dst : Option Nat} {ty : TypeId} {pos : String} {af : Array Edge} {g : Option (Nat × Bool)}
end
end Go.AW
namespace Go.AW
open Go
section
variable {N : dV} {st : St} {d : Nat}
end
end Go.AW
namespace Go.AW
open Go
section
variable {P : Program} {N : dV} {st : St} {dst : Option Nat} {ty : TypeId} {pos : String} {af : Array Edge} {g : Option (Nat × Bool)}
end
end Go.AW
namespace Go.AW
open Go
theorem RO.setAt {E : Env} {cs : Array Value} {x y : X} {u : Value} (hf : x.free = true) : ∀ {xs : List X} {off k : Nat} {R : List Nat}, RO E xs cs off R → xs[k]? = some x → cs[off + k]? = some u → RX E y u [] → RO E (xs.set k y) cs off R
 | [], _, _, _, _, h, _, _ => by simp at h
 | z :: r, off, 0, R, h, hy, hu, wA => by
  simp only [RO] at h
  obtain ⟨u', R₁, R₂, wy, hs, h1, h2, rfl⟩ := h
  simp only [List.getElem?_cons_zero, Option.some.injEq] at hy
  subst hy
  have h0 := RX.free hf h1
  subst h0
  rw [Nat.add_zero, wy] at hu
  obtain rfl := Option.some.inj hu
  simp only [List.set, RO]
  exact ⟨u', [], R₂, wy, hs, wA, h2, rfl⟩
 | z :: r, off, k + 1, R, h, hy, hu, wA => by
  simp only [RO] at h
  obtain ⟨u', R₁, R₂, wy, hs, h1, h2, rfl⟩ := h
  simp only [List.getElem?_cons_succ] at hy
  simp only [List.set, RO]
  exact ⟨u', R₁, R₂, wy, hs, h1, RO.setAt hf h2 hy (by rw [show off + 1 + k = off + (k + 1) by omega]; exact hu) wA, rfl⟩
section
variable {N : dV} {G : Ctx} {E : Env} {RR : Own → List Nat} {st : St} {a : Act}
theorem Inv.CT (hi : Inv G E RR st a) {o s : Nat} {rs : List (List X)} (ho : look st.aA o = some (.rows s rs)) (hf : de rs) (hF : G.fn.F.elem o = false) :
  ∃ E' eC, E'.w = E.w ∧ E'.β = E.β ∧ Inv G E' eC ((st.kill o).dE o .gone) a ∧ ∀ u n, n = rs.length → RX E (.aY o s 0 n) u [] → RX E' (.fz s rs) u [] := by
 have aP := hi.aA o _ ho
 simp only [dD] at aP
 obtain ⟨hu, aP⟩ := aP
 have hβ : ct G E E (fun _ => False) := ⟨rfl, fun _ h => h.elim, fun _ h => h.elim, fun _ _ _ => rfl, Nat.le_refl _, rfl, rfl, rfl⟩
 have jT := hi.lx hβ (o := o) (ob := .gone) (R := []) (fun _ h => h.elim) (fun q _ => rfl) (fun h => rfl) (by simp only [dD]) List.nodup_nil (fun _ h => by cases h)
 rcases aP with ⟨h1, h2, h3⟩ | ⟨B, cs, ty, R', hB, hw, hφ, kl, et, iJ, gM⟩
 ·refine ⟨E, _, rfl, rfl, jT, fun u n hn hx => ?_⟩
  simp only [RX] at hx ⊢
  obtain ⟨_, base, cap, hc, cA⟩ := hx
  rcases cA with ⟨_, _, _, h5⟩ | ⟨B, hB, _⟩
  ·subst hn
   exact ⟨trivial, hu, base, cap, hc, .inl ⟨h2, h5⟩⟩
  ·rw [h1] at hB; cases hB
 ·have zR := bR.free hf iJ
  subst zR
  have ks : B.b ∈ RR (.obj o) := by rw [gM]; simp
  have hle : ∀ c i v, E.φ c i = some v → (if c = B.b then cs[i]? else E.φ c i) = some v := by
   intro c i v h
   by_cases og : c = B.b
   ·subst og; rw [hφ i] at h; cases h
   ·rw [if_neg og]; exact h
  have gL : ∀ R : List Nat, B.b ∉ R → E.On { E with φ := fun c i => if c = B.b then cs[i]? else E.φ c i } R := by
   intro R Cx
   refine ⟨hle, fun c mo => ⟨rfl, fun h i => ?_⟩⟩
   have : c ≠ B.b := fun e => Cx (e ▸ mo)
   show (if c = B.b then cs[i]? else E.φ c i) = none
   rw [if_neg this]; exact h i
  have CG : ∀ p, B.b ∉ eV st RR o [] p := by
   intro p hp
   cases p with
   | obj q =>
    by_cases hq : q = o
    ·subst hq; simp [eV] at hp
    ·exact hi.apart (.obj q) (.obj o) (by simpa using hq) _ (by simpa [eV, hq] using hp) ks
   | slot q =>
    rcases j9 st RR o [] q with h | h
    ·rw [h] at hp; cases hp
    ·rw [h] at hp; exact hi.apart (.slot q) (.obj o) (by simp) _ hp ks
  refine ⟨{ E with φ := fun c i => if c = B.b then cs[i]? else E.φ c i }, _, rfl, rfl,
   {jT with
    kh := by
     intro c i v h
     change (if c = B.b then cs[i]? else E.φ c i) = some v at h
     by_cases og : c = B.b
     ·subst og; rw [if_pos rfl] at h
      show E.w.cell? _ = _
      rw [cp hw]; exact h
     ·rw [if_neg og] at h; exact hi.kh c i v h
    a7 := fun q x hx => RX.mono x _ _ (gL _ (CG _)) (fun _ _ => rfl) (jT.a7 q x hx)
    aA := fun o ob aP => dD.mono (gL _ (CG _)) rfl (fun _ _ _ _ => rfl) (jT.aA o ob aP)
    φ0 := fun c i v h => hle c i v (hi.φ0 c i v h)
    grow := by
     intro c i v h
     change (if c = B.b then cs[i]? else E.φ c i) = some v at h
     by_cases og : c = B.b
     ·subst og; exact .inr (hi.own _ _ ks).2
     ·rw [if_neg og] at h; exact hi.grow c i v h }, fun u n hn hx => ?_⟩
  simp only [RX] at hx ⊢
  obtain ⟨_, base, cap, hc, cA⟩ := hx
  subst hn
  rcases cA with ⟨h1, _⟩ | ⟨B', g7, v7, o5, hb⟩
  ·rw [hB] at h1; cases h1
  ·rw [hB] at g7
   obtain rfl := Option.some.inj g7
   rcases hb with hb | hb
   ·exact ⟨trivial, hu, base, cap, hc, .inl ⟨List.eq_nil_of_length_eq_zero om, hb⟩⟩
   ·refine ⟨trivial, hu, base, cap, hc, .inr ⟨B.b, B.off, by simpa using hb, o5, ?_⟩⟩
    refine bR.freeze (E := E) (fun i v h => ?_) hle iJ
    show (if B.b = B.b then cs[i]? else E.φ B.b i) = some v
    rw [if_pos rfl]; exact h
theorem Sh.xC (p o k : Nat) {s n : Nat} {xs ys : List X} {rs : List (List X)} (hp : look st.aA p = some (.cells xs)) (hk : xs[k]? = some (.aY o s 0 n)) (ho : look st.aA o = some (.rows s rs)) (hl : n = rs.length) (hf : de rs) (hF : N.F.elem o = false)
  (Ep : look ((st.kill o).dE o .gone).aA p = some (.cells ys)) (uQ : ys[k]? = some .no) (oc : X.bc (ys.set k (.fz s rs)) = true) :
  Sh N st (((st.kill o).dE o .gone).dE p (.cells (ys.set k (.fz s rs)))) := by
 intro G hn a w hh
 obtain ⟨E, RR, rfl, hi⟩ := hh
 have Et := hi.aA p _ hp
 simp only [dD] at Et
 obtain ⟨_, B, cs, ty, hB, hw, hφ, et, tz, hR⟩ := Et
 obtain ⟨u, Ry, R1, BN, hs, z9, _, _, _⟩ := RO.pick tz hk
 have h0 := RX.free (x := .aY o s 0 n) rfl z9
 subst h0
 obtain ⟨E', eC, nV, Mw, fL, Ic⟩ := hi.CT ho hf (by rw [hn]; exact hF)
 have Jt := fL.aA p _ Ep
 have FK := Jt
 simp only [dD] at FK
 obtain ⟨_, B', c1, Mn, g7, FL, OC, Ff, Ju, C5⟩ := FK
 rw [Mw, hB] at g7
 obtain rfl := Option.some.inj g7
 rw [nV, hw] at FL
 simp only [Option.some.injEq, Go.Obj.cells.injEq] at FL
 obtain ⟨rfl, rfl, _⟩ := FL
 refine ⟨E', _, nV, fL.dE (R := eC (.obj p)) ?_ (fL.nodup _) (fun b hb => ⟨(fL.own _ _ hb).1, (fL.own _ _ hb).2, fun q hq h => fL.apart _ _ hq b h hb⟩)⟩
 simp only [dD]
 exact ⟨oc, B, cs, ty, by rw [Mw]; exact hB, by rw [nV]; exact hw, OC, by rw [List.length_set]; exact Ff, RO.setAt (x := .no) rfl Ju uQ BN (Ic u n hl z9), C5⟩
end
end Go.AW
namespace Go.AW
open Go
end Go.AW
namespace Go.AW
open Go
theorem vU {a : Int} (h : (Lit.int .u8 a).wf = true) : ∃ n : Nat, a = (n : Int) ∧ n < 256 := by
 have h1 := (Lit.wf_int_iff .u8 a).1 h
 simp only [IntKind.min, IntKind.max, IntKind.signed, IntKind.bits] at h1
 exact ⟨a.toNat, by simp at h1; omega, by simp at h1; omega⟩
end Go.AW
namespace Go.AW
open Go
section
variable {P : Program} {N : dV} {st : St} {dst : Option Nat} {ty : TypeId} {pos : String} {af : Array Edge} {g : Option (Nat × Bool)}
theorem aJ.bin {op : BinOp} {t t' : TypeId} {x y : Operand} {u v r : Value} (hx : bx st x = some (.v u)) (hy : bx st y = some (.v v))
  (hr : ∀ w, (do eqGuard op t x y u v; binOp op t u v : Sem Value).run P w = .ok r w) : aJ P N st ⟨dst, .binOp op t x y t', ty, pos, af, g⟩ (.v r) := by
 intro G E RR a _ hi
 refine ⟨r, fun w => ?_, by simp [RX]⟩
 show (do let x ← (do eqGuard op t x y (a.eval x) (a.eval y); binOp op t (a.eval x) (a.eval y) : Sem Value); pure (Next.value x) : Sem Next).run P w = _
 rw [hi.val hx, hi.val hy]
 exact cE (hr _)
section ints
variable {t t' : TypeId} {x y : Operand} {k : IntKind} {a b r : Int}
theorem aJ.add (hx : bx st x = some (.v (.int k a))) (hy : bx st y = some (.v (.int k b))) (hr : k.wrap (a + b) = r) : aJ P N st ⟨dst, .binOp .add t x y t', ty, pos, af, g⟩ (.v (.int k r)) :=
 aJ.bin hx hy fun w => by subst hr; simp [eqGuard, binOp, Op.intArith]
theorem aJ.sub (hx : bx st x = some (.v (.int k a))) (hy : bx st y = some (.v (.int k b))) (hr : k.wrap (a - b) = r) : aJ P N st ⟨dst, .binOp .sub t x y t', ty, pos, af, g⟩ (.v (.int k r)) :=
 aJ.bin hx hy fun w => by subst hr; simp [eqGuard, binOp, Op.intArith]
theorem aJ.mul (hx : bx st x = some (.v (.int k a))) (hy : bx st y = some (.v (.int k b))) (hr : k.wrap (a * b) = r) : aJ P N st ⟨dst, .binOp .mul t x y t', ty, pos, af, g⟩ (.v (.int k r)) :=
 aJ.bin hx hy fun w => by subst hr; simp [eqGuard, binOp, Op.intArith]
theorem aJ.rem (hx : bx st x = some (.v (.int k a))) (hy : bx st y = some (.v (.int k b))) (h0 : b ≠ 0) (hr : a.tmod b = r) : aJ P N st ⟨dst, .binOp .rem t x y t', ty, pos, af, g⟩ (.v (.int k r)) :=
 aJ.bin hx hy fun w => by subst hr; simp [eqGuard, binOp, Op.intDiv, h0]
theorem aJ.lss (hx : bx st x = some (.v (.int k a))) (hy : bx st y = some (.v (.int k b))) : aJ P N st ⟨dst, .binOp .lss t x y t', ty, pos, af, g⟩ (.v (.bool (decide (a < b)))) :=
 aJ.bin hx hy fun w => by simp [eqGuard, binOp, Op.intCmp]
theorem aJ.leq (hx : bx st x = some (.v (.int k a))) (hy : bx st y = some (.v (.int k b))) : aJ P N st ⟨dst, .binOp .leq t x y t', ty, pos, af, g⟩ (.v (.bool (decide (a ≤ b)))) :=
 aJ.bin hx hy fun w => by simp [eqGuard, binOp, Op.intCmp]
theorem aJ.gtr (hx : bx st x = some (.v (.int k a))) (hy : bx st y = some (.v (.int k b))) : aJ P N st ⟨dst, .binOp .gtr t x y t', ty, pos, af, g⟩ (.v (.bool (decide (b < a)))) :=
 aJ.bin hx hy fun w => by simp [eqGuard, binOp, Op.intCmp]
theorem aJ.geq (hx : bx st x = some (.v (.int k a))) (hy : bx st y = some (.v (.int k b))) : aJ P N st ⟨dst, .binOp .geq t x y t', ty, pos, af, g⟩ (.v (.bool (decide (b ≤ a)))) :=
 aJ.bin hx hy fun w => by simp [eqGuard, binOp, Op.intCmp]
theorem aJ.eql (hx : bx st x = some (.v (.int k a))) (hy : bx st y = some (.v (.int k b))) : aJ P N st ⟨dst, .binOp .eql t x y t', ty, pos, af, g⟩ (.v (.bool (decide (a = b)))) :=
 aJ.bin hx hy fun w => by simp [eqGuard, binOp, Op.intCmp, BEq.beq]
theorem aJ.neq (hx : bx st x = some (.v (.int k a))) (hy : bx st y = some (.v (.int k b))) : aJ P N st ⟨dst, .binOp .neq t x y t', ty, pos, af, g⟩ (.v (.bool (decide (a ≠ b)))) :=
 aJ.bin hx hy fun w => by simp [eqGuard, binOp, Op.intCmp, bne, BEq.beq]
end ints
theorem aJ.un {op : UnOp} {t : TypeId} {x : Operand} {u r : Value} (hx : bx st x = some (.v u)) (hr : ∀ w, (Op.unary op u).run P w = .ok r w) : aJ P N st ⟨dst, .unOp op t x, ty, pos, af, g⟩ (.v r) := by
 intro G E RR a _ hi
 refine ⟨r, fun w => ?_, by simp [RX]⟩
 show (do let x ← Op.unary op (a.eval x); pure (Next.value x) : Sem Next).run P w = _
 rw [hi.val hx]
 exact cE (hr _)
theorem aJ.not {t : TypeId} {x : Operand} {b : Bool} (hx : bx st x = some (.v (.bool b))) : aJ P N st ⟨dst, .unOp .not t x, ty, pos, af, g⟩ (.v (.bool (!b))) :=
 aJ.un hx fun _ => rfl
theorem aJ.conv {s d : TypeId} {x : Operand} {k k' : IntKind} {n r : Int} (hs : TY.isInt P s = some k') (hd : TY.isInt P d = some k) (hx : bx st x = some (.v (.int k' n))) (hr : k.wrap n = r) :
  aJ P N st ⟨dst, .convert s d x, ty, pos, af, g⟩ (.v (.int k r)) := by
 intro G E RR a _ hi
 refine ⟨.int k r, fun w => ?_, by simp [RX]⟩
 show (do let x ← convert s d (a.eval x); pure (Next.value x) : Sem Next).run P w = _
 rw [hi.val hx]
 refine cE ?_
 have h1 : P.underlying s = some (.int k') := by unfold TY.isInt at hs; split at hs <;> simp_all
 have h2 : P.underlying d = some (.int k) := by unfold TY.isInt at hd; split at hd <;> simp_all
 simp [convert, run_underlying h1, run_underlying h2, Conv.intToInt, hr]
section
variable {t t' : TypeId} {x y : Operand} {a b : Int}
theorem aJ.JP (hx : bx st x = some (.v (.int .i64 a))) (hy : bx st y = some (.v (.int .i64 b))) (hr : -9223372036854775808 ≤ a + b ∧ a + b ≤ 9223372036854775807) : aJ P N st ⟨dst, .binOp .add t x y t', ty, pos, af, g⟩ (.v (.int .i64 (a + b))) :=
 aJ.add hx hy (IntWalk.i64_in _ hr)
theorem aJ.ON (hx : bx st x = some (.v (.int .i64 a))) (hy : bx st y = some (.v (.int .i64 b))) (hr : -9223372036854775808 ≤ a - b ∧ a - b ≤ 9223372036854775807) : aJ P N st ⟨dst, .binOp .sub t x y t', ty, pos, af, g⟩ (.v (.int .i64 (a - b))) :=
 aJ.sub hx hy (IntWalk.i64_in _ hr)
theorem aJ.OO (hx : bx st x = some (.v (.int .i64 a))) (hy : bx st y = some (.v (.int .i64 b))) (hr : -9223372036854775808 ≤ a * b ∧ a * b ≤ 9223372036854775807) : aJ P N st ⟨dst, .binOp .mul t x y t', ty, pos, af, g⟩ (.v (.int .i64 (a * b))) :=
 aJ.mul hx hy (IntWalk.i64_in _ hr)
theorem aJ.OP {k : IntKind} (hx : bx st x = some (.v (.int k a))) (hy : bx st y = some (.v (.int k b))) (hr : 0 ≤ a ∧ 1 ≤ b) : aJ P N st ⟨dst, .binOp .rem t x y t', ty, pos, af, g⟩ (.v (.int k (a % b))) :=
 aJ.rem hx hy om (IntWalk.rem_in a b hr.1)
end
theorem aJ.MD {s d : TypeId} {x : Operand} {k k' : IntKind} {n : Int} (hs : TY.isInt P s = some k') (hd : TY.isInt P d = some k) (hx : bx st x = some (.v (.int k' n))) (hr : k.wrap n = n) :
  aJ P N st ⟨dst, .convert s d x, ty, pos, af, g⟩ (.v (.int k n)) := aJ.conv hs hd hx hr
theorem aJ.len {t e s cy : Nat} {x : Operand} {y : X} {n : Nat} (ht : TY.slice P t = some (e, s, cy)) (hx : bx st x = some y) (hn : y.len = some n) :
  aJ P N st ⟨dst, .call ⟨.builtin .len, #[x], #[t]⟩, ty, pos, af, g⟩ (.v (.int .i64 (n : Int))) := by
 intro G E RR a _ hi
 obtain ⟨R, hp⟩ := hi.eval hx
 obtain ⟨base, cap, hc⟩ := hp.len hn
 refine ⟨.int .i64 (n : Int), fun w => fC ?_, by simp [RX]⟩
 obtain ⟨hu, _⟩ := TY.c7 ht
 simp [builtin, Builtin.len_, hc, run_underlying hu, goInt]
theorem aJ.yj {t e s cy : Nat} {x ix : Operand} {rows : List (List X)} {row : List X} {k : IntKind} {n : Int} {m : Nat} (ht : TY.slice P t = some (e, s, cy)) (hx : bx st x = some (.fz s rows))
  (tl : bx st ix = some (.v (.int k n))) (hn : n = (m : Int)) (hr : rows[m]? = some row) : aJ P N st ⟨dst, .indexAddr t x ix, ty, pos, af, g⟩ (.fp row 0) := by
 intro G E RR a _ hi
 obtain ⟨R, hp⟩ := hi.eval hx
 have hm : m < rows.length := by
  rcases Nat.lt_or_ge m rows.length with h' | h'
  ·exact h'
  ·simp [List.getElem?_eq_none h'] at hr
 simp only [RX] at hp
 obtain ⟨_, hu, base, cap, hc, h⟩ := hp
 rcases h with ⟨h, _⟩ | ⟨b, off, rfl, hl, hf⟩
 ·subst h; simp at hr
 ·refine ⟨.pointer (some ⟨b, off + m * s, none⟩), fun w => ?_, ?_⟩
  ·show (do let z ← Instr.indexAt t (a.eval x) (a.eval ix); pure (Next.value z) : Sem Next).run P w = _
   rw [hc, hi.val tl]
   exact cE (iN ht hn hm w)
  ·simp only [RX]
   exact ⟨trivial, b, off + m * s, rfl, gJ.get hu hf hr⟩
theorem aJ.JQ {t e s cy : Nat} {x ix : Operand} {o lo len : Nat} {k : IntKind} {n : Int} {m : Nat} (ht : TY.slice P t = some (e, s, cy)) (hx : bx st x = some (.aY o s lo len))
  (tl : bx st ix = some (.v (.int k n))) (hn : n = (m : Int)) (hm : m < len) : aJ P N st ⟨dst, .indexAddr t x ix, ty, pos, af, g⟩ (.ptr o s (lo + m) 0) := by
 intro G E RR a _ hi
 obtain ⟨R, hp⟩ := hi.eval hx
 simp only [RX] at hp
 obtain ⟨_, base, cap, hc, h⟩ := hp
 rcases h with ⟨_, _, h, _⟩ | ⟨B, hB, _, hl, hb⟩
 ·omega
 ·have fe : base = some ⟨B.b, B.off + lo * s, none⟩ := hb.resolve_left om
  subst fe
  refine ⟨.pointer (some ⟨B.b, B.off + lo * s + m * s, none⟩), fun w => ?_, ?_⟩
  ·show (do let z ← Instr.indexAt t (a.eval x) (a.eval ix); pure (Next.value z) : Sem Next).run P w = _
   rw [hc, hi.val tl]
   exact cE (iN ht hn hm w)
  ·simp only [RX]
   exact ⟨trivial, B, hB, by rw [Nat.add_mul]; simp [Nat.add_assoc]⟩
theorem aJ.JR {t len e s : Nat} {x ix : Operand} {p q : X} {k : IntKind} {n : Int} {m : Nat} (ht : TY.array P t = some (len, e, s)) (hx : bx st x = some p)
  (tl : bx st ix = some (.v (.int k n))) (hn : n = (m : Int)) (hm : m < len) (hq : p.on (m * s) = some q) : aJ P N st ⟨dst, .indexAddr t x ix, ty, pos, af, g⟩ q := by
 intro G E RR a _ hi
 obtain ⟨R, hp⟩ := hi.eval hx
 obtain ⟨b, o, hc, h⟩ := hp.on hq
 refine ⟨_, fun w => ?_, h⟩
 show (do let z ← Instr.indexAt t (a.eval x) (a.eval ix); pure (Next.value z) : Sem Next).run P w = _
 rw [hc, hi.val tl]
 refine cE ?_
 obtain ⟨hu, i, fh, hs⟩ := TY.o6 ht
 subst hn
 simp [Instr.indexAt, Instr.sureAddr, asIntOf, run_underlying hu, hm, run_sizeOf fh, hs, eY]
end
end Go.AW
namespace Go.AW
open Go
section
variable {P : Program} {N : dV} {st : St} {ops : Array Oper} {d : Nat} {ty : TypeId} {pos : String} {af : Array Edge} {K : St → Prop}
def SG (G : Ctx) (w : World) : Prop := (∀ b, G.K b → w.heap[b]? = G.w0.heap[b]?) ∧ ∀ b i v, G.φ0 b i = some v → w.cell? ⟨b, i, none⟩ = some v
theorem bT.sg {G : Ctx} {a : Act} {w : World} (h : bT G st a w) : SG G w := by
  obtain ⟨E, RR, rfl, hi⟩ := h
  exact ⟨hi.ao, fun b i v hv => hi.kh b i v (hi.φ0 b i v hv)⟩
def lS (G : Ctx) (E : Env) (L : List Nat) (T : Nat → List Nat) (F' : List Nat) : Ctx := ⟨fun b => G.K b ∨ ∃ o, o ∈ L ∧ b ∈ T o, E.w, E.φ, E.β, ⟨G.fn.n, F'⟩, G.ds⟩
def bU (P : Program) (N : dV) (ops : Array Oper) (n : Nat) (ag : Array Bool) (st : St) (K : St → Prop) : Prop :=
  ∀ G : Ctx, G.fn = N → ∀ a w, bT G st a w → wpAnyH P .any ops (fun e a w => e = .normal ∧ ∃ aW, K aW ∧ bT G aW a w) (SG G) n ag a w
def bC (P : Program) (N : dV) (L F' : List Nat) (ops : Array Oper) (n : Nat) (ag : Array Bool) (st : St) (K : St → Prop) : Prop :=
  ∀ G : Ctx, G.fn = N → ∀ E RR a (T : Nat → List Nat), (∀ o ∈ L, RR (.obj o) = T o) → Inv G E RR st a →
    wpAnyH P .any ops (fun e a w => e = .normal ∧ ∃ aW, K aW ∧ bT G aW a w) (SG (lS G E L T F')) n ag a E.w
theorem Inv.Ci {G : Ctx} {E : Env} {RR : Own → List Nat} {a : Act} (hi : Inv G E RR st a) (L : List Nat) (T : Nat → List Nat) (F' : List Nat) : SG (lS G E L T F') E.w := ⟨fun _ _ => rfl, hi.kh⟩
theorem bC.blind {L F' : List Nat} {n : Nat} {ag : Array Bool} (i : Nat) {op : Op} {x : X} (ho : ops[i]? = some ⟨some d, op, ty, pos, af, none⟩)
    (hB : (Region.noSelect ops && Region.free .any ops ag i && (Region.ready .any ops ag).contains i) = true) (hy : aJ P N st ⟨some d, op, ty, pos, af, none⟩ x) (hd : d < N.n)
    (k : bC P N L F' ops n (ag.setIfInBounds i true) (st.put d x) K) : bC P N L F' ops (n + 1) ag st K := by
  intro G hn E RR a T hT hi
  obtain ⟨u, hr, hx⟩ := hy G E RR a hn hi
  simp only [Bool.and_eq_true] at hB
  refine wpAnyH_take (v := u) ho hB.1.1 hB.1.2 hB.2 ?_ (.inl ⟨by simp [Region.wanted], fun w _ => hr w⟩) (hi.Ci L T F') (k G hn E _ _ T ?_ (hi.fg (hn ▸ hd) hx))
  · intro c a w h
    cases h.1
  · intro o ho
    have := hT o ho
    simpa [e9] using this
def s8 (L : List Nat) : X → Bool
  | .fp .. => true
  | .ptr o .. => L.elem o
  | _ => false
theorem Inv.held {G : Ctx} {E : Env} {RR : Own → List Nat} {a : Act} {L F' : List Nat} {T : Nat → List Nat} (hi : Inv G E RR st a) (hT : ∀ o ∈ L, RR (.obj o) = T o) {p : X} {c : Value} {R : List Nat} {row : List X}
    (hp : RX E p c R) (hr : rowAt st p = some row) (hL : s8 L p = true) :
    ∃ b off, c = .pointer (some ⟨b, off + jq p, none⟩) ∧ ∀ w, SG (lS G E L T F') w → ∀ j, j < row.length → w.cell? ⟨b, off + j, none⟩ = E.w.cell? ⟨b, off + j, none⟩ := by
  cases p with
  | fp row' k' =>
    simp only [rowAt, Option.some.injEq] at hr
    subst hr
    simp only [RX] at hp
    obtain ⟨_, b, off, hc, hf⟩ := hp
    refine ⟨b, off, hc, fun w hw j hj => ?_⟩
    obtain ⟨vs, hl, hv, hx⟩ := RF.cells hf
    obtain ⟨v, OQ⟩ : ∃ v, vs[j]? = some v := ⟨vs[j]'om, List.getElem?_eq_getElem om⟩
    have h1 := hv j v OQ
    rw [hi.kh _ _ _ h1]
    exact hw.2 _ _ _ h1
  | ptr o s i k' =>
    simp only [RX] at hp
    obtain ⟨_, B, hB, hc⟩ := hp
    have Es : o ∈ L := List.elem_iff.1 hL
    have ME := hT o Es
    have hb : B.b ∈ T o := by
      simp only [rowAt] at hr
      split at hr
      · rename_i xs ho
        have h0 := hi.aA o _ ho
        simp only [dD] at h0
        obtain ⟨_, B', cs, ty, g7, hw, _, _, iJ, hR⟩ := h0
        rw [hB] at g7
        obtain rfl := Option.some.inj g7
        rw [← ME, hR]; simp
      · rename_i s' rs ho
        have h0 := hi.aA o _ ho
        simp only [dD] at h0
        obtain ⟨hu, h0⟩ := h0
        rcases h0 with ⟨h0, _⟩ | ⟨B', cs, ty, R', g7, hw, _, _, _, _, hR⟩
        · rw [hB] at h0; cases h0
        · rw [hB] at g7
          obtain rfl := Option.some.inj g7
          rw [← ME, hR]; simp
      · cases hr
    refine ⟨B.b, B.off + i * s, by rw [hc]; simp [jq, Nat.add_assoc], fun w hw j _ => ?_⟩
    have := hw.1 B.b (.inr ⟨o, Es, hb⟩)
    unfold World.cell?
    simp only [lS] at this
    rw [this]
  | _ => cases hL
theorem ov {b b' o o' k : Nat} (h : Value.pointer (some ⟨b, o + k, none⟩) = Value.pointer (some ⟨b', o' + k, none⟩)) : b = b' ∧ o = o' := by
  simp only [Value.pointer.injEq, Option.some.injEq, Addr.mk.injEq] at h
  omega
theorem bC.load {L F' : List Nat} {n : Nat} {ag : Array Bool} (i : Nat) {t : TypeId} {x : Operand} {p y : X} {row : List X} (ho : ops[i]? = some ⟨some d, .load t x, ty, pos, af, none⟩)
    (hB : (Region.noSelect ops && Region.free .any ops ag i && (Region.ready .any ops ag).contains i) = true) (ht : TY.shape P t = some none) (hx : bx st x = some p) (hL : s8 L p = true) (hr : rowAt st p = some row)
    (hy : row[jq p]? = some y) (hf : y.free = true) (hd : d < N.n)
    (k : bC P N L F' ops n (ag.setIfInBounds i true) (st.put d y) K) : bC P N L F' ops (n + 1) ag st K := by
  intro G hn E RR a T hT hi
  obtain ⟨R, hp⟩ := hi.eval hx
  obtain ⟨b, off, hc, fO⟩ := hi.behind hp hr
  obtain ⟨b', o9, mo, l3⟩ := hi.held (F' := F') hT hp hr hL
  obtain ⟨rfl, rfl⟩ := ov (hc.symm.trans mo)
  have hk : jq p < row.length := by
    rcases Nat.lt_or_ge (jq p) row.length with h' | h'
    · exact h'
    · simp [List.getElem?_eq_none h'] at hy
  obtain ⟨vs, R', hl, hv, eU⟩ := fO (jq p) 1 om
  rw [getElem?_drop_take_one hy] at eU
  simp only [br] at eU
  obtain ⟨c, c1, R₁, R₂, Cw, _, h1, ⟨rfl, rfl⟩, rfl⟩ := eU
  subst Cw
  have h0 := RX.free hf h1
  subst h0
  simp only [Bool.and_eq_true] at hB
  refine wpAnyH_take (v := c) ho hB.1.1 hB.1.2 hB.2 ?_ (.inl ⟨by simp [Region.wanted], fun w hw => ?_⟩) (hi.Ci L T F') (k G hn E _ _ T ?_ (hi.fg (hn ▸ hd) h1))
  · intro c a w h
    cases h.1
  · show (do let z ← Instr.loadAt t (a.eval x); pure (Next.value z) : Sem Next).run P w = _
    rw [hc]
    refine cE ?_
    have fP := hv 0 c rfl
    simp only [Instr.loadAt, Instr.sureAddr, loadVar, Sem.run_bind, Sem.run_pure, Result.andThen_ok, (TY.gg ht w).1]
    simp only [Nat.add_zero] at fP
    rw [← l3 w hw _ hk] at fP
    simp [fP]
  · intro o ho
    have := hT o ho
    simpa [e9] using this
theorem bC.yk {L F' : List Nat} {n : Nat} {ag : Array Bool} (i : Nat) {t : TypeId} {x : Operand} {p : X} {row : List X} {m : Nat} {ys : List X} (ho : ops[i]? = some ⟨some d, .load t x, ty, pos, af, none⟩)
    (hB : (Region.noSelect ops && Region.free .any ops ag i && (Region.ready .any ops ag).contains i) = true) (ht : TY.shape P t = some (some m)) (hx : bx st x = some p) (hL : s8 L p = true) (hr : rowAt st p = some row)
    (hm : jq p + m ≤ row.length) (rP : (row.drop (jq p)).take m = ys) (hf : X.bc ys = true) (hd : d < N.n)
    (k : bC P N L F' ops n (ag.setIfInBounds i true) (st.put d (.agg ys)) K) : bC P N L F' ops (n + 1) ag st K := by
  intro G hn E RR a T hT hi
  obtain ⟨R, hp⟩ := hi.eval hx
  obtain ⟨b, off, hc, fO⟩ := hi.behind hp hr
  obtain ⟨b', o9, mo, l3⟩ := hi.held (F' := F') hT hp hr hL
  obtain ⟨rfl, rfl⟩ := ov (hc.symm.trans mo)
  obtain ⟨vs, R', hl, hv, eU⟩ := fO (jq p) m hm
  rw [rP] at eU
  have h0 := br.free hf eU
  subst h0
  simp only [Bool.and_eq_true] at hB
  refine wpAnyH_take (v := .agg vs.toArray) ho hB.1.1 hB.1.2 hB.2 ?_ (.inl ⟨by simp [Region.wanted], fun w hw => ?_⟩) (hi.Ci L T F') (k G hn E _ _ T ?_ (hi.fg (hn ▸ hd) (by simp only [RX]; exact ⟨_, rfl, eU⟩)))
  · intro c a w h
    cases h.1
  · show (do let z ← Instr.loadAt t (a.eval x); pure (Next.value z) : Sem Next).run P w = _
    rw [hc]
    refine cE ?_
    obtain ⟨h1, h2⟩ := TY.j8 ht w
    have h3 : (loadCells ⟨b, off + jq p, none⟩ m).run P w = .ok vs.toArray w := by
      rw [← hl]
      refine run_loadCells_list (w := w) _ vs fun j v hj => ?_
      have kT : j < vs.length := (List.getElem?_eq_some_iff.1 hj).1
      rw [eY, Nat.add_assoc, l3 w hw _ om]; exact hv j v hj
    simp only [Instr.loadAt, Instr.sureAddr, loadVar, Sem.run_bind, Sem.run_pure, Result.andThen_ok, h1, if_true, h2, h3]
  · intro o ho
    have := hT o ho
    simpa [e9] using this
def St.back (st : St) : List Nat → List (Nat × Obj) → List (Nat × Obj)
  | [], r => r
  | o :: L, r => match look st.aA o with
    | some ob => (o, ob) :: st.back L r
    | none => st.back L r
theorem qH (st : St) {r : List (Nat × Obj)} {q : Nat} {x : Obj} : ∀ {L : List Nat}, (∀ o ∈ L, ∃ ob, look st.aA o = some ob) → look (st.back L r) q = some x → (q ∈ L ∧ look st.aA q = some x) ∨ (q ∉ L ∧ look r q = some x)
  | [], _, h => .inr ⟨by simp, h⟩
  | o :: L, hL, h => by
    obtain ⟨ob, aP⟩ := hL o (by simp)
    simp only [St.back, aP, look] at h
    cases hb : Nat.beq o q with
    | true =>
      have := Nat.eq_of_beq_eq_true hb
      subst this
      simp only [hb, cond_true, Option.some.injEq] at h
      exact .inl ⟨by simp, by rw [aP, h]⟩
    | false =>
      simp only [hb, cond_false] at h
      have eB : q ≠ o := Ne.symm (Nat.ne_of_beq_eq_false hb)
      rcases qH st (fun o ho => hL o (List.mem_cons_of_mem _ ho)) h with ⟨h1, h2⟩ | ⟨h1, h2⟩
      · exact .inl ⟨List.mem_cons_of_mem _ h1, h2⟩
      · exact .inr ⟨by simp [eB, h1], h2⟩
def iZ (st : St) (L F' : List Nat) : Prop := ∀ o ∈ L, ∃ ob, look st.aA o = some ob ∧ ∀ xs, ob = .cells xs → ∀ q, X.c3 q xs = true → F'.elem q = true
theorem lS.down {G : Ctx} {E : Env} {RR : Own → List Nat} {a : Act} {L F' : List Nat} {T : Nat → List Nat} (hi : Inv G E RR st a) (hT : ∀ o ∈ L, RR (.obj o) = T o) {z7 : St} (hle : Le st z7) (JS : ∀ o ∈ L, look z7.aA o = none) :
    bT (lS G E L T F') z7 a E.w := by
  refine ⟨E, fun p => match p with | .obj o => if o ∈ L then [] else RR (.obj o) | p => RR p, rfl, ?_⟩
  have sub : ∀ p b, b ∈ (match p with | .obj o => if o ∈ L then [] else RR (.obj o) | p => RR p : List Nat) → b ∈ RR p ∧ ∀ o, p = .obj o → o ∉ L := by
    intro p b h
    cases p with
    | obj o =>
      by_cases hL : o ∈ L
      · simp [hL] at h
      · simp only [hL, if_false] at h
        exact ⟨h, fun q hq => by cases hq; exact hL⟩
    | slot s => exact ⟨h, fun q hq => by cases hq⟩
  exact {
    kh := hi.kh
    a7 := fun s x hx => hi.a7 s x (hle.1 s x hx)
    aA := fun o ob ho => by
      by_cases hL : o ∈ L
      · rw [JS o hL] at ho; cases ho
      · simp only [hL, if_false]; exact hi.aA o ob (hle.2 o ob ho)
    nodup := fun p => by
      cases p with
      | obj o =>
        by_cases hL : o ∈ L
        · simp [hL]
        · simp only [hL, if_false]; exact hi.nodup _
      | slot s => exact hi.nodup _
    apart := fun p q kj b hb fe => hi.apart p q kj b (sub p b hb).1 (sub q b fe).1
    own := fun p b hb => by
      obtain ⟨h1, h2⟩ := sub p b hb
      refine ⟨(hi.own p b h1).1, fun zJ => ?_⟩
      rcases (zJ : G.K b ∨ ∃ o, o ∈ L ∧ b ∈ T o) with h | ⟨o, ho, Ey⟩
      · exact (hi.own p b h1).2 h
      · rw [← hT o ho] at Ey
        have eB : p ≠ .obj o := fun e => h2 o e ho
        exact hi.apart p (.obj o) eB b h1 Ey
    ao := fun _ _ => rfl
    size := Nat.le_refl _
    small := fun b zJ => by
      rcases (zJ : G.K b ∨ ∃ o, o ∈ L ∧ b ∈ T o) with h | ⟨o, ho, Ey⟩
      · exact Nat.lt_of_lt_of_le (hi.small b h) hi.size
      · rw [← hT o ho] at Ey
        exact (hi.own _ b Ey).1
    os := rfl
    tape := rfl
    output := rfl
    φ0 := fun _ _ _ h => h
    grow := fun _ _ _ h => .inl h
    fixed := fun _ _ => rfl
    tmps := hi.tmps
    defers := hi.defers }
theorem lS.up {G : Ctx} {E : Env} {RR : Own → List Nat} {a : Act} {L F' : List Nat} {T : Nat → List Nat} (hi : Inv G E RR st a) (hT : ∀ o ∈ L, RR (.obj o) = T o) (hF : ∀ o, G.fn.F.elem o = true → F'.elem o = true) (JT : ∀ o ∈ L, F'.elem o = true)
    (aP : iZ st L F') {aW : St} {a' : Act} {w' : World} (h : bT (lS G E L T F') aW a' w') : bT G ⟨aW.a7, st.back L aW.aA⟩ a' w' := by
  obtain ⟨E', eC, rfl, hj⟩ := h
  have Bx : ∀ {o b}, o ∈ L → b ∈ RR (.obj o) → (lS G E L T F').K b := fun ho hb => .inr ⟨_, ho, by rw [← hT _ ho]; exact hb⟩
  have sub : ∀ p b, b ∈ (match p with | .obj o => if o ∈ L then RR (.obj o) else eC (.obj o) | p => eC p : List Nat) → (∃ o, o ∈ L ∧ p = .obj o ∧ b ∈ RR p) ∨ ((∀ o, p = .obj o → o ∉ L) ∧ b ∈ eC p) := by
    intro p b h
    cases p with
    | obj o =>
      by_cases hL : o ∈ L
      · simp only [hL, if_true] at h
        exact .inl ⟨o, hL, rfl, h⟩
      · simp only [hL, if_false] at h
        exact .inr ⟨fun q hq => by cases hq; exact hL, h⟩
    | slot s => exact .inr ⟨fun q hq => (by cases hq), h⟩
  refine ⟨E', fun p => match p with | .obj o => if o ∈ L then RR (.obj o) else eC (.obj o) | p => eC p, rfl, ?_⟩
  exact {
    kh := hj.kh
    a7 := fun s x hx => hj.a7 s x hx
    aA := fun o ob ho => by
      rcases qH st (fun o ho => (aP o ho).imp fun _ h => h.1) ho with ⟨h1, h2⟩ | ⟨h1, h2⟩
      · simp only [h1, if_true]
        obtain ⟨td, GS, Aj⟩ := aP o h1
        rw [h2] at GS
        obtain rfl := Option.some.inj GS
        refine dD.mono ⟨hj.φ0, fun b hb => ⟨hj.ao b (Bx h1 hb), fun hn i => ?_⟩⟩ (hj.fixed o (JT o h1)) (fun xs eU q hq => hj.fixed q (Aj xs eU q hq)) (hi.aA o ob h2)
        cases hφ : E'.φ b i with
        | none => rfl
        | some v =>
          rcases hj.grow b i v hφ with h3 | h3
          · have h4 := hn i
            change E.φ b i = some v at h3
            rw [h4] at h3; cases h3
          · exact absurd (Bx h1 hb) h3
      · simp only [h1, if_false]; exact hj.aA o ob h2
    nodup := fun p => by
      cases p with
      | obj o =>
        by_cases hL : o ∈ L
        · simp only [hL, if_true]; exact hi.nodup _
        · simp only [hL, if_false]; exact hj.nodup _
      | slot s => exact hj.nodup _
    apart := fun p q kj b hb fe => by
      rcases sub p b hb with ⟨o, ho, rfl, h1⟩ | ⟨_, h1⟩ <;> rcases sub q b fe with ⟨o', ll, rfl, h2⟩ | ⟨_, h2⟩
      · exact hi.apart _ _ kj b h1 h2
      · exact (hj.own _ b h2).2 (Bx ho h1)
      · exact (hj.own _ b h1).2 (Bx ll h2)
      · exact hj.apart _ _ kj b h1 h2
    own := fun p b hb => by
      rcases sub p b hb with ⟨o, ho, rfl, h1⟩ | ⟨_, h1⟩
      · exact ⟨Nat.lt_of_lt_of_le (hi.own _ b h1).1 hj.size, (hi.own _ b h1).2⟩
      · exact ⟨(hj.own _ b h1).1, fun hk => (hj.own _ b h1).2 (.inl hk)⟩
    ao := fun b hb => (hj.ao b (.inl hb)).trans (hi.ao b hb)
    size := Nat.le_trans hi.size hj.size
    small := hi.small
    os := hj.os.trans hi.os
    tape := hj.tape.trans hi.tape
    output := hj.output.trans hi.output
    φ0 := fun b i v h => hj.φ0 b i v (hi.φ0 b i v h)
    grow := fun b i v h => by
      rcases hj.grow b i v h with h1 | h1
      · exact hi.grow b i v h1
      · exact .inr fun hk => h1 (.inl hk)
    fixed := fun o ho => (hj.fixed o (hF o ho)).trans (hi.fixed o ho)
    tmps := hj.tmps
    defers := hj.defers }
theorem lT {Q1 Q2 : Exit → Act → World → Prop} {K1 K2 : Act → World → Prop} {j : Nat} {a : Act} {w : World} (hQ : ∀ e a w, e ≠ .normal → Q1 e a w → False) (hK : ∀ a w, K1 a w → K2 a w) (h : wpOp P ops Q1 j K1 a w) : wpOp P ops Q2 j K2 a w := by
  unfold wpOp at *
  cases ho : ops[j]? with
  | none => simp only [ho] at h ⊢; first | exact hK _ _ h | exact h
  | some o =>
    simp only [ho] at *
    split
    · rename_i hw
      simp only [hw, if_true] at h
      rcases h with h | ⟨_, hl⟩
      · refine .inl ?_
        unfold Oper.wp at *
        generalize (execOp a.eval o).run P w = r at *
        cases r with
        | ok nx w' =>
          cases nx <;> simp only [Oper.upon] at h ⊢ <;> first
            | exact hK _ _ h
            | exact Calls.mono h (fun e Mk he => by
                cases e with
                | returned u => exact hK _ _ he
                | panicked c => exact (hQ _ _ _ (by simp) he).elim
                | outgrown => exact (let ⟨_, _, h'⟩ := he; hQ _ _ _ (by simp) h').elim)
            | exact Rows.mono h (fun _ _ he => hK _ _ he)
        | halt x w' => cases x <;> simp only [Oper.upon] at h ⊢ <;> first | exact (hQ _ _ _ (by simp) h).elim | exact (let ⟨_, _, h'⟩ := h; hQ _ _ _ (by simp) h').elim | exact h
      · obtain ⟨_, _, h'⟩ := hl
        exact (hQ _ _ _ (by simp) h').elim
    · rename_i hw
      simp only [hw] at h
      exact hK _ _ h
theorem nR {md : Region.Mode} {S : World → Prop} {Q1 Q2 : Exit → Act → World → Prop} (hQ : ∀ e a w, e ≠ .normal → Q1 e a w → False) (hN : ∀ a w, Q1 .normal a w → Q2 .normal a w) :
    ∀ (n : Nat) (ag : Array Bool) (a : Act) (w : World), wpAnyH P md ops Q1 S n ag a w → wpAnyH P md ops Q2 S n ag a w
  | 0, _, _, _, h => ⟨h.1, hN _ _ h.2⟩
  | n + 1, _, _, _, h => ⟨fun h0 => hN _ _ (h.1 h0), fun i hi => lT hQ (fun a w h' => ⟨h'.1, nR hQ hN n _ a w h'.2⟩) (h.2 i hi)⟩
theorem bC.go {L F' : List Nat} {n : Nat} {ag : Array Bool} (z7 : St) (hle : Le st z7) (JS : ∀ o ∈ L, look z7.aA o = none) (hF : ∀ o, N.F.elem o = true → F'.elem o = true) (JT : ∀ o ∈ L, F'.elem o = true)
    (aP : iZ st L F') (k : bU P ⟨N.n, F'⟩ ops n ag z7 (fun aW => K ⟨aW.a7, st.back L aW.aA⟩)) : bC P N L F' ops n ag st K := by
  intro G hn E RR a T hT hi
  refine nR (fun e a w he h => he h.1) ?_ n ag a E.w (k (lS G E L T F') (by simp [lS, hn]) a E.w (lS.down hi hT hle JS))
  rintro a' w' ⟨_, aW, hk, hh⟩
  exact ⟨rfl, _, hk, lS.up hi hT (by rw [hn]; exact hF) JT aP hh⟩
theorem bU.step {n : Nat} {ag : Array Bool} (j : Nat) {o : Oper} (ho : ops[j]? = some o)
    (k : aa P N ops [o] st (fun e aW => e = .normal ∧ bU P N ops n (ag.setIfInBounds j true) aW K)) (G : Ctx) (hn : G.fn = N) (a : Act) (w : World) (hh : bT G st a w) :
    wpOp P ops (fun e a w => e = .normal ∧ ∃ aW, K aW ∧ bT G aW a w) j (fun a' w' => SG G w' ∧ wpAnyH P .any ops (fun e a w => e = .normal ∧ ∃ aW, K aW ∧ bT G aW a w) (SG G) n (ag.setIfInBounds j true) a' w') a w := by
  have hk := k G hn a w hh
  have key : wpOp P ops (fun e a w => kb G (fun e aW => e = .normal ∧ bU P N ops n (ag.setIfInBounds j true) aW K) e a w) j
      (fun a w => kb G (fun e aW => e = .normal ∧ bU P N ops n (ag.setIfInBounds j true) aW K) .normal a w) a w := by
    unfold wpOp; simp only [ho]; exact hk
  refine lT ?_ ?_ key
  · rintro e a w he ⟨aW, _, h, _⟩
    exact he h
  · rintro a w ⟨aW, gf, _, uQ⟩
    exact ⟨gf.sg, uQ G hn a w gf⟩
theorem bU.one {n : Nat} {ag : Array Bool} (i : Nat) {o : Oper} (ho : ops[i]? = some o) (hr : (Region.ready .any ops ag == [i]) = true)
    (k : aa P N ops [o] st (fun e aW => e = .normal ∧ bU P N ops n (ag.setIfInBounds i true) aW K)) : bU P N ops (n + 1) ag st K := by
  intro G hn a w hh
  refine wpAnyH_all (rs := [i]) (by simpa using hr) (by simp) ?_
  intro j hj
  have : j = i := by simpa using hj
  subst this
  exact bU.step j ho k G hn a w hh
theorem bU.two {n : Nat} {ag : Array Bool} (i i' : Nat) {o o' : Oper} (ho : ops[i]? = some o) (ll : ops[i']? = some o') (hr : (Region.ready .any ops ag == [i, i']) = true)
    (k : aa P N ops [o] st (fun e aW => e = .normal ∧ bU P N ops n (ag.setIfInBounds i true) aW K))
    (k' : aa P N ops [o'] st (fun e aW => e = .normal ∧ bU P N ops n (ag.setIfInBounds i' true) aW K)) : bU P N ops (n + 1) ag st K := by
  intro G hn a w hh
  refine wpAnyH_all (rs := [i, i']) (by simpa using hr) (by simp) ?_
  intro j hj
  simp only [List.mem_cons, List.not_mem_nil, or_false] at hj
  rcases hj with rfl | rfl
  · exact bU.step j ho k G hn a w hh
  · exact bU.step j ll k' G hn a w hh
theorem bU.blind {n : Nat} {ag : Array Bool} (i : Nat) {op : Op} {x : X} (ho : ops[i]? = some ⟨some d, op, ty, pos, af, none⟩)
    (hB : (Region.noSelect ops && Region.free .any ops ag i && (Region.ready .any ops ag).contains i) = true) (hy : aJ P N st ⟨some d, op, ty, pos, af, none⟩ x) (hd : d < N.n)
    (k : bU P N ops n (ag.setIfInBounds i true) (st.put d x) K) : bU P N ops (n + 1) ag st K := by
  intro G hn a w hh
  have hS := hh.sg
  obtain ⟨E, RR, rfl, hi⟩ := hh
  obtain ⟨u, hr, hx⟩ := hy G E RR a hn hi
  simp only [Bool.and_eq_true] at hB
  refine wpAnyH_take (v := u) ho hB.1.1 hB.1.2 hB.2 ?_ (.inl ⟨by simp [Region.wanted], fun w _ => hr w⟩) hS (k G hn _ _ ⟨E, _, rfl, hi.fg (hn ▸ hd) hx⟩)
  intro c a w h
  cases h.1
theorem bU.done {n : Nat} {ag : Array Bool} (hr : (Region.ready .any ops ag).isEmpty = true) (h : K st) : bU P N ops n ag st K :=
  fun _ _ _ _ hh => wpAnyH_done (by simpa using hr) ⟨rfl, st, h, hh⟩ n
theorem Le.aA {st : St} {l : List (Nat × Obj)} (h : eO st.aA l) : Le st ⟨st.a7, l⟩ := ⟨fun _ _ h => h, h⟩
theorem iZ.nil {F' : List Nat} : iZ st [] F' := fun _ h => by cases h
def ownNames : List X → List Nat
  | [] => []
  | .ptr o .. :: r | .aY o .. :: r | .mref o :: r => o :: ownNames r
  | .v _ :: r | .fz .. :: r | .no :: r | .fp .. :: r | .di .. :: r => ownNames r
  | _ :: r => ownNames r
def vk : List X → Bool
  | [] => true
  | .agg _ :: _ | .tup _ :: _ | .gd .. :: _ => false
  | _ :: r => vk r
theorem jj {q : Nat} : ∀ {xs : List X}, vk xs = true → X.c3 q xs = true → q ∈ ownNames xs
  | [], _, h => by simp [X.c3] at h
  | x :: r, hf, h => by
    simp only [X.c3, Bool.or_eq_true] at h
    cases x <;> simp only [vk, Bool.false_eq_true] at hf <;> simp only [ownNames, X.dp, Bool.false_eq_true, false_or, beq_iff_eq, List.mem_cons] at h ⊢ <;>
      first
        | exact jj hf h
        | (rcases h with h | h
           · first | exact .inl h.symm | exact .inl h | exact .inl (Nat.eq_of_beq_eq_true h).symm | exact .inl (Nat.eq_of_beq_eq_true h)
           · exact .inr (jj hf h))
theorem iZ.cells {F' L : List Nat} {o : Nat} {xs : List X} (ho : look st.aA o = some (.cells xs)) (hf : vk xs = true) (hn : (ownNames xs).all (fun q => F'.elem q) = true) (hL : iZ st L F') : iZ st (o :: L) F' := by
  intro p hp
  rcases List.mem_cons.1 hp with rfl | hp
  · exact ⟨_, ho, fun ys rP q hq => by cases rP; exact List.all_eq_true.1 hn q (jj hf hq)⟩
  · exact hL p hp
theorem bC.OR {n : Nat} {ag : Array Bool} (k : bU P N ops n ag st K) : bC P N [] N.F ops n ag st K :=
  bC.go st (Le.refl st) (fun _ h => by cases h) (fun _ h => h) (fun _ h => by cases h) iZ.nil k
end
end Go.AW
namespace Go.AW
open Go
section
variable {P : Program}
theorem Sh.then {N : dV} {a b c : St} (h1 : Sh N a b) (h2 : Sh N b c) : Sh N a c := fun G hn x w hh => h2 G hn x w (h1 G hn x w hh)
end
end Go.AW
namespace Go.AW
open Go
section
variable {N : dV} {st : St} {d : Nat}
end
theorem ae.s9 {P : Program} {N : dV} {st : St} {ops : Array Oper} (L F' : List Nat) (J : St) {Q : Exit → St → Prop} {id : Nat} (hm : P.follows .mixedOrders = true) (h : bC P N L F' ops ops.size (Array.replicate ops.size false) st (fun aW => Le aW J)) (k : Q .normal J) : ae P N (.region id ops true) st Q := by
 intro G hn a w hh
 obtain ⟨E, RR, hw, hi⟩ := hh.drew
 refine wp_mono (wp_region_held (S := SG (lS G E L (fun o => RR (.obj o)) F')) hm (hw ▸ h G hn E RR a _ (fun _ _ => rfl) hi)) ?_
 rintro e a w ⟨rfl, aW, hk, gf⟩
 exact ⟨J, hk.holds gf, k⟩
theorem ae.r3 {P : Program} {N : dV} {st : St} {ops : Array Oper} (J : St) {Q : Exit → St → Prop} {id : Nat} (hm : P.follows .mixedOrders = true) (h : bC P N [] N.F ops ops.size (Array.replicate ops.size false) st (fun aW => Le aW J)) (k : Q .normal J) : ae P N (.region id ops true) st Q := ae.s9 [] N.F J hm h k
end Go.AW
namespace Go.AW
open Go
section
variable {P : Program} {ops : Array Oper} {Q : Exit → Act → World → Prop} {md : Region.Mode} {S : World → Prop}
def wpAnyL (P : Program) (md : Region.Mode) (ops : Array Oper) (Q : Exit → Act → World → Prop) (S : World → Prop) (LT : List Nat) : Nat → Array Bool → Act → World → Prop
 | 0, ag, a, w => Region.ready md ops ag = [] ∧ Q .normal a w
 | n + 1, ag, a, w => (Region.ready md ops ag = [] → Q .normal a w) ∧
   ∀ i ∈ Region.ready md ops ag, wpOp P ops Q i (fun a' w' => (i ∈ LT ∨ S w') ∧ wpAnyL P md ops Q S LT n (ag.setIfInBounds i true) a' w') a w
theorem wpAnyL_first {LT : List Nat} {i : Nat} {oi : Oper} {v : Value} (hi : ops[i]? = some oi) (xq : ∀ (j : Nat) (o : Oper) cs b, ops[j]? = some o → o.op ≠ .select cs b)
  (hQ : ∀ c a w, Q (.panic c) (a.put oi.dst v) w → Q (.panic c) a w) (gK : ∀ j ∈ LT, ∀ oj, ops[j]? = some oj → ∃ e ∈ oj.after, Region.binds md e = true ∧ e.on = i) :
  ∀ (n : Nat) (ag : Array Bool) (a : Act) (w : World), (∀ j oj, ops[j]? = some oj → j ≠ i → ag.getD j true = false → (∀ e ∈ oj.after, Region.binds md e = true → e.on ≠ i) → oi.apart ops oj = true) →
   i ∈ Region.ready md ops ag → YieldsIf P ops S oi v a → S w → wpAnyL P md ops Q S LT n (ag.setIfInBounds i true) (a.put oi.dst v) w → wpAnyL P md ops Q S LT (n + 1) ag a w := by
 intro n
 induction n with
 | zero =>
  intro ag a w _ hr hy hS H
  refine ⟨fun h => (by rw [h] at hr; cases hr), fun j hj => ?_⟩
  by_cases tg : j = i
  ·subst tg; exact hy.wpOp hi hS ⟨.inr hS, H⟩
  ·have := ready_mono hj tg
   rw [H.1] at this
   cases this
 | succ n ih =>
  intro ag a w ju hr hy hS H
  refine ⟨fun h => (by rw [h] at hr; cases hr), fun j hj => ?_⟩
  by_cases tg : j = i
  ·subst tg; exact hy.wpOp hi hS ⟨.inr hS, H⟩
  ·have h1 := H.2 j (ready_mono hj tg)
   obtain ⟨GU, oj, w9, pK⟩ := mem_ready.1 hj
   have Ae : ∀ e ∈ oj.after, Region.binds md e = true → e.on ≠ i := by
    intro e he hb heq
    have h3 := pK e he hb
    have h4 := (mem_ready.1 hr).1
    rw [heq] at h3
    rcases Nat.lt_or_ge i ag.size with h' | h'
    ·simp [h'] at h3 h4; rw [h3] at h4; cases h4
    ·simp [Array.getElem?_eq_none h'] at h3
   have kT : j ∉ LT := fun hm => by
    obtain ⟨e, he, hb, ho⟩ := gK j hm oj w9
    exact Ae e he hb ho
   have h2 := wpOp_putIf w9 (ju j oj w9 tg GU Ae) (fun cs b => xq i oi cs b hi) (fun cs b => xq j oj cs b w9) hQ hy h1
   refine wpOp_mono (fun a' w' h3 => ⟨h3.2.1, ih (ag.setIfInBounds j true) a' w' ?_ (ready_mono hr (Ne.symm tg)) h3.1 (h3.2.1.resolve_left kT) ?_⟩) h2
   ·intro k ok hk pE Fy Fs
    refine ju k ok hk pE ?_ Fs
    by_cases q3 : j = k
    ·subst q3; exact GU
    ·rw [getD_set_ne true q3] at Fy; exact Fy
   ·rw [Array.setIfInBounds_comm _ _ tg]; exact h3.2.2
end
end Go.AW
namespace Go.AW
open Go
section
variable {P : Program} {N : dV} {st : St} {ops : Array Oper} {d : Nat} {ty : TypeId} {pos : String} {af : Array Edge} {K : St → Prop}
def sA (ops : Array Oper) (LT : List Nat) (i : Nat) : Bool := LT.all fun j => match ops[j]? with
 | some oj => oj.after.toList.any fun e => Region.binds .any e && e.on == i
 | none => true
theorem ja {Q : Exit → Act → World → Prop} {S : World → Prop} {LT : List Nat} {i : Nat} {oi : Oper} {v : Value} {n : Nat} {ag : Array Bool} {a : Act} {w : World} (hi : ops[i]? = some oi)
  (hs : Region.noSelect ops = true) (hf : Region.free .any ops ag i = true) (hr : (Region.ready .any ops ag).contains i = true) (gK : sA ops LT i = true)
  (hQ : ∀ c a w, Q (.panic c) (a.put oi.dst v) w → Q (.panic c) a w) (hy : YieldsIf P ops S oi v a) (hS : S w)
  (h : wpAnyL P .any ops Q S LT n (ag.setIfInBounds i true) (a.put oi.dst v) w) : wpAnyL P .any ops Q S LT (n + 1) ag a w :=
 wpAnyL_first hi (Region.noSelect_spec hs) hQ (fun j hj oj w9 => by
  have h1 := List.all_eq_true.1 gK j hj
  simp only [w9, List.any_eq_true, Bool.and_eq_true, beq_iff_eq, Array.mem_toList_iff] at h1
  exact h1) n ag a w (Region.free_spec hi hf) (by simpa using hr) hy hS h
theorem ue {Q : Exit → Act → World → Prop} {S : World → Prop} {LT rs : List Nat} {n : Nat} {ag : Array Bool} {a : Act} {w : World} (hr : Region.ready .any ops ag = rs) (eB : rs ≠ [])
  (h : ∀ i ∈ rs, wpOp P ops Q i (fun a' w' => S w' ∧ wpAnyL P .any ops Q S LT n (ag.setIfInBounds i true) a' w') a w) : wpAnyL P .any ops Q S LT (n + 1) ag a w :=
 ⟨fun h0 => absurd (hr ▸ h0) eB, fun i hi => wpOp_mono (fun _ _ h' => ⟨.inr h'.1, h'.2⟩) (h i (hr ▸ hi))⟩
def fb (P : Program) (N : dV) (LT : List Nat) (ops : Array Oper) (R : Nat → Array Bool → St → Prop) (n : Nat) (ag : Array Bool) (st : St) : Prop :=
 ∀ G : Ctx, G.fn = N → ∀ Q : Exit → Act → World → Prop, (∀ c a w, Q (.panic c) a w → False) →
  (∀ n' l' aW a' w', R n' l' aW → bT G aW a' w' → wpAnyL P .any ops Q (SG G) LT n' l' a' w') → ∀ a w, bT G st a w → wpAnyL P .any ops Q (SG G) LT n ag a w
def ib (P : Program) (N : dV) (LT L F' : List Nat) (ops : Array Oper) (n : Nat) (ag : Array Bool) (st : St) (K : St → Prop) : Prop :=
 ∀ G : Ctx, G.fn = N → ∀ E RR a (T : Nat → List Nat), (∀ o ∈ L, RR (.obj o) = T o) → Inv G E RR st a →
  wpAnyL P .any ops (fun e a w => e = .normal ∧ ∃ aW, K aW ∧ bT G aW a w) (SG (lS G E L T F')) LT n ag a E.w
theorem ib.blind {LT L F' : List Nat} {n : Nat} {ag : Array Bool} (i : Nat) {op : Op} {x : X} (ho : ops[i]? = some ⟨some d, op, ty, pos, af, none⟩)
  (hB : (Region.noSelect ops && Region.free .any ops ag i && (Region.ready .any ops ag).contains i) = true) (gK : sA ops LT i = true) (hy : aJ P N st ⟨some d, op, ty, pos, af, none⟩ x) (hd : d < N.n)
  (k : ib P N LT L F' ops n (ag.setIfInBounds i true) (st.put d x) K) : ib P N LT L F' ops (n + 1) ag st K := by
 intro G hn E RR a T hT hi
 obtain ⟨u, hr, hx⟩ := hy G E RR a hn hi
 simp only [Bool.and_eq_true] at hB
 refine ja (v := u) ho hB.1.1 hB.1.2 hB.2 gK ?_ (.inl ⟨by simp [Region.wanted], fun w _ => hr w⟩) (hi.Ci L T F') (k G hn E _ _ T ?_ (hi.fg (hn ▸ hd) hx))
 ·intro c a w h
  cases h.1
 ·intro o ho
  have := hT o ho
  simpa [e9] using this
theorem ib.load {LT L F' : List Nat} {n : Nat} {ag : Array Bool} (i : Nat) {t : TypeId} {x : Operand} {p y : X} {row : List X} (ho : ops[i]? = some ⟨some d, .load t x, ty, pos, af, none⟩)
  (hB : (Region.noSelect ops && Region.free .any ops ag i && (Region.ready .any ops ag).contains i) = true) (gK : sA ops LT i = true) (ht : TY.shape P t = some none) (hx : bx st x = some p) (hL : s8 L p = true) (hr : rowAt st p = some row)
  (hy : row[jq p]? = some y) (hf : y.free = true) (hd : d < N.n)
  (k : ib P N LT L F' ops n (ag.setIfInBounds i true) (st.put d y) K) : ib P N LT L F' ops (n + 1) ag st K := by
 intro G hn E RR a T hT hi
 obtain ⟨R, hp⟩ := hi.eval hx
 obtain ⟨b, off, hc, fO⟩ := hi.behind hp hr
 obtain ⟨b', o9, mo, l3⟩ := hi.held (F' := F') hT hp hr hL
 obtain ⟨rfl, rfl⟩ := ov (hc.symm.trans mo)
 have hk : jq p < row.length := by
  rcases Nat.lt_or_ge (jq p) row.length with h' | h'
  ·exact h'
  ·simp [List.getElem?_eq_none h'] at hy
 obtain ⟨vs, R', hl, hv, eU⟩ := fO (jq p) 1 om
 rw [getElem?_drop_take_one hy] at eU
 simp only [br] at eU
 obtain ⟨c, c1, R₁, R₂, Cw, _, h1, ⟨rfl, rfl⟩, rfl⟩ := eU
 subst Cw
 have h0 := RX.free hf h1
 subst h0
 simp only [Bool.and_eq_true] at hB
 refine ja (v := c) ho hB.1.1 hB.1.2 hB.2 gK ?_ (.inl ⟨by simp [Region.wanted], fun w hw => ?_⟩) (hi.Ci L T F') (k G hn E _ _ T ?_ (hi.fg (hn ▸ hd) h1))
 ·intro c a w h
  cases h.1
 ·show (do let z ← Instr.loadAt t (a.eval x); pure (Next.value z) : Sem Next).run P w = _
  rw [hc]
  refine cE ?_
  have fP := hv 0 c rfl
  simp only [Instr.loadAt, Instr.sureAddr, loadVar, Sem.run_bind, Sem.run_pure, Result.andThen_ok, (TY.gg ht w).1]
  simp only [Nat.add_zero] at fP
  rw [← l3 w hw _ hk] at fP
  simp [fP]
 ·intro o ho
  have := hT o ho
  simpa [e9] using this
theorem ib.yk {LT L F' : List Nat} {n : Nat} {ag : Array Bool} (i : Nat) {t : TypeId} {x : Operand} {p : X} {row : List X} {m : Nat} {ys : List X} (ho : ops[i]? = some ⟨some d, .load t x, ty, pos, af, none⟩)
  (hB : (Region.noSelect ops && Region.free .any ops ag i && (Region.ready .any ops ag).contains i) = true) (gK : sA ops LT i = true) (ht : TY.shape P t = some (some m)) (hx : bx st x = some p) (hL : s8 L p = true) (hr : rowAt st p = some row)
  (hm : jq p + m ≤ row.length) (rP : (row.drop (jq p)).take m = ys) (hf : X.bc ys = true) (hd : d < N.n)
  (k : ib P N LT L F' ops n (ag.setIfInBounds i true) (st.put d (.agg ys)) K) : ib P N LT L F' ops (n + 1) ag st K := by
 intro G hn E RR a T hT hi
 obtain ⟨R, hp⟩ := hi.eval hx
 obtain ⟨b, off, hc, fO⟩ := hi.behind hp hr
 obtain ⟨b', o9, mo, l3⟩ := hi.held (F' := F') hT hp hr hL
 obtain ⟨rfl, rfl⟩ := ov (hc.symm.trans mo)
 obtain ⟨vs, R', hl, hv, eU⟩ := fO (jq p) m hm
 rw [rP] at eU
 have h0 := br.free hf eU
 subst h0
 simp only [Bool.and_eq_true] at hB
 refine ja (v := .agg vs.toArray) ho hB.1.1 hB.1.2 hB.2 gK ?_ (.inl ⟨by simp [Region.wanted], fun w hw => ?_⟩) (hi.Ci L T F') (k G hn E _ _ T ?_ (hi.fg (hn ▸ hd) (by simp only [RX]; exact ⟨_, rfl, eU⟩)))
 ·intro c a w h
  cases h.1
 ·show (do let z ← Instr.loadAt t (a.eval x); pure (Next.value z) : Sem Next).run P w = _
  rw [hc]
  refine cE ?_
  obtain ⟨h1, h2⟩ := TY.j8 ht w
  have h3 : (loadCells ⟨b, off + jq p, none⟩ m).run P w = .ok vs.toArray w := by
   rw [← hl]
   refine run_loadCells_list (w := w) _ vs fun j v hj => ?_
   have kT : j < vs.length := (List.getElem?_eq_some_iff.1 hj).1
   rw [eY, Nat.add_assoc, l3 w hw _ om]; exact hv j v hj
  simp only [Instr.loadAt, Instr.sureAddr, loadVar, Sem.run_bind, Sem.run_pure, Result.andThen_ok, h1, if_true, h2, h3]
 ·intro o ho
  have := hT o ho
  simpa [e9] using this
def GV (P : Program) (N : dV) (LT L : List Nat) (ops : Array Oper) (st : St) (K : St → Prop) (n' : Nat) (l' : Array Bool) (aW : St) : Prop :=
 ((List.range l'.size).all fun j => l'.getD j true || LT.elem j) = true ∧ aR P N ops n' l' ⟨aW.a7, st.back L aW.aA⟩ K
section
variable {LT : List Nat} {R : Nat → Array Bool → St → Prop}
theorem fb.back {n : Nat} {ag : Array Bool} (h : R n ag st) : fb P N LT ops R n ag st := fun _ _ _ _ hR _ _ hh => hR _ _ _ _ _ h hh
theorem fb.late {N0 : dV} {L : List Nat} {MF : St} {n : Nat} {ag : Array Bool} (h : ((List.range ag.size).all fun j => ag.getD j true || LT.elem j) = true)
  (k : aR P N0 ops n ag ⟨st.a7, MF.back L st.aA⟩ K) : fb P N LT ops (GV P N0 LT L ops MF K) n ag st := fb.back ⟨h, k⟩
theorem fb.step {n : Nat} {ag : Array Bool} (j : Nat) {o : Oper} (ho : ops[j]? = some o)
  (k : aa P N ops [o] st (fun e aW => e = .normal ∧ fb P N LT ops R n (ag.setIfInBounds j true) aW)) (G : Ctx) (hn : G.fn = N) (Q : Exit → Act → World → Prop) (hQ : ∀ c a w, Q (.panic c) a w → False)
  (hR : ∀ n' l' aW a' w', R n' l' aW → bT G aW a' w' → wpAnyL P .any ops Q (SG G) LT n' l' a' w') (a : Act) (w : World) (hh : bT G st a w) :
  wpOp P ops Q j (fun a' w' => SG G w' ∧ wpAnyL P .any ops Q (SG G) LT n (ag.setIfInBounds j true) a' w') a w := by
 have hk := k G hn a w hh
 have key : wpOp P ops (fun e a w => kb G (fun e aW => e = .normal ∧ fb P N LT ops R n (ag.setIfInBounds j true) aW) e a w) j
   (fun a w => kb G (fun e aW => e = .normal ∧ fb P N LT ops R n (ag.setIfInBounds j true) aW) .normal a w) a w := by
  unfold wpOp; simp only [ho]; exact hk
 refine lT ?_ ?_ key
 ·rintro e a w he ⟨aW, _, h, _⟩
  exact he h
 ·rintro a w ⟨aW, gf, _, uQ⟩
  exact ⟨gf.sg, uQ G hn Q hQ hR a w gf⟩
theorem fb.one {n : Nat} {ag : Array Bool} (i : Nat) {o : Oper} (ho : ops[i]? = some o) (hr : (Region.ready .any ops ag == [i]) = true)
  (k : aa P N ops [o] st (fun e aW => e = .normal ∧ fb P N LT ops R n (ag.setIfInBounds i true) aW)) : fb P N LT ops R (n + 1) ag st := by
 intro G hn Q hQ hR a w hh
 refine ue (rs := [i]) (by simpa using hr) (by simp) ?_
 intro j hj
 have : j = i := by simpa using hj
 subst this
 exact fb.step j ho k G hn Q hQ hR a w hh
theorem fb.blind {n : Nat} {ag : Array Bool} (i : Nat) {op : Op} {x : X} (ho : ops[i]? = some ⟨some d, op, ty, pos, af, none⟩)
  (hB : (Region.noSelect ops && Region.free .any ops ag i && (Region.ready .any ops ag).contains i) = true) (gK : sA ops LT i = true) (hy : aJ P N st ⟨some d, op, ty, pos, af, none⟩ x) (hd : d < N.n)
  (k : fb P N LT ops R n (ag.setIfInBounds i true) (st.put d x)) : fb P N LT ops R (n + 1) ag st := by
 intro G hn Q hQ hR a w hh
 have hS := hh.sg
 obtain ⟨E, RR, rfl, hi⟩ := hh
 obtain ⟨u, hr, hx⟩ := hy G E RR a hn hi
 simp only [Bool.and_eq_true] at hB
 refine ja (v := u) ho hB.1.1 hB.1.2 hB.2 gK ?_ (.inl ⟨by simp [Region.wanted], fun w _ => hr w⟩) hS (k G hn Q hQ hR _ _ ⟨E, _, rfl, hi.fg (hn ▸ hd) hx⟩)
 intro c a w h
 exact (hQ _ _ _ h).elim
end
end
end Go.AW
namespace Go.AW
open Go
section
variable {P : Program} {N : dV} {st : St} {ops : Array Oper} {d : Nat} {ty : TypeId} {pos : String} {af : Array Edge} {K : St → Prop} {L F' : List Nat} {n : Nat} {ag : Array Bool}
theorem Inv.le {G : Ctx} {E : Env} {RR : Own → List Nat} {a : Act} {aW : St} (hi : Inv G E RR st a) (h : Le st aW) : Inv G E RR aW a :=
 {hi with a7 := fun s x hx => hi.a7 s x (h.1 s x hx), aA := fun o x hx => hi.aA o x (h.2 o x hx) }
theorem bC.le {aW : St} (hl : Le st aW) (h : bC P N L F' ops n ag aW K) : bC P N L F' ops n ag st K := fun G hn E RR a T hT hi => h G hn E RR a T hT (hi.le hl)
theorem bC.split {b : Bool} (hx : look st.a7 d = some (.v (.bool b))) (ht : b = true → bC P N L F' ops n ag (st.put d (.v (.bool true))) K) (hf : b = false → bC P N L F' ops n ag (st.put d (.v (.bool false))) K) : bC P N L F' ops n ag st K := by
 have : Le st (st.put d (.v (.bool b))) := ⟨eO.cons hx (fun _ _ h => h), fun _ _ h => h⟩
 cases b
 ·exact (hf rfl).le this
 ·exact (ht rfl).le this
theorem bC.ax {p : Prop} {inst : Decidable p} (hx : look st.a7 d = some (.v (.bool (decide p)))) (ht : p → bC P N L F' ops n ag (st.put d (.v (.bool true))) K) (hf : ¬ p → bC P N L F' ops n ag (st.put d (.v (.bool false))) K) : bC P N L F' ops n ag st K :=
 bC.split hx (fun h => ht (of_decide_eq_true h)) (fun h => hf (of_decide_eq_false h))
theorem Inv.wanted {G : Ctx} {E : Env} {RR : Own → List Nat} {a : Act} {j dj : Nat} {want : Bool} {dst : Option Nat} {op : Op} (hi : Inv G E RR st a) (hj : (ops[j]?).bind (·.dst) = some dj) (pP : dj < G.fn.n) (hx : look st.a7 dj = some (.v (.bool want))) :
  Region.wanted ⟨dst, op, ty, pos, af, some (j, want)⟩ (yielded ops a.tmps) = true := by
 have hs := hi.a7 dj _ hx
 simp only [RX] at hs
 have et : dj < a.tmps.size := by rw [hi.tmps]; exact pP
 have hv : a.tmps[dj]? = some (.bool want) := by
  have := hs.1
  simp only [Array.getD, et, dif_pos] at this
  rw [Array.getElem?_eq_getElem et]
  exact congrArg some this
 simp [Region.wanted, yielded, hj, hv]
theorem bC.bM (i : Nat) {op : Op} {j dj : Nat} {want : Bool} {u : Value} (ho : ops[i]? = some ⟨some d, op, ty, pos, af, some (j, want)⟩)
  (hB : (Region.noSelect ops && Region.free .any ops ag i && (Region.ready .any ops ag).contains i) = true)
  (hj : (ops[j]?).bind (·.dst) = some dj) (pP : dj < N.n) (hd : d < N.n) (hx : look st.a7 dj = some (.v u)) (eB : oF want u = true)
  (k : bC P N L F' ops n (ag.setIfInBounds i true) (st.put d (.v undef)) K) : bC P N L F' ops (n + 1) ag st K := by
 intro G hn E RR a T hT hi
 simp only [Bool.and_eq_true] at hB
 have hw := jv (all := ops) (dst := some d) (op := op) (ty := ty) (pos := pos) (af := af) hi hj (hn ▸ pP) hx eB
 refine wpAnyH_take (v := undef) ho hB.1.1 hB.1.2 hB.2 ?_ (.inr ⟨hw, rfl⟩) (hi.Ci L T F') (k G hn E _ _ T ?_ (hi.fg (hn ▸ hd) (by simp [RX])))
 ·intro c a w h
  cases h.1
 ·intro o ho
  have := hT o ho
  simpa [e9] using this
theorem bC.iv (i : Nat) {op : Op} {x : X} {j dj : Nat} {want : Bool} (ho : ops[i]? = some ⟨some d, op, ty, pos, af, some (j, want)⟩)
  (hB : (Region.noSelect ops && Region.free .any ops ag i && (Region.ready .any ops ag).contains i) = true)
  (hj : (ops[j]?).bind (·.dst) = some dj) (pP : dj < N.n) (hx : look st.a7 dj = some (.v (.bool want))) (hy : aJ P N st ⟨some d, op, ty, pos, af, some (j, want)⟩ x) (hd : d < N.n)
  (k : bC P N L F' ops n (ag.setIfInBounds i true) (st.put d x) K) : bC P N L F' ops (n + 1) ag st K := by
 intro G hn E RR a T hT hi
 obtain ⟨u, hr, iK⟩ := hy G E RR a hn hi
 simp only [Bool.and_eq_true] at hB
 refine wpAnyH_take (v := u) ho hB.1.1 hB.1.2 hB.2 ?_ (.inl ⟨hi.wanted hj (hn ▸ pP) hx, fun w _ => hr w⟩) (hi.Ci L T F') (k G hn E _ _ T ?_ (hi.fg (hn ▸ hd) iK))
 ·intro c a w h
  cases h.1
 ·intro o ho
  have := hT o ho
  simpa [e9] using this
theorem aJ.pick {c x y : Operand} {b : Bool} {z : X} {dst : Option Nat} {g : Option (Nat × Bool)} (hc : bx st c = some (.v (.bool b))) (hz : bx st (if b then x else y) = some z) (hf : z.free = true) : aJ P N st ⟨dst, .pick c x y, ty, pos, af, g⟩ z := by
 intro G E RR a _ hi
 obtain ⟨R, h⟩ := hi.eval hz
 have := RX.free hf h
 subst this
 refine ⟨a.eval (if b then x else y), fun w => ?_, h⟩
 have mo := hi.val hc
 simp only [execOp, mo]
 cases b <;> rfl
theorem bU.le {aW : St} (hl : Le st aW) (h : bU P N ops n ag aW K) : bU P N ops n ag st K := fun G hn a w hh => h G hn a w (hl.holds hh)
theorem bU.split {b : Bool} (hx : look st.a7 d = some (.v (.bool b))) (ht : b = true → bU P N ops n ag (st.put d (.v (.bool true))) K) (hf : b = false → bU P N ops n ag (st.put d (.v (.bool false))) K) : bU P N ops n ag st K := by
 have : Le st (st.put d (.v (.bool b))) := ⟨eO.cons hx (fun _ _ h => h), fun _ _ h => h⟩
 cases b
 ·exact (hf rfl).le this
 ·exact (ht rfl).le this
theorem bU.ax {p : Prop} {inst : Decidable p} (hx : look st.a7 d = some (.v (.bool (decide p)))) (ht : p → bU P N ops n ag (st.put d (.v (.bool true))) K) (hf : ¬ p → bU P N ops n ag (st.put d (.v (.bool false))) K) : bU P N ops n ag st K :=
 bU.split hx (fun h => ht (of_decide_eq_true h)) (fun h => hf (of_decide_eq_false h))
theorem bU.bM (i : Nat) {op : Op} {j dj : Nat} {want : Bool} {u : Value} (ho : ops[i]? = some ⟨some d, op, ty, pos, af, some (j, want)⟩)
  (hB : (Region.noSelect ops && Region.free .any ops ag i && (Region.ready .any ops ag).contains i) = true)
  (hj : (ops[j]?).bind (·.dst) = some dj) (pP : dj < N.n) (hd : d < N.n) (hx : look st.a7 dj = some (.v u)) (eB : oF want u = true)
  (k : bU P N ops n (ag.setIfInBounds i true) (st.put d (.v undef)) K) : bU P N ops (n + 1) ag st K := by
 intro G hn a w hh
 have hS := hh.sg
 obtain ⟨E, RR, rfl, hi⟩ := hh
 simp only [Bool.and_eq_true] at hB
 have hw := jv (all := ops) (dst := some d) (op := op) (ty := ty) (pos := pos) (af := af) hi hj (hn ▸ pP) hx eB
 refine wpAnyH_take (v := undef) ho hB.1.1 hB.1.2 hB.2 ?_ (.inr ⟨hw, rfl⟩) hS (k G hn _ _ ⟨E, _, rfl, hi.fg (hn ▸ hd) (by simp [RX])⟩)
 intro c a w h
 cases h.1
theorem bU.iv (i : Nat) {op : Op} {x : X} {j dj : Nat} {want : Bool} (ho : ops[i]? = some ⟨some d, op, ty, pos, af, some (j, want)⟩)
  (hB : (Region.noSelect ops && Region.free .any ops ag i && (Region.ready .any ops ag).contains i) = true)
  (hj : (ops[j]?).bind (·.dst) = some dj) (pP : dj < N.n) (hx : look st.a7 dj = some (.v (.bool want))) (hy : aJ P N st ⟨some d, op, ty, pos, af, some (j, want)⟩ x) (hd : d < N.n)
  (k : bU P N ops n (ag.setIfInBounds i true) (st.put d x) K) : bU P N ops (n + 1) ag st K := by
 intro G hn a w hh
 have hS := hh.sg
 obtain ⟨E, RR, rfl, hi⟩ := hh
 obtain ⟨u, hr, iK⟩ := hy G E RR a hn hi
 simp only [Bool.and_eq_true] at hB
 refine wpAnyH_take (v := u) ho hB.1.1 hB.1.2 hB.2 ?_ (.inl ⟨hi.wanted hj (hn ▸ pP) hx, fun w _ => hr w⟩) hS (k G hn _ _ ⟨E, _, rfl, hi.fg (hn ▸ hd) iK⟩)
 intro c a w h
 cases h.1
end
end Go.AW
namespace Go.AW
open Go
def FR (ro : Option Nat) : Fence := { Fence.wide with round := ro }
def jZ (o : Oper) : Bool := match o.op with | .defer _ => false | _ => true
theorem uw {o : Oper} (h : jZ o = true) : ∀ c, o.op ≠ .defer c := fun c e => by simp [jZ, e] at h
section
variable {P : Program} {Q : Exit → Act → World → Prop} {a : Act} {w : World} {ro : Option Nat} {o : Oper} {next : Act → World → Prop}
theorem y8 {f : FuncId} {args : Array Value} {R : Ending → World → Prop} {n : Nat} (h : Calls P f args w R) : CallsIn (FR ro) n P f args w R := (callsIn_wide (n := n)).2 h
theorem Bb {row : String} {args : Array Value} {R : Value → World → Prop} {n : Nat} (h : Rows P row args w R) : RowsIn (FR ro) n P row args w R :=
 fun c cs _ => let ⟨v, w', r, s⟩ := h c cs; ⟨v, w', r, stepsIn_wide.2 s⟩
theorem Bc {r : Result Next} (h : o.upon P a next Q r) : o.uponIn (FR ro) 0 P a next Q r := by
 cases r with
 | ok x w' =>
  cases x
  case value v => exact h
  case skip => exact h
  case defer d => exact h
  case enter f args => exact ⟨fun h => by simp [FR, Fence.wide] at h, y8 h⟩
  case row row args => exact ⟨fun h => by simp [FR, Fence.wide] at h, Bb h⟩
  all_goals exact (show False from h).elim
 | halt x w' =>
  cases x
  case panic v => exact h
  all_goals exact (show False from h).elim
theorem y9 (hd : jZ o = true) (h : o.wp P a w next Q) : o.wpIn (FR ro) 0 P a w next Q := by
 refine ⟨fun _ _ => trivial, ?_⟩
 rw [Oper.semAt_eq _ _ _ (uw hd)]
 exact Bc h
theorem n6 {ops : Array Oper} (hQ : ¬ LetsOut Q) : ∀ {l : List Oper} {a : Act} {w : World}, l.all jZ = true → wpList P ops Q l a w → wpListIn (FR ro) 0 P ops Q l a w
 | [], _, _, _, h => h
 | o :: rest, a, w, hd, h => by
  simp only [List.all_cons, Bool.and_eq_true] at hd
  unfold wpList at h
  unfold wpListIn
  split at h
  ·rename_i hw
   rw [if_pos hw]
   rcases h with h | h
   ·exact Oper.wpIn_mono (fun _ _ h => n6 hQ hd.2 h) (y9 hd.1 h)
   ·exact absurd h.2 hQ
  ·rename_i hw
   rw [if_neg hw]
   exact ⟨fun _ _ => trivial, n6 hQ hd.2 h⟩
theorem mI {ops : Array Oper} (hQ : ¬ LetsOut Q) (hd : ops.toList.all jZ = true) : ∀ {l : List Nat} {a : Act} {w : World}, wpOps P ops Q l a w → wpOpsIn (FR ro) 0 P ops Q l a w
 | [], _, _, h => h
 | i :: rest, a, w, h => by
  unfold wpOps at h
  unfold wpOpsIn
  cases ho : ops[i]? with
  | none => rw [ho] at h; exact mI hQ hd h
  | some o =>
   rw [ho] at h
   simp only at h ⊢
   have He : jZ o = true := List.all_eq_true.1 hd o (Array.mem_toList_iff.2 (Array.mem_of_getElem? ho))
   split at h
   ·rename_i hw
    rw [if_pos hw]
    rcases h with h | h
    ·exact Oper.wpIn_mono (fun _ _ h => mI hQ hd h) (y9 He h)
    ·exact absurd h.2 hQ
   ·rename_i hw
    rw [if_neg hw]
    exact ⟨fun _ _ => trivial, mI hQ hd h⟩
theorem wh {id : Nat} {l : List Oper} (hQ : ¬ LetsOut Q) (hd : l.all jZ = true) (h : wpList P l.toArray Q l a w) : (Code.region id l.toArray false).wpIn (FR ro) 0 P Q a w :=
 wpIn_region_lit (n6 hQ hd h)
theorem pz {id : Nat} {ops : Array Oper} (hm : P.follows .mixedOrders = true) (hQ : ¬ LetsOut Q) (hd : ops.toList.all jZ = true) (h : wpAny P .any ops Q ops.size (Array.replicate ops.size false) a { w with drawn := w.drawn + 1 }) :
  (Code.region id ops true).wpIn (FR ro) 0 P Q a w :=
 wpIn_region_draw fun t => by
  simp only [Region.schedule, hm, Bool.true_or, if_true]
  exact mI hQ hd (wpAny_sound ops.size t _ a _ h)
end
def wi (K : St → Prop) : Exit → St → Prop
 | .normal, st => K st
 | _, _ => False
def Ctx.to (G : Ctx) (w : World) : Ctx := { G with w0 := w }
theorem bT.yA {G : Ctx} {st : St} {a : Act} {w w' : World} {S : Nat → Prop} (h : bT G st a w) (hS : ∀ b, S b → G.K b ∧ ∀ i, G.φ0 b i = none) (et : w.heap.size ≤ w'.heap.size)
  (hw : ∀ b, b < w.heap.size → ¬ S b → w'.heap[b]? = w.heap[b]?) : bT (G.to w') st a w' := by
 obtain ⟨E, RR, rfl, hi⟩ := h
 have P6 : ∀ b i, S b → E.φ b i = none := fun b i hb => by
  cases he : E.φ b i with
  | none => rfl
  | some v =>
   rcases hi.grow b i v he with h1 | h1
   ·rw [(hS b hb).2 i] at h1; cases h1
   ·exact absurd (hS b hb).1 h1
 have fP : ∀ b i v, E.φ b i = some v → w'.cell? ⟨b, i, none⟩ = some v := fun b i v hv => by
  have h1 := hi.kh b i v hv
  have hb : b < E.w.heap.size := by
   rcases Nat.lt_or_ge b E.w.heap.size with h2 | h2
   ·exact h2
   ·unfold World.cell? at h1
    rw [Array.getElem?_eq_none h2] at h1; cases h1
  unfold World.cell? at h1 ⊢
  rw [hw b hb (fun h2 => by rw [P6 b i h2] at hv; cases hv)]; exact h1
 have mT : ∀ p b, b ∈ RR p → w'.heap[b]? = E.w.heap[b]? := fun p b hb => hw b (hi.own p b hb).1 (fun h2 => (hi.own p b hb).2 (hS b h2).1)
 have gL : ∀ p, E.On { E with w := w' } (RR p) := fun p => ⟨fun _ _ _ h => h, fun c hc => ⟨mT p c hc, fun h i => h i⟩⟩
 refine ⟨{ E with w := w' }, RR, rfl, ?_⟩
 constructor
 case kh => exact fP
 case a7 => exact fun s x hx => RX.mono x _ _ (gL _) (fun _ _ => rfl) (hi.a7 s x hx)
 case aA => exact fun o ob aP => dD.mono (gL _) rfl (fun _ _ _ _ => rfl) (hi.aA o ob aP)
 case nodup => exact hi.nodup
 case apart => exact hi.apart
 case own => exact fun p b hb => ⟨Nat.lt_of_lt_of_le (hi.own p b hb).1 et, (hi.own p b hb).2⟩
 case ao => exact fun _ _ => rfl
 case size => exact Nat.le_refl _
 case small => exact fun b hb => Nat.lt_of_lt_of_le (Nat.lt_of_lt_of_le (hi.small b hb) hi.size) et
 case os => rfl
 case tape => rfl
 case output => rfl
 case φ0 => exact hi.φ0
 case grow => exact hi.grow
 case fixed => exact hi.fixed
 case tmps => exact hi.tmps
 case defers => exact hi.defers
end Go.AW
namespace Go.AW
open Go
abbrev Be := List (Int × Int)
abbrev lZ := Be × St
structure Kp (S : Nat → Prop) (W W' : World) : Prop where
 size : W.heap.size ≤ W'.heap.size
 same : ∀ b, b < W.heap.size → ¬ S b → W'.heap[b]? = W.heap[b]?
 os : W'.os = W.os
 tape : W'.tape = W.tape
 output : W'.output = W.output
theorem Kp.refl (S : Nat → Prop) (W : World) : Kp S W W := ⟨Nat.le_refl _, fun _ _ _ => rfl, rfl, rfl, rfl⟩
theorem Kp.trans {S : Nat → Prop} {A B C : World} (h : Kp S A B) (k : Kp S B C) : Kp S A C :=
 ⟨Nat.le_trans h.size k.size, fun b hb hs => (k.same b (Nat.lt_of_lt_of_le hb h.size) hs).trans (h.same b hb hs), k.os.trans h.os, k.tape.trans h.tape, k.output.trans h.output⟩
structure p3 (P : Program) where
 l : Nat
 n1 : Nat
 S : Nat → Prop
 J : Be → World → Prop
 Good : Int × Int → Prop
 DR : ∀ i W W', J i W → W.heap.size ≤ W'.heap.size → (∀ b, b < n1 → W'.heap[b]? = W.heap[b]?) → J i W'
 yield : ∀ i x W, J i W → Good x → n1 ≤ W.heap.size → YieldAt (FR none) 0 P l #[.int .i64 x.1, .int .i64 x.2] W (fun e W' => e = .returned (.bool true) ∧ J (i ++ [x]) W' ∧ Kp S W W')
 lt : ∀ b, S b → b < n1
abbrev p3.v {P : Program} (Y : p3 P) : X := .v (.func (.yield Y.l) #[] #[])
def vq (P : Program) (f : FuncId) (args : List X) (g : Be) : Prop :=
 ∀ (Y : p3 P) (i : Be) (E : Env) (dq : List Value), Y.J i E.w → Y.n1 ≤ E.w.heap.size → (∀ x ∈ g, Y.Good x) → dL E args dq [] → (∀ b k v, E.φ b k = some v → E.w.cell? ⟨b, k, none⟩ = some v) → (∀ b k, Y.S b → E.φ b k = none) →
  Calls P f (#[.func (.yield Y.l) #[] #[]] ++ dq.toArray) E.w (fun e W' => ∃ v, e = .returned v ∧ Y.J (i ++ g) W' ∧ Kp Y.S E.w W')
structure EI {P : Program} (Y : p3 P) (G : Ctx) : Prop where
 IM : ∀ b, b < G.w0.heap.size → G.K b
 n1 : Y.n1 ≤ G.w0.heap.size
 φ : ∀ b i, Y.S b → G.φ0 b i = none
structure HI {P : Program} (Y : p3 P) (G : Ctx) (s : lZ) (a : Act) (w : World) : Prop where
 j : Y.J s.1 w
 h : bT (G.to w) s.2 a w
 kp : Kp Y.S G.w0 w
def bp (P : Program) (Y : p3 P) (N : dV) (c : Code) (s : lZ) (Q : Exit → lZ → Prop) : Prop :=
 ∀ G : Ctx, G.fn = N → EI Y G → ∀ a w, HI Y G s a w → c.wp P (fun e a w => ∃ s', HI Y G s' a w ∧ Q e s') a w
def ee (P : Program) (Y : p3 P) (N : dV) (all : Array Oper) (rest : List Oper) (s : lZ) (Q : Exit → lZ → Prop) : Prop :=
 ∀ G : Ctx, G.fn = N → EI Y G → ∀ a w, HI Y G s a w → wpListIn (FR none) 0 P all (fun e a w => ∃ s', HI Y G s' a w ∧ Q e s') rest a w
def ka (K : lZ → Prop) (Q : Exit → lZ → Prop) : Exit → lZ → Prop
 | .normal, st => K st
 | e, st => Q e st
def sJ (id : Nat) (Q : Exit → lZ → Prop) : Exit → lZ → Prop
 | .exit id', st => bif Nat.beq id' id then Q .normal st else Q (.exit id') st
 | e, st => Q e st
def rC (s s' : lZ) : Prop := s.1 = s'.1 ∧ Le s.2 s'.2
section
variable {P : Program} {Y : p3 P} {N : dV} {s : lZ} {Q Q' : Exit → lZ → Prop} {i : Be} {st aW : St} {id : Nat} {x y c : Code}
theorem HI.le {G : Ctx} {s s' : lZ} {a : Act} {w : World} (hl : rC s s') (h : HI Y G s a w) : HI Y G s' a w := ⟨hl.1 ▸ h.j, hl.2.holds h.h, h.kp⟩
theorem HI.step {G : Ctx} (hG : EI Y G) {a a' : Act} {w w' : World} (h : HI Y G (i, st) a w) (h' : bT (G.to w) aW a' w') : HI Y G (i, aW) a' w' := by
 have hr : bT (G.to w') aW a' w' := bT.yA (G := G.to w) (S := fun _ => False) h' (fun _ h => h.elim) (Nat.le_refl _) (fun _ _ _ => rfl)
 obtain ⟨E, RR, rfl, hi⟩ := h'
 have et : w.heap.size ≤ E.w.heap.size := hi.size
 have hold : ∀ b, b < G.w0.heap.size → E.w.heap[b]? = w.heap[b]? := fun b hb => hi.ao b (hG.IM b hb)
 exact ⟨Y.DR i w E.w h.j et (fun b hb => hold b (Nat.lt_of_lt_of_le hb hG.n1)), hr, Nat.le_trans h.kp.size et, fun b hb hs => (hold b hb).trans (h.kp.same b hb hs), hi.os.trans h.kp.os, hi.tape.trans h.kp.tape, hi.output.trans h.kp.output⟩
theorem HI.Lf {G : Ctx} (hG : EI Y G) {a : Act} {w w' : World} {i' : Be} (h : HI Y G (i, st) a w) (hj : Y.J i' w') (hk : Kp Y.S w w') : HI Y G (i', st) a w' :=
 ⟨hj, bT.yA (G := G.to w) (S := Y.S) h.h (fun b hb => ⟨hG.IM b (Nat.lt_of_lt_of_le (Y.lt b hb) hG.n1), fun k => hG.φ b k hb⟩) hk.size hk.same,
  Nat.le_trans h.kp.size hk.size, fun b hb hs => (hk.same b (Nat.lt_of_lt_of_le hb h.kp.size) hs).trans (h.kp.same b hb hs), hk.os.trans h.kp.os, hk.tape.trans h.kp.tape, hk.output.trans h.kp.output⟩
theorem HI.n1 {G : Ctx} (hG : EI Y G) {a : Act} {w : World} (h : HI Y G s a w) : Y.n1 ≤ w.heap.size := Nat.le_trans hG.n1 h.kp.size
theorem bp.of (h : ae P N c st (fun e aW => Q e (i, aW))) : bp P Y N c (i, st) Q := by
 intro G hn hG a w hh
 refine wp_mono (h (G.to w) hn a w hh.h) ?_
 rintro e a' w' ⟨aW, h', hq⟩
 exact ⟨_, hh.step hG h', hq⟩
theorem bp.le {s' : lZ} (hl : rC s s') (h : bp P Y N c s' Q) : bp P Y N c s Q := fun G hn hG a w hh => h G hn hG a w (hh.le hl)
theorem bp.sh (h : Sh N st aW) (k : bp P Y N c (i, aW) Q) : bp P Y N c (i, st) Q := fun G hn hG a w hh => k G hn hG a w ⟨hh.j, h (G.to w) hn a w hh.h, hh.kp⟩
theorem bp.mono (h : bp P Y N c s Q) (hq : ∀ e s, Q e s → Q' e s) : bp P Y N c s Q' := fun G hn hG a w hh => wp_mono (h G hn hG a w hh) fun _ _ _ ⟨s', h', zI⟩ => ⟨s', h', hq _ _ zI⟩
theorem bp.skip (h : Q .normal s) : bp P Y N .skip s Q := fun _ _ _ _ _ hh => wp_skip ⟨s, hh, h⟩
theorem bp.exit (h : Q (.exit id) s) : bp P Y N (.exit id) s Q := fun _ _ _ _ _ hh => wp_exit ⟨s, hh, h⟩
theorem bp.ret (h : Q .ret s) : bp P Y N .ret s Q := fun _ _ _ _ _ hh => wp_ret ⟨s, hh, h⟩
theorem bp.seq (h : bp P Y N x s (ka (fun s' => bp P Y N y s' Q) Q)) : bp P Y N (.seq x y) s Q := by
 intro G hn hG a w hh
 refine wp_seq (wp_mono (h G hn hG a w hh) ?_)
 rintro e a' w' ⟨s', gf, hq⟩
 cases e <;> first | exact hq G hn hG a' w' gf | exact ⟨s', gf, hq⟩
theorem bp.block (h : bp P Y N c s (sJ id Q)) : bp P Y N (.block id c) s Q := by
 intro G hn hG a w hh
 refine wp_block (wp_mono (h G hn hG a w hh) ?_)
 rintro e a' w' ⟨s', gf, hq⟩
 cases e with
 | exit id' =>
  simp only [sJ] at hq
  simp only [Exit.inBlock]
  cases hb : Nat.beq id' id with
  | true =>
   rw [hb] at hq
   rw [if_pos (Nat.eq_of_beq_eq_true hb)]
   exact ⟨s', gf, hq⟩
  | false =>
   rw [hb] at hq
   rw [if_neg (Nat.ne_of_beq_eq_false hb)]
   exact ⟨s', gf, hq⟩
 | _ => exact ⟨s', gf, hq⟩
theorem bp.cond {o : Operand} {b : Bool} (hc : bx s.2 o = some (.v (.bool b))) (ht : b = true → bp P Y N x s Q) (hf : b = false → bp P Y N y s Q) : bp P Y N (.cond o x y) s Q := by
 intro G hn hG a w hh
 obtain ⟨E, RR, rfl, hi⟩ := hh.h
 exact wp_cond_split (hi.val hc) (fun h => ht h G hn hG a E.w hh) (fun h => hf h G hn hG a E.w hh)
theorem bp.ay {o : Operand} {p : Prop} {inst : Decidable p} (hc : bx s.2 o = some (.v (.bool (decide p)))) (ht : p → bp P Y N x s Q) (hf : ¬ p → bp P Y N y s Q) : bp P Y N (.cond o x y) s Q :=
 bp.cond hc (fun h => ht (of_decide_eq_true h)) (fun h => hf (of_decide_eq_false h))
theorem bp.aE {o : Operand} (hc : bx s.2 o = some (.v (.bool true))) (h : bp P Y N x s Q) : bp P Y N (.cond o x y) s Q := bp.cond hc (fun _ => h) (fun h => by cases h)
theorem bp.bY {o : Operand} (hc : bx s.2 o = some (.v (.bool false))) (h : bp P Y N y s Q) : bp P Y N (.cond o x y) s Q := bp.cond hc (fun h => by cases h) (fun _ => h)
theorem bp.xi {d : Nat} {b : Bool} (hc : look st.a7 d = some (.v (.bool b))) (ht : b = true → bp P Y N x (i, st.put d (.v (.bool true))) Q) (hf : b = false → bp P Y N y (i, st.put d (.v (.bool false))) Q) : bp P Y N (.cond (.tmp d) x y) (i, st) Q := by
 refine bp.cond (s := (i, st)) (b := b) hc (fun h => ?_) (fun h => ?_)
 ·subst h; exact bp.le (s := (i, st)) (s' := (i, st.put d (.v (.bool true)))) ⟨rfl, Le.test hc⟩ (ht rfl)
 ·subst h; exact bp.le (s := (i, st)) (s' := (i, st.put d (.v (.bool false)))) ⟨rfl, Le.test hc⟩ (hf rfl)
theorem bp.aU {d : Nat} {p : Prop} {inst : Decidable p} (hc : look st.a7 d = some (.v (.bool (decide p)))) (ht : p → bp P Y N x (i, st.put d (.v (.bool true))) Q) (hf : ¬ p → bp P Y N y (i, st.put d (.v (.bool false))) Q) : bp P Y N (.cond (.tmp d) x y) (i, st) Q :=
 bp.xi hc (fun h => ht (of_decide_eq_true h)) (fun h => hf (of_decide_eq_false h))
theorem bp.loop {ι : Type} (S : ι → lZ) (I : ι → Prop) (μ : ι → Nat) (i0 : ι) (hi : I i0) (hs : rC s (S i0)) (round : ∀ i, I i → bp P Y N c (S i) (ka (fun s' => ∃ j, I j ∧ μ j < μ i ∧ rC s' (S j)) Q)) : bp P Y N (.loop c) s Q := by
 intro G hn hG a w hh
 refine o3 (fun i a w => I i ∧ HI Y G (S i) a w) μ ?_ ⟨hi, hh.le hs⟩
 rintro i a w ⟨hI, hh⟩
 refine wp_mono (round i hI G hn hG a w hh) ?_
 rintro e a' w' ⟨s', gf, hq⟩
 cases e with
 | normal => obtain ⟨j, hj, gK, hle⟩ := hq; exact ⟨j, ⟨hj, gf.le hle⟩, gK⟩
 | _ => exact ⟨s', gf, hq⟩
theorem bp.join {ι : Type} (J : ι → lZ) (I : ι → Prop) (hx : bp P Y N x s (ka (fun aW => ∃ i, I i ∧ rC aW (J i)) Q)) (hy : ∀ i, I i → bp P Y N y (J i) Q) : bp P Y N (.seq x y) s Q := by
 refine bp.seq (hx.mono ?_)
 intro e z7 h
 cases e with
 | normal => obtain ⟨i, hI, hle⟩ := h; exact (hy i hI).le hle
 | _ => exact h
theorem bp.region {l : List Oper} (h : aa P N l.toArray l st (jr (fun aW => Q .normal (i, aW)) (fun e aW => Q e (i, aW)))) : bp P Y N (.region id l.toArray false) (i, st) Q :=
 bp.of ((ae.region h).mono fun e st h => by cases e <;> exact h)
theorem bp.sr {l : List Oper} (h : aa P N l.toArray l st (jr (fun aW => bp P Y N y (i, aW) Q) (fun e aW => Q e (i, aW)))) : bp P Y N (.seq (.region id l.toArray false) y) (i, st) Q :=
 bp.seq (bp.of ((ae.region h).mono fun e st h => by cases e <;> exact h))
end
end Go.AW
namespace Go.AW
open Go
theorem yB {P : Program} {o : Oper} {Q1 Q2 : Exit → Act → World → Prop} {K1 K2 : Act → World → Prop} {a : Act} {w : World} (hQ : ∀ e a w, e ≠ .normal → Q1 e a w → False) (hK : ∀ a w, K1 a w → K2 a w) (h : o.wp P a w K1 Q1) : o.wp P a w K2 Q2 := by
 unfold Oper.wp at *
 generalize (execOp a.eval o).run P w = r at *
 cases r with
 | ok nx w' =>
  cases nx <;> simp only [Oper.upon] at h ⊢ <;> first
   | exact hK _ _ h
   | exact Calls.mono h (fun e Mk he => by
     cases e with
     | returned u => exact hK _ _ he
     | panicked c => exact (hQ _ _ _ (by simp) he).elim
     | outgrown => exact (let ⟨_, _, h'⟩ := he; hQ _ _ _ (by simp) h').elim)
   | exact Rows.mono h (fun _ _ he => hK _ _ he)
 | halt x w' => cases x <;> simp only [Oper.upon] at h ⊢ <;> first | exact (hQ _ _ _ (by simp) h).elim | exact (let ⟨_, _, h'⟩ := h; hQ _ _ _ (by simp) h').elim | exact h
theorem X.qJ : ∀ {xs : List X} {k : Nat} {x : X}, X.bc xs = true → xs[k]? = some x → x.free = true
 | [], _, _, _, h => by simp at h
 | y :: r, 0, x, hf, h => by
  simp only [X.bc, Bool.and_eq_true] at hf
  simp only [List.getElem?_cons_zero, Option.some.injEq] at h
  subst h; exact hf.1
 | y :: r, k + 1, x, hf, h => by
  simp only [X.bc, Bool.and_eq_true] at hf
  simp only [List.getElem?_cons_succ] at h
  exact X.qJ hf.2 h
section
variable {P : Program} {Y : p3 P} {N : dV} {s : lZ} {Q : Exit → lZ → Prop} {i : Be} {st : St} {all : Array Oper} {rest : List Oper} {o : Oper} {d : Nat} {ty : TypeId} {pos : String} {af : Array Edge}
theorem ee.nil (h : Q .normal s) : ee P Y N all [] s Q := fun _ _ _ _ _ hh => ⟨s, hh, h⟩
theorem ee.op (h : aa P N all [o] st (wi (fun aW => ee P Y N all rest (i, aW) Q))) (hd : jZ o = true := by rfl) : ee P Y N all (o :: rest) (i, st) Q := by
 intro G hn hG a w hh
 have h1 := h (G.to w) hn a w hh.h
 have hk : ∀ a' w', kb (G.to w) (wi (fun aW => ee P Y N all rest (i, aW) Q)) .normal a' w' → wpListIn (FR none) 0 P all (fun e a w => ∃ s', HI Y G s' a w ∧ Q e s') rest a' w' := by
  rintro a' w' ⟨aW, h', hq⟩
  exact hq G hn hG a' w' (hh.step hG h')
 have MW : ∀ e a' w', e ≠ .normal → kb (G.to w) (wi (fun aW => ee P Y N all rest (i, aW) Q)) e a' w' → False := by
  rintro e a' w' he ⟨aW, _, hq⟩
  cases e <;> first | exact he rfl | exact hq
 unfold wpList at h1
 unfold wpListIn
 split at h1
 ·rename_i hw
  rw [if_pos hw]
  rcases h1 with h1 | ⟨_, _, _, h2⟩
  ·exact y9 hd (yB MW hk h1)
  ·exact (MW _ _ _ (by simp) h2).elim
 ·rename_i hw
  rw [if_neg hw]
  exact ⟨fun _ _ => trivial, hk _ _ h1⟩
theorem ee.le {s' : lZ} (hl : rC s s') (h : ee P Y N all rest s' Q) : ee P Y N all rest s Q := fun G hn hG a w hh => h G hn hG a w (hh.le hl)
theorem ee.split {b : Bool} (hx : look st.a7 d = some (.v (.bool b))) (ht : b = true → ee P Y N all rest (i, st.put d (.v (.bool true))) Q) (hf : b = false → ee P Y N all rest (i, st.put d (.v (.bool false))) Q) : ee P Y N all rest (i, st) Q := by
 cases b
 ·exact ee.le (s := (i, st)) (s' := (i, st.put d (.v (.bool false)))) ⟨rfl, Le.test hx⟩ (hf rfl)
 ·exact ee.le (s := (i, st)) (s' := (i, st.put d (.v (.bool true)))) ⟨rfl, Le.test hx⟩ (ht rfl)
theorem ee.ax {p : Prop} {inst : Decidable p} (hx : look st.a7 d = some (.v (.bool (decide p)))) (ht : p → ee P Y N all rest (i, st.put d (.v (.bool true))) Q) (hf : ¬ p → ee P Y N all rest (i, st.put d (.v (.bool false))) Q) : ee P Y N all rest (i, st) Q :=
 ee.split hx (fun h => ht (of_decide_eq_true h)) (fun h => hf (of_decide_eq_false h))
theorem ee.aO {dst : Option Nat} {op : Op} {j : Nat} {want : Bool} (hj : (all[j]?).bind (·.dst) = some d) (hd : d < N.n) (hx : look st.a7 d = some (.v (.bool want)))
  (k : ee P Y N all (⟨dst, op, ty, pos, af, none⟩ :: rest) (i, st) Q) : ee P Y N all (⟨dst, op, ty, pos, af, some (j, want)⟩ :: rest) (i, st) Q := by
 intro G hn hG a w hh
 have hk := k G hn hG a w hh
 obtain ⟨E, RR, rfl, hi⟩ := hh.h
 have hw := hi.wanted (ops := all) (dst := dst) (op := op) (ty := ty) (pos := pos) (af := af) hj (by show d < (G.to E.w).fn.n; rw [show (G.to E.w).fn = N from hn]; exact hd) hx
 unfold wpListIn at hk ⊢
 rw [if_pos hw]
 rw [if_pos (by simp [Region.wanted])] at hk
 exact hk
theorem wj {x : Operand} {bL : Array Operand} {mh : Array TypeId} {a : Act} {w : World} {f : Fn} {cc : Array Value} {dst : Option Nat} {g : Option (Nat × Bool)} (hx : a.eval x = .func f #[] cc) :
  (execOp a.eval ⟨dst, .call ⟨.value x, bL, mh⟩, ty, pos, af, g⟩).run P w = (invoke (.fn f cc) (#[] ++ bL.map a.eval)).run P w := by
 have e : (execOp a.eval ⟨dst, .call ⟨.value x, bL, mh⟩, ty, pos, af, g⟩).run P w = (do let d ← Deferred.ofValue (a.eval x) (bL.map a.eval); invoke d.target d.args : Sem Next).run P w := rfl
 rw [e, hx]; rfl
theorem ee.yield {x : Operand} {bL : Array Operand} {mh : Array TypeId} {p q : Int} (hx : bx st x = some Y.v) (eU : iL st bL.toList = some [.v (.int .i64 p), .v (.int .i64 q)]) (hg : Y.Good (p, q)) (hd : d < N.n)
  (k : ee P Y N all rest (i ++ [(p, q)], st.put d (.v (.bool true))) Q) : ee P Y N all (⟨some d, .call ⟨.value x, bL, mh⟩, ty, pos, af, none⟩ :: rest) (i, st) Q := by
 intro G hn hG a w hh
 have ET := hh.n1 hG
 obtain ⟨E, RR, rfl, hi⟩ := hh.h
 have hv := hi.val hx
 obtain ⟨uO, BE⟩ := mx hi eU
 have dW : bL.map a.eval = #[.int .i64 p, .int .i64 q] := by
  obtain ⟨o1, wF, R1, o8⟩ := BE 0 _ rfl
  obtain ⟨o2, lb, R2, vA⟩ := BE 1 _ rfl
  simp only [RX] at o8 vA
  have hl : bL.toList.length = 2 := uO.symm
  apply Array.ext'
  rw [Array.toList_map]
  match hm : bL.toList, hl with
  | [u1, u2], _ =>
   rw [hm] at wF lb
   simp only [List.getElem?_cons_zero, List.getElem?_cons_succ, Option.some.injEq] at wF lb
   subst wF; subst lb
   simp [o8.1, vA.1]
 obtain ⟨fn, tmps, assign, body, hy, hR⟩ := Y.yield i (p, q) E.w hh.j hg ET
 have gh : (execOp a.eval ⟨some d, .call ⟨.value x, bL, mh⟩, ty, pos, af, none⟩).run P E.w = .ok (.round Y.l fn tmps assign body) E.w := by
  rw [wj hv, dW]; exact hy
 refine wpListIn_plain rfl fun K hK => ?_
 refine ⟨fun _ _ => trivial, ?_⟩
 rw [show (FR none).round = none from rfl, Oper.semAt_none, gh]
 refine ⟨fun h => by simp [FR, Fence.wide] at h, hR.mono ?_⟩
 rintro e W' ⟨rfl, hj, hk⟩
 refine hK _ _ (k G hn hG _ _ ?_)
 have ht := HI.Lf hG hh hj hk
 obtain ⟨E', eC, rfl, fL⟩ := ht.h
 exact ⟨ht.j, ⟨E', _, rfl, fL.fg (by show d < (G.to E'.w).fn.n; rw [show (G.to E'.w).fn = N from hn]; exact hd) (by simp [RX])⟩, ht.kp⟩
theorem vq.of {f : FuncId} {fn : Func} {c : Code} {args : List X} {g : Be} {n : Nat} (hf : P.funcs[f]? = some fn) (hb : fn.body = some c) (hn : fn.ntmps = n) (hr : fn.results = #[]) (hle : args.length + 1 ≤ n)
  (h : ∀ (Y : p3 P) (i : Be), (∀ x ∈ g, Y.Good x) → bp P Y ⟨n, []⟩ c (i, ⟨dy 0 (Y.v :: args), []⟩) (fun e s => (e = .normal ∨ e = .ret) ∧ s.1 = i ++ g)) (oc : X.bc args = true) : vq P f args g := by
 intro Y i E dq hJ ET hg dW Ic hφ
 refine calls_of_wp hf hb ?_
 let G : Ctx := ⟨fun b => b < E.w.heap.size, E.w, E.φ, E.β, ⟨n, []⟩, []⟩
 have hG : EI Y G := ⟨fun _ h => h, ET, hφ⟩
 have hlen : ∀ {l : List X} {c : List Value} {R : List Nat}, dL E l c R → l.length = c.length := by
  intro l
  induction l with
  | nil => intro c R h; simp only [dL] at h; rw [h.1]; rfl
  | cons y r ih =>
   intro c R h
   simp only [dL] at h
   obtain ⟨_, c', _, _, rfl, _, h2, _⟩ := h
   simp [ih h2]
 have hl := hlen dW
 have hH : HI Y G (i, ⟨dy 0 (Y.v :: args), []⟩) ⟨(#[.func (.yield Y.l) #[] #[]] ++ dq.toArray) ++ Array.replicate (fn.ntmps - (#[Value.func (.yield Y.l) #[] #[]] ++ dq.toArray).size) undef, []⟩ E.w := by
  refine ⟨hJ, ⟨E, fun _ => [], rfl, ?_⟩, Kp.refl _ _⟩
  constructor
  case kh => exact Ic
  case a7 =>
   intro s x hx
   have iK : look (dy 0 (Y.v :: args)) s = some x := hx
   rw [gi] at iK
   have hs : s < args.length + 1 := by
    rcases Nat.lt_or_ge s (args.length + 1) with h' | h'
    ·exact h'
    ·rw [List.getElem?_eq_none (by simpa using h')] at iK; cases iK
   have e1 : ((#[Value.func (.yield Y.l) #[] #[]] ++ dq.toArray) ++ Array.replicate (fn.ntmps - (#[Value.func (.yield Y.l) #[] #[]] ++ dq.toArray).size) undef).getD s undef = (Value.func (.yield Y.l) #[] #[] :: dq).getD s undef := by
    rw [Array.getD_eq_getD_getElem?, Array.getElem?_append_left (by simp; omega)]
    simp [List.getD_eq_getElem?_getD]
   show RX E x _ []
   rw [e1]
   cases s with
   | zero =>
    simp only [List.getElem?_cons_zero, Option.some.injEq] at iK
    subst iK
    simp [RX]
   | succ s =>
    simp only [List.getElem?_cons_succ] at iK
    obtain ⟨u, R, hu, hR⟩ := dL.get dW iK
    have h0 := RX.free (X.qJ oc iK) hR
    subst h0
    rw [List.getD_cons_succ, List.getD_eq_getElem?_getD, hu]; exact hR
  case aA => intro o ob h; cases h
  case nodup => exact fun _ => List.nodup_nil
  case apart => exact fun _ _ _ _ h => by cases h
  case own => exact fun _ _ h => by cases h
  case ao => exact fun _ _ => rfl
  case size => exact Nat.le_refl _
  case small => exact fun _ h => h
  case os => rfl
  case tape => rfl
  case output => rfl
  case φ0 => exact fun _ _ _ h => h
  case grow => exact fun _ _ _ h => .inl h
  case fixed => exact fun _ _ => rfl
  case tmps => show Array.size _ = n; simp; omega
  case defers => rfl
 refine wp_mono (h Y i hg G rfl hG _ _ hH) ?_
 rintro e a w ⟨s, hs, he, hi⟩
 have hd : a.defers = [] := by obtain ⟨_, _, _, h⟩ := hs.h; exact h.defers
 have CE : (results fn a.tmps).run P w = .ok (.tuple #[]) w := by
  have e : results fn a.tmps = (do let vs ← fn.results.mapM (mU a.tmps); Pure.pure (if h : vs.size = 1 then vs[0] else .tuple vs) : Sem Value) := rfl
  rw [e, hr]
  refine iq (u := #[]) (by simp [Sem.run_pure]) rfl
 have hk : a.defers = [] ∧ ∃ v, (results fn a.tmps).run P w = .ok v w ∧ ∃ v', Ending.returned v = .returned v' ∧ Y.J (i ++ g) w ∧ Kp Y.S E.w w := ⟨hd, _, CE, _, rfl, hi ▸ hs.j, hs.kp⟩
 rcases he with rfl | rfl
 ·exact hk
 ·exact hk
end
end Go.AW
namespace Go.AW
open Go
def da (P : Program) (l : Nat) (N : dV) (c : Code) (st : St) (Q : Exit → St → Prop) : Prop :=
 ∀ G : Ctx, G.fn = N → ∀ a w, bT G st a w → c.wpIn (FR (some l)) 0 P (kb G Q) a w
section
variable {P : Program} {l : Nat} {N : dV} {st aW : St} {Q Q' : Exit → St → Prop} {id : Nat} {x y c : Code}
theorem da.le (hl : Le st aW) (h : da P l N c aW Q) : da P l N c st Q := fun G hn a w hh => h G hn a w (hl.holds hh)
theorem da.mono (h : da P l N c st Q) (hq : ∀ e st, Q e st → Q' e st) : da P l N c st Q' := fun G hn a w hh => wpIn_mono (h G hn a w hh) fun e _ _ hp => kb.mono (hq e) hp
theorem da.sh (h : Sh N st aW) (k : da P l N c aW Q) : da P l N c st Q := fun G hn a w hh => k G hn a w (h G hn a w hh)
theorem da.skip (h : Q .normal st) : da P l N .skip st Q := fun _ _ _ _ hh => wpIn_skip ⟨st, hh, h⟩
theorem da.exit (h : Q (.exit id) st) : da P l N (.exit id) st Q := fun _ _ _ _ hh => wpIn_exit ⟨st, hh, h⟩
theorem da.seq (h : da P l N x st (jr (fun aW => da P l N y aW Q) Q)) : da P l N (.seq x y) st Q := by
 intro G hn a w hh
 refine wpIn_seq (wpIn_mono (h G hn a w hh) ?_)
 rintro e a' w' ⟨aW, gf, hq⟩
 cases e <;> first | exact hq G hn a' w' gf | exact ⟨aW, gf, hq⟩
theorem da.block (h : da P l N c st (kR id Q)) : da P l N (.block id c) st Q := by
 intro G hn a w hh
 refine wpIn_block (wpIn_mono (h G hn a w hh) ?_)
 rintro e a' w' ⟨aW, gf, hq⟩
 cases e with
 | exit id' =>
  simp only [kR] at hq
  simp only [Exit.inBlock]
  cases hb : Nat.beq id' id with
  | true =>
   rw [hb] at hq
   rw [if_pos (Nat.eq_of_beq_eq_true hb)]
   exact ⟨aW, gf, hq⟩
  | false =>
   rw [hb] at hq
   rw [if_neg (Nat.ne_of_beq_eq_false hb)]
   exact ⟨aW, gf, hq⟩
 | _ => exact ⟨aW, gf, hq⟩
theorem da.cond {o : Operand} {b : Bool} (hc : bx st o = some (.v (.bool b))) (ht : b = true → da P l N x st Q) (hf : b = false → da P l N y st Q) : da P l N (.cond o x y) st Q := by
 intro G hn a w hh
 obtain ⟨E, RR, rfl, hi⟩ := hh
 have hv := hi.val hc
 cases b with
 | true => exact wpIn_cond (t := true) hv (by simpa using ht rfl G hn a E.w ⟨E, RR, rfl, hi⟩)
 | false => exact wpIn_cond (t := false) hv (by simpa using hf rfl G hn a E.w ⟨E, RR, rfl, hi⟩)
theorem da.ay {o : Operand} {p : Prop} {inst : Decidable p} (hc : bx st o = some (.v (.bool (decide p)))) (ht : p → da P l N x st Q) (hf : ¬ p → da P l N y st Q) : da P l N (.cond o x y) st Q :=
 da.cond hc (fun h => ht (of_decide_eq_true h)) (fun h => hf (of_decide_eq_false h))
theorem da.aE {o : Operand} (hc : bx st o = some (.v (.bool true))) (h : da P l N x st Q) : da P l N (.cond o x y) st Q := da.cond hc (fun _ => h) (fun h => by cases h)
theorem da.bY {o : Operand} (hc : bx st o = some (.v (.bool false))) (h : da P l N y st Q) : da P l N (.cond o x y) st Q := da.cond hc (fun h => by cases h) (fun _ => h)
theorem da.nK {x y : Code} (J : St) (I : Prop) (hx : da P l N x st (jr (fun aW => I ∧ Le aW J) Q)) (hy : I → da P l N y J Q) : da P l N (.seq x y) st Q :=
 da.seq (hx.mono fun e z7 h => by cases e with
  | normal => exact (hy h.1).le h.2
  | _ => exact h)
theorem da.region {ops : List Oper} (h : aa P N ops.toArray ops st (wi (fun aW => Q .normal aW))) (hd : ops.all jZ = true := by rfl) : da P l N (.region id ops.toArray false) st Q := by
 intro G hn a w hh
 refine wpIn_mono (wh (Q := kb G (wi (fun aW => Q .normal aW))) (fun ⟨_, _, _, _, h⟩ => h) hd (h G hn a w hh)) ?_
 rintro e a' w' ⟨aW, gf, hq⟩
 cases e <;> first | exact ⟨aW, gf, hq⟩ | exact hq.elim
theorem da.sr {ops : List Oper} (h : aa P N ops.toArray ops st (wi (fun aW => da P l N y aW Q))) (hd : ops.all jZ = true := by rfl) : da P l N (.seq (.region id ops.toArray false) y) st Q :=
 da.seq (da.region (Q := jr (fun aW => da P l N y aW Q) Q) h hd)
theorem da.cC {ops : Array Oper} (hm : P.follows .mixedOrders = true) (h : aR P N ops ops.size (Array.replicate ops.size false) st (fun aW => Q .normal aW)) (hd : ops.toList.all jZ = true := by rfl) : da P l N (.region id ops true) st Q := by
 intro G hn a w hh
 have h1 := h G hn a _ hh.drew
 refine wpIn_mono (pz (Q := fun e a w => e = .normal ∧ ∃ aW, Q .normal aW ∧ bT G aW a w) hm (fun ⟨_, _, h, _⟩ => by cases h) hd h1) ?_
 rintro e a w ⟨rfl, aW, hk, gf⟩
 exact ⟨aW, gf, hk⟩
end
end Go.AW
namespace Go.AW
open Go
structure Ext (G G' : Ctx) : Prop where
 fn : G'.fn = G.fn
 K : ∀ b, G.K b → G'.K b
 ao : ∀ b, G.K b → G'.w0.heap[b]? = G.w0.heap[b]?
 size : G.w0.heap.size ≤ G'.w0.heap.size
 os : G'.w0.os = G.w0.os
 tape : G'.w0.tape = G.w0.tape
 output : G'.w0.output = G.w0.output
 φ0 : ∀ b i v, G.φ0 b i = some v → G'.φ0 b i = some v
 grow : ∀ b i v, G'.φ0 b i = some v → G.φ0 b i = some v ∨ ¬ G.K b
 fixed : ∀ o, G.fn.F.elem o = true → G'.β0 o = G.β0 o
 marks : ∃ ms : List Nat, G'.ds = ms.map (fun D => { target := .collected D, args := #[] }) ++ G.ds ∧ ms.Nodup ∧ ∀ D ∈ ms, G'.K D ∧ ¬ G.K D ∧ G'.w0.heap[D]? = some (.deferred (some []))
theorem Ext.refl (G : Ctx) : Ext G G := ⟨rfl, fun _ h => h, fun _ _ => rfl, Nat.le_refl _, rfl, rfl, rfl, fun _ _ _ h => h, fun _ _ _ h => .inl h, fun _ _ => rfl, [], rfl, List.nodup_nil, fun _ h => by cases h⟩
theorem Ext.trans {A B C : Ctx} (h : Ext A B) (k : Ext B C) : Ext A C := by
 obtain ⟨ms, h1, h2, h3⟩ := h.marks
 obtain ⟨ns, k1, k2, k3⟩ := k.marks
 refine ⟨k.fn.trans h.fn, fun b hb => k.K b (h.K b hb), fun b hb => (k.ao b (h.K b hb)).trans (h.ao b hb), Nat.le_trans h.size k.size, k.os.trans h.os, k.tape.trans h.tape, k.output.trans h.output, fun b i v hv => k.φ0 b i v (h.φ0 b i v hv), fun b i v hv => ?_,
  fun o ho => (k.fixed o (by rw [h.fn]; exact ho)).trans (h.fixed o ho), ns ++ ms, ?_, ?_, ?_⟩
 ·rcases k.grow b i v hv with h4 | h4
  ·exact h.grow b i v h4
  ·exact .inr (fun hb => h4 (h.K b hb))
 ·rw [k1, h1, List.map_append, List.append_assoc]
 ·refine List.nodup_append.2 ⟨k2, h2, fun a ha b hb e => ?_⟩
  subst e
  exact (k3 a ha).2.1 (h3 a hb).1
 ·intro D hD
  rcases List.mem_append.1 hD with hD | hD
  ·obtain ⟨a, b, c⟩ := k3 D hD
   exact ⟨a, fun hk => b (h.K D hk), c⟩
  ·obtain ⟨a, b, c⟩ := h3 D hD
   exact ⟨k.K D a, b, (k.ao D a).trans c⟩
def H7 (G : Ctx) (Q : Exit → St → Prop) (e : Exit) (a : Act) (w : World) : Prop := ∃ G', Ext G G' ∧ kb G' Q e a w
def ma (P : Program) (N : dV) (c : Code) (st : St) (Q : Exit → St → Prop) : Prop :=
 ∀ G : Ctx, G.fn = N → ∀ a w, bT G st a w → c.wp P (H7 G Q) a w
section
variable {P : Program} {N : dV} {st aW : St} {Q Q' : Exit → St → Prop} {id : Nat} {x y c : Code}
theorem ma.of (h : ae P N c st Q) : ma P N c st Q := fun G hn a w hh => wp_mono (h G hn a w hh) fun _ _ _ hp => ⟨G, .refl G, hp⟩
theorem ma.le (hl : Le st aW) (h : ma P N c aW Q) : ma P N c st Q := fun G hn a w hh => h G hn a w (hl.holds hh)
theorem ma.sh (h : Sh N st aW) (k : ma P N c aW Q) : ma P N c st Q := fun G hn a w hh => k G hn a w (h G hn a w hh)
theorem ma.seq (h : ma P N x st (jr (fun aW => ma P N y aW Q) Q)) : ma P N (.seq x y) st Q := by
 intro G hn a w hh
 refine wp_seq (wp_mono (h G hn a w hh) ?_)
 rintro e a' w' ⟨G', hx, aW, gf, hq⟩
 cases e with
 | normal => exact wp_mono (hq G' (hx.fn.trans hn) a' w' gf) fun _ _ _ ⟨P7, iK, hp⟩ => ⟨P7, hx.trans iK, hp⟩
 | _ => exact ⟨G', hx, aW, gf, hq⟩
theorem ma.block (h : ma P N c st (kR id Q)) : ma P N (.block id c) st Q := by
 intro G hn a w hh
 refine wp_block (wp_mono (h G hn a w hh) ?_)
 rintro e a' w' ⟨G', hx, aW, gf, hq⟩
 cases e with
 | exit id' =>
  simp only [kR] at hq
  simp only [Exit.inBlock]
  cases hb : Nat.beq id' id with
  | true =>
   rw [hb] at hq
   rw [if_pos (Nat.eq_of_beq_eq_true hb)]
   exact ⟨G', hx, aW, gf, hq⟩
  | false =>
   rw [hb] at hq
   rw [if_neg (Nat.ne_of_beq_eq_false hb)]
   exact ⟨G', hx, aW, gf, hq⟩
 | _ => exact ⟨G', hx, aW, gf, hq⟩
end
end Go.AW
namespace Go.AW
open Go Go.RowKit
structure Bf (ν : List Nat) (ob : Obj) : Prop where
 plain : ob.plain
 P8 : iQ ob
 ng : ob ≠ .gone
 dp : ∀ xs, ob = .cells xs → ∀ q, X.c3 q xs = true → q ∈ ν
section
variable {P : Program} {N : dV} {st : St} {Q : Exit → St → Prop}
end
end Go.AW
namespace Go.AW
open Go
section
variable {P : Program} {Y : p3 P} {N : dV} {s : lZ} {Q : Exit → lZ → Prop}
theorem bp.nK {x y : Code} (J : lZ) (I : Prop) (hx : bp P Y N x s (ka (fun aW => I ∧ rC aW J) Q)) (hy : I → bp P Y N y J Q) : bp P Y N (.seq x y) s Q :=
 bp.join (fun _ : Unit => J) (fun _ => I) (hx.mono fun e _ h => by cases e <;> first | exact ⟨(), h⟩ | exact h) (fun _ h => hy h)
theorem bp.iS {α0 : Type} {c : Code} (S : α0 → lZ) (I : α0 → Prop) (μ : α0 → Nat) (i0 : α0) (hi : I i0) (hs : rC s (S i0))
  (round : ∀ a0, I a0 → bp P Y N c (S a0) (ka (fun aW => ∃ b0, I b0 ∧ μ b0 < μ a0 ∧ rC aW (S b0)) Q)) : bp P Y N (.loop c) s Q :=
 bp.loop (ι := α0) (fun u => S u) (fun u => I u) (fun u => μ u) i0 hi hs (fun u h => (round u h).mono fun e _ h => by
  cases e <;> first | exact h | (obtain ⟨b0, h⟩ := h; exact ⟨b0, h⟩))
theorem bp.jw {α0 : Type} {x y : Code} (J : α0 → lZ) (I : α0 → Prop) (hx : bp P Y N x s (ka (fun aW => ∃ b0, I b0 ∧ rC aW (J b0)) Q)) (hy : ∀ a0, I a0 → bp P Y N y (J a0) Q) : bp P Y N (.seq x y) s Q :=
 bp.join (ι := α0) (fun u => J u) (fun u => I u) (hx.mono fun e _ h => by cases e <;> first | exact h | (obtain ⟨b0, h⟩ := h; exact ⟨b0, h⟩)) (fun u h => hy u h)
theorem bp.k0 {α0 α1 : Type} {c : Code} (S : α0 → α1 → lZ) (I : α0 → α1 → Prop) (μ : α0 → α1 → Nat) (i0 : α0) (i1 : α1) (hi : I i0 i1) (hs : rC s (S i0 i1))
  (round : ∀ a0 a1, I a0 a1 → bp P Y N c (S a0 a1) (ka (fun aW => ∃ b0 b1, I b0 b1 ∧ μ b0 b1 < μ a0 a1 ∧ rC aW (S b0 b1)) Q)) : bp P Y N (.loop c) s Q :=
 bp.loop (ι := α0 × α1) (fun u => S u.1 u.2) (fun u => I u.1 u.2) (fun u => μ u.1 u.2) (i0, i1) hi hs (fun u h => (round u.1 u.2 h).mono fun e _ h => by
  cases e <;> first | exact h | (obtain ⟨b0, b1, h⟩ := h; exact ⟨(b0, b1), h⟩))
theorem bp.ly {α0 α1 : Type} {x y : Code} (J : α0 → α1 → lZ) (I : α0 → α1 → Prop) (hx : bp P Y N x s (ka (fun aW => ∃ b0 b1, I b0 b1 ∧ rC aW (J b0 b1)) Q)) (hy : ∀ a0 a1, I a0 a1 → bp P Y N y (J a0 a1) Q) : bp P Y N (.seq x y) s Q :=
 bp.join (ι := α0 × α1) (fun u => J u.1 u.2) (fun u => I u.1 u.2) (hx.mono fun e _ h => by cases e <;> first | exact h | (obtain ⟨b0, b1, h⟩ := h; exact ⟨(b0, b1), h⟩)) (fun u h => hy u.1 u.2 h)
theorem bp.eW {α0 α1 α2 : Type} {c : Code} (S : α0 → α1 → α2 → lZ) (I : α0 → α1 → α2 → Prop) (μ : α0 → α1 → α2 → Nat) (i0 : α0) (i1 : α1) (i2 : α2) (hi : I i0 i1 i2) (hs : rC s (S i0 i1 i2))
  (round : ∀ a0 a1 a2, I a0 a1 a2 → bp P Y N c (S a0 a1 a2) (ka (fun aW => ∃ b0 b1 b2, I b0 b1 b2 ∧ μ b0 b1 b2 < μ a0 a1 a2 ∧ rC aW (S b0 b1 b2)) Q)) : bp P Y N (.loop c) s Q :=
 bp.loop (ι := α0 × α1 × α2) (fun u => S u.1 u.2.1 u.2.2) (fun u => I u.1 u.2.1 u.2.2) (fun u => μ u.1 u.2.1 u.2.2) (i0, i1, i2) hi hs (fun u h => (round u.1 u.2.1 u.2.2 h).mono fun e _ h => by
  cases e <;> first | exact h | (obtain ⟨b0, b1, b2, h⟩ := h; exact ⟨(b0, b1, b2), h⟩))
theorem bp.BH {α0 α1 α2 : Type} {x y : Code} (J : α0 → α1 → α2 → lZ) (I : α0 → α1 → α2 → Prop) (hx : bp P Y N x s (ka (fun aW => ∃ b0 b1 b2, I b0 b1 b2 ∧ rC aW (J b0 b1 b2)) Q)) (hy : ∀ a0 a1 a2, I a0 a1 a2 → bp P Y N y (J a0 a1 a2) Q) : bp P Y N (.seq x y) s Q :=
 bp.join (ι := α0 × α1 × α2) (fun u => J u.1 u.2.1 u.2.2) (fun u => I u.1 u.2.1 u.2.2) (hx.mono fun e _ h => by cases e <;> first | exact h | (obtain ⟨b0, b1, b2, h⟩ := h; exact ⟨(b0, b1, b2), h⟩)) (fun u h => hy u.1 u.2.1 u.2.2 h)
theorem bp.BK {α0 α1 α2 α3 : Type} {c : Code} (S : α0 → α1 → α2 → α3 → lZ) (I : α0 → α1 → α2 → α3 → Prop) (μ : α0 → α1 → α2 → α3 → Nat) (i0 : α0) (i1 : α1) (i2 : α2) (i3 : α3) (hi : I i0 i1 i2 i3) (hs : rC s (S i0 i1 i2 i3))
  (round : ∀ a0 a1 a2 a3, I a0 a1 a2 a3 → bp P Y N c (S a0 a1 a2 a3) (ka (fun aW => ∃ b0 b1 b2 b3, I b0 b1 b2 b3 ∧ μ b0 b1 b2 b3 < μ a0 a1 a2 a3 ∧ rC aW (S b0 b1 b2 b3)) Q)) : bp P Y N (.loop c) s Q :=
 bp.loop (ι := α0 × α1 × α2 × α3) (fun u => S u.1 u.2.1 u.2.2.1 u.2.2.2) (fun u => I u.1 u.2.1 u.2.2.1 u.2.2.2) (fun u => μ u.1 u.2.1 u.2.2.1 u.2.2.2) (i0, i1, i2, i3) hi hs (fun u h => (round u.1 u.2.1 u.2.2.1 u.2.2.2 h).mono fun e _ h => by
  cases e <;> first | exact h | (obtain ⟨b0, b1, b2, b3, h⟩ := h; exact ⟨(b0, b1, b2, b3), h⟩))
theorem bp.xo {α0 α1 α2 α3 : Type} {x y : Code} (J : α0 → α1 → α2 → α3 → lZ) (I : α0 → α1 → α2 → α3 → Prop) (hx : bp P Y N x s (ka (fun aW => ∃ b0 b1 b2 b3, I b0 b1 b2 b3 ∧ rC aW (J b0 b1 b2 b3)) Q)) (hy : ∀ a0 a1 a2 a3, I a0 a1 a2 a3 → bp P Y N y (J a0 a1 a2 a3) Q) : bp P Y N (.seq x y) s Q :=
 bp.join (ι := α0 × α1 × α2 × α3) (fun u => J u.1 u.2.1 u.2.2.1 u.2.2.2) (fun u => I u.1 u.2.1 u.2.2.1 u.2.2.2) (hx.mono fun e _ h => by cases e <;> first | exact h | (obtain ⟨b0, b1, b2, b3, h⟩ := h; exact ⟨(b0, b1, b2, b3), h⟩)) (fun u h => hy u.1 u.2.1 u.2.2.1 u.2.2.2 h)
end
mutual
theorem Bg {q : Nat} : ∀ {x : X}, x.nr = true → x.dp q = false
 | .v _, _ | .no, _ | .fz .., _ | .di .., _ | .fp .., _ => rfl
 | .ptr .., h => by cases h
 | .aY .., h => by cases h
 | .mref _, h => by cases h
 | .agg xs, h => il (xs := xs) h
 | .tup xs, h => il (xs := xs) h
 | .gd _ a b, h => by
  simp only [X.nr, Bool.and_eq_true] at h
  simp only [X.dp, il h.1, il h.2, Bool.or_self]
theorem il {q : Nat} : ∀ {xs : List X}, X.fm xs = true → X.c3 q xs = false
 | [], _ => rfl
 | x :: r, h => by
  simp only [X.fm, Bool.and_eq_true] at h
  simp only [X.c3, Bg h.1, il h.2, Bool.or_self]
end
theorem Bf.cells {ν : List Nat} {xs : List X} (hp : X.gO xs) (hn : X.fm xs = true) : Bf ν (.cells xs) :=
 ⟨hp, trivial, by simp, fun ys e q h => by cases e; rw [il hn] at h; cases h⟩
theorem Bf.rows {ν : List Nat} {s : Nat} {rs : List (List X)} (hp : X.mV rs) (h0 : ∀ r ∈ rs, X.bc r = true) : Bf ν (.rows s rs) := ⟨hp, h0, by simp, fun ys e => by cases e⟩
end Go.AW
