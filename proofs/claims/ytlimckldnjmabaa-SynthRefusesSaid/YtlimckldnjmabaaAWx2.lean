/- Part of the abstract walk: a slice of one's own is taken out of the slice that holds it. -/
import Derived.Test.YtlimckldnjmabaaAWx1
import Derived.Lib.SliceRun
import Derived.KernelRfl
import Derived.Laws.StructEq
import Derived.DataShut
import Derived.OrdersHeld
import Derived.RangeFuncLeaves
import Derived.RangeFuncSeq
import Derived.RangeFuncCalls
import Derived.TacticsIn
import Derived.OrdersIn
set_option linter.unusedSimpArgs false
set_option linter.unusedVariables false
set_option linter.unusedSectionVars false
namespace Go.AW
open Go
theorem X.tQ : ∀ {xs : List X} (k : Nat), X.eU xs = true → X.eU (xs.set k .no) = true
 | [], _, _ => rfl
 | x :: r, 0, h => by
  simp only [X.eU, Bool.and_eq_true] at h
  simp [List.set, X.eU, X.nr, h.2]
 | x :: r, k + 1, h => by
  simp only [X.eU, Bool.and_eq_true] at h
  simp [List.set, X.eU, h.1, X.tQ k h.2]
theorem RO.pick {E : Env} {cs : Array Value} {y : X} : ∀ {xs : List X} {off k : Nat} {R : List Nat}, RO E xs cs off R → xs[k]? = some y →
  ∃ u Ry R1, cs[off + k]? = some u ∧ gm u ∧ RX E y u Ry ∧ RO E (xs.set k .no) cs off R1 ∧ (R.Nodup → (Ry ++ R1).Nodup) ∧ ∀ b ∈ Ry ++ R1, b ∈ R
 | [], _, _, _, _, h => by simp at h
 | x :: r, off, 0, R, h, hy => by
  simp only [RO] at h
  obtain ⟨u, R₁, R₂, hu, hs, h1, h2, rfl⟩ := h
  simp only [List.getElem?_cons_zero, Option.some.injEq] at hy
  subst hy
  refine ⟨u, R₁, R₂, hu, hs, h1, ?_, fun h => h, fun b hb => hb⟩
  simp only [List.set, RO]
  exact ⟨u, [], R₂, hu, hs, by simp [RX], h2, rfl⟩
 | x :: r, off, k + 1, R, h, hy => by
  simp only [RO] at h
  obtain ⟨u, R₁, R₂, hu, hs, h1, h2, rfl⟩ := h
  simp only [List.getElem?_cons_succ] at hy
  obtain ⟨v, Ry, R', hv, M0, xX, sC, iw, cx⟩ := RO.pick h2 hy
  refine ⟨v, Ry, R₁ ++ R', by rw [show off + (k + 1) = off + 1 + k by omega]; exact hv, M0, xX, ?_, fun hn => ?_, fun b hb => ?_⟩
  ·simp only [List.set, RO]
   exact ⟨u, R₁, R', hu, hs, h1, sC, rfl⟩
  ·obtain ⟨n1, n2, n3⟩ := List.nodup_append.1 hn
   have h3 := iw n2
   rw [← List.append_assoc, List.nodup_append]
   obtain ⟨m1, m2, m3⟩ := List.nodup_append.1 h3
   refine ⟨?_, m2, fun a ha b hb => ?_⟩
   ·rw [List.nodup_append]
    exact ⟨m1, n1, fun a ha b hb e => n3 b hb a (cx a (List.mem_append.2 (.inl ha))) e.symm⟩
   ·rcases List.mem_append.1 ha with h | h
    ·exact m3 a h b hb
    ·exact n3 a h b (cx b (List.mem_append.2 (.inr hb)))
  ·rcases List.mem_append.1 hb with h | h
   ·exact List.mem_append.2 (.inr (cx b (List.mem_append.2 (.inl h))))
   ·rcases List.mem_append.1 h with h | h
    ·exact List.mem_append.2 (.inl h)
    ·exact List.mem_append.2 (.inr (cx b (List.mem_append.2 (.inr h))))
theorem bM.pick {E : Env} {cs : Array Value} {y : X} {s : Nat} : ∀ {rs : List (List X)} {row : List X} {off i k : Nat} {R : List Nat}, bA s rs → bM E rs cs off R → rs[i]? = some row → row[k]? = some y →
  ∃ u Ry R1, cs[off + (i * s + k)]? = some u ∧ gm u ∧ RX E y u Ry ∧ bM E (rs.set i (row.set k .no)) cs off R1 ∧ (R.Nodup → (Ry ++ R1).Nodup) ∧ ∀ b ∈ Ry ++ R1, b ∈ R
 | [], _, _, _, _, _, _, _, h, _ => by simp at h
 | r :: rs, row, off, 0, k, R, _, h, hr, hy => by
  simp only [bM] at h
  obtain ⟨R₁, R₂, hn, h1, h2, rfl⟩ := h
  simp only [List.getElem?_cons_zero, Option.some.injEq] at hr
  subst hr
  obtain ⟨u, Ry, R', hu, hs, xX, sC, iw, cx⟩ := RO.pick h1 hy
  refine ⟨u, Ry, R' ++ R₂, by rw [Nat.zero_mul, Nat.zero_add]; exact hu, hs, xX, ?_, fun nJ => ?_, fun b hb => ?_⟩
  ·simp only [List.set, bM, List.length_set]
   exact ⟨R', R₂, X.tQ k hn, sC, h2, rfl⟩
  ·obtain ⟨n1, n2, n3⟩ := List.nodup_append.1 nJ
   rw [← List.append_assoc, List.nodup_append]
   exact ⟨iw n1, n2, fun a ha b hb => n3 a (cx a ha) b hb⟩
  ·rw [← List.append_assoc] at hb
   rcases List.mem_append.1 hb with h | h
   ·exact List.mem_append.2 (.inl (cx b h))
   ·exact List.mem_append.2 (.inr h)
 | r :: rs, row, off, i + 1, k, R, hU, h, hr, hy => by
  simp only [bM] at h
  obtain ⟨R₁, R₂, hn, h1, h2, rfl⟩ := h
  simp only [List.getElem?_cons_succ] at hr
  have hl : r.length = s := hU r (List.mem_cons_self ..)
  obtain ⟨u, Ry, R', hu, hs, xX, sC, iw, cx⟩ := bM.pick (fun x hx => hU x (List.mem_cons_of_mem _ hx)) h2 hr hy
  refine ⟨u, Ry, R₁ ++ R', by rw [show off + ((i + 1) * s + k) = off + r.length + (i * s + k) by rw [Nat.add_mul, hl]; omega]; exact hu, hs, xX, ?_, fun nJ => ?_, fun b hb => ?_⟩
  ·simp only [List.set, bM]
   exact ⟨R₁, R', hn, h1, sC, rfl⟩
  ·obtain ⟨n1, n2, n3⟩ := List.nodup_append.1 nJ
   have h3 := iw n2
   rw [← List.append_assoc, List.nodup_append]
   obtain ⟨m1, m2, m3⟩ := List.nodup_append.1 h3
   refine ⟨?_, m2, fun a ha b hb => ?_⟩
   ·rw [List.nodup_append]
    exact ⟨m1, n1, fun a ha b hb e => n3 b hb a (cx a (List.mem_append.2 (.inl ha))) e.symm⟩
   ·rcases List.mem_append.1 ha with h | h
    ·exact m3 a h b hb
    ·exact n3 a h b (cx b (List.mem_append.2 (.inr hb)))
  ·rcases List.mem_append.1 hb with h | h
   ·exact List.mem_append.2 (.inr (cx b (List.mem_append.2 (.inl h))))
   ·rcases List.mem_append.1 h with h | h
    ·exact List.mem_append.2 (.inl h)
    ·exact List.mem_append.2 (.inr (cx b (List.mem_append.2 (.inr h))))
section
variable {P : Program} {N : dJ} {st : St} {Q : Exit → St → Prop} {all : Array Oper} {rest : List Oper} {d : Nat} {ty : TypeId} {pos : String} {af : Array Edge}
theorem aa.Ee {t : TypeId} {x : Operand} {o s i k : Nat} {y : X} {row : List X} {rs : List (List X)} (p6 : List (List X)) (ht : TY.shape P t = some none) (hx : bu st x = some (.ptr o s i k)) (ho : look st.ay o = some (.rows s rs)) (hr : rs[i]? = some row) (hy : row[k]? = some y)
  (he : rs.set i (row.set k .no) = p6) (hd : d < N.n) (kk : aa P N all rest ((st.dr o (.rows s p6)).put d y) Q) :
  aa P N all (⟨some d, .load t x, ty, pos, af, none⟩ :: rest) st Q := by
 subst he
 refine aa.vB (fun G E RR a hn hi => ?_) kk
 obtain ⟨R, hp⟩ := hi.eval hx
 simp only [RX] at hp
 obtain ⟨_, B, hB, hc⟩ := hp
 have aL := hi.ay o _ ho
 have iw := hi.nodup (.obj o)
 simp only [dq] at aL
 obtain ⟨hu, aL⟩ := aL
 rcases aL with ⟨_, h, _⟩ | ⟨B', cs, tb, R', fY, hw, hφ, jJ, hlen, il, gr⟩
 ·subst h; simp at hr
 rw [hB] at fY
 obtain rfl := Option.some.inj fY
 obtain ⟨u, Ry, R1, Am, hs, xX, sC, HO, cx⟩ := bM.pick hu il hr hy
 rw [gr] at iw
 obtain ⟨rj, jM⟩ := List.nodup_cons.1 iw
 have Hh := HO jM
 obtain ⟨m1, m2, m3⟩ := List.nodup_append.1 Hh
 have An : ∀ b ∈ Ry ++ R1, b ∈ RR (.obj o) := fun b hb => by rw [gr]; exact List.mem_cons.2 (.inr (cx b hb))
 have j5 : Inv G E (en RR (.obj o) (B.b :: R1)) (st.dr o (.rows s (rs.set i (row.set k .no)))) a := by
  refine hi.dr ?_ ?_ ?_
  ·simp only [dq]
   refine ⟨hu.set (by rw [List.length_set]; exact hu row (List.mem_of_getElem? hr)), .inr ⟨B, cs, tb, R1, hB, hw, hφ, by simpa using jJ, hlen, sC, rfl⟩⟩
  ·exact List.nodup_cons.2 ⟨fun h => rj (cx _ (List.mem_append.2 (.inr h))), m2⟩
  ·intro b hb
   have jO : b ∈ RR (.obj o) := by
    rcases List.mem_cons.1 hb with h | h
    ·rw [gr, h]; simp
    ·exact An b (List.mem_append.2 (.inr h))
   exact ⟨(hi.own _ _ jO).1, (hi.own _ _ jO).2, fun p hp h => hi.apart _ _ hp b h jO⟩
 refine ⟨u, E, _, ?_, j5.put (by rw [hn]; exact hd) xX m1 fun b hb => ?_⟩
 ·show (do let z ← Instr.loadAt t (a.eval x); pure (Next.value z) : Sem Next).run P E.w = _
  rw [hc]
  refine cK ?_
  have fv : E.w.cell? ⟨B.b, B.off + (i * s + k), none⟩ = some u := by rw [bZ hw]; exact Am
  simp only [Instr.loadAt, Instr.sureAddr, loadVar, Sem.run_bind, Sem.run_pure, Result.andThen_ok, (TY.gR ht E.w).1]
  simp [fv]
 ·have jO := An b (List.mem_append.2 (.inl hb))
  refine ⟨(hi.own _ _ jO).1, (hi.own _ _ jO).2, fun p hp h => ?_⟩
  unfold en at h
  split at h
  ·rename_i KB
   rcases List.mem_cons.1 h with h' | h'
   ·exact rj (h' ▸ cx b (List.mem_append.2 (.inl hb)))
   ·exact m3 b hb b h' rfl
  ·rename_i KB
   exact hi.apart _ _ KB b h jO
theorem aa.y5 {t : TypeId} {x : Operand} {o s i k CP tv : Nat} {rows : List (List X)} {yh : List X} {rs : List (List X)} (p6 : List (List X)) (ht : TY.size P t = some 1) (hx : bu st x = some (.ptr o s i k)) (hy : look st.ax tv = some (.cX CP rows))
  (ho : look st.ay o = some (.rows s rs)) (hr : rs[i]? = some yh) (hk : k + 1 ≤ yh.length) (he : rs.set i (gD yh k [.cX CP rows]) = p6) (kk : aa P N all rest ((st.put tv .no).dr o (.rows s p6)) Q) :
  aa P N all (⟨none, .store t x (.tmp tv), ty, pos, af, none⟩ :: rest) st Q := by
 subst he; exact aa.Bh ht hx hy (row := []) rfl ho hr hk kk
end
end Go.AW
namespace Go.AW
open Go
theorem RO.y6 {E : Env} {cs : Array Value} {e off : Nat} {R : List Nat} (h : RO E [.v (.slice none 0 0)] cs off R) : RO E [.cX e []] cs off R := by
 simp only [RO] at h ⊢
 obtain ⟨u, R₁, R₂, hu, hs, h1, h2, h3⟩ := h
 simp only [RX] at h1
 refine ⟨u, R₁, R₂, hu, hs, ?_, h2, h3⟩
 simp only [RX]
 exact ⟨fun _ h => (by cases h), none, 0, h1.1, .inl ⟨by trivial, by trivial, h1.2⟩⟩
theorem bM.y6 {E : Env} {cs : Array Value} {e : Nat} : ∀ {n off : Nat} {R : List Nat}, bM E (List.replicate n [.v (.slice none 0 0)]) cs off R → bM E (List.replicate n [.cX e []]) cs off R
 | 0, _, _, h => by simpa [bM] using h
 | n + 1, off, R, h => by
  simp only [List.replicate_succ, bM] at h ⊢
  obtain ⟨R₁, R₂, _, h1, h2, h3⟩ := h
  exact ⟨R₁, R₂, rfl, h1.y6, bM.y6 h2, h3⟩
section
variable {N : dJ} {st : St} {d : Nat}
theorem Sh.y7 (e : Nat) {n : Nat} (hx : look st.ax d = some (.cX 1 (List.replicate n [.v (.slice none 0 0)]))) : Sh N st (st.put d (.cX 1 (List.replicate n [.cX e []]))) := by
 intro G hn a w hh
 obtain ⟨E, RR, rfl, hi⟩ := hh
 have hv := hi.ax d _ hx
 refine ⟨E, _, rfl, hi.relabel (d := d) (R := RR (.slot d)) ?_ (hi.nodup _) (fun b hb => ⟨(hi.own _ _ hb).1, (hi.own _ _ hb).2, fun p hp h => hi.apart _ _ hp b h hb⟩)⟩
 simp only [RX] at hv ⊢
 obtain ⟨_, base, cap, hc, h⟩ := hv
 refine ⟨fun r hr => by rw [(List.mem_replicate.1 hr).2]; rfl, base, cap, by simpa using hc, ?_⟩
 rcases h with ⟨h1, h2, h3⟩ | ⟨b, off, cs, ty, R', h1, h2, h3, h4, h5, h6, h7⟩
 ·refine .inl ⟨?_, h2, h3⟩
  have : n = 0 := by simpa using congrArg List.length h1
  subst this; rfl
 ·exact .inr ⟨b, off, cs, ty, R', h1, h2, by simpa using h3, h4, h5, h6.y6, h7⟩
end
theorem y8 {α : Type} {l : List α} {f : α → List X} {m : Nat} {r : List X} (h : m < l.length) : ((l.map f).set (0 + m) r)[0 + m]? = some r := by
 rw [Nat.zero_add, List.getElem?_set_self (by simpa using h)]
theorem wh {α : Type} {l : List α} {f : α → List X} {m : Nat} {r q : List X} {v : α} (h : q = f v) : ((l.map f).set (0 + m) r).set (0 + m) q = (l.set m v).map f := by
 rw [Nat.zero_add, List.set_set, h, List.map_set]
theorem uH {α : Type} {l : List α} {f : α → List X} {m n : Nat} (h : n = l.length - m) : ((l.map f).drop (0 + m)).take n = (l.drop m).map f := by
 rw [Nat.zero_add, ← List.map_drop, List.take_of_length_le (by simp; omega)]
theorem X.nZ {α : Type} {f g : α → List X} (h : ∀ a, X.ir (f a) = g a) : ∀ l : List α, X.lh (l.map f) = l.map g
 | [] => rfl
 | a :: r => by simp only [List.map_cons, X.lh, h, X.nZ h r]
theorem Sh.sO {α : Type} {f g : α → List X} {N : dJ} {st : St} {d s : Nat} {l : List α} (h : ∀ a, X.ir (f a) = g a) (hx : look st.ax d = some (.cX s (l.map f))) : Sh N st (st.put d (.fz s (l.map g))) :=
 Sh.yv hx (by simp only [X.lg, X.nZ h])
end Go.AW
namespace Go.AW
open Go
section
variable {P : Program} {N : dJ} {st : St} {Q : Exit → St → Prop} {all : Array Oper} {rest : List Oper} {d : Nat} {ty : TypeId} {pos : String} {af : Array Edge}
theorem aa.Ao {t t' e s cj : Nat} {x y : Operand} {s' : Nat} {rows : List (List X)} (ht : TY.slice P t = some (e, s, cj)) (hx : bu st x = some (.fz s' rows)) (hy : bu st y = some (.v (.slice none 0 0))) (hd : d < N.n)
  (k : ∀ b : Bool, (b = true → rows = []) → aa P N all rest (st.put d (.v (.bool b))) Q) : aa P N all (⟨some d, .binOp .eql t x y t', ty, pos, af, none⟩ :: rest) st Q := by
 intro G hn a w hh
 obtain ⟨E, RR, rfl, hi⟩ := hh
 obtain ⟨R, hp⟩ := hi.eval hx
 have MA := hi.val hy
 obtain ⟨hu, _⟩ := TY.ct ht
 simp only [RX] at hp
 obtain ⟨_, hU, base, cap, hc, cu⟩ := hp
 have hr : (execOp a.eval ⟨some d, .binOp .eql t x y t', ty, pos, af, none⟩).run P E.w = .ok (.value (.bool base.isNone)) E.w := by
  show (do let x ← (do eqGuard .eql t x y (a.eval x) (a.eval y); binOp .eql t (a.eval x) (a.eval y) : Sem Value); pure (Next.value x) : Sem Next).run P E.w = _
  rw [MA, hc]
  refine cK ?_
  have := Lib.run_eql_slice_nil (P := P) E.w t e base rows.length cap 0 0 hu
  simp only [eqGuard, Sem.run_bind]
  simpa using this
 refine wpList_plain rfl fun K hK => ?_
 simp only [Oper.wp, hr, Oper.upon_value]
 refine hK _ _ (k base.isNone (fun h => ?_) G hn _ _ ⟨E, _, rfl, hi.eP (by rw [hn]; exact hd) (by simp [RX])⟩)
 rcases cu with ⟨h1, _⟩ | ⟨b, off, h1, _⟩
 ·exact h1
 ·rw [h1] at h; cases h
theorem RO.m4 {E : Env} {cs : Array Value} {x y : X} (vu : ∀ c, RX E x c [] → RX E y c []) (hf : x.free = true) : ∀ {xs : List X} {off k : Nat} {R : List Nat}, RO E xs cs off R → xs[k]? = some x → RO E (xs.set k y) cs off R
 | [], _, _, _, _, h => by simp at h
 | z :: r, off, 0, R, h, hy => by
  simp only [RO] at h
  obtain ⟨u, R₁, R₂, hu, hs, h1, h2, rfl⟩ := h
  simp only [List.getElem?_cons_zero, Option.some.injEq] at hy
  subst hy
  have h0 := RX.free hf h1
  subst h0
  simp only [List.set, RO]
  exact ⟨u, [], R₂, hu, hs, vu u h1, h2, rfl⟩
 | z :: r, off, k + 1, R, h, hy => by
  simp only [RO] at h
  obtain ⟨u, R₁, R₂, hu, hs, h1, h2, rfl⟩ := h
  simp only [List.getElem?_cons_succ] at hy
  simp only [List.set, RO]
  exact ⟨u, R₁, R₂, hu, hs, h1, RO.m4 vu hf h2 hy, rfl⟩
theorem Sh.nA (o q s k : Nat) {xs : List X} (ho : look (st.kill q).ay o = some (.cells xs)) (hk : xs[k]? = some (.v (.slice none 0 0))) (nz : X.aW (xs.set k (.aR q s 0 0)) = true) (MB : Nat.beq q o = false) (hF : N.F.elem q = false) :
  Sh N st (((st.kill q).dr q (.rows s [])).dr o (.cells (xs.set k (.aR q s 0 0)))) := by
 intro G hn a w hh
 obtain ⟨E, RR, rfl, hi⟩ := hh
 obtain ⟨E', et, hw, h1, h2⟩ := hi.nil q s (by rw [hn]; exact hF)
 have aL := h1.ay o (.cells xs) (by simp only [St.dr, look, MB, cond_false]; exact ho)
 have y9 := aL
 simp only [dq] at y9
 obtain ⟨_, B, cs, ty, hB, mw, hφ, ei, sC, hR⟩ := y9
 refine ⟨E', _, hw, h1.dr (R := et (.obj o)) ?_ (h1.nodup _) (fun b hb => ⟨(h1.own _ _ hb).1, (h1.own _ _ hb).2, fun p hp h => h1.apart _ _ hp b h hb⟩)⟩
 simp only [dq]
 refine ⟨nz, B, cs, ty, hB, mw, hφ, by rw [List.length_set]; exact ei, RO.m4 (x := .v (.slice none 0 0)) (fun c hc => ?_) rfl sC hk, hR⟩
 simp only [RX] at hc
 rw [hc.1]; exact h2
theorem bg.m4 {E : Env} {x y : X} (vu : ∀ c, RX E x c [] → RX E y c []) (hf : x.free = true) : ∀ {xs : List X} {k : Nat} {cs : List Value} {R : List Nat}, bg E xs cs R → xs[k]? = some x → bg E (xs.set k y) cs R
 | [], _, _, _, _, h => by simp at h
 | z :: r, 0, cs, R, h, hy => by
  simp only [bg] at h
  obtain ⟨c, cp, R₁, R₂, re, hs, h1, h2, rfl⟩ := h
  simp only [List.getElem?_cons_zero, Option.some.injEq] at hy
  subst hy
  have h0 := RX.free hf h1
  subst h0
  simp only [List.set, bg]
  exact ⟨c, cp, [], R₂, re, hs, vu c h1, h2, rfl⟩
 | z :: r, k + 1, cs, R, h, hy => by
  simp only [bg] at h
  obtain ⟨c, cp, R₁, R₂, re, hs, h1, h2, rfl⟩ := h
  simp only [List.getElem?_cons_succ] at hy
  simp only [List.set, bg]
  exact ⟨c, cp, R₁, R₂, re, hs, h1, bg.m4 vu hf h2 hy, rfl⟩
theorem Sh.KC (s k : Nat) {d : Nat} {xs : List X} (hx : look st.ax d = some (.agg xs)) (hk : xs[k]? = some (.v (.slice none 0 0))) : Sh N st (st.put d (.agg (xs.set k (.fz s [])))) := by
 intro G hn a w hh
 obtain ⟨E, RR, rfl, hi⟩ := hh
 have hv := hi.ax d _ hx
 refine ⟨E, _, rfl, hi.relabel (d := d) (R := RR (.slot d)) ?_ (hi.nodup _) (fun b hb => ⟨(hi.own _ _ hb).1, (hi.own _ _ hb).2, fun p hp h => hi.apart _ _ hp b h hb⟩)⟩
 simp only [RX] at hv ⊢
 obtain ⟨cs, hc, h⟩ := hv
 refine ⟨cs, hc, bg.m4 (x := .v (.slice none 0 0)) (fun c hc => ?_) rfl h hk⟩
 simp only [RX] at hc ⊢
 exact ⟨trivial, fun _ h => (by cases h), none, 0, hc.1, .inl ⟨by trivial, by trivial⟩⟩
theorem Sh.oa (o s k : Nat) {xs : List X} (ho : look st.ay o = some (.cells xs)) (hk : xs[k]? = some (.v (.slice none 0 0))) (nz : X.aW (xs.set k (.fz s [])) = true) :
  Sh N st (st.dr o (.cells (xs.set k (.fz s [])))) := by
 intro G hn a w hh
 obtain ⟨E, RR, rfl, hi⟩ := hh
 have aL := hi.ay o _ ho
 simp only [dq] at aL
 obtain ⟨_, B, cs, ty, hB, mw, hφ, ei, sC, hR⟩ := aL
 refine ⟨E, _, rfl, hi.dr (R := RR (.obj o)) ?_ (hi.nodup _) (fun b hb => ⟨(hi.own _ _ hb).1, (hi.own _ _ hb).2, fun p hp h => hi.apart _ _ hp b h hb⟩)⟩
 simp only [dq]
 refine ⟨nz, B, cs, ty, hB, mw, hφ, by rw [List.length_set]; exact ei, RO.m4 (x := .v (.slice none 0 0)) (fun c hc => ?_) rfl sC hk, hR⟩
 simp only [RX] at hc ⊢
 exact ⟨trivial, fun _ h => (by cases h), none, 0, hc.1, .inl ⟨by trivial, by trivial⟩⟩
end
end Go.AW
namespace Go.AW
open Go
section
variable {P : Program} {N : dJ} {st : St} {Q : Exit → St → Prop} {all : Array Oper} {rest : List Oper} {d dd j : Nat} {want : Bool} {op : Op} {ty : TypeId} {pos : String} {af : Array Edge} {x : X} {u : Value}
theorem aa.vl (hy : Yields P N st ⟨some d, op, ty, pos, af, none⟩ x) (k : aa P N all rest (st.put d x) Q) (hd : d < N.n := by decide) : aa P N all (⟨some d, op, ty, pos, af, none⟩ :: rest) st Q := aa.val hy hd k
theorem aa.gs (d : Nat) (hj : (all[j]?).bind (·.dst) = some d) (hx : look st.ax d = some (.v u)) (er : nS want u = true) (k : aa P N all rest (st.put dd (.v undef)) Q) (hd : d < N.n := by decide) (yw : dd < N.n := by decide) :
  aa P N all (⟨some dd, op, ty, pos, af, some (j, want)⟩ :: rest) st Q := aa.aA hj hd yw hx er k
theorem ah.sr {id : Nat} {l : List Oper} {y : Code} (h : aa P N l.toArray l st (iU (fun aQ => ah P N y aQ Q) Q)) : ah P N (.seq (.region id l.toArray false) y) st Q := ah.seq (ah.region h)
variable {ops : Array Oper} {l0 rs l : List Nat} {t i dj : Nat} {ae : Array Bool} {K : Array Bool → St → Prop}
theorem AQ.cn (i : Nat) (ho : ops[i]? = some ⟨some d, op, ty, pos, af, none⟩) (hy : Yields P N st ⟨some d, op, ty, pos, af, none⟩ x) (k : AQ P N ops l0 rs t l (ae.setIfInBounds i true) (st.put d x) K)
  (hB : (Region.noSelect ops && Region.free .any ops ae i && (Region.ready .any ops ae).contains i) = true := by kernel_rfl) (hd : d < N.n := by decide) : AQ P N ops l0 rs t (i :: l) ae st K := AQ.cons ho hB hy hd k
theorem AQ.sk (i : Nat) (ho : ops[i]? = some ⟨some d, op, ty, pos, af, some (j, want)⟩) (hj : (ops[j]?).bind (·.dst) = some dj) (hx : look st.ax dj = some (.v u)) (er : nS want u = true) (k : AQ P N ops l0 rs t l (ae.setIfInBounds i true) (st.put d (.v undef)) K)
  (hB : (Region.noSelect ops && Region.free .any ops ae i && (Region.ready .any ops ae).contains i) = true := by kernel_rfl) (pe : dj < N.n := by decide) (hd : d < N.n := by decide) : AQ P N ops l0 rs t (i :: l) ae st K := AQ.skip ho hB hj pe hd hx er k
theorem AQ.rn (i : Nat) (ho : ops[i]? = some ⟨some d, op, ty, pos, af, some (j, want)⟩) (hj : (ops[j]?).bind (·.dst) = some dj) (hx : look st.ax dj = some (.v (.bool want))) (hy : Yields P N st ⟨some d, op, ty, pos, af, some (j, want)⟩ x) (k : AQ P N ops l0 rs t l (ae.setIfInBounds i true) (st.put d x) K)
  (hB : (Region.noSelect ops && Region.free .any ops ae i && (Region.ready .any ops ae).contains i) = true := by kernel_rfl) (pe : dj < N.n := by decide) (hd : d < N.n := by decide) : AQ P N ops l0 rs t (i :: l) ae st K := AQ.run ho hB hj pe hx hy hd k
end
section
variable {P : Program} {N : dJ} {st : St} {Q : Exit → St → Prop} {all : Array Oper} {rest : List Oper} {d : Nat} {ty : TypeId} {pos : String} {af : Array Edge} {y p : X}
theorem aa.mv {x : Operand} (k : aa P N all rest (st.put d y) Q) (hx : bu st x = some y := by rfl) (hf : y.free = true := by rfl) (hd : d < N.n := by decide) : aa P N all (⟨some d, .move x, ty, pos, af, none⟩ :: rest) st Q := aa.val (Y.zd hx hf) hd k
theorem aa.an {x : Operand} (k : aa P N all rest (st.put d y) Q) (hx : bu st x = some y := by rfl) (hf : y.free = true := by rfl) (hd : d < N.n := by decide) : aa P N all (⟨some d, .assign x, ty, pos, af, none⟩ :: rest) st Q := aa.val (Y.qe hx hf) hd k
theorem aa.ld {t : TypeId} {x : Operand} {row : List X} (ht : TY.shape P t = some none) (k : aa P N all rest (st.put d y) Q) (hx : bu st x = some p := by rfl) (hr : rowAt st p = some row := by rfl) (hy : row[iT p]? = some y := by rfl) (hf : y.free = true := by rfl) (hd : d < N.n := by decide) :
  aa P N all (⟨some d, .load t x, ty, pos, af, none⟩ :: rest) st Q := aa.val (Y.qx ht hx hr hy hf) hd k
end
section
variable {P : Program} {N : dJ} {st : St} {Q : Exit → St → Prop} {all : Array Oper} {rest : List Oper} {d dd j : Nat} {want : Bool} {op : Op} {ty : TypeId} {pos : String} {af : Array Edge} {x y p q : X} {u : Value}
theorem aa.gw (d : Nat) (hy : Yields P N st ⟨some dd, op, ty, pos, af, some (j, want)⟩ x) (k : aa P N all rest (st.put dd x) Q) (hj : (all[j]?).bind (·.dst) = some d := by rfl) (hx : look st.ax d = some (.v (.bool want)) := by rfl) (hd : d < N.n := by decide) (yw : dd < N.n := by decide) :
  aa P N all (⟨some dd, op, ty, pos, af, some (j, want)⟩ :: rest) st Q := aa.aH hj hd hx (aa.val hy yw k)
theorem aa.gz (d : Nat) (k : aa P N all rest (st.put dd (.v undef)) Q) (hj : (all[j]?).bind (·.dst) = some d := by rfl) (hx : look st.ax d = some (.v u) := by rfl) (er : nS want u = true := by rfl) (hd : d < N.n := by decide) (yw : dd < N.n := by decide) :
  aa P N all (⟨some dd, op, ty, pos, af, some (j, want)⟩ :: rest) st Q := aa.aA hj hd yw hx er k
theorem aa.pk {c a b : Operand} {v : Bool} (k : aa P N all rest (st.put d y) Q) (hc : bu st c = some (.v (.bool v)) := by rfl) (hz : bu st (if v then a else b) = some y := by rfl) (hf : y.free = true := by rfl) (hd : d < N.n := by decide) :
  aa P N all (⟨some d, .pick c a b, ty, pos, af, none⟩ :: rest) st Q := aa.val (Y.zj hc hz hf) hd k
theorem aa.fa {t : TypeId} {a : Operand} {f off : Nat} {ft : TypeId} (ht : TY.jh P t f = some (off, ft)) (k : aa P N all rest (st.put d q) Q) (hx : bu st a = some p := by rfl) (hq : p.on off = some q := by rfl) (hd : d < N.n := by decide) :
  aa P N all (⟨some d, .fieldAddr t a f, ty, pos, af, none⟩ :: rest) st Q := aa.val (Y.qn ht hx hq) hd k
end
theorem eC.c {α : Type} {l l' : List (Nat × α)} {s : Nat} {x : α} (hr : eC l l') (h : look l s = some x := by rfl) : eC l ((s, x) :: l') := eC.cons h hr
theorem eC.c2 {α : Type} {l l' : List (Nat × α)} {s t : Nat} {x y : α} (hr : eC l l') (h : look l s = some x := by rfl) (h1 : look l t = some y := by rfl) : eC l ((s, x) :: (t, y) :: l') := eC.cons h (eC.cons h1 hr)
theorem eC.c4 {α : Type} {l l' : List (Nat × α)} {s t s1 t1 : Nat} {x y x1 y1 : α} (hr : eC l l') (h : look l s = some x := by rfl) (h1 : look l t = some y := by rfl) (h2 : look l s1 = some x1 := by rfl) (h3 : look l t1 = some y1 := by rfl) : eC l ((s, x) :: (t, y) :: (s1, x1) :: (t1, y1) :: l') := eC.c2 (eC.c2 hr h2 h3) h h1
theorem eC.c8 {α : Type} {l l' : List (Nat × α)} {s t s1 t1 s2 t2 s3 t3 : Nat} {x y x1 y1 x2 y2 x3 y3 : α} (hr : eC l l') (h : look l s = some x := by rfl) (h1 : look l t = some y := by rfl) (h2 : look l s1 = some x1 := by rfl) (h3 : look l t1 = some y1 := by rfl) (h4 : look l s2 = some x2 := by rfl) (h5 : look l t2 = some y2 := by rfl) (h6 : look l s3 = some x3 := by rfl) (h7 : look l t3 = some y3 := by rfl) : eC l ((s, x) :: (t, y) :: (s1, x1) :: (t1, y1) :: (s2, x2) :: (t2, y2) :: (s3, x3) :: (t3, y3) :: l') := eC.c4 (eC.c4 hr h4 h5 h6 h7) h h1 h2 h3
theorem gx {α β : Type} {f : α → β} {l : List α} : some (l.map f).length = some l.length := congrArg some (List.length_map ..)
theorem Ends.rb {P : Program} {n5 : List ResultVar} {st : St} {b b' : Bool} (h0 : jm P st n5 = some [.v (.bool b)]) (h : b = b') : Ends P n5 ([] : List Obj).length (fun r o => r = .v (.bool b') ∧ o = []) .ret st := ⟨_, _, h0, rfl, by rw [h]; exact ⟨rfl, rfl⟩⟩
theorem Ends.ri {P : Program} {n5 : List ResultVar} {st : St} {k : IntKind} {b b' : Int} (h0 : jm P st n5 = some [.v (.int k b)]) (h : b = b') : Ends P n5 ([] : List Obj).length (fun r o => r = .v (.int k b') ∧ o = []) .ret st := ⟨_, _, h0, rfl, by rw [h]; exact ⟨rfl, rfl⟩⟩
end Go.AW
namespace Go.AW
open Go
section
variable {P : Program} {N : dJ} {st : St} {dst : Option Nat} {ty : TypeId} {pos : String} {af : Array Edge} {g : Option (Nat × Bool)}
end
end Go.AW
namespace Go.AW
open Go
section
variable {N : dJ} {st : St} {d : Nat}
end
end Go.AW
namespace Go.AW
open Go
section
variable {P : Program} {N : dJ} {st : St} {dst : Option Nat} {ty : TypeId} {pos : String} {af : Array Edge} {g : Option (Nat × Bool)}
end
end Go.AW
namespace Go.AW
open Go
theorem RO.setAt {E : Env} {cs : Array Value} {x y : X} {u : Value} (hf : x.free = true) : ∀ {xs : List X} {off k : Nat} {R : List Nat}, RO E xs cs off R → xs[k]? = some x → cs[off + k]? = some u → RX E y u [] → RO E (xs.set k y) cs off R
 | [], _, _, _, _, h, _, _ => by simp at h
 | z :: r, off, 0, R, h, hy, hu, vu => by
  simp only [RO] at h
  obtain ⟨u', R₁, R₂, xP, hs, h1, h2, rfl⟩ := h
  simp only [List.getElem?_cons_zero, Option.some.injEq] at hy
  subst hy
  have h0 := RX.free hf h1
  subst h0
  rw [Nat.add_zero, xP] at hu
  obtain rfl := Option.some.inj hu
  simp only [List.set, RO]
  exact ⟨u', [], R₂, xP, hs, vu, h2, rfl⟩
 | z :: r, off, k + 1, R, h, hy, hu, vu => by
  simp only [RO] at h
  obtain ⟨u', R₁, R₂, xP, hs, h1, h2, rfl⟩ := h
  simp only [List.getElem?_cons_succ] at hy
  simp only [List.set, RO]
  exact ⟨u', R₁, R₂, xP, hs, h1, RO.setAt hf h2 hy (by rw [show off + 1 + k = off + (k + 1) by omega]; exact hu) vu, rfl⟩
section
variable {N : dJ} {G : Ctx} {E : Env} {RR : Own → List Nat} {st : St} {a : Act}
theorem Inv.Bv (hi : Inv G E RR st a) {o s : Nat} {rs : List (List X)} (ho : look st.ay o = some (.rows s rs)) (hf : du rs) (hF : G.fn.F.elem o = false) :
  ∃ E' et, E'.w = E.w ∧ E'.β = E.β ∧ Inv G E' et ((st.kill o).dr o .gone) a ∧ ∀ u n, n = rs.length → RX E (.aR o s 0 n) u [] → RX E' (.fz s rs) u [] := by
 have aL := hi.ay o _ ho
 simp only [dq] at aL
 obtain ⟨hu, aL⟩ := aL
 have hβ : cb G E E (fun _ => False) := ⟨rfl, fun _ h => h.elim, fun _ h => h.elim, fun _ _ _ => rfl, Nat.le_refl _, rfl, rfl, rfl⟩
 have j5 := hi.kI hβ (o := o) (ob := .gone) (R := []) (fun _ h => h.elim) (fun q _ => rfl) (fun h => rfl) (by simp only [dq]) List.nodup_nil (fun _ h => by cases h)
 rcases aL with ⟨h1, h2, h3⟩ | ⟨B, cs, ty, R', hB, hw, hφ, jJ, ei, il, gr⟩
 ·refine ⟨E, _, rfl, rfl, j5, fun u n hn hx => ?_⟩
  simp only [RX] at hx ⊢
  obtain ⟨_, base, cap, hc, cu⟩ := hx
  rcases cu with ⟨_, _, _, h5⟩ | ⟨B, hB, _⟩
  ·subst hn
   exact ⟨trivial, hu, base, cap, hc, .inl ⟨h2, h5⟩⟩
  ·rw [h1] at hB; cases hB
 ·have yn := bM.free hf il
  subst yn
  have jO : B.b ∈ RR (.obj o) := by rw [gr]; simp
  have hle : ∀ c i v, E.φ c i = some v → (if c = B.b then cs[i]? else E.φ c i) = some v := by
   intro c i v h
   by_cases n7 : c = B.b
   ·subst n7; rw [hφ i] at h; cases h
   ·rw [if_neg n7]; exact h
  have gq : ∀ R : List Nat, B.b ∉ R → E.On { E with φ := fun c i => if c = B.b then cs[i]? else E.φ c i } R := by
   intro R AY
   refine ⟨hle, fun c lB => ⟨rfl, fun h i => ?_⟩⟩
   have : c ≠ B.b := fun e => AY (e ▸ lB)
   show (if c = B.b then cs[i]? else E.φ c i) = none
   rw [if_neg this]; exact h i
  have Bn : ∀ p, B.b ∉ eI st RR o [] p := by
   intro p hp
   cases p with
   | obj q =>
    by_cases hq : q = o
    ·subst hq; simp [eI] at hp
    ·exact hi.apart (.obj q) (.obj o) (by simpa using hq) _ (by simpa [eI, hq] using hp) jO
   | slot q =>
    rcases jj st RR o [] q with h | h
    ·rw [h] at hp; cases hp
    ·rw [h] at hp; exact hi.apart (.slot q) (.obj o) (by simp) _ hp jO
  refine ⟨{ E with φ := fun c i => if c = B.b then cs[i]? else E.φ c i }, _, rfl, rfl,
   {j5 with
    jH := by
     intro c i v h
     change (if c = B.b then cs[i]? else E.φ c i) = some v at h
     by_cases n7 : c = B.b
     ·subst n7; rw [if_pos rfl] at h
      show E.w.cell? _ = _
      rw [bZ hw]; exact h
     ·rw [if_neg n7] at h; exact hi.jH c i v h
    ax := fun q x hx => RX.mono x _ _ (gq _ (Bn _)) (fun _ _ => rfl) (j5.ax q x hx)
    ay := fun o ob aL => dq.mono (gq _ (Bn _)) rfl (fun _ _ _ _ => rfl) (j5.ay o ob aL)
    φ0 := fun c i v h => hle c i v (hi.φ0 c i v h)
    grow := by
     intro c i v h
     change (if c = B.b then cs[i]? else E.φ c i) = some v at h
     by_cases n7 : c = B.b
     ·subst n7; exact .inr (hi.own _ _ jO).2
     ·rw [if_neg n7] at h; exact hi.grow c i v h }, fun u n hn hx => ?_⟩
  simp only [RX] at hx ⊢
  obtain ⟨_, base, cap, hc, cu⟩ := hx
  subst hn
  rcases cu with ⟨h1, _⟩ | ⟨B', fY, u4, nJ, hb⟩
  ·rw [hB] at h1; cases h1
  ·rw [hB] at fY
   obtain rfl := Option.some.inj fY
   rcases hb with hb | hb
   ·exact ⟨trivial, hu, base, cap, hc, .inl ⟨List.eq_nil_of_length_eq_zero om, hb⟩⟩
   ·refine ⟨trivial, hu, base, cap, hc, .inr ⟨B.b, B.off, by simpa using hb, nJ, ?_⟩⟩
    refine bM.freeze (E := E) (fun i v h => ?_) hle il
    show (if B.b = B.b then cs[i]? else E.φ B.b i) = some v
    rw [if_pos rfl]; exact h
theorem Sh.wj (p o k : Nat) {s n : Nat} {xs ys : List X} {rs : List (List X)} (hp : look st.ay p = some (.cells xs)) (hk : xs[k]? = some (.aR o s 0 n)) (ho : look st.ay o = some (.rows s rs)) (hl : n = rs.length) (hf : du rs) (hF : N.F.elem o = false)
  (CQ : look ((st.kill o).dr o .gone).ay p = some (.cells ys)) (tN : ys[k]? = some .no) (nz : X.aW (ys.set k (.fz s rs)) = true) :
  Sh N st (((st.kill o).dr o .gone).dr p (.cells (ys.set k (.fz s rs)))) := by
 intro G hn a w hh
 obtain ⟨E, RR, rfl, hi⟩ := hh
 have CT := hi.ay p _ hp
 simp only [dq] at CT
 obtain ⟨_, B, cs, ty, hB, hw, hφ, ei, sC, hR⟩ := CT
 obtain ⟨u, Ry, R1, Am, hs, xX, _, _, _⟩ := RO.pick sC hk
 have h0 := RX.free (x := .aR o s 0 n) rfl xX
 subst h0
 obtain ⟨E', et, mw, KE, fk, Gy⟩ := hi.Bv ho hf (by rw [hn]; exact hF)
 have HP := fk.ay p _ CQ
 have Eg := HP
 simp only [dq] at Eg
 obtain ⟨_, B', cp, K7, fY, Eh, MD, DJ, HQ, Bb⟩ := Eg
 rw [KE, hB] at fY
 obtain rfl := Option.some.inj fY
 rw [mw, hw] at Eh
 simp only [Option.some.injEq, Go.Obj.cells.injEq] at Eh
 obtain ⟨rfl, rfl, _⟩ := Eh
 refine ⟨E', _, mw, fk.dr (R := et (.obj p)) ?_ (fk.nodup _) (fun b hb => ⟨(fk.own _ _ hb).1, (fk.own _ _ hb).2, fun q hq h => fk.apart _ _ hq b h hb⟩)⟩
 simp only [dq]
 exact ⟨nz, B, cs, ty, by rw [KE]; exact hB, by rw [mw]; exact hw, MD, by rw [List.length_set]; exact DJ, RO.setAt (x := .no) rfl HQ tN Am (Gy u n hl xX), Bb⟩
end
end Go.AW
namespace Go.AW
open Go
end Go.AW
namespace Go.AW
open Go
end Go.AW
namespace Go.AW
open Go
section
variable {P : Program} {N : dJ} {st : St} {dst : Option Nat} {ty : TypeId} {pos : String} {af : Array Edge} {g : Option (Nat × Bool)}
theorem aE.bin {op : BinOp} {t t' : TypeId} {x y : Operand} {u v r : Value} (hx : bu st x = some (.v u)) (hy : bu st y = some (.v v))
  (hr : ∀ w, (do eqGuard op t x y u v; binOp op t u v : Sem Value).run P w = .ok r w) : aE P N st ⟨dst, .binOp op t x y t', ty, pos, af, g⟩ (.v r) := by
 intro G E RR a _ hi
 refine ⟨r, fun w => ?_, by simp [RX]⟩
 show (do let x ← (do eqGuard op t x y (a.eval x) (a.eval y); binOp op t (a.eval x) (a.eval y) : Sem Value); pure (Next.value x) : Sem Next).run P w = _
 rw [hi.val hx, hi.val hy]
 exact cK (hr _)
section ints
variable {t t' : TypeId} {x y : Operand} {k : IntKind} {a b r : Int}
theorem aE.add (hx : bu st x = some (.v (.int k a))) (hy : bu st y = some (.v (.int k b))) (hr : k.wrap (a + b) = r) : aE P N st ⟨dst, .binOp .add t x y t', ty, pos, af, g⟩ (.v (.int k r)) :=
 aE.bin hx hy fun w => by subst hr; simp [eqGuard, binOp, Op.intArith]
theorem aE.sub (hx : bu st x = some (.v (.int k a))) (hy : bu st y = some (.v (.int k b))) (hr : k.wrap (a - b) = r) : aE P N st ⟨dst, .binOp .sub t x y t', ty, pos, af, g⟩ (.v (.int k r)) :=
 aE.bin hx hy fun w => by subst hr; simp [eqGuard, binOp, Op.intArith]
theorem aE.mul (hx : bu st x = some (.v (.int k a))) (hy : bu st y = some (.v (.int k b))) (hr : k.wrap (a * b) = r) : aE P N st ⟨dst, .binOp .mul t x y t', ty, pos, af, g⟩ (.v (.int k r)) :=
 aE.bin hx hy fun w => by subst hr; simp [eqGuard, binOp, Op.intArith]
theorem aE.rem (hx : bu st x = some (.v (.int k a))) (hy : bu st y = some (.v (.int k b))) (h0 : b ≠ 0) (hr : a.tmod b = r) : aE P N st ⟨dst, .binOp .rem t x y t', ty, pos, af, g⟩ (.v (.int k r)) :=
 aE.bin hx hy fun w => by subst hr; simp [eqGuard, binOp, Op.intDiv, h0]
theorem aE.lss (hx : bu st x = some (.v (.int k a))) (hy : bu st y = some (.v (.int k b))) : aE P N st ⟨dst, .binOp .lss t x y t', ty, pos, af, g⟩ (.v (.bool (decide (a < b)))) :=
 aE.bin hx hy fun w => by simp [eqGuard, binOp, Op.intCmp]
theorem aE.leq (hx : bu st x = some (.v (.int k a))) (hy : bu st y = some (.v (.int k b))) : aE P N st ⟨dst, .binOp .leq t x y t', ty, pos, af, g⟩ (.v (.bool (decide (a ≤ b)))) :=
 aE.bin hx hy fun w => by simp [eqGuard, binOp, Op.intCmp]
theorem aE.gtr (hx : bu st x = some (.v (.int k a))) (hy : bu st y = some (.v (.int k b))) : aE P N st ⟨dst, .binOp .gtr t x y t', ty, pos, af, g⟩ (.v (.bool (decide (b < a)))) :=
 aE.bin hx hy fun w => by simp [eqGuard, binOp, Op.intCmp]
theorem aE.geq (hx : bu st x = some (.v (.int k a))) (hy : bu st y = some (.v (.int k b))) : aE P N st ⟨dst, .binOp .geq t x y t', ty, pos, af, g⟩ (.v (.bool (decide (b ≤ a)))) :=
 aE.bin hx hy fun w => by simp [eqGuard, binOp, Op.intCmp]
theorem aE.eql (hx : bu st x = some (.v (.int k a))) (hy : bu st y = some (.v (.int k b))) : aE P N st ⟨dst, .binOp .eql t x y t', ty, pos, af, g⟩ (.v (.bool (decide (a = b)))) :=
 aE.bin hx hy fun w => by simp [eqGuard, binOp, Op.intCmp, BEq.beq]
theorem aE.neq (hx : bu st x = some (.v (.int k a))) (hy : bu st y = some (.v (.int k b))) : aE P N st ⟨dst, .binOp .neq t x y t', ty, pos, af, g⟩ (.v (.bool (decide (a ≠ b)))) :=
 aE.bin hx hy fun w => by simp [eqGuard, binOp, Op.intCmp, bne, BEq.beq]
end ints
theorem aE.un {op : UnOp} {t : TypeId} {x : Operand} {u r : Value} (hx : bu st x = some (.v u)) (hr : ∀ w, (Op.unary op u).run P w = .ok r w) : aE P N st ⟨dst, .unOp op t x, ty, pos, af, g⟩ (.v r) := by
 intro G E RR a _ hi
 refine ⟨r, fun w => ?_, by simp [RX]⟩
 show (do let x ← Op.unary op (a.eval x); pure (Next.value x) : Sem Next).run P w = _
 rw [hi.val hx]
 exact cK (hr _)
theorem aE.not {t : TypeId} {x : Operand} {b : Bool} (hx : bu st x = some (.v (.bool b))) : aE P N st ⟨dst, .unOp .not t x, ty, pos, af, g⟩ (.v (.bool (!b))) :=
 aE.un hx fun _ => rfl
theorem aE.conv {s d : TypeId} {x : Operand} {k k' : IntKind} {n r : Int} (hs : TY.isInt P s = some k') (hd : TY.isInt P d = some k) (hx : bu st x = some (.v (.int k' n))) (hr : k.wrap n = r) :
  aE P N st ⟨dst, .convert s d x, ty, pos, af, g⟩ (.v (.int k r)) := by
 intro G E RR a _ hi
 refine ⟨.int k r, fun w => ?_, by simp [RX]⟩
 show (do let x ← convert s d (a.eval x); pure (Next.value x) : Sem Next).run P w = _
 rw [hi.val hx]
 refine cK ?_
 have h1 : P.underlying s = some (.int k') := by unfold TY.isInt at hs; split at hs <;> simp_all
 have h2 : P.underlying d = some (.int k) := by unfold TY.isInt at hd; split at hd <;> simp_all
 simp [convert, run_underlying h1, run_underlying h2, Conv.intToInt, hr]
section
variable {t t' : TypeId} {x y : Operand} {a b : Int}
theorem aE.Iy (hx : bu st x = some (.v (.int .i64 a))) (hy : bu st y = some (.v (.int .i64 b))) (hr : -9223372036854775808 ≤ a + b ∧ a + b ≤ 9223372036854775807) : aE P N st ⟨dst, .binOp .add t x y t', ty, pos, af, g⟩ (.v (.int .i64 (a + b))) :=
 aE.add hx hy (IntWalk.i64_in _ hr)
theorem aE.MS (hx : bu st x = some (.v (.int .i64 a))) (hy : bu st y = some (.v (.int .i64 b))) (hr : -9223372036854775808 ≤ a - b ∧ a - b ≤ 9223372036854775807) : aE P N st ⟨dst, .binOp .sub t x y t', ty, pos, af, g⟩ (.v (.int .i64 (a - b))) :=
 aE.sub hx hy (IntWalk.i64_in _ hr)
theorem aE.MT (hx : bu st x = some (.v (.int .i64 a))) (hy : bu st y = some (.v (.int .i64 b))) (hr : -9223372036854775808 ≤ a * b ∧ a * b ≤ 9223372036854775807) : aE P N st ⟨dst, .binOp .mul t x y t', ty, pos, af, g⟩ (.v (.int .i64 (a * b))) :=
 aE.mul hx hy (IntWalk.i64_in _ hr)
theorem aE.MU {k : IntKind} (hx : bu st x = some (.v (.int k a))) (hy : bu st y = some (.v (.int k b))) (hr : 0 ≤ a ∧ 1 ≤ b) : aE P N st ⟨dst, .binOp .rem t x y t', ty, pos, af, g⟩ (.v (.int k (a % b))) :=
 aE.rem hx hy om (IntWalk.rem_in a b hr.1)
end
theorem aE.KR {s d : TypeId} {x : Operand} {k k' : IntKind} {n : Int} (hs : TY.isInt P s = some k') (hd : TY.isInt P d = some k) (hx : bu st x = some (.v (.int k' n))) (hr : k.wrap n = n) :
  aE P N st ⟨dst, .convert s d x, ty, pos, af, g⟩ (.v (.int k n)) := aE.conv hs hd hx hr
theorem aE.len {t e s cj : Nat} {x : Operand} {y : X} {n : Nat} (ht : TY.slice P t = some (e, s, cj)) (hx : bu st x = some y) (hn : y.len = some n) :
  aE P N st ⟨dst, .call ⟨.builtin .len, #[x], #[t]⟩, ty, pos, af, g⟩ (.v (.int .i64 (n : Int))) := by
 intro G E RR a _ hi
 obtain ⟨R, hp⟩ := hi.eval hx
 obtain ⟨base, cap, hc⟩ := hp.len hn
 refine ⟨.int .i64 (n : Int), fun w => fb ?_, by simp [RX]⟩
 obtain ⟨hu, _⟩ := TY.ct ht
 simp [builtin, Builtin.len_, hc, run_underlying hu, goInt]
theorem aE.xd {t e s cj : Nat} {x ix : Operand} {rows : List (List X)} {row : List X} {k : IntKind} {n : Int} {m : Nat} (ht : TY.slice P t = some (e, s, cj)) (hx : bu st x = some (.fz s rows))
  (v7 : bu st ix = some (.v (.int k n))) (hn : n = (m : Int)) (hr : rows[m]? = some row) : aE P N st ⟨dst, .indexAddr t x ix, ty, pos, af, g⟩ (.fp row 0) := by
 intro G E RR a _ hi
 obtain ⟨R, hp⟩ := hi.eval hx
 have hm : m < rows.length := by
  rcases Nat.lt_or_ge m rows.length with h' | h'
  ·exact h'
  ·simp [List.getElem?_eq_none h'] at hr
 simp only [RX] at hp
 obtain ⟨_, hu, base, cap, hc, h⟩ := hp
 rcases h with ⟨h, _⟩ | ⟨b, off, rfl, hl, hf⟩
 ·subst h; simp at hr
 ·refine ⟨.pointer (some ⟨b, off + m * s, none⟩), fun w => ?_, ?_⟩
  ·show (do let z ← Instr.indexAt t (a.eval x) (a.eval ix); pure (Next.value z) : Sem Next).run P w = _
   rw [hc, hi.val v7]
   exact cK (iu ht hn hm w)
  ·simp only [RX]
   exact ⟨trivial, b, off + m * s, rfl, gp.get hu hf hr⟩
theorem aE.Iz {t e s cj : Nat} {x ix : Operand} {o lo len : Nat} {k : IntKind} {n : Int} {m : Nat} (ht : TY.slice P t = some (e, s, cj)) (hx : bu st x = some (.aR o s lo len))
  (v7 : bu st ix = some (.v (.int k n))) (hn : n = (m : Int)) (hm : m < len) : aE P N st ⟨dst, .indexAddr t x ix, ty, pos, af, g⟩ (.ptr o s (lo + m) 0) := by
 intro G E RR a _ hi
 obtain ⟨R, hp⟩ := hi.eval hx
 simp only [RX] at hp
 obtain ⟨_, base, cap, hc, h⟩ := hp
 rcases h with ⟨_, _, h, _⟩ | ⟨B, hB, _, hl, hb⟩
 ·omega
 ·have eO : base = some ⟨B.b, B.off + lo * s, none⟩ := hb.resolve_left om
  subst eO
  refine ⟨.pointer (some ⟨B.b, B.off + lo * s + m * s, none⟩), fun w => ?_, ?_⟩
  ·show (do let z ← Instr.indexAt t (a.eval x) (a.eval ix); pure (Next.value z) : Sem Next).run P w = _
   rw [hc, hi.val v7]
   exact cK (iu ht hn hm w)
  ·simp only [RX]
   exact ⟨trivial, B, hB, by rw [Nat.add_mul]; simp [Nat.add_assoc]⟩
end
end Go.AW
namespace Go.AW
open Go
section
variable {P : Program} {N : dJ} {st : St} {ops : Array Oper} {d : Nat} {ty : TypeId} {pos : String} {af : Array Edge} {K : St → Prop}
def SG (G : Ctx) (w : World) : Prop := (∀ b, G.K b → w.heap[b]? = G.w0.heap[b]?) ∧ ∀ b i v, G.φ0 b i = some v → w.cell? ⟨b, i, none⟩ = some v
theorem bO.sg {G : Ctx} {a : Act} {w : World} (h : bO G st a w) : SG G w := by
  obtain ⟨E, RR, rfl, hi⟩ := h
  exact ⟨hi.au, fun b i v hv => hi.jH b i v (hi.φ0 b i v hv)⟩
def lp (G : Ctx) (E : Env) (L : List Nat) (T : Nat → List Nat) (F' : List Nat) : Ctx := ⟨fun b => G.K b ∨ ∃ o, o ∈ L ∧ b ∈ T o, E.w, E.φ, E.β, ⟨G.fn.n, F'⟩, G.ds⟩
def bP (P : Program) (N : dJ) (ops : Array Oper) (n : Nat) (ae : Array Bool) (st : St) (K : St → Prop) : Prop :=
  ∀ G : Ctx, G.fn = N → ∀ a w, bO G st a w → wpAnyH P .any ops (fun e a w => e = .normal ∧ ∃ aQ, K aQ ∧ bO G aQ a w) (SG G) n ae a w
def b7 (P : Program) (N : dJ) (L F' : List Nat) (ops : Array Oper) (n : Nat) (ae : Array Bool) (st : St) (K : St → Prop) : Prop :=
  ∀ G : Ctx, G.fn = N → ∀ E RR a (T : Nat → List Nat), (∀ o ∈ L, RR (.obj o) = T o) → Inv G E RR st a →
    wpAnyH P .any ops (fun e a w => e = .normal ∧ ∃ aQ, K aQ ∧ bO G aQ a w) (SG (lp G E L T F')) n ae a E.w
theorem Inv.AG {G : Ctx} {E : Env} {RR : Own → List Nat} {a : Act} (hi : Inv G E RR st a) (L : List Nat) (T : Nat → List Nat) (F' : List Nat) : SG (lp G E L T F') E.w := ⟨fun _ _ => rfl, hi.jH⟩
theorem b7.blind {L F' : List Nat} {n : Nat} {ae : Array Bool} (i : Nat) {op : Op} {x : X} (ho : ops[i]? = some ⟨some d, op, ty, pos, af, none⟩)
    (hB : (Region.noSelect ops && Region.free .any ops ae i && (Region.ready .any ops ae).contains i) = true) (hy : aE P N st ⟨some d, op, ty, pos, af, none⟩ x) (hd : d < N.n)
    (k : b7 P N L F' ops n (ae.setIfInBounds i true) (st.put d x) K) : b7 P N L F' ops (n + 1) ae st K := by
  intro G hn E RR a T hT hi
  obtain ⟨u, hr, hx⟩ := hy G E RR a hn hi
  simp only [Bool.and_eq_true] at hB
  refine wpAnyH_take (v := u) ho hB.1.1 hB.1.2 hB.2 ?_ (.inl ⟨by simp [Region.wanted], fun w _ => hr w⟩) (hi.AG L T F') (k G hn E _ _ T ?_ (hi.eP (hn ▸ hd) hx))
  · intro c a w h
    cases h.1
  · intro o ho
    have := hT o ho
    simpa [en] using this
def rI (L : List Nat) : X → Bool
  | .fp .. => true
  | .ptr o .. => L.elem o
  | _ => false
theorem Inv.held {G : Ctx} {E : Env} {RR : Own → List Nat} {a : Act} {L F' : List Nat} {T : Nat → List Nat} (hi : Inv G E RR st a) (hT : ∀ o ∈ L, RR (.obj o) = T o) {p : X} {c : Value} {R : List Nat} {row : List X}
    (hp : RX E p c R) (hr : rowAt st p = some row) (hL : rI L p = true) :
    ∃ b off, c = .pointer (some ⟨b, off + iT p, none⟩) ∧ ∀ w, SG (lp G E L T F') w → ∀ j, j < row.length → w.cell? ⟨b, off + j, none⟩ = E.w.cell? ⟨b, off + j, none⟩ := by
  cases p with
  | fp row' k' =>
    simp only [rowAt, Option.some.injEq] at hr
    subst hr
    simp only [RX] at hp
    obtain ⟨_, b, off, hc, hf⟩ := hp
    refine ⟨b, off, hc, fun w hw j hj => ?_⟩
    obtain ⟨vs, hl, hv, hx⟩ := RF.cells hf
    obtain ⟨v, MV⟩ : ∃ v, vs[j]? = some v := ⟨vs[j]'om, List.getElem?_eq_getElem om⟩
    have h1 := hv j v MV
    rw [hi.jH _ _ _ h1]
    exact hw.2 _ _ _ h1
  | ptr o s i k' =>
    simp only [RX] at hp
    obtain ⟨_, B, hB, hc⟩ := hp
    have CS : o ∈ L := List.elem_iff.1 hL
    have KS := hT o CS
    have hb : B.b ∈ T o := by
      simp only [rowAt] at hr
      split at hr
      · rename_i xs ho
        have h0 := hi.ay o _ ho
        simp only [dq] at h0
        obtain ⟨_, B', cs, ty, fY, hw, _, _, il, hR⟩ := h0
        rw [hB] at fY
        obtain rfl := Option.some.inj fY
        rw [← KS, hR]; simp
      · rename_i s' rs ho
        have h0 := hi.ay o _ ho
        simp only [dq] at h0
        obtain ⟨hu, h0⟩ := h0
        rcases h0 with ⟨h0, _⟩ | ⟨B', cs, ty, R', fY, hw, _, _, _, _, hR⟩
        · rw [hB] at h0; cases h0
        · rw [hB] at fY
          obtain rfl := Option.some.inj fY
          rw [← KS, hR]; simp
      · cases hr
    refine ⟨B.b, B.off + i * s, by rw [hc]; simp [iT, Nat.add_assoc], fun w hw j _ => ?_⟩
    have := hw.1 B.b (.inr ⟨o, CS, hb⟩)
    unfold World.cell?
    simp only [lp] at this
    rw [this]
  | _ => cases hL
theorem nE {b b' o o' k : Nat} (h : Value.pointer (some ⟨b, o + k, none⟩) = Value.pointer (some ⟨b', o' + k, none⟩)) : b = b' ∧ o = o' := by
  simp only [Value.pointer.injEq, Option.some.injEq, Addr.mk.injEq] at h
  omega
theorem b7.load {L F' : List Nat} {n : Nat} {ae : Array Bool} (i : Nat) {t : TypeId} {x : Operand} {p y : X} {row : List X} (ho : ops[i]? = some ⟨some d, .load t x, ty, pos, af, none⟩)
    (hB : (Region.noSelect ops && Region.free .any ops ae i && (Region.ready .any ops ae).contains i) = true) (ht : TY.shape P t = some none) (hx : bu st x = some p) (hL : rI L p = true) (hr : rowAt st p = some row)
    (hy : row[iT p]? = some y) (hf : y.free = true) (hd : d < N.n)
    (k : b7 P N L F' ops n (ae.setIfInBounds i true) (st.put d y) K) : b7 P N L F' ops (n + 1) ae st K := by
  intro G hn E RR a T hT hi
  obtain ⟨R, hp⟩ := hi.eval hx
  obtain ⟨b, off, hc, fu⟩ := hi.behind hp hr
  obtain ⟨b', nM, lB, kL⟩ := hi.held (F' := F') hT hp hr hL
  obtain ⟨rfl, rfl⟩ := nE (hc.symm.trans lB)
  have hk : iT p < row.length := by
    rcases Nat.lt_or_ge (iT p) row.length with h' | h'
    · exact h'
    · simp [List.getElem?_eq_none h'] at hy
  obtain ⟨vs, R', hl, hv, eM⟩ := fu (iT p) 1 om
  rw [getElem?_drop_take_one hy] at eM
  simp only [bg] at eM
  obtain ⟨c, cp, R₁, R₂, AX, _, h1, ⟨rfl, rfl⟩, rfl⟩ := eM
  subst AX
  have h0 := RX.free hf h1
  subst h0
  simp only [Bool.and_eq_true] at hB
  refine wpAnyH_take (v := c) ho hB.1.1 hB.1.2 hB.2 ?_ (.inl ⟨by simp [Region.wanted], fun w hw => ?_⟩) (hi.AG L T F') (k G hn E _ _ T ?_ (hi.eP (hn ▸ hd) h1))
  · intro c a w h
    cases h.1
  · show (do let z ← Instr.loadAt t (a.eval x); pure (Next.value z) : Sem Next).run P w = _
    rw [hc]
    refine cK ?_
    have fv := hv 0 c rfl
    simp only [Instr.loadAt, Instr.sureAddr, loadVar, Sem.run_bind, Sem.run_pure, Result.andThen_ok, (TY.gR ht w).1]
    simp only [Nat.add_zero] at fv
    rw [← kL w hw _ hk] at fv
    simp [fv]
  · intro o ho
    have := hT o ho
    simpa [en] using this
theorem b7.xe {L F' : List Nat} {n : Nat} {ae : Array Bool} (i : Nat) {t : TypeId} {x : Operand} {p : X} {row : List X} {m : Nat} {ys : List X} (ho : ops[i]? = some ⟨some d, .load t x, ty, pos, af, none⟩)
    (hB : (Region.noSelect ops && Region.free .any ops ae i && (Region.ready .any ops ae).contains i) = true) (ht : TY.shape P t = some (some m)) (hx : bu st x = some p) (hL : rI L p = true) (hr : rowAt st p = some row)
    (hm : iT p + m ≤ row.length) (qW : (row.drop (iT p)).take m = ys) (hf : X.aW ys = true) (hd : d < N.n)
    (k : b7 P N L F' ops n (ae.setIfInBounds i true) (st.put d (.agg ys)) K) : b7 P N L F' ops (n + 1) ae st K := by
  intro G hn E RR a T hT hi
  obtain ⟨R, hp⟩ := hi.eval hx
  obtain ⟨b, off, hc, fu⟩ := hi.behind hp hr
  obtain ⟨b', nM, lB, kL⟩ := hi.held (F' := F') hT hp hr hL
  obtain ⟨rfl, rfl⟩ := nE (hc.symm.trans lB)
  obtain ⟨vs, R', hl, hv, eM⟩ := fu (iT p) m hm
  rw [qW] at eM
  have h0 := bg.free hf eM
  subst h0
  simp only [Bool.and_eq_true] at hB
  refine wpAnyH_take (v := .agg vs.toArray) ho hB.1.1 hB.1.2 hB.2 ?_ (.inl ⟨by simp [Region.wanted], fun w hw => ?_⟩) (hi.AG L T F') (k G hn E _ _ T ?_ (hi.eP (hn ▸ hd) (by simp only [RX]; exact ⟨_, rfl, eM⟩)))
  · intro c a w h
    cases h.1
  · show (do let z ← Instr.loadAt t (a.eval x); pure (Next.value z) : Sem Next).run P w = _
    rw [hc]
    refine cK ?_
    obtain ⟨h1, h2⟩ := TY.ji ht w
    have h3 : (loadCells ⟨b, off + iT p, none⟩ m).run P w = .ok vs.toArray w := by
      rw [← hl]
      refine run_loadCells_list (w := w) _ vs fun j v hj => ?_
      have kt : j < vs.length := (List.getElem?_eq_some_iff.1 hj).1
      rw [fq, Nat.add_assoc, kL w hw _ om]; exact hv j v hj
    simp only [Instr.loadAt, Instr.sureAddr, loadVar, Sem.run_bind, Sem.run_pure, Result.andThen_ok, h1, if_true, h2, h3]
  · intro o ho
    have := hT o ho
    simpa [en] using this
def St.back (st : St) : List Nat → List (Nat × Obj) → List (Nat × Obj)
  | [], r => r
  | o :: L, r => match look st.ay o with
    | some ob => (o, ob) :: st.back L r
    | none => st.back L r
theorem pI (st : St) {r : List (Nat × Obj)} {q : Nat} {x : Obj} : ∀ {L : List Nat}, (∀ o ∈ L, ∃ ob, look st.ay o = some ob) → look (st.back L r) q = some x → (q ∈ L ∧ look st.ay q = some x) ∨ (q ∉ L ∧ look r q = some x)
  | [], _, h => .inr ⟨by simp, h⟩
  | o :: L, hL, h => by
    obtain ⟨ob, aL⟩ := hL o (by simp)
    simp only [St.back, aL, look] at h
    cases hb : Nat.beq o q with
    | true =>
      have := Nat.eq_of_beq_eq_true hb
      subst this
      simp only [hb, cond_true, Option.some.injEq] at h
      exact .inl ⟨by simp, by rw [aL, h]⟩
    | false =>
      simp only [hb, cond_false] at h
      have er : q ≠ o := Ne.symm (Nat.ne_of_beq_eq_false hb)
      rcases pI st (fun o ho => hL o (List.mem_cons_of_mem _ ho)) h with ⟨h1, h2⟩ | ⟨h1, h2⟩
      · exact .inl ⟨List.mem_cons_of_mem _ h1, h2⟩
      · exact .inr ⟨by simp [er, h1], h2⟩
def iH (st : St) (L F' : List Nat) : Prop := ∀ o ∈ L, ∃ ob, look st.ay o = some ob ∧ ∀ xs, ob = .cells xs → ∀ q, X.cq q xs = true → F'.elem q = true
theorem lp.down {G : Ctx} {E : Env} {RR : Own → List Nat} {a : Act} {L F' : List Nat} {T : Nat → List Nat} (hi : Inv G E RR st a) (hT : ∀ o ∈ L, RR (.obj o) = T o) {xV : St} (hle : Le st xV) (I0 : ∀ o ∈ L, look xV.ay o = none) :
    bO (lp G E L T F') xV a E.w := by
  refine ⟨E, fun p => match p with | .obj o => if o ∈ L then [] else RR (.obj o) | p => RR p, rfl, ?_⟩
  have sub : ∀ p b, b ∈ (match p with | .obj o => if o ∈ L then [] else RR (.obj o) | p => RR p : List Nat) → b ∈ RR p ∧ ∀ o, p = .obj o → o ∉ L := by
    intro p b h
    cases p with
    | obj o =>
      by_cases hL : o ∈ L
      · simp [hL] at h
      · simp only [hL, if_false] at h
        exact ⟨h, fun q hq => by cases hq; exact hL⟩
    | slot s => exact ⟨h, fun q hq => by cases hq⟩
  exact {
    jH := hi.jH
    ax := fun s x hx => hi.ax s x (hle.1 s x hx)
    ay := fun o ob ho => by
      by_cases hL : o ∈ L
      · rw [I0 o hL] at ho; cases ho
      · simp only [hL, if_false]; exact hi.ay o ob (hle.2 o ob ho)
    nodup := fun p => by
      cases p with
      | obj o =>
        by_cases hL : o ∈ L
        · simp [hL]
        · simp only [hL, if_false]; exact hi.nodup _
      | slot s => exact hi.nodup _
    apart := fun p q jI b hb eO => hi.apart p q jI b (sub p b hb).1 (sub q b eO).1
    own := fun p b hb => by
      obtain ⟨h1, h2⟩ := sub p b hb
      refine ⟨(hi.own p b h1).1, fun yg => ?_⟩
      rcases (yg : G.K b ∨ ∃ o, o ∈ L ∧ b ∈ T o) with h | ⟨o, ho, CY⟩
      · exact (hi.own p b h1).2 h
      · rw [← hT o ho] at CY
        have er : p ≠ .obj o := fun e => h2 o e ho
        exact hi.apart p (.obj o) er b h1 CY
    au := fun _ _ => rfl
    size := Nat.le_refl _
    small := fun b yg => by
      rcases (yg : G.K b ∨ ∃ o, o ∈ L ∧ b ∈ T o) with h | ⟨o, ho, CY⟩
      · exact Nat.lt_of_lt_of_le (hi.small b h) hi.size
      · rw [← hT o ho] at CY
        exact (hi.own _ b CY).1
    os := rfl
    tape := rfl
    output := rfl
    φ0 := fun _ _ _ h => h
    grow := fun _ _ _ h => .inl h
    fixed := fun _ _ => rfl
    tmps := hi.tmps
    defers := hi.defers }
theorem lp.up {G : Ctx} {E : Env} {RR : Own → List Nat} {a : Act} {L F' : List Nat} {T : Nat → List Nat} (hi : Inv G E RR st a) (hT : ∀ o ∈ L, RR (.obj o) = T o) (hF : ∀ o, G.fn.F.elem o = true → F'.elem o = true) (I1 : ∀ o ∈ L, F'.elem o = true)
    (aL : iH st L F') {aQ : St} {a' : Act} {w' : World} (h : bO (lp G E L T F') aQ a' w') : bO G ⟨aQ.ax, st.back L aQ.ay⟩ a' w' := by
  obtain ⟨E', et, rfl, hj⟩ := h
  have zW : ∀ {o b}, o ∈ L → b ∈ RR (.obj o) → (lp G E L T F').K b := fun ho hb => .inr ⟨_, ho, by rw [← hT _ ho]; exact hb⟩
  have sub : ∀ p b, b ∈ (match p with | .obj o => if o ∈ L then RR (.obj o) else et (.obj o) | p => et p : List Nat) → (∃ o, o ∈ L ∧ p = .obj o ∧ b ∈ RR p) ∨ ((∀ o, p = .obj o → o ∉ L) ∧ b ∈ et p) := by
    intro p b h
    cases p with
    | obj o =>
      by_cases hL : o ∈ L
      · simp only [hL, if_true] at h
        exact .inl ⟨o, hL, rfl, h⟩
      · simp only [hL, if_false] at h
        exact .inr ⟨fun q hq => by cases hq; exact hL, h⟩
    | slot s => exact .inr ⟨fun q hq => (by cases hq), h⟩
  refine ⟨E', fun p => match p with | .obj o => if o ∈ L then RR (.obj o) else et (.obj o) | p => et p, rfl, ?_⟩
  exact {
    jH := hj.jH
    ax := fun s x hx => hj.ax s x hx
    ay := fun o ob ho => by
      rcases pI st (fun o ho => (aL o ho).imp fun _ h => h.1) ho with ⟨h1, h2⟩ | ⟨h1, h2⟩
      · simp only [h1, if_true]
        obtain ⟨ss, Fo, y9⟩ := aL o h1
        rw [h2] at Fo
        obtain rfl := Option.some.inj Fo
        refine dq.mono ⟨hj.φ0, fun b hb => ⟨hj.au b (zW h1 hb), fun hn i => ?_⟩⟩ (hj.fixed o (I1 o h1)) (fun xs eM q hq => hj.fixed q (y9 xs eM q hq)) (hi.ay o ob h2)
        cases hφ : E'.φ b i with
        | none => rfl
        | some v =>
          rcases hj.grow b i v hφ with h3 | h3
          · have h4 := hn i
            change E.φ b i = some v at h3
            rw [h4] at h3; cases h3
          · exact absurd (zW h1 hb) h3
      · simp only [h1, if_false]; exact hj.ay o ob h2
    nodup := fun p => by
      cases p with
      | obj o =>
        by_cases hL : o ∈ L
        · simp only [hL, if_true]; exact hi.nodup _
        · simp only [hL, if_false]; exact hj.nodup _
      | slot s => exact hj.nodup _
    apart := fun p q jI b hb eO => by
      rcases sub p b hb with ⟨o, ho, rfl, h1⟩ | ⟨_, h1⟩ <;> rcases sub q b eO with ⟨o', kD, rfl, h2⟩ | ⟨_, h2⟩
      · exact hi.apart _ _ jI b h1 h2
      · exact (hj.own _ b h2).2 (zW ho h1)
      · exact (hj.own _ b h1).2 (zW kD h2)
      · exact hj.apart _ _ jI b h1 h2
    own := fun p b hb => by
      rcases sub p b hb with ⟨o, ho, rfl, h1⟩ | ⟨_, h1⟩
      · exact ⟨Nat.lt_of_lt_of_le (hi.own _ b h1).1 hj.size, (hi.own _ b h1).2⟩
      · exact ⟨(hj.own _ b h1).1, fun hk => (hj.own _ b h1).2 (.inl hk)⟩
    au := fun b hb => (hj.au b (.inl hb)).trans (hi.au b hb)
    size := Nat.le_trans hi.size hj.size
    small := hi.small
    os := hj.os.trans hi.os
    tape := hj.tape.trans hi.tape
    output := hj.output.trans hi.output
    φ0 := fun b i v h => hj.φ0 b i v (hi.φ0 b i v h)
    grow := fun b i v h => by
      rcases hj.grow b i v h with h1 | h1
      · exact hi.grow b i v h1
      · exact .inr fun hk => h1 (.inl hk)
    fixed := fun o ho => (hj.fixed o (hF o ho)).trans (hi.fixed o ho)
    tmps := hj.tmps
    defers := hj.defers }
theorem lq {Q1 Q2 : Exit → Act → World → Prop} {K1 K2 : Act → World → Prop} {j : Nat} {a : Act} {w : World} (hQ : ∀ e a w, e ≠ .normal → Q1 e a w → False) (hK : ∀ a w, K1 a w → K2 a w) (h : wpOp P ops Q1 j K1 a w) : wpOp P ops Q2 j K2 a w := by
  unfold wpOp at *
  cases ho : ops[j]? with
  | none => simp only [ho] at h ⊢; first | exact hK _ _ h | exact h
  | some o =>
    simp only [ho] at *
    split
    · rename_i hw
      simp only [hw, if_true] at h
      rcases h with h | ⟨_, hl⟩
      · refine .inl ?_
        unfold Oper.wp at *
        generalize (execOp a.eval o).run P w = r at *
        cases r with
        | ok nx w' =>
          cases nx <;> simp only [Oper.upon] at h ⊢ <;> first
            | exact hK _ _ h
            | exact Calls.mono h (fun e K4 he => by
                cases e with
                | returned u => exact hK _ _ he
                | panicked c => exact (hQ _ _ _ (by simp) he).elim
                | outgrown => exact (let ⟨_, _, h'⟩ := he; hQ _ _ _ (by simp) h').elim)
            | exact Rows.mono h (fun _ _ he => hK _ _ he)
        | halt x w' => cases x <;> simp only [Oper.upon] at h ⊢ <;> first | exact (hQ _ _ _ (by simp) h).elim | exact (let ⟨_, _, h'⟩ := h; hQ _ _ _ (by simp) h').elim | exact h
      · obtain ⟨_, _, h'⟩ := hl
        exact (hQ _ _ _ (by simp) h').elim
    · rename_i hw
      simp only [hw] at h
      exact hK _ _ h
theorem nh {md : Region.Mode} {S : World → Prop} {Q1 Q2 : Exit → Act → World → Prop} (hQ : ∀ e a w, e ≠ .normal → Q1 e a w → False) (hN : ∀ a w, Q1 .normal a w → Q2 .normal a w) :
    ∀ (n : Nat) (ae : Array Bool) (a : Act) (w : World), wpAnyH P md ops Q1 S n ae a w → wpAnyH P md ops Q2 S n ae a w
  | 0, _, _, _, h => ⟨h.1, hN _ _ h.2⟩
  | n + 1, _, _, _, h => ⟨fun h0 => hN _ _ (h.1 h0), fun i hi => lq hQ (fun a w h' => ⟨h'.1, nh hQ hN n _ a w h'.2⟩) (h.2 i hi)⟩
theorem b7.go {L F' : List Nat} {n : Nat} {ae : Array Bool} (xV : St) (hle : Le st xV) (I0 : ∀ o ∈ L, look xV.ay o = none) (hF : ∀ o, N.F.elem o = true → F'.elem o = true) (I1 : ∀ o ∈ L, F'.elem o = true)
    (aL : iH st L F') (k : bP P ⟨N.n, F'⟩ ops n ae xV (fun aQ => K ⟨aQ.ax, st.back L aQ.ay⟩)) : b7 P N L F' ops n ae st K := by
  intro G hn E RR a T hT hi
  refine nh (fun e a w he h => he h.1) ?_ n ae a E.w (k (lp G E L T F') (by simp [lp, hn]) a E.w (lp.down hi hT hle I0))
  rintro a' w' ⟨_, aQ, hk, hh⟩
  exact ⟨rfl, _, hk, lp.up hi hT (by rw [hn]; exact hF) I1 aL hh⟩
theorem bP.step {n : Nat} {ae : Array Bool} (j : Nat) {o : Oper} (ho : ops[j]? = some o)
    (k : aa P N ops [o] st (fun e aQ => e = .normal ∧ bP P N ops n (ae.setIfInBounds j true) aQ K)) (G : Ctx) (hn : G.fn = N) (a : Act) (w : World) (hh : bO G st a w) :
    wpOp P ops (fun e a w => e = .normal ∧ ∃ aQ, K aQ ∧ bO G aQ a w) j (fun a' w' => SG G w' ∧ wpAnyH P .any ops (fun e a w => e = .normal ∧ ∃ aQ, K aQ ∧ bO G aQ a w) (SG G) n (ae.setIfInBounds j true) a' w') a w := by
  have hk := k G hn a w hh
  have key : wpOp P ops (fun e a w => jC G (fun e aQ => e = .normal ∧ bP P N ops n (ae.setIfInBounds j true) aQ K) e a w) j
      (fun a w => jC G (fun e aQ => e = .normal ∧ bP P N ops n (ae.setIfInBounds j true) aQ K) .normal a w) a w := by
    unfold wpOp; simp only [ho]; exact hk
  refine lq ?_ ?_ key
  · rintro e a w he ⟨aQ, _, h, _⟩
    exact he h
  · rintro a w ⟨aQ, fI, _, tN⟩
    exact ⟨fI.sg, tN G hn a w fI⟩
theorem bP.one {n : Nat} {ae : Array Bool} (i : Nat) {o : Oper} (ho : ops[i]? = some o) (hr : (Region.ready .any ops ae == [i]) = true)
    (k : aa P N ops [o] st (fun e aQ => e = .normal ∧ bP P N ops n (ae.setIfInBounds i true) aQ K)) : bP P N ops (n + 1) ae st K := by
  intro G hn a w hh
  refine wpAnyH_all (rs := [i]) (by simpa using hr) (by simp) ?_
  intro j hj
  have : j = i := by simpa using hj
  subst this
  exact bP.step j ho k G hn a w hh
theorem bP.two {n : Nat} {ae : Array Bool} (i i' : Nat) {o o' : Oper} (ho : ops[i]? = some o) (kD : ops[i']? = some o') (hr : (Region.ready .any ops ae == [i, i']) = true)
    (k : aa P N ops [o] st (fun e aQ => e = .normal ∧ bP P N ops n (ae.setIfInBounds i true) aQ K))
    (k' : aa P N ops [o'] st (fun e aQ => e = .normal ∧ bP P N ops n (ae.setIfInBounds i' true) aQ K)) : bP P N ops (n + 1) ae st K := by
  intro G hn a w hh
  refine wpAnyH_all (rs := [i, i']) (by simpa using hr) (by simp) ?_
  intro j hj
  simp only [List.mem_cons, List.not_mem_nil, or_false] at hj
  rcases hj with rfl | rfl
  · exact bP.step j ho k G hn a w hh
  · exact bP.step j kD k' G hn a w hh
theorem bP.blind {n : Nat} {ae : Array Bool} (i : Nat) {op : Op} {x : X} (ho : ops[i]? = some ⟨some d, op, ty, pos, af, none⟩)
    (hB : (Region.noSelect ops && Region.free .any ops ae i && (Region.ready .any ops ae).contains i) = true) (hy : aE P N st ⟨some d, op, ty, pos, af, none⟩ x) (hd : d < N.n)
    (k : bP P N ops n (ae.setIfInBounds i true) (st.put d x) K) : bP P N ops (n + 1) ae st K := by
  intro G hn a w hh
  have hS := hh.sg
  obtain ⟨E, RR, rfl, hi⟩ := hh
  obtain ⟨u, hr, hx⟩ := hy G E RR a hn hi
  simp only [Bool.and_eq_true] at hB
  refine wpAnyH_take (v := u) ho hB.1.1 hB.1.2 hB.2 ?_ (.inl ⟨by simp [Region.wanted], fun w _ => hr w⟩) hS (k G hn _ _ ⟨E, _, rfl, hi.eP (hn ▸ hd) hx⟩)
  intro c a w h
  cases h.1
theorem bP.done {n : Nat} {ae : Array Bool} (hr : (Region.ready .any ops ae).isEmpty = true) (h : K st) : bP P N ops n ae st K :=
  fun _ _ _ _ hh => wpAnyH_done (by simpa using hr) ⟨rfl, st, h, hh⟩ n
theorem Le.ay {st : St} {l : List (Nat × Obj)} (h : eC st.ay l) : Le st ⟨st.ax, l⟩ := ⟨fun _ _ h => h, h⟩
theorem iH.nil {F' : List Nat} : iH st [] F' := fun _ h => by cases h
def ownNames : List X → List Nat
  | [] => []
  | .ptr o .. :: r | .aR o .. :: r | .mref o :: r => o :: ownNames r
  | .v _ :: r | .fz .. :: r | .no :: r | .fp .. :: r | .cX .. :: r => ownNames r
  | _ :: r => ownNames r
def uh : List X → Bool
  | [] => true
  | .agg _ :: _ | .tup _ :: _ | .fH .. :: _ => false
  | _ :: r => uh r
theorem iO {q : Nat} : ∀ {xs : List X}, uh xs = true → X.cq q xs = true → q ∈ ownNames xs
  | [], _, h => by simp [X.cq] at h
  | x :: r, hf, h => by
    simp only [X.cq, Bool.or_eq_true] at h
    cases x <;> simp only [uh, Bool.false_eq_true] at hf <;> simp only [ownNames, X.cY, Bool.false_eq_true, false_or, beq_iff_eq, List.mem_cons] at h ⊢ <;>
      first
        | exact iO hf h
        | (rcases h with h | h
           · first | exact .inl h.symm | exact .inl h | exact .inl (Nat.eq_of_beq_eq_true h).symm | exact .inl (Nat.eq_of_beq_eq_true h)
           · exact .inr (iO hf h))
theorem iH.cells {F' L : List Nat} {o : Nat} {xs : List X} (ho : look st.ay o = some (.cells xs)) (hf : uh xs = true) (hn : (ownNames xs).all (fun q => F'.elem q) = true) (hL : iH st L F') : iH st (o :: L) F' := by
  intro p hp
  rcases List.mem_cons.1 hp with rfl | hp
  · exact ⟨_, ho, fun ys qW q hq => by cases qW; exact List.all_eq_true.1 hn q (iO hf hq)⟩
  · exact hL p hp
theorem b7.MW {n : Nat} {ae : Array Bool} (k : bP P N ops n ae st K) : b7 P N [] N.F ops n ae st K :=
  b7.go st (Le.refl st) (fun _ h => by cases h) (fun _ h => h) (fun _ h => by cases h) iH.nil k
end
end Go.AW
namespace Go.AW
open Go
section
variable {P : Program}
theorem Sh.then {N : dJ} {a b c : St} (h1 : Sh N a b) (h2 : Sh N b c) : Sh N a c := fun G hn x w hh => h2 G hn x w (h1 G hn x w hh)
end
end Go.AW
namespace Go.AW
open Go
section
variable {N : dJ} {st : St} {d : Nat}
end
theorem ah.rJ {P : Program} {N : dJ} {st : St} {ops : Array Oper} (L F' : List Nat) (J : St) {Q : Exit → St → Prop} {id : Nat} (hm : P.follows .mixedOrders = true) (h : b7 P N L F' ops ops.size (Array.replicate ops.size false) st (fun aQ => Le aQ J)) (k : Q .normal J) : ah P N (.region id ops true) st Q := by
 intro G hn a w hh
 obtain ⟨E, RR, hw, hi⟩ := hh.drew
 refine wp_mono (wp_region_held (S := SG (lp G E L (fun o => RR (.obj o)) F')) hm (hw ▸ h G hn E RR a _ (fun _ _ => rfl) hi)) ?_
 rintro e a w ⟨rfl, aQ, hk, fI⟩
 exact ⟨J, hk.holds fI, k⟩
theorem ah.qD {P : Program} {N : dJ} {st : St} {ops : Array Oper} (J : St) {Q : Exit → St → Prop} {id : Nat} (hm : P.follows .mixedOrders = true) (h : b7 P N [] N.F ops ops.size (Array.replicate ops.size false) st (fun aQ => Le aQ J)) (k : Q .normal J) : ah P N (.region id ops true) st Q := ah.rJ [] N.F J hm h k
end Go.AW
namespace Go.AW
open Go
section
variable {P : Program} {ops : Array Oper} {Q : Exit → Act → World → Prop} {md : Region.Mode} {S : World → Prop}
def wpAnyL (P : Program) (md : Region.Mode) (ops : Array Oper) (Q : Exit → Act → World → Prop) (S : World → Prop) (LT : List Nat) : Nat → Array Bool → Act → World → Prop
 | 0, ae, a, w => Region.ready md ops ae = [] ∧ Q .normal a w
 | n + 1, ae, a, w => (Region.ready md ops ae = [] → Q .normal a w) ∧
   ∀ i ∈ Region.ready md ops ae, wpOp P ops Q i (fun a' w' => (i ∈ LT ∨ S w') ∧ wpAnyL P md ops Q S LT n (ae.setIfInBounds i true) a' w') a w
theorem wpAnyL_first {LT : List Nat} {i : Nat} {oi : Oper} {v : Value} (hi : ops[i]? = some oi) (vZ : ∀ (j : Nat) (o : Oper) cs b, ops[j]? = some o → o.op ≠ .select cs b)
  (hQ : ∀ c a w, Q (.panic c) (a.put oi.dst v) w → Q (.panic c) a w) (gA : ∀ j ∈ LT, ∀ oj, ops[j]? = some oj → ∃ e ∈ oj.after, Region.binds md e = true ∧ e.on = i) :
  ∀ (n : Nat) (ae : Array Bool) (a : Act) (w : World), (∀ j oj, ops[j]? = some oj → j ≠ i → ae.getD j true = false → (∀ e ∈ oj.after, Region.binds md e = true → e.on ≠ i) → oi.apart ops oj = true) →
   i ∈ Region.ready md ops ae → YieldsIf P ops S oi v a → S w → wpAnyL P md ops Q S LT n (ae.setIfInBounds i true) (a.put oi.dst v) w → wpAnyL P md ops Q S LT (n + 1) ae a w := by
 intro n
 induction n with
 | zero =>
  intro ae a w _ hr hy hS H
  refine ⟨fun h => (by rw [h] at hr; cases hr), fun j hj => ?_⟩
  by_cases sw : j = i
  ·subst sw; exact hy.wpOp hi hS ⟨.inr hS, H⟩
  ·have := ready_mono hj sw
   rw [H.1] at this
   cases this
 | succ n ih =>
  intro ae a w iX hr hy hS H
  refine ⟨fun h => (by rw [h] at hr; cases hr), fun j hj => ?_⟩
  by_cases sw : j = i
  ·subst sw; exact hy.wpOp hi hS ⟨.inr hS, H⟩
  ·have h1 := H.2 j (ready_mono hj sw)
   obtain ⟨Fp, oj, vt, oY⟩ := mem_ready.1 hj
   have y4 : ∀ e ∈ oj.after, Region.binds md e = true → e.on ≠ i := by
    intro e he hb heq
    have h3 := oY e he hb
    have h4 := (mem_ready.1 hr).1
    rw [heq] at h3
    rcases Nat.lt_or_ge i ae.size with h' | h'
    ·simp [h'] at h3 h4; rw [h3] at h4; cases h4
    ·simp [Array.getElem?_eq_none h'] at h3
   have kt : j ∉ LT := fun hm => by
    obtain ⟨e, he, hb, ho⟩ := gA j hm oj vt
    exact y4 e he hb ho
   have h2 := wpOp_putIf vt (iX j oj vt sw Fp y4) (fun cs b => vZ i oi cs b hi) (fun cs b => vZ j oj cs b vt) hQ hy h1
   refine wpOp_mono (fun a' w' h3 => ⟨h3.2.1, ih (ae.setIfInBounds j true) a' w' ?_ (ready_mono hr (Ne.symm sw)) h3.1 (h3.2.1.resolve_left kt) ?_⟩) h2
   ·intro k ok hk oV Ec DV
    refine iX k ok hk oV ?_ DV
    by_cases py : j = k
    ·subst py; exact Fp
    ·rw [getD_set_ne true py] at Ec; exact Ec
   ·rw [Array.setIfInBounds_comm _ _ sw]; exact h3.2.2
end
end Go.AW
namespace Go.AW
open Go
section
variable {P : Program} {N : dJ} {st : St} {ops : Array Oper} {d : Nat} {ty : TypeId} {pos : String} {af : Array Edge} {K : St → Prop}
def rK (ops : Array Oper) (LT : List Nat) (i : Nat) : Bool := LT.all fun j => match ops[j]? with
 | some oj => oj.after.toList.any fun e => Region.binds .any e && e.on == i
 | none => true
theorem iI {Q : Exit → Act → World → Prop} {S : World → Prop} {LT : List Nat} {i : Nat} {oi : Oper} {v : Value} {n : Nat} {ae : Array Bool} {a : Act} {w : World} (hi : ops[i]? = some oi)
  (hs : Region.noSelect ops = true) (hf : Region.free .any ops ae i = true) (hr : (Region.ready .any ops ae).contains i = true) (gA : rK ops LT i = true)
  (hQ : ∀ c a w, Q (.panic c) (a.put oi.dst v) w → Q (.panic c) a w) (hy : YieldsIf P ops S oi v a) (hS : S w)
  (h : wpAnyL P .any ops Q S LT n (ae.setIfInBounds i true) (a.put oi.dst v) w) : wpAnyL P .any ops Q S LT (n + 1) ae a w :=
 wpAnyL_first hi (Region.noSelect_spec hs) hQ (fun j hj oj vt => by
  have h1 := List.all_eq_true.1 gA j hj
  simp only [vt, List.any_eq_true, Bool.and_eq_true, beq_iff_eq, Array.mem_toList_iff] at h1
  exact h1) n ae a w (Region.free_spec hi hf) (by simpa using hr) hy hS h
theorem te {Q : Exit → Act → World → Prop} {S : World → Prop} {LT rs : List Nat} {n : Nat} {ae : Array Bool} {a : Act} {w : World} (hr : Region.ready .any ops ae = rs) (er : rs ≠ [])
  (h : ∀ i ∈ rs, wpOp P ops Q i (fun a' w' => S w' ∧ wpAnyL P .any ops Q S LT n (ae.setIfInBounds i true) a' w') a w) : wpAnyL P .any ops Q S LT (n + 1) ae a w :=
 ⟨fun h0 => absurd (hr ▸ h0) er, fun i hi => wpOp_mono (fun _ _ h' => ⟨.inr h'.1, h'.2⟩) (h i (hr ▸ hi))⟩
def eK (P : Program) (N : dJ) (LT : List Nat) (ops : Array Oper) (R : Nat → Array Bool → St → Prop) (n : Nat) (ae : Array Bool) (st : St) : Prop :=
 ∀ G : Ctx, G.fn = N → ∀ Q : Exit → Act → World → Prop, (∀ c a w, Q (.panic c) a w → False) →
  (∀ n' l' aQ a' w', R n' l' aQ → bO G aQ a' w' → wpAnyL P .any ops Q (SG G) LT n' l' a' w') → ∀ a w, bO G st a w → wpAnyL P .any ops Q (SG G) LT n ae a w
def gI (P : Program) (N : dJ) (LT L F' : List Nat) (ops : Array Oper) (n : Nat) (ae : Array Bool) (st : St) (K : St → Prop) : Prop :=
 ∀ G : Ctx, G.fn = N → ∀ E RR a (T : Nat → List Nat), (∀ o ∈ L, RR (.obj o) = T o) → Inv G E RR st a →
  wpAnyL P .any ops (fun e a w => e = .normal ∧ ∃ aQ, K aQ ∧ bO G aQ a w) (SG (lp G E L T F')) LT n ae a E.w
theorem gI.blind {LT L F' : List Nat} {n : Nat} {ae : Array Bool} (i : Nat) {op : Op} {x : X} (ho : ops[i]? = some ⟨some d, op, ty, pos, af, none⟩)
  (hB : (Region.noSelect ops && Region.free .any ops ae i && (Region.ready .any ops ae).contains i) = true) (gA : rK ops LT i = true) (hy : aE P N st ⟨some d, op, ty, pos, af, none⟩ x) (hd : d < N.n)
  (k : gI P N LT L F' ops n (ae.setIfInBounds i true) (st.put d x) K) : gI P N LT L F' ops (n + 1) ae st K := by
 intro G hn E RR a T hT hi
 obtain ⟨u, hr, hx⟩ := hy G E RR a hn hi
 simp only [Bool.and_eq_true] at hB
 refine iI (v := u) ho hB.1.1 hB.1.2 hB.2 gA ?_ (.inl ⟨by simp [Region.wanted], fun w _ => hr w⟩) (hi.AG L T F') (k G hn E _ _ T ?_ (hi.eP (hn ▸ hd) hx))
 ·intro c a w h
  cases h.1
 ·intro o ho
  have := hT o ho
  simpa [en] using this
theorem gI.load {LT L F' : List Nat} {n : Nat} {ae : Array Bool} (i : Nat) {t : TypeId} {x : Operand} {p y : X} {row : List X} (ho : ops[i]? = some ⟨some d, .load t x, ty, pos, af, none⟩)
  (hB : (Region.noSelect ops && Region.free .any ops ae i && (Region.ready .any ops ae).contains i) = true) (gA : rK ops LT i = true) (ht : TY.shape P t = some none) (hx : bu st x = some p) (hL : rI L p = true) (hr : rowAt st p = some row)
  (hy : row[iT p]? = some y) (hf : y.free = true) (hd : d < N.n)
  (k : gI P N LT L F' ops n (ae.setIfInBounds i true) (st.put d y) K) : gI P N LT L F' ops (n + 1) ae st K := by
 intro G hn E RR a T hT hi
 obtain ⟨R, hp⟩ := hi.eval hx
 obtain ⟨b, off, hc, fu⟩ := hi.behind hp hr
 obtain ⟨b', nM, lB, kL⟩ := hi.held (F' := F') hT hp hr hL
 obtain ⟨rfl, rfl⟩ := nE (hc.symm.trans lB)
 have hk : iT p < row.length := by
  rcases Nat.lt_or_ge (iT p) row.length with h' | h'
  ·exact h'
  ·simp [List.getElem?_eq_none h'] at hy
 obtain ⟨vs, R', hl, hv, eM⟩ := fu (iT p) 1 om
 rw [getElem?_drop_take_one hy] at eM
 simp only [bg] at eM
 obtain ⟨c, cp, R₁, R₂, AX, _, h1, ⟨rfl, rfl⟩, rfl⟩ := eM
 subst AX
 have h0 := RX.free hf h1
 subst h0
 simp only [Bool.and_eq_true] at hB
 refine iI (v := c) ho hB.1.1 hB.1.2 hB.2 gA ?_ (.inl ⟨by simp [Region.wanted], fun w hw => ?_⟩) (hi.AG L T F') (k G hn E _ _ T ?_ (hi.eP (hn ▸ hd) h1))
 ·intro c a w h
  cases h.1
 ·show (do let z ← Instr.loadAt t (a.eval x); pure (Next.value z) : Sem Next).run P w = _
  rw [hc]
  refine cK ?_
  have fv := hv 0 c rfl
  simp only [Instr.loadAt, Instr.sureAddr, loadVar, Sem.run_bind, Sem.run_pure, Result.andThen_ok, (TY.gR ht w).1]
  simp only [Nat.add_zero] at fv
  rw [← kL w hw _ hk] at fv
  simp [fv]
 ·intro o ho
  have := hT o ho
  simpa [en] using this
theorem gI.xe {LT L F' : List Nat} {n : Nat} {ae : Array Bool} (i : Nat) {t : TypeId} {x : Operand} {p : X} {row : List X} {m : Nat} {ys : List X} (ho : ops[i]? = some ⟨some d, .load t x, ty, pos, af, none⟩)
  (hB : (Region.noSelect ops && Region.free .any ops ae i && (Region.ready .any ops ae).contains i) = true) (gA : rK ops LT i = true) (ht : TY.shape P t = some (some m)) (hx : bu st x = some p) (hL : rI L p = true) (hr : rowAt st p = some row)
  (hm : iT p + m ≤ row.length) (qW : (row.drop (iT p)).take m = ys) (hf : X.aW ys = true) (hd : d < N.n)
  (k : gI P N LT L F' ops n (ae.setIfInBounds i true) (st.put d (.agg ys)) K) : gI P N LT L F' ops (n + 1) ae st K := by
 intro G hn E RR a T hT hi
 obtain ⟨R, hp⟩ := hi.eval hx
 obtain ⟨b, off, hc, fu⟩ := hi.behind hp hr
 obtain ⟨b', nM, lB, kL⟩ := hi.held (F' := F') hT hp hr hL
 obtain ⟨rfl, rfl⟩ := nE (hc.symm.trans lB)
 obtain ⟨vs, R', hl, hv, eM⟩ := fu (iT p) m hm
 rw [qW] at eM
 have h0 := bg.free hf eM
 subst h0
 simp only [Bool.and_eq_true] at hB
 refine iI (v := .agg vs.toArray) ho hB.1.1 hB.1.2 hB.2 gA ?_ (.inl ⟨by simp [Region.wanted], fun w hw => ?_⟩) (hi.AG L T F') (k G hn E _ _ T ?_ (hi.eP (hn ▸ hd) (by simp only [RX]; exact ⟨_, rfl, eM⟩)))
 ·intro c a w h
  cases h.1
 ·show (do let z ← Instr.loadAt t (a.eval x); pure (Next.value z) : Sem Next).run P w = _
  rw [hc]
  refine cK ?_
  obtain ⟨h1, h2⟩ := TY.ji ht w
  have h3 : (loadCells ⟨b, off + iT p, none⟩ m).run P w = .ok vs.toArray w := by
   rw [← hl]
   refine run_loadCells_list (w := w) _ vs fun j v hj => ?_
   have kt : j < vs.length := (List.getElem?_eq_some_iff.1 hj).1
   rw [fq, Nat.add_assoc, kL w hw _ om]; exact hv j v hj
  simp only [Instr.loadAt, Instr.sureAddr, loadVar, Sem.run_bind, Sem.run_pure, Result.andThen_ok, h1, if_true, h2, h3]
 ·intro o ho
  have := hT o ho
  simpa [en] using this
def Fq (P : Program) (N : dJ) (LT L : List Nat) (ops : Array Oper) (st : St) (K : St → Prop) (n' : Nat) (l' : Array Bool) (aQ : St) : Prop :=
 ((List.range l'.size).all fun j => l'.getD j true || LT.elem j) = true ∧ aS P N ops n' l' ⟨aQ.ax, st.back L aQ.ay⟩ K
section
variable {LT : List Nat} {R : Nat → Array Bool → St → Prop}
theorem eK.back {n : Nat} {ae : Array Bool} (h : R n ae st) : eK P N LT ops R n ae st := fun _ _ _ _ hR _ _ hh => hR _ _ _ _ _ h hh
theorem eK.late {N0 : dJ} {L : List Nat} {KT : St} {n : Nat} {ae : Array Bool} (h : ((List.range ae.size).all fun j => ae.getD j true || LT.elem j) = true)
  (k : aS P N0 ops n ae ⟨st.ax, KT.back L st.ay⟩ K) : eK P N LT ops (Fq P N0 LT L ops KT K) n ae st := eK.back ⟨h, k⟩
theorem eK.step {n : Nat} {ae : Array Bool} (j : Nat) {o : Oper} (ho : ops[j]? = some o)
  (k : aa P N ops [o] st (fun e aQ => e = .normal ∧ eK P N LT ops R n (ae.setIfInBounds j true) aQ)) (G : Ctx) (hn : G.fn = N) (Q : Exit → Act → World → Prop) (hQ : ∀ c a w, Q (.panic c) a w → False)
  (hR : ∀ n' l' aQ a' w', R n' l' aQ → bO G aQ a' w' → wpAnyL P .any ops Q (SG G) LT n' l' a' w') (a : Act) (w : World) (hh : bO G st a w) :
  wpOp P ops Q j (fun a' w' => SG G w' ∧ wpAnyL P .any ops Q (SG G) LT n (ae.setIfInBounds j true) a' w') a w := by
 have hk := k G hn a w hh
 have key : wpOp P ops (fun e a w => jC G (fun e aQ => e = .normal ∧ eK P N LT ops R n (ae.setIfInBounds j true) aQ) e a w) j
   (fun a w => jC G (fun e aQ => e = .normal ∧ eK P N LT ops R n (ae.setIfInBounds j true) aQ) .normal a w) a w := by
  unfold wpOp; simp only [ho]; exact hk
 refine lq ?_ ?_ key
 ·rintro e a w he ⟨aQ, _, h, _⟩
  exact he h
 ·rintro a w ⟨aQ, fI, _, tN⟩
  exact ⟨fI.sg, tN G hn Q hQ hR a w fI⟩
theorem eK.one {n : Nat} {ae : Array Bool} (i : Nat) {o : Oper} (ho : ops[i]? = some o) (hr : (Region.ready .any ops ae == [i]) = true)
  (k : aa P N ops [o] st (fun e aQ => e = .normal ∧ eK P N LT ops R n (ae.setIfInBounds i true) aQ)) : eK P N LT ops R (n + 1) ae st := by
 intro G hn Q hQ hR a w hh
 refine te (rs := [i]) (by simpa using hr) (by simp) ?_
 intro j hj
 have : j = i := by simpa using hj
 subst this
 exact eK.step j ho k G hn Q hQ hR a w hh
theorem eK.blind {n : Nat} {ae : Array Bool} (i : Nat) {op : Op} {x : X} (ho : ops[i]? = some ⟨some d, op, ty, pos, af, none⟩)
  (hB : (Region.noSelect ops && Region.free .any ops ae i && (Region.ready .any ops ae).contains i) = true) (gA : rK ops LT i = true) (hy : aE P N st ⟨some d, op, ty, pos, af, none⟩ x) (hd : d < N.n)
  (k : eK P N LT ops R n (ae.setIfInBounds i true) (st.put d x)) : eK P N LT ops R (n + 1) ae st := by
 intro G hn Q hQ hR a w hh
 have hS := hh.sg
 obtain ⟨E, RR, rfl, hi⟩ := hh
 obtain ⟨u, hr, hx⟩ := hy G E RR a hn hi
 simp only [Bool.and_eq_true] at hB
 refine iI (v := u) ho hB.1.1 hB.1.2 hB.2 gA ?_ (.inl ⟨by simp [Region.wanted], fun w _ => hr w⟩) hS (k G hn Q hQ hR _ _ ⟨E, _, rfl, hi.eP (hn ▸ hd) hx⟩)
 intro c a w h
 exact (hQ _ _ _ h).elim
end
end
end Go.AW
namespace Go.AW
open Go
section
variable {P : Program} {N : dJ} {st : St} {ops : Array Oper} {d : Nat} {ty : TypeId} {pos : String} {af : Array Edge} {K : St → Prop} {L F' : List Nat} {n : Nat} {ae : Array Bool}
theorem Inv.le {G : Ctx} {E : Env} {RR : Own → List Nat} {a : Act} {aQ : St} (hi : Inv G E RR st a) (h : Le st aQ) : Inv G E RR aQ a :=
 {hi with ax := fun s x hx => hi.ax s x (h.1 s x hx), ay := fun o x hx => hi.ay o x (h.2 o x hx) }
theorem b7.le {aQ : St} (hl : Le st aQ) (h : b7 P N L F' ops n ae aQ K) : b7 P N L F' ops n ae st K := fun G hn E RR a T hT hi => h G hn E RR a T hT (hi.le hl)
theorem b7.split {b : Bool} (hx : look st.ax d = some (.v (.bool b))) (ht : b = true → b7 P N L F' ops n ae (st.put d (.v (.bool true))) K) (hf : b = false → b7 P N L F' ops n ae (st.put d (.v (.bool false))) K) : b7 P N L F' ops n ae st K := by
 have : Le st (st.put d (.v (.bool b))) := ⟨eC.cons hx (fun _ _ h => h), fun _ _ h => h⟩
 cases b
 ·exact (hf rfl).le this
 ·exact (ht rfl).le this
theorem b7.aw {p : Prop} {inst : Decidable p} (hx : look st.ax d = some (.v (.bool (decide p)))) (ht : p → b7 P N L F' ops n ae (st.put d (.v (.bool true))) K) (hf : ¬ p → b7 P N L F' ops n ae (st.put d (.v (.bool false))) K) : b7 P N L F' ops n ae st K :=
 b7.split hx (fun h => ht (of_decide_eq_true h)) (fun h => hf (of_decide_eq_false h))
theorem Inv.wanted {G : Ctx} {E : Env} {RR : Own → List Nat} {a : Act} {j dj : Nat} {want : Bool} {dst : Option Nat} {op : Op} (hi : Inv G E RR st a) (hj : (ops[j]?).bind (·.dst) = some dj) (pe : dj < G.fn.n) (hx : look st.ax dj = some (.v (.bool want))) :
  Region.wanted ⟨dst, op, ty, pos, af, some (j, want)⟩ (yielded ops a.tmps) = true := by
 have hs := hi.ax dj _ hx
 simp only [RX] at hs
 have ei : dj < a.tmps.size := by rw [hi.tmps]; exact pe
 have hv : a.tmps[dj]? = some (.bool want) := by
  have := hs.1
  simp only [Array.getD, ei, dif_pos] at this
  rw [Array.getElem?_eq_getElem ei]
  exact congrArg some this
 simp [Region.wanted, yielded, hj, hv]
theorem b7.bH (i : Nat) {op : Op} {j dj : Nat} {want : Bool} {u : Value} (ho : ops[i]? = some ⟨some d, op, ty, pos, af, some (j, want)⟩)
  (hB : (Region.noSelect ops && Region.free .any ops ae i && (Region.ready .any ops ae).contains i) = true)
  (hj : (ops[j]?).bind (·.dst) = some dj) (pe : dj < N.n) (hd : d < N.n) (hx : look st.ax dj = some (.v u)) (er : nS want u = true)
  (k : b7 P N L F' ops n (ae.setIfInBounds i true) (st.put d (.v undef)) K) : b7 P N L F' ops (n + 1) ae st K := by
 intro G hn E RR a T hT hi
 simp only [Bool.and_eq_true] at hB
 have hw := iY (all := ops) (dst := some d) (op := op) (ty := ty) (pos := pos) (af := af) hi hj (hn ▸ pe) hx er
 refine wpAnyH_take (v := undef) ho hB.1.1 hB.1.2 hB.2 ?_ (.inr ⟨hw, rfl⟩) (hi.AG L T F') (k G hn E _ _ T ?_ (hi.eP (hn ▸ hd) (by simp [RX])))
 ·intro c a w h
  cases h.1
 ·intro o ho
  have := hT o ho
  simpa [en] using this
theorem b7.gW (i : Nat) {op : Op} {x : X} {j dj : Nat} {want : Bool} (ho : ops[i]? = some ⟨some d, op, ty, pos, af, some (j, want)⟩)
  (hB : (Region.noSelect ops && Region.free .any ops ae i && (Region.ready .any ops ae).contains i) = true)
  (hj : (ops[j]?).bind (·.dst) = some dj) (pe : dj < N.n) (hx : look st.ax dj = some (.v (.bool want))) (hy : aE P N st ⟨some d, op, ty, pos, af, some (j, want)⟩ x) (hd : d < N.n)
  (k : b7 P N L F' ops n (ae.setIfInBounds i true) (st.put d x) K) : b7 P N L F' ops (n + 1) ae st K := by
 intro G hn E RR a T hT hi
 obtain ⟨u, hr, im⟩ := hy G E RR a hn hi
 simp only [Bool.and_eq_true] at hB
 refine wpAnyH_take (v := u) ho hB.1.1 hB.1.2 hB.2 ?_ (.inl ⟨hi.wanted hj (hn ▸ pe) hx, fun w _ => hr w⟩) (hi.AG L T F') (k G hn E _ _ T ?_ (hi.eP (hn ▸ hd) im))
 ·intro c a w h
  cases h.1
 ·intro o ho
  have := hT o ho
  simpa [en] using this
theorem aE.pick {c x y : Operand} {b : Bool} {z : X} {dst : Option Nat} {g : Option (Nat × Bool)} (hc : bu st c = some (.v (.bool b))) (hz : bu st (if b then x else y) = some z) (hf : z.free = true) : aE P N st ⟨dst, .pick c x y, ty, pos, af, g⟩ z := by
 intro G E RR a _ hi
 obtain ⟨R, h⟩ := hi.eval hz
 have := RX.free hf h
 subst this
 refine ⟨a.eval (if b then x else y), fun w => ?_, h⟩
 have lB := hi.val hc
 simp only [execOp, lB]
 cases b <;> rfl
theorem bP.le {aQ : St} (hl : Le st aQ) (h : bP P N ops n ae aQ K) : bP P N ops n ae st K := fun G hn a w hh => h G hn a w (hl.holds hh)
theorem bP.split {b : Bool} (hx : look st.ax d = some (.v (.bool b))) (ht : b = true → bP P N ops n ae (st.put d (.v (.bool true))) K) (hf : b = false → bP P N ops n ae (st.put d (.v (.bool false))) K) : bP P N ops n ae st K := by
 have : Le st (st.put d (.v (.bool b))) := ⟨eC.cons hx (fun _ _ h => h), fun _ _ h => h⟩
 cases b
 ·exact (hf rfl).le this
 ·exact (ht rfl).le this
theorem bP.aw {p : Prop} {inst : Decidable p} (hx : look st.ax d = some (.v (.bool (decide p)))) (ht : p → bP P N ops n ae (st.put d (.v (.bool true))) K) (hf : ¬ p → bP P N ops n ae (st.put d (.v (.bool false))) K) : bP P N ops n ae st K :=
 bP.split hx (fun h => ht (of_decide_eq_true h)) (fun h => hf (of_decide_eq_false h))
theorem bP.bH (i : Nat) {op : Op} {j dj : Nat} {want : Bool} {u : Value} (ho : ops[i]? = some ⟨some d, op, ty, pos, af, some (j, want)⟩)
  (hB : (Region.noSelect ops && Region.free .any ops ae i && (Region.ready .any ops ae).contains i) = true)
  (hj : (ops[j]?).bind (·.dst) = some dj) (pe : dj < N.n) (hd : d < N.n) (hx : look st.ax dj = some (.v u)) (er : nS want u = true)
  (k : bP P N ops n (ae.setIfInBounds i true) (st.put d (.v undef)) K) : bP P N ops (n + 1) ae st K := by
 intro G hn a w hh
 have hS := hh.sg
 obtain ⟨E, RR, rfl, hi⟩ := hh
 simp only [Bool.and_eq_true] at hB
 have hw := iY (all := ops) (dst := some d) (op := op) (ty := ty) (pos := pos) (af := af) hi hj (hn ▸ pe) hx er
 refine wpAnyH_take (v := undef) ho hB.1.1 hB.1.2 hB.2 ?_ (.inr ⟨hw, rfl⟩) hS (k G hn _ _ ⟨E, _, rfl, hi.eP (hn ▸ hd) (by simp [RX])⟩)
 intro c a w h
 cases h.1
theorem bP.gW (i : Nat) {op : Op} {x : X} {j dj : Nat} {want : Bool} (ho : ops[i]? = some ⟨some d, op, ty, pos, af, some (j, want)⟩)
  (hB : (Region.noSelect ops && Region.free .any ops ae i && (Region.ready .any ops ae).contains i) = true)
  (hj : (ops[j]?).bind (·.dst) = some dj) (pe : dj < N.n) (hx : look st.ax dj = some (.v (.bool want))) (hy : aE P N st ⟨some d, op, ty, pos, af, some (j, want)⟩ x) (hd : d < N.n)
  (k : bP P N ops n (ae.setIfInBounds i true) (st.put d x) K) : bP P N ops (n + 1) ae st K := by
 intro G hn a w hh
 have hS := hh.sg
 obtain ⟨E, RR, rfl, hi⟩ := hh
 obtain ⟨u, hr, im⟩ := hy G E RR a hn hi
 simp only [Bool.and_eq_true] at hB
 refine wpAnyH_take (v := u) ho hB.1.1 hB.1.2 hB.2 ?_ (.inl ⟨hi.wanted hj (hn ▸ pe) hx, fun w _ => hr w⟩) hS (k G hn _ _ ⟨E, _, rfl, hi.eP (hn ▸ hd) im⟩)
 intro c a w h
 cases h.1
end
end Go.AW
namespace Go.AW
open Go
def FR (ro : Option Nat) : Fence := { Fence.wide with round := ro }
def jA (o : Oper) : Bool := match o.op with | .defer _ => false | _ => true
theorem tr {o : Oper} (h : jA o = true) : ∀ c, o.op ≠ .defer c := fun c e => by simp [jA, e] at h
section
variable {P : Program} {Q : Exit → Act → World → Prop} {a : Act} {w : World} {ro : Option Nat} {o : Oper} {next : Act → World → Prop}
theorem x0 {f : FuncId} {args : Array Value} {R : Ending → World → Prop} {n : Nat} (h : Calls P f args w R) : CallsIn (FR ro) n P f args w R := (callsIn_wide (n := n)).2 h
theorem zC {row : String} {args : Array Value} {R : Value → World → Prop} {n : Nat} (h : Rows P row args w R) : RowsIn (FR ro) n P row args w R :=
 fun c cs _ => let ⟨v, w', r, s⟩ := h c cs; ⟨v, w', r, stepsIn_wide.2 s⟩
theorem zD {r : Result Next} (h : o.upon P a next Q r) : o.uponIn (FR ro) 0 P a next Q r := by
 cases r with
 | ok x w' =>
  cases x
  case value v => exact h
  case skip => exact h
  case defer d => exact h
  case enter f args => exact ⟨fun h => by simp [FR, Fence.wide] at h, x0 h⟩
  case row row args => exact ⟨fun h => by simp [FR, Fence.wide] at h, zC h⟩
  all_goals exact (show False from h).elim
 | halt x w' =>
  cases x
  case panic v => exact h
  all_goals exact (show False from h).elim
theorem x4 (hd : jA o = true) (h : o.wp P a w next Q) : o.wpIn (FR ro) 0 P a w next Q := by
 refine ⟨fun _ _ => trivial, ?_⟩
 rw [Oper.semAt_eq _ _ _ (tr hd)]
 exact zD h
theorem mM {ops : Array Oper} (hQ : ¬ LetsOut Q) : ∀ {l : List Oper} {a : Act} {w : World}, l.all jA = true → wpList P ops Q l a w → wpListIn (FR ro) 0 P ops Q l a w
 | [], _, _, _, h => h
 | o :: rest, a, w, hd, h => by
  simp only [List.all_cons, Bool.and_eq_true] at hd
  unfold wpList at h
  unfold wpListIn
  split at h
  ·rename_i hw
   rw [if_pos hw]
   rcases h with h | h
   ·exact Oper.wpIn_mono (fun _ _ h => mM hQ hd.2 h) (x4 hd.1 h)
   ·exact absurd h.2 hQ
  ·rename_i hw
   rw [if_neg hw]
   exact ⟨fun _ _ => trivial, mM hQ hd.2 h⟩
theorem lZ {ops : Array Oper} (hQ : ¬ LetsOut Q) (hd : ops.toList.all jA = true) : ∀ {l : List Nat} {a : Act} {w : World}, wpOps P ops Q l a w → wpOpsIn (FR ro) 0 P ops Q l a w
 | [], _, _, h => h
 | i :: rest, a, w, h => by
  unfold wpOps at h
  unfold wpOpsIn
  cases ho : ops[i]? with
  | none => rw [ho] at h; exact lZ hQ hd h
  | some o =>
   rw [ho] at h
   simp only at h ⊢
   have FC : jA o = true := List.all_eq_true.1 hd o (Array.mem_toList_iff.2 (Array.mem_of_getElem? ho))
   split at h
   ·rename_i hw
    rw [if_pos hw]
    rcases h with h | h
    ·exact Oper.wpIn_mono (fun _ _ h => lZ hQ hd h) (x4 FC h)
    ·exact absurd h.2 hQ
   ·rename_i hw
    rw [if_neg hw]
    exact ⟨fun _ _ => trivial, lZ hQ hd h⟩
theorem va {id : Nat} {l : List Oper} (hQ : ¬ LetsOut Q) (hd : l.all jA = true) (h : wpList P l.toArray Q l a w) : (Code.region id l.toArray false).wpIn (FR ro) 0 P Q a w :=
 wpIn_region_lit (mM hQ hd h)
theorem oM {id : Nat} {ops : Array Oper} (hm : P.follows .mixedOrders = true) (hQ : ¬ LetsOut Q) (hd : ops.toList.all jA = true) (h : wpAny P .any ops Q ops.size (Array.replicate ops.size false) a { w with drawn := w.drawn + 1 }) :
  (Code.region id ops true).wpIn (FR ro) 0 P Q a w :=
 wpIn_region_draw fun t => by
  simp only [Region.schedule, hm, Bool.true_or, if_true]
  exact lZ hQ hd (wpAny_sound ops.size t _ a _ h)
end
def vb (K : St → Prop) : Exit → St → Prop
 | .normal, st => K st
 | _, _ => False
def Ctx.to (G : Ctx) (w : World) : Ctx := { G with w0 := w }
theorem bO.x5 {G : Ctx} {st : St} {a : Act} {w w' : World} {S : Nat → Prop} (h : bO G st a w) (hS : ∀ b, S b → G.K b ∧ ∀ i, G.φ0 b i = none) (ei : w.heap.size ≤ w'.heap.size)
  (hw : ∀ b, b < w.heap.size → ¬ S b → w'.heap[b]? = w.heap[b]?) : bO (G.to w') st a w' := by
 obtain ⟨E, RR, rfl, hi⟩ := h
 have NL : ∀ b i, S b → E.φ b i = none := fun b i hb => by
  cases he : E.φ b i with
  | none => rfl
  | some v =>
   rcases hi.grow b i v he with h1 | h1
   ·rw [(hS b hb).2 i] at h1; cases h1
   ·exact absurd (hS b hb).1 h1
 have fv : ∀ b i v, E.φ b i = some v → w'.cell? ⟨b, i, none⟩ = some v := fun b i v hv => by
  have h1 := hi.jH b i v hv
  have hb : b < E.w.heap.size := by
   rcases Nat.lt_or_ge b E.w.heap.size with h2 | h2
   ·exact h2
   ·unfold World.cell? at h1
    rw [Array.getElem?_eq_none h2] at h1; cases h1
  unfold World.cell? at h1 ⊢
  rw [hw b hb (fun h2 => by rw [NL b i h2] at hv; cases hv)]; exact h1
 have mu : ∀ p b, b ∈ RR p → w'.heap[b]? = E.w.heap[b]? := fun p b hb => hw b (hi.own p b hb).1 (fun h2 => (hi.own p b hb).2 (hS b h2).1)
 have gq : ∀ p, E.On { E with w := w' } (RR p) := fun p => ⟨fun _ _ _ h => h, fun c hc => ⟨mu p c hc, fun h i => h i⟩⟩
 refine ⟨{ E with w := w' }, RR, rfl, ?_⟩
 constructor
 case jH => exact fv
 case ax => exact fun s x hx => RX.mono x _ _ (gq _) (fun _ _ => rfl) (hi.ax s x hx)
 case ay => exact fun o ob aL => dq.mono (gq _) rfl (fun _ _ _ _ => rfl) (hi.ay o ob aL)
 case nodup => exact hi.nodup
 case apart => exact hi.apart
 case own => exact fun p b hb => ⟨Nat.lt_of_lt_of_le (hi.own p b hb).1 ei, (hi.own p b hb).2⟩
 case au => exact fun _ _ => rfl
 case size => exact Nat.le_refl _
 case small => exact fun b hb => Nat.lt_of_lt_of_le (Nat.lt_of_lt_of_le (hi.small b hb) hi.size) ei
 case os => rfl
 case tape => rfl
 case output => rfl
 case φ0 => exact hi.φ0
 case grow => exact hi.grow
 case fixed => exact hi.fixed
 case tmps => exact hi.tmps
 case defers => exact hi.defers
end Go.AW
namespace Go.AW
open Go
abbrev zE := List (Int × Int)
abbrev lx := zE × St
structure Kp (S : Nat → Prop) (W W' : World) : Prop where
 size : W.heap.size ≤ W'.heap.size
 same : ∀ b, b < W.heap.size → ¬ S b → W'.heap[b]? = W.heap[b]?
 os : W'.os = W.os
 tape : W'.tape = W.tape
 output : W'.output = W.output
theorem Kp.refl (S : Nat → Prop) (W : World) : Kp S W W := ⟨Nat.le_refl _, fun _ _ _ => rfl, rfl, rfl, rfl⟩
theorem Kp.trans {S : Nat → Prop} {A B C : World} (h : Kp S A B) (k : Kp S B C) : Kp S A C :=
 ⟨Nat.le_trans h.size k.size, fun b hb hs => (k.same b (Nat.lt_of_lt_of_le hb h.size) hs).trans (h.same b hb hs), k.os.trans h.os, k.tape.trans h.tape, k.output.trans h.output⟩
structure oN (P : Program) where
 l : Nat
 n1 : Nat
 S : Nat → Prop
 J : zE → World → Prop
 Good : Int × Int → Prop
 C7 : ∀ i W W', J i W → W.heap.size ≤ W'.heap.size → (∀ b, b < n1 → W'.heap[b]? = W.heap[b]?) → J i W'
 yield : ∀ i x W, J i W → Good x → n1 ≤ W.heap.size → YieldAt (FR none) 0 P l #[.int .i64 x.1, .int .i64 x.2] W (fun e W' => e = .returned (.bool true) ∧ J (i ++ [x]) W' ∧ Kp S W W')
 lt : ∀ b, S b → b < n1
abbrev oN.v {P : Program} (Y : oN P) : X := .v (.func (.yield Y.l) #[] #[])
def uq (P : Program) (f : FuncId) (args : List X) (g : zE) : Prop :=
 ∀ (Y : oN P) (i : zE) (E : Env) (cZ : List Value), Y.J i E.w → Y.n1 ≤ E.w.heap.size → (∀ x ∈ g, Y.Good x) → dy E args cZ [] → (∀ b k v, E.φ b k = some v → E.w.cell? ⟨b, k, none⟩ = some v) → (∀ b k, Y.S b → E.φ b k = none) →
  Calls P f (#[.func (.yield Y.l) #[] #[]] ++ cZ.toArray) E.w (fun e W' => ∃ v, e = .returned v ∧ Y.J (i ++ g) W' ∧ Kp Y.S E.w W')
structure Dp {P : Program} (Y : oN P) (G : Ctx) : Prop where
 Hq : ∀ b, b < G.w0.heap.size → G.K b
 n1 : Y.n1 ≤ G.w0.heap.size
 φ : ∀ b i, Y.S b → G.φ0 b i = none
structure HI {P : Program} (Y : oN P) (G : Ctx) (s : lx) (a : Act) (w : World) : Prop where
 j : Y.J s.1 w
 h : bO (G.to w) s.2 a w
 kp : Kp Y.S G.w0 w
def bd (P : Program) (Y : oN P) (N : dJ) (c : Code) (s : lx) (Q : Exit → lx → Prop) : Prop :=
 ∀ G : Ctx, G.fn = N → Dp Y G → ∀ a w, HI Y G s a w → c.wp P (fun e a w => ∃ s', HI Y G s' a w ∧ Q e s') a w
def dT (P : Program) (Y : oN P) (N : dJ) (all : Array Oper) (rest : List Oper) (s : lx) (Q : Exit → lx → Prop) : Prop :=
 ∀ G : Ctx, G.fn = N → Dp Y G → ∀ a w, HI Y G s a w → wpListIn (FR none) 0 P all (fun e a w => ∃ s', HI Y G s' a w ∧ Q e s') rest a w
def jB (K : lx → Prop) (Q : Exit → lx → Prop) : Exit → lx → Prop
 | .normal, st => K st
 | e, st => Q e st
def rV (id : Nat) (Q : Exit → lx → Prop) : Exit → lx → Prop
 | .exit id', st => bif Nat.beq id' id then Q .normal st else Q (.exit id') st
 | e, st => Q e st
def qN (s s' : lx) : Prop := s.1 = s'.1 ∧ Le s.2 s'.2
section
variable {P : Program} {Y : oN P} {N : dJ} {s : lx} {Q Q' : Exit → lx → Prop} {i : zE} {st aQ : St} {id : Nat} {x y c : Code}
theorem HI.le {G : Ctx} {s s' : lx} {a : Act} {w : World} (hl : qN s s') (h : HI Y G s a w) : HI Y G s' a w := ⟨hl.1 ▸ h.j, hl.2.holds h.h, h.kp⟩
theorem HI.step {G : Ctx} (hG : Dp Y G) {a a' : Act} {w w' : World} (h : HI Y G (i, st) a w) (h' : bO (G.to w) aQ a' w') : HI Y G (i, aQ) a' w' := by
 have hr : bO (G.to w') aQ a' w' := bO.x5 (G := G.to w) (S := fun _ => False) h' (fun _ h => h.elim) (Nat.le_refl _) (fun _ _ _ => rfl)
 obtain ⟨E, RR, rfl, hi⟩ := h'
 have ei : w.heap.size ≤ E.w.heap.size := hi.size
 have hold : ∀ b, b < G.w0.heap.size → E.w.heap[b]? = w.heap[b]? := fun b hb => hi.au b (hG.Hq b hb)
 exact ⟨Y.C7 i w E.w h.j ei (fun b hb => hold b (Nat.lt_of_lt_of_le hb hG.n1)), hr, Nat.le_trans h.kp.size ei, fun b hb hs => (hold b hb).trans (h.kp.same b hb hs), hi.os.trans h.kp.os, hi.tape.trans h.kp.tape, hi.output.trans h.kp.output⟩
theorem HI.J5 {G : Ctx} (hG : Dp Y G) {a : Act} {w w' : World} {i' : zE} (h : HI Y G (i, st) a w) (hj : Y.J i' w') (hk : Kp Y.S w w') : HI Y G (i', st) a w' :=
 ⟨hj, bO.x5 (G := G.to w) (S := Y.S) h.h (fun b hb => ⟨hG.Hq b (Nat.lt_of_lt_of_le (Y.lt b hb) hG.n1), fun k => hG.φ b k hb⟩) hk.size hk.same,
  Nat.le_trans h.kp.size hk.size, fun b hb hs => (hk.same b (Nat.lt_of_lt_of_le hb h.kp.size) hs).trans (h.kp.same b hb hs), hk.os.trans h.kp.os, hk.tape.trans h.kp.tape, hk.output.trans h.kp.output⟩
theorem HI.n1 {G : Ctx} (hG : Dp Y G) {a : Act} {w : World} (h : HI Y G s a w) : Y.n1 ≤ w.heap.size := Nat.le_trans hG.n1 h.kp.size
theorem bd.of (h : ah P N c st (fun e aQ => Q e (i, aQ))) : bd P Y N c (i, st) Q := by
 intro G hn hG a w hh
 refine wp_mono (h (G.to w) hn a w hh.h) ?_
 rintro e a' w' ⟨aQ, h', hq⟩
 exact ⟨_, hh.step hG h', hq⟩
theorem bd.le {s' : lx} (hl : qN s s') (h : bd P Y N c s' Q) : bd P Y N c s Q := fun G hn hG a w hh => h G hn hG a w (hh.le hl)
theorem bd.sh (h : Sh N st aQ) (k : bd P Y N c (i, aQ) Q) : bd P Y N c (i, st) Q := fun G hn hG a w hh => k G hn hG a w ⟨hh.j, h (G.to w) hn a w hh.h, hh.kp⟩
theorem bd.mono (h : bd P Y N c s Q) (hq : ∀ e s, Q e s → Q' e s) : bd P Y N c s Q' := fun G hn hG a w hh => wp_mono (h G hn hG a w hh) fun _ _ _ ⟨s', h', yf⟩ => ⟨s', h', hq _ _ yf⟩
theorem bd.skip (h : Q .normal s) : bd P Y N .skip s Q := fun _ _ _ _ _ hh => wp_skip ⟨s, hh, h⟩
theorem bd.exit (h : Q (.exit id) s) : bd P Y N (.exit id) s Q := fun _ _ _ _ _ hh => wp_exit ⟨s, hh, h⟩
theorem bd.ret (h : Q .ret s) : bd P Y N .ret s Q := fun _ _ _ _ _ hh => wp_ret ⟨s, hh, h⟩
theorem bd.seq (h : bd P Y N x s (jB (fun s' => bd P Y N y s' Q) Q)) : bd P Y N (.seq x y) s Q := by
 intro G hn hG a w hh
 refine wp_seq (wp_mono (h G hn hG a w hh) ?_)
 rintro e a' w' ⟨s', fI, hq⟩
 cases e <;> first | exact hq G hn hG a' w' fI | exact ⟨s', fI, hq⟩
theorem bd.block (h : bd P Y N c s (rV id Q)) : bd P Y N (.block id c) s Q := by
 intro G hn hG a w hh
 refine wp_block (wp_mono (h G hn hG a w hh) ?_)
 rintro e a' w' ⟨s', fI, hq⟩
 cases e with
 | exit id' =>
  simp only [rV] at hq
  simp only [Exit.inBlock]
  cases hb : Nat.beq id' id with
  | true =>
   rw [hb] at hq
   rw [if_pos (Nat.eq_of_beq_eq_true hb)]
   exact ⟨s', fI, hq⟩
  | false =>
   rw [hb] at hq
   rw [if_neg (Nat.ne_of_beq_eq_false hb)]
   exact ⟨s', fI, hq⟩
 | _ => exact ⟨s', fI, hq⟩
theorem bd.cond {o : Operand} {b : Bool} (hc : bu s.2 o = some (.v (.bool b))) (ht : b = true → bd P Y N x s Q) (hf : b = false → bd P Y N y s Q) : bd P Y N (.cond o x y) s Q := by
 intro G hn hG a w hh
 obtain ⟨E, RR, rfl, hi⟩ := hh.h
 exact wp_cond_split (hi.val hc) (fun h => ht h G hn hG a E.w hh) (fun h => hf h G hn hG a E.w hh)
theorem bd.a9 {o : Operand} {p : Prop} {inst : Decidable p} (hc : bu s.2 o = some (.v (.bool (decide p)))) (ht : p → bd P Y N x s Q) (hf : ¬ p → bd P Y N y s Q) : bd P Y N (.cond o x y) s Q :=
 bd.cond hc (fun h => ht (of_decide_eq_true h)) (fun h => hf (of_decide_eq_false h))
theorem bd.aK {o : Operand} (hc : bu s.2 o = some (.v (.bool true))) (h : bd P Y N x s Q) : bd P Y N (.cond o x y) s Q := bd.cond hc (fun _ => h) (fun h => by cases h)
theorem bd.cT {o : Operand} (hc : bu s.2 o = some (.v (.bool false))) (h : bd P Y N y s Q) : bd P Y N (.cond o x y) s Q := bd.cond hc (fun h => by cases h) (fun _ => h)
theorem bd.vT {d : Nat} {b : Bool} (hc : look st.ax d = some (.v (.bool b))) (ht : b = true → bd P Y N x (i, st.put d (.v (.bool true))) Q) (hf : b = false → bd P Y N y (i, st.put d (.v (.bool false))) Q) : bd P Y N (.cond (.tmp d) x y) (i, st) Q := by
 refine bd.cond (s := (i, st)) (b := b) hc (fun h => ?_) (fun h => ?_)
 ·subst h; exact bd.le (s := (i, st)) (s' := (i, st.put d (.v (.bool true)))) ⟨rfl, Le.test hc⟩ (ht rfl)
 ·subst h; exact bd.le (s := (i, st)) (s' := (i, st.put d (.v (.bool false)))) ⟨rfl, Le.test hc⟩ (hf rfl)
theorem bd.aZ {d : Nat} {p : Prop} {inst : Decidable p} (hc : look st.ax d = some (.v (.bool (decide p)))) (ht : p → bd P Y N x (i, st.put d (.v (.bool true))) Q) (hf : ¬ p → bd P Y N y (i, st.put d (.v (.bool false))) Q) : bd P Y N (.cond (.tmp d) x y) (i, st) Q :=
 bd.vT hc (fun h => ht (of_decide_eq_true h)) (fun h => hf (of_decide_eq_false h))
theorem bd.loop {ι : Type} (S : ι → lx) (I : ι → Prop) (μ : ι → Nat) (i0 : ι) (hi : I i0) (hs : qN s (S i0)) (round : ∀ i, I i → bd P Y N c (S i) (jB (fun s' => ∃ j, I j ∧ μ j < μ i ∧ qN s' (S j)) Q)) : bd P Y N (.loop c) s Q := by
 intro G hn hG a w hh
 refine nI (fun i a w => I i ∧ HI Y G (S i) a w) μ ?_ ⟨hi, hh.le hs⟩
 rintro i a w ⟨hI, hh⟩
 refine wp_mono (round i hI G hn hG a w hh) ?_
 rintro e a' w' ⟨s', fI, hq⟩
 cases e with
 | normal => obtain ⟨j, hj, gA, hle⟩ := hq; exact ⟨j, ⟨hj, fI.le hle⟩, gA⟩
 | _ => exact ⟨s', fI, hq⟩
theorem bd.join {ι : Type} (J : ι → lx) (I : ι → Prop) (hx : bd P Y N x s (jB (fun aQ => ∃ i, I i ∧ qN aQ (J i)) Q)) (hy : ∀ i, I i → bd P Y N y (J i) Q) : bd P Y N (.seq x y) s Q := by
 refine bd.seq (hx.mono ?_)
 intro e xV h
 cases e with
 | normal => obtain ⟨i, hI, hle⟩ := h; exact (hy i hI).le hle
 | _ => exact h
theorem bd.region {l : List Oper} (h : aa P N l.toArray l st (iU (fun aQ => Q .normal (i, aQ)) (fun e aQ => Q e (i, aQ)))) : bd P Y N (.region id l.toArray false) (i, st) Q :=
 bd.of ((ah.region h).mono fun e st h => by cases e <;> exact h)
theorem bd.sr {l : List Oper} (h : aa P N l.toArray l st (iU (fun aQ => bd P Y N y (i, aQ) Q) (fun e aQ => Q e (i, aQ)))) : bd P Y N (.seq (.region id l.toArray false) y) (i, st) Q :=
 bd.seq (bd.of ((ah.region h).mono fun e st h => by cases e <;> exact h))
end
end Go.AW
namespace Go.AW
open Go
theorem x6 {P : Program} {o : Oper} {Q1 Q2 : Exit → Act → World → Prop} {K1 K2 : Act → World → Prop} {a : Act} {w : World} (hQ : ∀ e a w, e ≠ .normal → Q1 e a w → False) (hK : ∀ a w, K1 a w → K2 a w) (h : o.wp P a w K1 Q1) : o.wp P a w K2 Q2 := by
 unfold Oper.wp at *
 generalize (execOp a.eval o).run P w = r at *
 cases r with
 | ok nx w' =>
  cases nx <;> simp only [Oper.upon] at h ⊢ <;> first
   | exact hK _ _ h
   | exact Calls.mono h (fun e K4 he => by
     cases e with
     | returned u => exact hK _ _ he
     | panicked c => exact (hQ _ _ _ (by simp) he).elim
     | outgrown => exact (let ⟨_, _, h'⟩ := he; hQ _ _ _ (by simp) h').elim)
   | exact Rows.mono h (fun _ _ he => hK _ _ he)
 | halt x w' => cases x <;> simp only [Oper.upon] at h ⊢ <;> first | exact (hQ _ _ _ (by simp) h).elim | exact (let ⟨_, _, h'⟩ := h; hQ _ _ _ (by simp) h').elim | exact h
theorem X.pK : ∀ {xs : List X} {k : Nat} {x : X}, X.aW xs = true → xs[k]? = some x → x.free = true
 | [], _, _, _, h => by simp at h
 | y :: r, 0, x, hf, h => by
  simp only [X.aW, Bool.and_eq_true] at hf
  simp only [List.getElem?_cons_zero, Option.some.injEq] at h
  subst h; exact hf.1
 | y :: r, k + 1, x, hf, h => by
  simp only [X.aW, Bool.and_eq_true] at hf
  simp only [List.getElem?_cons_succ] at h
  exact X.pK hf.2 h
section
variable {P : Program} {Y : oN P} {N : dJ} {s : lx} {Q : Exit → lx → Prop} {i : zE} {st : St} {all : Array Oper} {rest : List Oper} {o : Oper} {d : Nat} {ty : TypeId} {pos : String} {af : Array Edge}
theorem dT.nil (h : Q .normal s) : dT P Y N all [] s Q := fun _ _ _ _ _ hh => ⟨s, hh, h⟩
theorem dT.op (h : aa P N all [o] st (vb (fun aQ => dT P Y N all rest (i, aQ) Q))) (hd : jA o = true := by rfl) : dT P Y N all (o :: rest) (i, st) Q := by
 intro G hn hG a w hh
 have h1 := h (G.to w) hn a w hh.h
 have hk : ∀ a' w', jC (G.to w) (vb (fun aQ => dT P Y N all rest (i, aQ) Q)) .normal a' w' → wpListIn (FR none) 0 P all (fun e a w => ∃ s', HI Y G s' a w ∧ Q e s') rest a' w' := by
  rintro a' w' ⟨aQ, h', hq⟩
  exact hq G hn hG a' w' (hh.step hG h')
 have Ll : ∀ e a' w', e ≠ .normal → jC (G.to w) (vb (fun aQ => dT P Y N all rest (i, aQ) Q)) e a' w' → False := by
  rintro e a' w' he ⟨aQ, _, hq⟩
  cases e <;> first | exact he rfl | exact hq
 unfold wpList at h1
 unfold wpListIn
 split at h1
 ·rename_i hw
  rw [if_pos hw]
  rcases h1 with h1 | ⟨_, _, _, h2⟩
  ·exact x4 hd (x6 Ll hk h1)
  ·exact (Ll _ _ _ (by simp) h2).elim
 ·rename_i hw
  rw [if_neg hw]
  exact ⟨fun _ _ => trivial, hk _ _ h1⟩
theorem dT.le {s' : lx} (hl : qN s s') (h : dT P Y N all rest s' Q) : dT P Y N all rest s Q := fun G hn hG a w hh => h G hn hG a w (hh.le hl)
theorem dT.split {b : Bool} (hx : look st.ax d = some (.v (.bool b))) (ht : b = true → dT P Y N all rest (i, st.put d (.v (.bool true))) Q) (hf : b = false → dT P Y N all rest (i, st.put d (.v (.bool false))) Q) : dT P Y N all rest (i, st) Q := by
 cases b
 ·exact dT.le (s := (i, st)) (s' := (i, st.put d (.v (.bool false)))) ⟨rfl, Le.test hx⟩ (hf rfl)
 ·exact dT.le (s := (i, st)) (s' := (i, st.put d (.v (.bool true)))) ⟨rfl, Le.test hx⟩ (ht rfl)
theorem dT.aw {p : Prop} {inst : Decidable p} (hx : look st.ax d = some (.v (.bool (decide p)))) (ht : p → dT P Y N all rest (i, st.put d (.v (.bool true))) Q) (hf : ¬ p → dT P Y N all rest (i, st.put d (.v (.bool false))) Q) : dT P Y N all rest (i, st) Q :=
 dT.split hx (fun h => ht (of_decide_eq_true h)) (fun h => hf (of_decide_eq_false h))
theorem dT.aH {dst : Option Nat} {op : Op} {j : Nat} {want : Bool} (hj : (all[j]?).bind (·.dst) = some d) (hd : d < N.n) (hx : look st.ax d = some (.v (.bool want)))
  (k : dT P Y N all (⟨dst, op, ty, pos, af, none⟩ :: rest) (i, st) Q) : dT P Y N all (⟨dst, op, ty, pos, af, some (j, want)⟩ :: rest) (i, st) Q := by
 intro G hn hG a w hh
 have hk := k G hn hG a w hh
 obtain ⟨E, RR, rfl, hi⟩ := hh.h
 have hw := hi.wanted (ops := all) (dst := dst) (op := op) (ty := ty) (pos := pos) (af := af) hj (by show d < (G.to E.w).fn.n; rw [show (G.to E.w).fn = N from hn]; exact hd) hx
 unfold wpListIn at hk ⊢
 rw [if_pos hw]
 rw [if_pos (by simp [Region.wanted])] at hk
 exact hk
theorem vc {x : Operand} {bF : Array Operand} {l5 : Array TypeId} {a : Act} {w : World} {f : Fn} {cc : Array Value} {dst : Option Nat} {g : Option (Nat × Bool)} (hx : a.eval x = .func f #[] cc) :
  (execOp a.eval ⟨dst, .call ⟨.value x, bF, l5⟩, ty, pos, af, g⟩).run P w = (invoke (.fn f cc) (#[] ++ bF.map a.eval)).run P w := by
 have e : (execOp a.eval ⟨dst, .call ⟨.value x, bF, l5⟩, ty, pos, af, g⟩).run P w = (do let d ← Deferred.ofValue (a.eval x) (bF.map a.eval); invoke d.target d.args : Sem Next).run P w := rfl
 rw [e, hx]; rfl
theorem dT.yield {x : Operand} {bF : Array Operand} {l5 : Array TypeId} {p q : Int} (hx : bu st x = some Y.v) (eM : iq st bF.toList = some [.v (.int .i64 p), .v (.int .i64 q)]) (hg : Y.Good (p, q)) (hd : d < N.n)
  (k : dT P Y N all rest (i ++ [(p, q)], st.put d (.v (.bool true))) Q) : dT P Y N all (⟨some d, .call ⟨.value x, bF, l5⟩, ty, pos, af, none⟩ :: rest) (i, st) Q := by
 intro G hn hG a w hh
 have Dz := hh.n1 hG
 obtain ⟨E, RR, rfl, hi⟩ := hh.h
 have hv := hi.val hx
 obtain ⟨vr, Ae⟩ := lG hi eM
 have dK : bF.map a.eval = #[.int .i64 p, .int .i64 q] := by
  obtain ⟨o1, AN, R1, nL⟩ := Ae 0 _ rfl
  obtain ⟨o2, AO, R2, u7⟩ := Ae 1 _ rfl
  simp only [RX] at nL u7
  have hl : bF.toList.length = 2 := vr.symm
  apply Array.ext'
  rw [Array.toList_map]
  match hm : bF.toList, hl with
  | [u1, u2], _ =>
   rw [hm] at AN AO
   simp only [List.getElem?_cons_zero, List.getElem?_cons_succ, Option.some.injEq] at AN AO
   subst AN; subst AO
   simp [nL.1, u7.1]
 obtain ⟨fn, tmps, assign, body, hy, hR⟩ := Y.yield i (p, q) E.w hh.j hg Dz
 have fJ : (execOp a.eval ⟨some d, .call ⟨.value x, bF, l5⟩, ty, pos, af, none⟩).run P E.w = .ok (.round Y.l fn tmps assign body) E.w := by
  rw [vc hv, dK]; exact hy
 refine wpListIn_plain rfl fun K hK => ?_
 refine ⟨fun _ _ => trivial, ?_⟩
 rw [show (FR none).round = none from rfl, Oper.semAt_none, fJ]
 refine ⟨fun h => by simp [FR, Fence.wide] at h, hR.mono ?_⟩
 rintro e W' ⟨rfl, hj, hk⟩
 refine hK _ _ (k G hn hG _ _ ?_)
 have ht := HI.J5 hG hh hj hk
 obtain ⟨E', et, rfl, fk⟩ := ht.h
 exact ⟨ht.j, ⟨E', _, rfl, fk.eP (by show d < (G.to E'.w).fn.n; rw [show (G.to E'.w).fn = N from hn]; exact hd) (by simp [RX])⟩, ht.kp⟩
theorem uq.of {f : FuncId} {fn : Func} {c : Code} {args : List X} {g : zE} {n : Nat} (hf : P.funcs[f]? = some fn) (hb : fn.body = some c) (hn : fn.ntmps = n) (hr : fn.results = #[]) (hle : args.length + 1 ≤ n)
  (h : ∀ (Y : oN P) (i : zE), (∀ x ∈ g, Y.Good x) → bd P Y ⟨n, []⟩ c (i, ⟨di 0 (Y.v :: args), []⟩) (fun e s => (e = .normal ∨ e = .ret) ∧ s.1 = i ++ g)) (nz : X.aW args = true) : uq P f args g := by
 intro Y i E cZ hJ Dz hg dK Gy hφ
 refine calls_of_wp hf hb ?_
 let G : Ctx := ⟨fun b => b < E.w.heap.size, E.w, E.φ, E.β, ⟨n, []⟩, []⟩
 have hG : Dp Y G := ⟨fun _ h => h, Dz, hφ⟩
 have hlen : ∀ {l : List X} {c : List Value} {R : List Nat}, dy E l c R → l.length = c.length := by
  intro l
  induction l with
  | nil => intro c R h; simp only [dy] at h; rw [h.1]; rfl
  | cons y r ih =>
   intro c R h
   simp only [dy] at h
   obtain ⟨_, c', _, _, rfl, _, h2, _⟩ := h
   simp [ih h2]
 have hl := hlen dK
 have hH : HI Y G (i, ⟨di 0 (Y.v :: args), []⟩) ⟨(#[.func (.yield Y.l) #[] #[]] ++ cZ.toArray) ++ Array.replicate (fn.ntmps - (#[Value.func (.yield Y.l) #[] #[]] ++ cZ.toArray).size) undef, []⟩ E.w := by
  refine ⟨hJ, ⟨E, fun _ => [], rfl, ?_⟩, Kp.refl _ _⟩
  constructor
  case jH => exact Gy
  case ax =>
   intro s x hx
   have im : look (di 0 (Y.v :: args)) s = some x := hx
   rw [fK] at im
   have hs : s < args.length + 1 := by
    rcases Nat.lt_or_ge s (args.length + 1) with h' | h'
    ·exact h'
    ·rw [List.getElem?_eq_none (by simpa using h')] at im; cases im
   have e1 : ((#[Value.func (.yield Y.l) #[] #[]] ++ cZ.toArray) ++ Array.replicate (fn.ntmps - (#[Value.func (.yield Y.l) #[] #[]] ++ cZ.toArray).size) undef).getD s undef = (Value.func (.yield Y.l) #[] #[] :: cZ).getD s undef := by
    rw [Array.getD_eq_getD_getElem?, Array.getElem?_append_left (by simp; omega)]
    simp [List.getD_eq_getElem?_getD]
   show RX E x _ []
   rw [e1]
   cases s with
   | zero =>
    simp only [List.getElem?_cons_zero, Option.some.injEq] at im
    subst im
    simp [RX]
   | succ s =>
    simp only [List.getElem?_cons_succ] at im
    obtain ⟨u, R, hu, hR⟩ := dy.get dK im
    have h0 := RX.free (X.pK nz im) hR
    subst h0
    rw [List.getD_cons_succ, List.getD_eq_getElem?_getD, hu]; exact hR
  case ay => intro o ob h; cases h
  case nodup => exact fun _ => List.nodup_nil
  case apart => exact fun _ _ _ _ h => by cases h
  case own => exact fun _ _ h => by cases h
  case au => exact fun _ _ => rfl
  case size => exact Nat.le_refl _
  case small => exact fun _ h => h
  case os => rfl
  case tape => rfl
  case output => rfl
  case φ0 => exact fun _ _ _ h => h
  case grow => exact fun _ _ _ h => .inl h
  case fixed => exact fun _ _ => rfl
  case tmps => show Array.size _ = n; simp; omega
  case defers => rfl
 refine wp_mono (h Y i hg G rfl hG _ _ hH) ?_
 rintro e a w ⟨s, hs, he, hi⟩
 have hd : a.defers = [] := by obtain ⟨_, _, _, h⟩ := hs.h; exact h.defers
 have Bl : (results fn a.tmps).run P w = .ok (.tuple #[]) w := by
  have e : results fn a.tmps = (do let vs ← fn.results.mapM (mx a.tmps); Pure.pure (if h : vs.size = 1 then vs[0] else .tuple vs) : Sem Value) := rfl
  rw [e, hr]
  refine gQ (u := #[]) (by simp [Sem.run_pure]) rfl
 have hk : a.defers = [] ∧ ∃ v, (results fn a.tmps).run P w = .ok v w ∧ ∃ v', Ending.returned v = .returned v' ∧ Y.J (i ++ g) w ∧ Kp Y.S E.w w := ⟨hd, _, Bl, _, rfl, hi ▸ hs.j, hs.kp⟩
 rcases he with rfl | rfl
 ·exact hk
 ·exact hk
end
end Go.AW
namespace Go.AW
open Go
def cR (P : Program) (l : Nat) (N : dJ) (c : Code) (st : St) (Q : Exit → St → Prop) : Prop :=
 ∀ G : Ctx, G.fn = N → ∀ a w, bO G st a w → c.wpIn (FR (some l)) 0 P (jC G Q) a w
section
variable {P : Program} {l : Nat} {N : dJ} {st aQ : St} {Q Q' : Exit → St → Prop} {id : Nat} {x y c : Code}
theorem cR.le (hl : Le st aQ) (h : cR P l N c aQ Q) : cR P l N c st Q := fun G hn a w hh => h G hn a w (hl.holds hh)
theorem cR.mono (h : cR P l N c st Q) (hq : ∀ e st, Q e st → Q' e st) : cR P l N c st Q' := fun G hn a w hh => wpIn_mono (h G hn a w hh) fun e _ _ hp => jC.mono (hq e) hp
theorem cR.sh (h : Sh N st aQ) (k : cR P l N c aQ Q) : cR P l N c st Q := fun G hn a w hh => k G hn a w (h G hn a w hh)
theorem cR.skip (h : Q .normal st) : cR P l N .skip st Q := fun _ _ _ _ hh => wpIn_skip ⟨st, hh, h⟩
theorem cR.exit (h : Q (.exit id) st) : cR P l N (.exit id) st Q := fun _ _ _ _ hh => wpIn_exit ⟨st, hh, h⟩
theorem cR.seq (h : cR P l N x st (iU (fun aQ => cR P l N y aQ Q) Q)) : cR P l N (.seq x y) st Q := by
 intro G hn a w hh
 refine wpIn_seq (wpIn_mono (h G hn a w hh) ?_)
 rintro e a' w' ⟨aQ, fI, hq⟩
 cases e <;> first | exact hq G hn a' w' fI | exact ⟨aQ, fI, hq⟩
theorem cR.block (h : cR P l N c st (kr id Q)) : cR P l N (.block id c) st Q := by
 intro G hn a w hh
 refine wpIn_block (wpIn_mono (h G hn a w hh) ?_)
 rintro e a' w' ⟨aQ, fI, hq⟩
 cases e with
 | exit id' =>
  simp only [kr] at hq
  simp only [Exit.inBlock]
  cases hb : Nat.beq id' id with
  | true =>
   rw [hb] at hq
   rw [if_pos (Nat.eq_of_beq_eq_true hb)]
   exact ⟨aQ, fI, hq⟩
  | false =>
   rw [hb] at hq
   rw [if_neg (Nat.ne_of_beq_eq_false hb)]
   exact ⟨aQ, fI, hq⟩
 | _ => exact ⟨aQ, fI, hq⟩
theorem cR.cond {o : Operand} {b : Bool} (hc : bu st o = some (.v (.bool b))) (ht : b = true → cR P l N x st Q) (hf : b = false → cR P l N y st Q) : cR P l N (.cond o x y) st Q := by
 intro G hn a w hh
 obtain ⟨E, RR, rfl, hi⟩ := hh
 have hv := hi.val hc
 cases b with
 | true => exact wpIn_cond (t := true) hv (by simpa using ht rfl G hn a E.w ⟨E, RR, rfl, hi⟩)
 | false => exact wpIn_cond (t := false) hv (by simpa using hf rfl G hn a E.w ⟨E, RR, rfl, hi⟩)
theorem cR.a9 {o : Operand} {p : Prop} {inst : Decidable p} (hc : bu st o = some (.v (.bool (decide p)))) (ht : p → cR P l N x st Q) (hf : ¬ p → cR P l N y st Q) : cR P l N (.cond o x y) st Q :=
 cR.cond hc (fun h => ht (of_decide_eq_true h)) (fun h => hf (of_decide_eq_false h))
theorem cR.aK {o : Operand} (hc : bu st o = some (.v (.bool true))) (h : cR P l N x st Q) : cR P l N (.cond o x y) st Q := cR.cond hc (fun _ => h) (fun h => by cases h)
theorem cR.cT {o : Operand} (hc : bu st o = some (.v (.bool false))) (h : cR P l N y st Q) : cR P l N (.cond o x y) st Q := cR.cond hc (fun h => by cases h) (fun _ => h)
theorem cR.nU {x y : Code} (J : St) (I : Prop) (hx : cR P l N x st (iU (fun aQ => I ∧ Le aQ J) Q)) (hy : I → cR P l N y J Q) : cR P l N (.seq x y) st Q :=
 cR.seq (hx.mono fun e xV h => by cases e with
  | normal => exact (hy h.1).le h.2
  | _ => exact h)
theorem cR.region {ops : List Oper} (h : aa P N ops.toArray ops st (vb (fun aQ => Q .normal aQ))) (hd : ops.all jA = true := by rfl) : cR P l N (.region id ops.toArray false) st Q := by
 intro G hn a w hh
 refine wpIn_mono (va (Q := jC G (vb (fun aQ => Q .normal aQ))) (fun ⟨_, _, _, _, h⟩ => h) hd (h G hn a w hh)) ?_
 rintro e a' w' ⟨aQ, fI, hq⟩
 cases e <;> first | exact ⟨aQ, fI, hq⟩ | exact hq.elim
theorem cR.sr {ops : List Oper} (h : aa P N ops.toArray ops st (vb (fun aQ => cR P l N y aQ Q))) (hd : ops.all jA = true := by rfl) : cR P l N (.seq (.region id ops.toArray false) y) st Q :=
 cR.seq (cR.region (Q := iU (fun aQ => cR P l N y aQ Q) Q) h hd)
theorem cR.cC {ops : Array Oper} (hm : P.follows .mixedOrders = true) (h : aS P N ops ops.size (Array.replicate ops.size false) st (fun aQ => Q .normal aQ)) (hd : ops.toList.all jA = true := by rfl) : cR P l N (.region id ops true) st Q := by
 intro G hn a w hh
 have h1 := h G hn a _ hh.drew
 refine wpIn_mono (oM (Q := fun e a w => e = .normal ∧ ∃ aQ, Q .normal aQ ∧ bO G aQ a w) hm (fun ⟨_, _, h, _⟩ => by cases h) hd h1) ?_
 rintro e a w ⟨rfl, aQ, hk, fI⟩
 exact ⟨aQ, fI, hk⟩
end
end Go.AW
namespace Go.AW
open Go
structure Ext (G G' : Ctx) : Prop where
 fn : G'.fn = G.fn
 K : ∀ b, G.K b → G'.K b
 au : ∀ b, G.K b → G'.w0.heap[b]? = G.w0.heap[b]?
 size : G.w0.heap.size ≤ G'.w0.heap.size
 os : G'.w0.os = G.w0.os
 tape : G'.w0.tape = G.w0.tape
 output : G'.w0.output = G.w0.output
 φ0 : ∀ b i v, G.φ0 b i = some v → G'.φ0 b i = some v
 grow : ∀ b i v, G'.φ0 b i = some v → G.φ0 b i = some v ∨ ¬ G.K b
 fixed : ∀ o, G.fn.F.elem o = true → G'.β0 o = G.β0 o
 marks : ∃ ms : List Nat, G'.ds = ms.map (fun D => { target := .collected D, args := #[] }) ++ G.ds ∧ ms.Nodup ∧ ∀ D ∈ ms, G'.K D ∧ ¬ G.K D ∧ G'.w0.heap[D]? = some (.deferred (some []))
theorem Ext.refl (G : Ctx) : Ext G G := ⟨rfl, fun _ h => h, fun _ _ => rfl, Nat.le_refl _, rfl, rfl, rfl, fun _ _ _ h => h, fun _ _ _ h => .inl h, fun _ _ => rfl, [], rfl, List.nodup_nil, fun _ h => by cases h⟩
theorem Ext.trans {A B C : Ctx} (h : Ext A B) (k : Ext B C) : Ext A C := by
 obtain ⟨ms, h1, h2, h3⟩ := h.marks
 obtain ⟨ns, k1, k2, k3⟩ := k.marks
 refine ⟨k.fn.trans h.fn, fun b hb => k.K b (h.K b hb), fun b hb => (k.au b (h.K b hb)).trans (h.au b hb), Nat.le_trans h.size k.size, k.os.trans h.os, k.tape.trans h.tape, k.output.trans h.output, fun b i v hv => k.φ0 b i v (h.φ0 b i v hv), fun b i v hv => ?_,
  fun o ho => (k.fixed o (by rw [h.fn]; exact ho)).trans (h.fixed o ho), ns ++ ms, ?_, ?_, ?_⟩
 ·rcases k.grow b i v hv with h4 | h4
  ·exact h.grow b i v h4
  ·exact .inr (fun hb => h4 (h.K b hb))
 ·rw [k1, h1, List.map_append, List.append_assoc]
 ·refine List.nodup_append.2 ⟨k2, h2, fun a ha b hb e => ?_⟩
  subst e
  exact (k3 a ha).2.1 (h3 a hb).1
 ·intro D hD
  rcases List.mem_append.1 hD with hD | hD
  ·obtain ⟨a, b, c⟩ := k3 D hD
   exact ⟨a, fun hk => b (h.K D hk), c⟩
  ·obtain ⟨a, b, c⟩ := h3 D hD
   exact ⟨k.K D a, b, (k.au D a).trans c⟩
def FZ (G : Ctx) (Q : Exit → St → Prop) (e : Exit) (a : Act) (w : World) : Prop := ∃ G', Ext G G' ∧ jC G' Q e a w
def ly (P : Program) (N : dJ) (c : Code) (st : St) (Q : Exit → St → Prop) : Prop :=
 ∀ G : Ctx, G.fn = N → ∀ a w, bO G st a w → c.wp P (FZ G Q) a w
section
variable {P : Program} {N : dJ} {st aQ : St} {Q Q' : Exit → St → Prop} {id : Nat} {x y c : Code}
theorem ly.of (h : ah P N c st Q) : ly P N c st Q := fun G hn a w hh => wp_mono (h G hn a w hh) fun _ _ _ hp => ⟨G, .refl G, hp⟩
theorem ly.le (hl : Le st aQ) (h : ly P N c aQ Q) : ly P N c st Q := fun G hn a w hh => h G hn a w (hl.holds hh)
theorem ly.sh (h : Sh N st aQ) (k : ly P N c aQ Q) : ly P N c st Q := fun G hn a w hh => k G hn a w (h G hn a w hh)
theorem ly.seq (h : ly P N x st (iU (fun aQ => ly P N y aQ Q) Q)) : ly P N (.seq x y) st Q := by
 intro G hn a w hh
 refine wp_seq (wp_mono (h G hn a w hh) ?_)
 rintro e a' w' ⟨G', hx, aQ, fI, hq⟩
 cases e with
 | normal => exact wp_mono (hq G' (hx.fn.trans hn) a' w' fI) fun _ _ _ ⟨NM, im, hp⟩ => ⟨NM, hx.trans im, hp⟩
 | _ => exact ⟨G', hx, aQ, fI, hq⟩
theorem ly.block (h : ly P N c st (kr id Q)) : ly P N (.block id c) st Q := by
 intro G hn a w hh
 refine wp_block (wp_mono (h G hn a w hh) ?_)
 rintro e a' w' ⟨G', hx, aQ, fI, hq⟩
 cases e with
 | exit id' =>
  simp only [kr] at hq
  simp only [Exit.inBlock]
  cases hb : Nat.beq id' id with
  | true =>
   rw [hb] at hq
   rw [if_pos (Nat.eq_of_beq_eq_true hb)]
   exact ⟨G', hx, aQ, fI, hq⟩
  | false =>
   rw [hb] at hq
   rw [if_neg (Nat.ne_of_beq_eq_false hb)]
   exact ⟨G', hx, aQ, fI, hq⟩
 | _ => exact ⟨G', hx, aQ, fI, hq⟩
end
end Go.AW
namespace Go.AW
open Go Go.RowKit
structure zF (ν : List Nat) (ob : Obj) : Prop where
 plain : ob.plain
 NN : iy ob
 ng : ob ≠ .gone
 cY : ∀ xs, ob = .cells xs → ∀ q, X.cq q xs = true → q ∈ ν
section
variable {P : Program} {N : dJ} {st : St} {Q : Exit → St → Prop}
end
end Go.AW
namespace Go.AW
open Go
section
variable {P : Program} {Y : oN P} {N : dJ} {s : lx} {Q : Exit → lx → Prop}
theorem bd.nU {x y : Code} (J : lx) (I : Prop) (hx : bd P Y N x s (jB (fun aQ => I ∧ qN aQ J) Q)) (hy : I → bd P Y N y J Q) : bd P Y N (.seq x y) s Q :=
 bd.join (fun _ : Unit => J) (fun _ => I) (hx.mono fun e _ h => by cases e <;> first | exact ⟨(), h⟩ | exact h) (fun _ h => hy h)
theorem bd.j7 {α0 : Type} {c : Code} (S : α0 → lx) (I : α0 → Prop) (μ : α0 → Nat) (i0 : α0) (hi : I i0) (hs : qN s (S i0))
  (round : ∀ a0, I a0 → bd P Y N c (S a0) (jB (fun aQ => ∃ b0, I b0 ∧ μ b0 < μ a0 ∧ qN aQ (S b0)) Q)) : bd P Y N (.loop c) s Q :=
 bd.loop (ι := α0) (fun u => S u) (fun u => I u) (fun u => μ u) i0 hi hs (fun u h => (round u h).mono fun e _ h => by
  cases e <;> first | exact h | (obtain ⟨b0, h⟩ := h; exact ⟨b0, h⟩))
theorem bd.iA {α0 : Type} {x y : Code} (J : α0 → lx) (I : α0 → Prop) (hx : bd P Y N x s (jB (fun aQ => ∃ b0, I b0 ∧ qN aQ (J b0)) Q)) (hy : ∀ a0, I a0 → bd P Y N y (J a0) Q) : bd P Y N (.seq x y) s Q :=
 bd.join (ι := α0) (fun u => J u) (fun u => I u) (hx.mono fun e _ h => by cases e <;> first | exact h | (obtain ⟨b0, h⟩ := h; exact ⟨b0, h⟩)) (fun u h => hy u h)
theorem bd.kJ {α0 α1 : Type} {c : Code} (S : α0 → α1 → lx) (I : α0 → α1 → Prop) (μ : α0 → α1 → Nat) (i0 : α0) (i1 : α1) (hi : I i0 i1) (hs : qN s (S i0 i1))
  (round : ∀ a0 a1, I a0 a1 → bd P Y N c (S a0 a1) (jB (fun aQ => ∃ b0 b1, I b0 b1 ∧ μ b0 b1 < μ a0 a1 ∧ qN aQ (S b0 b1)) Q)) : bd P Y N (.loop c) s Q :=
 bd.loop (ι := α0 × α1) (fun u => S u.1 u.2) (fun u => I u.1 u.2) (fun u => μ u.1 u.2) (i0, i1) hi hs (fun u h => (round u.1 u.2 h).mono fun e _ h => by
  cases e <;> first | exact h | (obtain ⟨b0, b1, h⟩ := h; exact ⟨(b0, b1), h⟩))
theorem bd.lI {α0 α1 : Type} {x y : Code} (J : α0 → α1 → lx) (I : α0 → α1 → Prop) (hx : bd P Y N x s (jB (fun aQ => ∃ b0 b1, I b0 b1 ∧ qN aQ (J b0 b1)) Q)) (hy : ∀ a0 a1, I a0 a1 → bd P Y N y (J a0 a1) Q) : bd P Y N (.seq x y) s Q :=
 bd.join (ι := α0 × α1) (fun u => J u.1 u.2) (fun u => I u.1 u.2) (hx.mono fun e _ h => by cases e <;> first | exact h | (obtain ⟨b0, b1, h⟩ := h; exact ⟨(b0, b1), h⟩)) (fun u h => hy u.1 u.2 h)
theorem bd.eS {α0 α1 α2 : Type} {c : Code} (S : α0 → α1 → α2 → lx) (I : α0 → α1 → α2 → Prop) (μ : α0 → α1 → α2 → Nat) (i0 : α0) (i1 : α1) (i2 : α2) (hi : I i0 i1 i2) (hs : qN s (S i0 i1 i2))
  (round : ∀ a0 a1 a2, I a0 a1 a2 → bd P Y N c (S a0 a1 a2) (jB (fun aQ => ∃ b0 b1 b2, I b0 b1 b2 ∧ μ b0 b1 b2 < μ a0 a1 a2 ∧ qN aQ (S b0 b1 b2)) Q)) : bd P Y N (.loop c) s Q :=
 bd.loop (ι := α0 × α1 × α2) (fun u => S u.1 u.2.1 u.2.2) (fun u => I u.1 u.2.1 u.2.2) (fun u => μ u.1 u.2.1 u.2.2) (i0, i1, i2) hi hs (fun u h => (round u.1 u.2.1 u.2.2 h).mono fun e _ h => by
  cases e <;> first | exact h | (obtain ⟨b0, b1, b2, h⟩ := h; exact ⟨(b0, b1, b2), h⟩))
theorem bd.Ah {α0 α1 α2 : Type} {x y : Code} (J : α0 → α1 → α2 → lx) (I : α0 → α1 → α2 → Prop) (hx : bd P Y N x s (jB (fun aQ => ∃ b0 b1 b2, I b0 b1 b2 ∧ qN aQ (J b0 b1 b2)) Q)) (hy : ∀ a0 a1 a2, I a0 a1 a2 → bd P Y N y (J a0 a1 a2) Q) : bd P Y N (.seq x y) s Q :=
 bd.join (ι := α0 × α1 × α2) (fun u => J u.1 u.2.1 u.2.2) (fun u => I u.1 u.2.1 u.2.2) (hx.mono fun e _ h => by cases e <;> first | exact h | (obtain ⟨b0, b1, b2, h⟩ := h; exact ⟨(b0, b1, b2), h⟩)) (fun u h => hy u.1 u.2.1 u.2.2 h)
theorem bd.Ai {α0 α1 α2 α3 : Type} {c : Code} (S : α0 → α1 → α2 → α3 → lx) (I : α0 → α1 → α2 → α3 → Prop) (μ : α0 → α1 → α2 → α3 → Nat) (i0 : α0) (i1 : α1) (i2 : α2) (i3 : α3) (hi : I i0 i1 i2 i3) (hs : qN s (S i0 i1 i2 i3))
  (round : ∀ a0 a1 a2 a3, I a0 a1 a2 a3 → bd P Y N c (S a0 a1 a2 a3) (jB (fun aQ => ∃ b0 b1 b2 b3, I b0 b1 b2 b3 ∧ μ b0 b1 b2 b3 < μ a0 a1 a2 a3 ∧ qN aQ (S b0 b1 b2 b3)) Q)) : bd P Y N (.loop c) s Q :=
 bd.loop (ι := α0 × α1 × α2 × α3) (fun u => S u.1 u.2.1 u.2.2.1 u.2.2.2) (fun u => I u.1 u.2.1 u.2.2.1 u.2.2.2) (fun u => μ u.1 u.2.1 u.2.2.1 u.2.2.2) (i0, i1, i2, i3) hi hs (fun u h => (round u.1 u.2.1 u.2.2.1 u.2.2.2 h).mono fun e _ h => by
  cases e <;> first | exact h | (obtain ⟨b0, b1, b2, b3, h⟩ := h; exact ⟨(b0, b1, b2, b3), h⟩))
theorem bd.Aj {α0 α1 α2 α3 : Type} {x y : Code} (J : α0 → α1 → α2 → α3 → lx) (I : α0 → α1 → α2 → α3 → Prop) (hx : bd P Y N x s (jB (fun aQ => ∃ b0 b1 b2 b3, I b0 b1 b2 b3 ∧ qN aQ (J b0 b1 b2 b3)) Q)) (hy : ∀ a0 a1 a2 a3, I a0 a1 a2 a3 → bd P Y N y (J a0 a1 a2 a3) Q) : bd P Y N (.seq x y) s Q :=
 bd.join (ι := α0 × α1 × α2 × α3) (fun u => J u.1 u.2.1 u.2.2.1 u.2.2.2) (fun u => I u.1 u.2.1 u.2.2.1 u.2.2.2) (hx.mono fun e _ h => by cases e <;> first | exact h | (obtain ⟨b0, b1, b2, b3, h⟩ := h; exact ⟨(b0, b1, b2, b3), h⟩)) (fun u h => hy u.1 u.2.1 u.2.2.1 u.2.2.2 h)
end
mutual
theorem zG {q : Nat} : ∀ {x : X}, x.nr = true → x.cY q = false
 | .v _, _ | .no, _ | .fz .., _ | .cX .., _ | .fp .., _ => rfl
 | .ptr .., h => by cases h
 | .aR .., h => by cases h
 | .mref _, h => by cases h
 | .agg xs, h => gO (xs := xs) h
 | .tup xs, h => gO (xs := xs) h
 | .fH _ a b, h => by
  simp only [X.nr, Bool.and_eq_true] at h
  simp only [X.cY, gO h.1, gO h.2, Bool.or_self]
theorem gO {q : Nat} : ∀ {xs : List X}, X.eU xs = true → X.cq q xs = false
 | [], _ => rfl
 | x :: r, h => by
  simp only [X.eU, Bool.and_eq_true] at h
  simp only [X.cq, zG h.1, gO h.2, Bool.or_self]
end
theorem zF.cells {ν : List Nat} {xs : List X} (hp : X.gv xs) (hn : X.eU xs = true) : zF ν (.cells xs) :=
 ⟨hp, trivial, by simp, fun ys e q h => by cases e; rw [gO hn] at h; cases h⟩
theorem zF.rows {ν : List Nat} {s : Nat} {rs : List (List X)} (hp : X.my rs) (h0 : ∀ r ∈ rs, X.aW r = true) : zF ν (.rows s rs) := ⟨hp, h0, by simp, fun ys e => by cases e⟩
end Go.AW
