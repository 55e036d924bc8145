/- Part of the abstract walk: slices.Grow of no slice. -/
import Derived.Test.YtlimckldnjmabaaAWx1
import Derived.Lib.AppendZeros
import Derived.Lib.SliceRun
import Derived.KernelRfl
import Derived.Laws.StructEq
import Derived.DataShut
import Derived.OrdersHeld
import Derived.RangeFuncLeaves
import Derived.RangeFuncSeq
import Derived.RangeFuncCalls
import Derived.TacticsIn
import Derived.OrdersIn
set_option linter.unusedSimpArgs false
set_option linter.unusedVariables false
set_option linter.unusedSectionVars false
namespace Go.AW
open Go
section
variable {P : Program} {N : eg} {G : Ctx} {E : Env} {RR : Own → List Nat} {st : St} {a : Act} {Q : Exit → St → Prop} {all : Array Oper} {rest : List Oper} {d : Nat} {dst : Option Nat} {ty : TypeId} {pos : String} {af : Array Edge} {g : Option (Nat × Bool)}
theorem Y.qi {t e s cE : Nat} {x : Operand} (ht : TY.slice P t = some (e, s, cE)) (hx : bw st x = some (.v (.slice none 0 0))) :
  Yields P N st ⟨dst, .call ⟨.builtin .cap, #[x], #[t]⟩, ty, pos, af, g⟩ (.v (.int .i64 0)) := by
 intro G E RR a _ hi
 refine ⟨.int .i64 0, gj ?_, by simp [RX]⟩
 obtain ⟨hu, _⟩ := TY.cI ht
 have hc := hi.val hx
 simp [builtin, Builtin.cap_, hc, run_underlying hu, goInt]
theorem Y.wa {t e s cE : Nat} {x : Operand} {lo gy : Option Operand} (ht : TY.slice P t = some (e, s, cE)) (hx : bw st x = some (.v (.slice none 0 0))) (hl : Bd st lo 0 0) (hh : Bd st gy 0 0) :
  Yields P N st ⟨dst, .slice t x lo gy none, ty, pos, af, g⟩ (.v (.slice none 0 0)) := by
 intro G E RR a _ hi
 obtain ⟨wA, i, fU, ez, _⟩ := TY.cI ht
 have hc := hi.val hx
 refine ⟨.slice none 0 0, ?_, by simp [RX]⟩
 show (do let z ← Instr.sliceAt t (a.eval x) (lo.map a.eval) (gy.map a.eval) none; pure (Next.value z) : Sem Next).run P E.w = _
 rw [hc]
 refine cT ?_
 simp only [Instr.sliceAt, Sem.run_bind, run_underlying wA, Result.andThen_ok, Instr.slice, gb hi hl hh (Nat.le_refl 0) (Nat.le_refl 0), run_sizeOf fU, ez]
 rfl
theorem aa.vr {t tn e s cE n : Nat} {x y : Operand} {z : List Value} {k kn : IntKind} (ht : TY.slice P t = some (e, s, cE)) (hz : TY.zero P e = some z) (oP : z.length = s) (h1 : X.ry (z.map X.v) = true) (OQ : TY.isInt P tn = some kn)
  (hx : bw st x = some (.v (.slice none 0 0))) (hy : bw st y = some (.v (.int k (n : Int)))) (h0 : 0 < n) (Kh : 0 < s) (hb : n * cE ≤ 281474976710656) (Qm : n ≤ 9223372036854775807) (hd : d < N.n)
  (kk : aa P N all rest (st.put d (.cX s (List.replicate n (z.map X.v)))) Q) : aa P N all (⟨some d, .call ⟨.builtin .append, #[x, y], #[t, tn]⟩, ty, pos, af, none⟩ :: rest) st Q := by
 refine aa.yD (fun G E RR a hn hi => ?_) kk
 obtain ⟨hu, i, fU, hs, BN⟩ := TY.cI ht
 obtain ⟨i', z0, nj, yq, yr⟩ := TY.eV hz
 rw [fU] at nj
 obtain rfl := Option.some.inj nj
 have tr : z0.cells = z.toArray := by rw [← yr]
 have gS := Lib.run_append_nil_zeros (P := P) E.w t tn ty e i z0 k kn hu (by unfold TY.isInt at OQ; split at OQ <;> simp_all : P.underlying tn = some (.int kn)) fU yq n h0 (by rw [hs]; exact Kh) om (by rw [BN]; exact hb)
 rw [tr] at gS
 have hU : bJ s (List.replicate n (z.map X.v)) := by
  intro r hr
  rw [(List.mem_replicate.1 hr).2]; simpa using oP
 have kY := hi.wC (cz.drew G E) rfl
 have lv := grownCap_ge E.w n 0 e
 have ez : (Builtin.zeroCells z.toArray n ++ Builtin.zeroCells z.toArray (grownCap E.w n 0 e - n)).size = grownCap E.w n 0 e * s := by
  rw [Array.size_append, size_zeroCells, size_zeroCells, ← Nat.add_mul]
  simp only [List.size_toArray, oP]
  congr 1; omega
 obtain ⟨fe, gy⟩ := kY.newRow (cs := Builtin.zeroCells z.toArray n ++ Builtin.zeroCells z.toArray (grownCap E.w n 0 e - n)) (e := e) (s := s) (cap := grownCap E.w n 0 e) (d := d) hU (by rw [List.length_replicate]; exact lv) (by rw [ez]; exact Nat.le_refl _) (by
  refine bX.vb hU fun j row hr => ?_
  have hj : j < n := by
   rcases Nat.lt_or_ge j n with h' | h'
   ·exact h'
   ·rw [List.getElem?_eq_none (by rw [List.length_replicate]; exact h')] at hr; cases hr
  have : row = z.map X.v := by
   have := List.mem_of_getElem? hr
   exact (List.mem_replicate.1 this).2
  subst this
  refine ⟨yC z, bt.EB (rG h1) fun q hq => ?_⟩
  have BO : q < s := by simpa [oP] using hq
  have gM : j * s + q < n * s := by
   have : (j + 1) * s ≤ n * s := Nat.mul_le_mul_right s hj
   rw [Nat.add_mul] at this; omega
  have EC : q < z.length := by omega
  rw [Array.getElem?_append_left (by rw [size_zeroCells]; simp only [List.size_toArray, oP]; omega)]
  simp only [Nat.zero_add, Builtin.zeroCells]
  rw [Array.getElem?_map, Array.getElem?_range, if_pos (by simpa [oP] using gM)]
  simp only [Option.map_some, List.size_toArray, oP, yE BO]
  rw [List.getElem?_eq_getElem EC]
  simp [EC]) (by rw [hn]; exact hd)
 simp only [List.length_replicate] at gy
 refine ⟨_, _, _, ?_, gy⟩
 refine gj (g := none) ?_
 have e' : (#[x, y] : Array Operand).map a.eval = #[.slice none 0 0, .int k (n : Int)] := by simp [hi.val hx, hi.val hy]
 rw [e']
 exact cT gS
theorem Sh.DO {d o s lo n : Nat} {rs : List (List X)} (rN : List (List X)) (hx : look st.aA d = some (.aY o s lo n)) (ho : look st.aC o = some (.rows s rs)) (mJ : lo + n ≤ rs.length) (he : (rs.drop lo).take n = rN) (hF : N.F.elem o = false) :
  Sh N st (((st.kill o).dO o (.rows s rN)).put d (.aY o s 0 n)) := by subst he; exact Sh.trim hx ho mJ hF
end
end Go.AW
namespace Go.AW
open Go
theorem X.wO : ∀ {xs : List X} (k : Nat), X.ga xs = true → X.ga (xs.set k .no) = true
 | [], _, _ => rfl
 | x :: r, 0, h => by
  simp only [X.ga, Bool.and_eq_true] at h
  simp [List.set, X.ga, X.nr, h.2]
 | x :: r, k + 1, h => by
  simp only [X.ga, Bool.and_eq_true] at h
  simp [List.set, X.ga, h.1, X.wO k h.2]
theorem RO.pick {E : Env} {cs : Array Value} {y : X} : ∀ {xs : List X} {off k : Nat} {R : List Nat}, RO E xs cs off R → xs[k]? = some y →
  ∃ u Ry R1, cs[off + k]? = some u ∧ iE u ∧ RX E y u Ry ∧ RO E (xs.set k .no) cs off R1 ∧ (R.Nodup → (Ry ++ R1).Nodup) ∧ ∀ b ∈ Ry ++ R1, b ∈ R
 | [], _, _, _, _, h => by simp at h
 | x :: r, off, 0, R, h, hy => by
  simp only [RO] at h
  obtain ⟨u, R₁, R₂, hu, hs, h1, h2, rfl⟩ := h
  simp only [List.getElem?_cons_zero, Option.some.injEq] at hy
  subst hy
  refine ⟨u, R₁, R₂, hu, hs, h1, ?_, fun h => h, fun b hb => hb⟩
  simp only [List.set, RO]
  exact ⟨u, [], R₂, hu, hs, by simp [RX], h2, rfl⟩
 | x :: r, off, k + 1, R, h, hy => by
  simp only [RO] at h
  obtain ⟨u, R₁, R₂, hu, hs, h1, h2, rfl⟩ := h
  simp only [List.getElem?_cons_succ] at hy
  obtain ⟨v, Ry, R', hv, QI, BA, vd, jA, cP⟩ := RO.pick h2 hy
  refine ⟨v, Ry, R₁ ++ R', by rw [show off + (k + 1) = off + 1 + k by omega]; exact hv, QI, BA, ?_, fun hn => ?_, fun b hb => ?_⟩
  ·simp only [List.set, RO]
   exact ⟨u, R₁, R', hu, hs, h1, vd, rfl⟩
  ·obtain ⟨n1, n2, n3⟩ := List.nodup_append.1 hn
   have h3 := jA n2
   rw [← List.append_assoc, List.nodup_append]
   obtain ⟨m1, m2, m3⟩ := List.nodup_append.1 h3
   refine ⟨?_, m2, fun a ha b hb => ?_⟩
   ·rw [List.nodup_append]
    exact ⟨m1, n1, fun a ha b hb e => n3 b hb a (cP a (List.mem_append.2 (.inl ha))) e.symm⟩
   ·rcases List.mem_append.1 ha with h | h
    ·exact m3 a h b hb
    ·exact n3 a h b (cP b (List.mem_append.2 (.inr hb)))
  ·rcases List.mem_append.1 hb with h | h
   ·exact List.mem_append.2 (.inr (cP b (List.mem_append.2 (.inl h))))
   ·rcases List.mem_append.1 h with h | h
    ·exact List.mem_append.2 (.inl h)
    ·exact List.mem_append.2 (.inr (cP b (List.mem_append.2 (.inr h))))
theorem bX.pick {E : Env} {cs : Array Value} {y : X} {s : Nat} : ∀ {rs : List (List X)} {row : List X} {off i k : Nat} {R : List Nat}, bJ s rs → bX E rs cs off R → rs[i]? = some row → row[k]? = some y →
  ∃ u Ry R1, cs[off + (i * s + k)]? = some u ∧ iE u ∧ RX E y u Ry ∧ bX E (rs.set i (row.set k .no)) cs off R1 ∧ (R.Nodup → (Ry ++ R1).Nodup) ∧ ∀ b ∈ Ry ++ R1, b ∈ R
 | [], _, _, _, _, _, _, _, h, _ => by simp at h
 | r :: rs, row, off, 0, k, R, _, h, hr, hy => by
  simp only [bX] at h
  obtain ⟨R₁, R₂, hn, h1, h2, rfl⟩ := h
  simp only [List.getElem?_cons_zero, Option.some.injEq] at hr
  subst hr
  obtain ⟨u, Ry, R', hu, hs, BA, vd, jA, cP⟩ := RO.pick h1 hy
  refine ⟨u, Ry, R' ++ R₂, by rw [Nat.zero_mul, Nat.zero_add]; exact hu, hs, BA, ?_, fun pF => ?_, fun b hb => ?_⟩
  ·simp only [List.set, bX, List.length_set]
   exact ⟨R', R₂, X.wO k hn, vd, h2, rfl⟩
  ·obtain ⟨n1, n2, n3⟩ := List.nodup_append.1 pF
   rw [← List.append_assoc, List.nodup_append]
   exact ⟨jA n1, n2, fun a ha b hb => n3 a (cP a ha) b hb⟩
  ·rw [← List.append_assoc] at hb
   rcases List.mem_append.1 hb with h | h
   ·exact List.mem_append.2 (.inl (cP b h))
   ·exact List.mem_append.2 (.inr h)
 | r :: rs, row, off, i + 1, k, R, hU, h, hr, hy => by
  simp only [bX] at h
  obtain ⟨R₁, R₂, hn, h1, h2, rfl⟩ := h
  simp only [List.getElem?_cons_succ] at hr
  have hl : r.length = s := hU r (List.mem_cons_self ..)
  obtain ⟨u, Ry, R', hu, hs, BA, vd, jA, cP⟩ := bX.pick (fun x hx => hU x (List.mem_cons_of_mem _ hx)) h2 hr hy
  refine ⟨u, Ry, R₁ ++ R', by rw [show off + ((i + 1) * s + k) = off + r.length + (i * s + k) by rw [Nat.add_mul, hl]; omega]; exact hu, hs, BA, ?_, fun pF => ?_, fun b hb => ?_⟩
  ·simp only [List.set, bX]
   exact ⟨R₁, R', hn, h1, vd, rfl⟩
  ·obtain ⟨n1, n2, n3⟩ := List.nodup_append.1 pF
   have h3 := jA n2
   rw [← List.append_assoc, List.nodup_append]
   obtain ⟨m1, m2, m3⟩ := List.nodup_append.1 h3
   refine ⟨?_, m2, fun a ha b hb => ?_⟩
   ·rw [List.nodup_append]
    exact ⟨m1, n1, fun a ha b hb e => n3 b hb a (cP a (List.mem_append.2 (.inl ha))) e.symm⟩
   ·rcases List.mem_append.1 ha with h | h
    ·exact m3 a h b hb
    ·exact n3 a h b (cP b (List.mem_append.2 (.inr hb)))
  ·rcases List.mem_append.1 hb with h | h
   ·exact List.mem_append.2 (.inr (cP b (List.mem_append.2 (.inl h))))
   ·rcases List.mem_append.1 h with h | h
    ·exact List.mem_append.2 (.inl h)
    ·exact List.mem_append.2 (.inr (cP b (List.mem_append.2 (.inr h))))
section
variable {P : Program} {N : eg} {st : St} {Q : Exit → St → Prop} {all : Array Oper} {rest : List Oper} {d : Nat} {ty : TypeId} {pos : String} {af : Array Edge}
theorem aa.HW {t : TypeId} {x : Operand} {o s i k : Nat} {y : X} {row : List X} {rs : List (List X)} (rN : List (List X)) (ht : TY.shape P t = some none) (hx : bw st x = some (.ptr o s i k)) (ho : look st.aC o = some (.rows s rs)) (hr : rs[i]? = some row) (hy : row[k]? = some y)
  (he : rs.set i (row.set k .no) = rN) (hd : d < N.n) (kk : aa P N all rest ((st.dO o (.rows s rN)).put d y) Q) :
  aa P N all (⟨some d, .load t x, ty, pos, af, none⟩ :: rest) st Q := by
 subst he
 refine aa.yD (fun G E RR a hn hi => ?_) kk
 obtain ⟨R, hp⟩ := hi.eval hx
 simp only [RX] at hp
 obtain ⟨_, B, hB, hc⟩ := hp
 have aS := hi.aC o _ ho
 have jA := hi.nodup (.obj o)
 simp only [dN] at aS
 obtain ⟨hu, aS⟩ := aS
 rcases aS with ⟨_, h, _⟩ | ⟨B', cs, tb, R', im, hw, hφ, lv, hlen, j4, iH⟩
 ·subst h; simp at hr
 rw [hB] at im
 obtain rfl := Option.some.inj im
 obtain ⟨u, Ry, R1, DP, hs, BA, vd, Lx, cP⟩ := bX.pick hu j4 hr hy
 rw [iH] at jA
 obtain ⟨tw, lz⟩ := List.nodup_cons.1 jA
 have KN := Lx lz
 obtain ⟨m1, m2, m3⟩ := List.nodup_append.1 KN
 have DQ : ∀ b ∈ Ry ++ R1, b ∈ RR (.obj o) := fun b hb => by rw [iH]; exact List.mem_cons.2 (.inr (cP b hb))
 have kY : Inv G E (eZ RR (.obj o) (B.b :: R1)) (st.dO o (.rows s (rs.set i (row.set k .no)))) a := by
  refine hi.dO ?_ ?_ ?_
  ·simp only [dN]
   refine ⟨hu.set (by rw [List.length_set]; exact hu row (List.mem_of_getElem? hr)), .inr ⟨B, cs, tb, R1, hB, hw, hφ, by simpa using lv, hlen, vd, rfl⟩⟩
  ·exact List.nodup_cons.2 ⟨fun h => tw (cP _ (List.mem_append.2 (.inr h))), m2⟩
  ·intro b hb
   have lu : b ∈ RR (.obj o) := by
    rcases List.mem_cons.1 hb with h | h
    ·rw [iH, h]; simp
    ·exact DQ b (List.mem_append.2 (.inr h))
   exact ⟨(hi.own _ _ lu).1, (hi.own _ _ lu).2, fun p hp h => hi.apart _ _ hp b h lu⟩
 refine ⟨u, E, _, ?_, kY.put (by rw [hn]; exact hd) BA m1 fun b hb => ?_⟩
 ·show (do let z ← Instr.loadAt t (a.eval x); pure (Next.value z) : Sem Next).run P E.w = _
  rw [hc]
  refine cT ?_
  have g8 : E.w.cell? ⟨B.b, B.off + (i * s + k), none⟩ = some u := by rw [cy hw]; exact DP
  simp only [Instr.loadAt, Instr.sureAddr, loadVar, Sem.run_bind, Sem.run_pure, Result.andThen_ok, (TY.jm ht E.w).1]
  simp [g8]
 ·have lu := DQ b (List.mem_append.2 (.inl hb))
  refine ⟨(hi.own _ _ lu).1, (hi.own _ _ lu).2, fun p hp h => ?_⟩
  unfold eZ at h
  split at h
  ·rename_i OR
   rcases List.mem_cons.1 h with h' | h'
   ·exact tw (h' ▸ cP b (List.mem_append.2 (.inl hb)))
   ·exact m3 b hb b h' rfl
  ·rename_i OR
   exact hi.apart _ _ OR b h lu
theorem aa.Ci {t : TypeId} {x : Operand} {o s i k GI tv : Nat} {rows : List (List X)} {BQ : List X} {rs : List (List X)} (rN : List (List X)) (ht : TY.size P t = some 1) (hx : bw st x = some (.ptr o s i k)) (hy : look st.aA tv = some (.cX GI rows))
  (ho : look st.aC o = some (.rows s rs)) (hr : rs[i]? = some BQ) (hk : k + 1 ≤ BQ.length) (he : rs.set i (iR BQ k [.cX GI rows]) = rN) (kk : aa P N all rest ((st.put tv .no).dO o (.rows s rN)) Q) :
  aa P N all (⟨none, .store t x (.tmp tv), ty, pos, af, none⟩ :: rest) st Q := by
 subst he; exact aa.EF ht hx hy (row := []) rfl ho hr hk kk
end
end Go.AW
namespace Go.AW
open Go
theorem RO.Cj {E : Env} {cs : Array Value} {e off : Nat} {R : List Nat} (h : RO E [.v (.slice none 0 0)] cs off R) : RO E [.cX e []] cs off R := by
 simp only [RO] at h ⊢
 obtain ⟨u, R₁, R₂, hu, hs, h1, h2, h3⟩ := h
 simp only [RX] at h1
 refine ⟨u, R₁, R₂, hu, hs, ?_, h2, h3⟩
 simp only [RX]
 exact ⟨fun _ h => (by cases h), none, 0, h1.1, .inl ⟨by trivial, by trivial, h1.2⟩⟩
theorem bX.Cj {E : Env} {cs : Array Value} {e : Nat} : ∀ {n off : Nat} {R : List Nat}, bX E (List.replicate n [.v (.slice none 0 0)]) cs off R → bX E (List.replicate n [.cX e []]) cs off R
 | 0, _, _, h => by simpa [bX] using h
 | n + 1, off, R, h => by
  simp only [List.replicate_succ, bX] at h ⊢
  obtain ⟨R₁, R₂, _, h1, h2, h3⟩ := h
  exact ⟨R₁, R₂, rfl, h1.Cj, bX.Cj h2, h3⟩
section
variable {N : eg} {st : St} {d : Nat}
theorem Sh.Ck (e : Nat) {n : Nat} (hx : look st.aA d = some (.cX 1 (List.replicate n [.v (.slice none 0 0)]))) : Sh N st (st.put d (.cX 1 (List.replicate n [.cX e []]))) := by
 intro G hn a w hh
 obtain ⟨E, RR, rfl, hi⟩ := hh
 have hv := hi.aA d _ hx
 refine ⟨E, _, rfl, hi.relabel (d := d) (R := RR (.slot d)) ?_ (hi.nodup _) (fun b hb => ⟨(hi.own _ _ hb).1, (hi.own _ _ hb).2, fun p hp h => hi.apart _ _ hp b h hb⟩)⟩
 simp only [RX] at hv ⊢
 obtain ⟨_, base, cap, hc, h⟩ := hv
 refine ⟨fun r hr => by rw [(List.mem_replicate.1 hr).2]; rfl, base, cap, by simpa using hc, ?_⟩
 rcases h with ⟨h1, h2, h3⟩ | ⟨b, off, cs, ty, R', h1, h2, h3, h4, h5, h6, h7⟩
 ·refine .inl ⟨?_, h2, h3⟩
  have : n = 0 := by simpa using congrArg List.length h1
  subst this; rfl
 ·exact .inr ⟨b, off, cs, ty, R', h1, h2, by simpa using h3, h4, h5, h6.Cj, h7⟩
end
theorem Cl {α : Type} {l : List α} {f : α → List X} {m : Nat} {r : List X} (h : m < l.length) : ((l.map f).set (0 + m) r)[0 + m]? = some r := by
 rw [Nat.zero_add, List.getElem?_set_self (by simpa using h)]
theorem z7 {α : Type} {l : List α} {f : α → List X} {m : Nat} {r q : List X} {v : α} (h : q = f v) : ((l.map f).set (0 + m) r).set (0 + m) q = (l.set m v).map f := by
 rw [Nat.zero_add, List.set_set, h, List.map_set]
theorem xG {α : Type} {l : List α} {f : α → List X} {m n : Nat} (h : n = l.length - m) : ((l.map f).drop (0 + m)).take n = (l.drop m).map f := by
 rw [Nat.zero_add, ← List.map_drop, List.take_of_length_le (by simp; omega)]
theorem X.pW {α : Type} {f g : α → List X} (h : ∀ a, X.j7 (f a) = g a) : ∀ l : List α, X.mQ (l.map f) = l.map g
 | [] => rfl
 | a :: r => by simp only [List.map_cons, X.mQ, h, X.pW h r]
theorem Sh.vt {α : Type} {f g : α → List X} {N : eg} {st : St} {d s : Nat} {l : List α} (h : ∀ a, X.j7 (f a) = g a) (hx : look st.aA d = some (.cX s (l.map f))) : Sh N st (st.put d (.fz s (l.map g))) :=
 Sh.Cd hx (by simp only [X.mP, X.pW h])
end Go.AW
namespace Go.AW
open Go
section
variable {P : Program} {N : eg} {st : St} {Q : Exit → St → Prop} {all : Array Oper} {rest : List Oper} {d : Nat} {ty : TypeId} {pos : String} {af : Array Edge}
theorem aa.DR {t t' e s cE : Nat} {x y : Operand} {s' : Nat} {rows : List (List X)} (ht : TY.slice P t = some (e, s, cE)) (hx : bw st x = some (.fz s' rows)) (hy : bw st y = some (.v (.slice none 0 0))) (hd : d < N.n)
  (k : ∀ b : Bool, (b = true → rows = []) → aa P N all rest (st.put d (.v (.bool b))) Q) : aa P N all (⟨some d, .binOp .eql t x y t', ty, pos, af, none⟩ :: rest) st Q := by
 intro G hn a w hh
 obtain ⟨E, RR, rfl, hi⟩ := hh
 obtain ⟨R, hp⟩ := hi.eval hx
 have QJ := hi.val hy
 obtain ⟨hu, _⟩ := TY.cI ht
 simp only [RX] at hp
 obtain ⟨_, hU, base, cap, hc, cJ⟩ := hp
 have hr : (execOp a.eval ⟨some d, .binOp .eql t x y t', ty, pos, af, none⟩).run P E.w = .ok (.value (.bool base.isNone)) E.w := by
  show (do let x ← (do eqGuard .eql t x y (a.eval x) (a.eval y); binOp .eql t (a.eval x) (a.eval y) : Sem Value); pure (Next.value x) : Sem Next).run P E.w = _
  rw [QJ, hc]
  refine cT ?_
  have := Lib.run_eql_slice_nil (P := P) E.w t e base rows.length cap 0 0 hu
  simp only [eqGuard, Sem.run_bind]
  simpa using this
 refine wpList_plain rfl fun K hK => ?_
 simp only [Oper.wp, hr, Oper.upon_value]
 refine hK _ _ (k base.isNone (fun h => ?_) G hn _ _ ⟨E, _, rfl, hi.fT (by rw [hn]; exact hd) (by simp [RX])⟩)
 rcases cJ with ⟨h1, _⟩ | ⟨b, off, h1, _⟩
 ·exact h1
 ·rw [h1] at h; cases h
theorem RO.o0 {E : Env} {cs : Array Value} {x y : X} (yy : ∀ c, RX E x c [] → RX E y c []) (hf : x.free = true) : ∀ {xs : List X} {off k : Nat} {R : List Nat}, RO E xs cs off R → xs[k]? = some x → RO E (xs.set k y) cs off R
 | [], _, _, _, _, h => by simp at h
 | z :: r, off, 0, R, h, hy => by
  simp only [RO] at h
  obtain ⟨u, R₁, R₂, hu, hs, h1, h2, rfl⟩ := h
  simp only [List.getElem?_cons_zero, Option.some.injEq] at hy
  subst hy
  have h0 := RX.free hf h1
  subst h0
  simp only [List.set, RO]
  exact ⟨u, [], R₂, hu, hs, yy u h1, h2, rfl⟩
 | z :: r, off, k + 1, R, h, hy => by
  simp only [RO] at h
  obtain ⟨u, R₁, R₂, hu, hs, h1, h2, rfl⟩ := h
  simp only [List.getElem?_cons_succ] at hy
  simp only [List.set, RO]
  exact ⟨u, R₁, R₂, hu, hs, h1, RO.o0 yy hf h2 hy, rfl⟩
theorem Sh.p4 (o q s k : Nat) {xs : List X} (ho : look (st.kill q).aC o = some (.cells xs)) (hk : xs[k]? = some (.v (.slice none 0 0))) (pw : X.bj (xs.set k (.aY q s 0 0)) = true) (QK : Nat.beq q o = false) (hF : N.F.elem q = false) :
  Sh N st (((st.kill q).dO q (.rows s [])).dO o (.cells (xs.set k (.aY q s 0 0)))) := by
 intro G hn a w hh
 obtain ⟨E, RR, rfl, hi⟩ := hh
 obtain ⟨E', fe, hw, h1, h2⟩ := hi.nil q s (by rw [hn]; exact hF)
 have aS := h1.aC o (.cells xs) (by simp only [St.dO, look, QK, cond_false]; exact ho)
 have Cm := aS
 simp only [dN] at Cm
 obtain ⟨_, B, cs, ty, hB, pf, hφ, ez, vd, hR⟩ := Cm
 refine ⟨E', _, hw, h1.dO (R := fe (.obj o)) ?_ (h1.nodup _) (fun b hb => ⟨(h1.own _ _ hb).1, (h1.own _ _ hb).2, fun p hp h => h1.apart _ _ hp b h hb⟩)⟩
 simp only [dN]
 refine ⟨pw, B, cs, ty, hB, pf, hφ, by rw [List.length_set]; exact ez, RO.o0 (x := .v (.slice none 0 0)) (fun c hc => ?_) rfl vd hk, hR⟩
 simp only [RX] at hc
 rw [hc.1]; exact h2
theorem bt.o0 {E : Env} {x y : X} (yy : ∀ c, RX E x c [] → RX E y c []) (hf : x.free = true) : ∀ {xs : List X} {k : Nat} {cs : List Value} {R : List Nat}, bt E xs cs R → xs[k]? = some x → bt E (xs.set k y) cs R
 | [], _, _, _, _, h => by simp at h
 | z :: r, 0, cs, R, h, hy => by
  simp only [bt] at h
  obtain ⟨c, cG, R₁, R₂, tt, hs, h1, h2, rfl⟩ := h
  simp only [List.getElem?_cons_zero, Option.some.injEq] at hy
  subst hy
  have h0 := RX.free hf h1
  subst h0
  simp only [List.set, bt]
  exact ⟨c, cG, [], R₂, tt, hs, yy c h1, h2, rfl⟩
 | z :: r, k + 1, cs, R, h, hy => by
  simp only [bt] at h
  obtain ⟨c, cG, R₁, R₂, tt, hs, h1, h2, rfl⟩ := h
  simp only [List.getElem?_cons_succ] at hy
  simp only [List.set, bt]
  exact ⟨c, cG, R₁, R₂, tt, hs, h1, bt.o0 yy hf h2 hy, rfl⟩
theorem Sh.OS (s k : Nat) {d : Nat} {xs : List X} (hx : look st.aA d = some (.agg xs)) (hk : xs[k]? = some (.v (.slice none 0 0))) : Sh N st (st.put d (.agg (xs.set k (.fz s [])))) := by
 intro G hn a w hh
 obtain ⟨E, RR, rfl, hi⟩ := hh
 have hv := hi.aA d _ hx
 refine ⟨E, _, rfl, hi.relabel (d := d) (R := RR (.slot d)) ?_ (hi.nodup _) (fun b hb => ⟨(hi.own _ _ hb).1, (hi.own _ _ hb).2, fun p hp h => hi.apart _ _ hp b h hb⟩)⟩
 simp only [RX] at hv ⊢
 obtain ⟨cs, hc, h⟩ := hv
 refine ⟨cs, hc, bt.o0 (x := .v (.slice none 0 0)) (fun c hc => ?_) rfl h hk⟩
 simp only [RX] at hc ⊢
 exact ⟨trivial, fun _ h => (by cases h), none, 0, hc.1, .inl ⟨by trivial, by trivial⟩⟩
theorem Sh.pX (o s k : Nat) {xs : List X} (ho : look st.aC o = some (.cells xs)) (hk : xs[k]? = some (.v (.slice none 0 0))) (pw : X.bj (xs.set k (.fz s [])) = true) :
  Sh N st (st.dO o (.cells (xs.set k (.fz s [])))) := by
 intro G hn a w hh
 obtain ⟨E, RR, rfl, hi⟩ := hh
 have aS := hi.aC o _ ho
 simp only [dN] at aS
 obtain ⟨_, B, cs, ty, hB, pf, hφ, ez, vd, hR⟩ := aS
 refine ⟨E, _, rfl, hi.dO (R := RR (.obj o)) ?_ (hi.nodup _) (fun b hb => ⟨(hi.own _ _ hb).1, (hi.own _ _ hb).2, fun p hp h => hi.apart _ _ hp b h hb⟩)⟩
 simp only [dN]
 refine ⟨pw, B, cs, ty, hB, pf, hφ, by rw [List.length_set]; exact ez, RO.o0 (x := .v (.slice none 0 0)) (fun c hc => ?_) rfl vd hk, hR⟩
 simp only [RX] at hc ⊢
 exact ⟨trivial, fun _ h => (by cases h), none, 0, hc.1, .inl ⟨by trivial, by trivial⟩⟩
end
end Go.AW
namespace Go.AW
open Go
section
variable {P : Program} {N : eg} {st : St} {Q : Exit → St → Prop} {all : Array Oper} {rest : List Oper} {d dd j : Nat} {want : Bool} {op : Op} {ty : TypeId} {pos : String} {af : Array Edge} {x : X} {u : Value}
theorem aa.vl (hy : Yields P N st ⟨some d, op, ty, pos, af, none⟩ x) (k : aa P N all rest (st.put d x) Q) (hd : d < N.n := by decide) : aa P N all (⟨some d, op, ty, pos, af, none⟩ :: rest) st Q := aa.val hy hd k
theorem aa.gs (d : Nat) (hj : (all[j]?).bind (·.dst) = some d) (hx : look st.aA d = some (.v u)) (fc : pP want u = true) (k : aa P N all rest (st.put dd (.v undef)) Q) (hd : d < N.n := by decide) (Ce : dd < N.n := by decide) :
  aa P N all (⟨some dd, op, ty, pos, af, some (j, want)⟩ :: rest) st Q := aa.aH hj hd Ce hx fc k
theorem ab.sr {id : Nat} {l : List Oper} {y : Code} (h : aa P N l.toArray l st (ka (fun bc => ab P N y bc Q) Q)) : ab P N (.seq (.region id l.toArray false) y) st Q := ab.seq (ab.region h)
variable {ops : Array Oper} {l0 rs l : List Nat} {t i dj : Nat} {ah : Array Bool} {K : Array Bool → St → Prop}
theorem AQ.cn (i : Nat) (ho : ops[i]? = some ⟨some d, op, ty, pos, af, none⟩) (hy : Yields P N st ⟨some d, op, ty, pos, af, none⟩ x) (k : AQ P N ops l0 rs t l (ah.setIfInBounds i true) (st.put d x) K)
  (hB : (Region.noSelect ops && Region.free .any ops ah i && (Region.ready .any ops ah).contains i) = true := by kernel_rfl) (hd : d < N.n := by decide) : AQ P N ops l0 rs t (i :: l) ah st K := AQ.cons ho hB hy hd k
theorem AQ.sk (i : Nat) (ho : ops[i]? = some ⟨some d, op, ty, pos, af, some (j, want)⟩) (hj : (ops[j]?).bind (·.dst) = some dj) (hx : look st.aA dj = some (.v u)) (fc : pP want u = true) (k : AQ P N ops l0 rs t l (ah.setIfInBounds i true) (st.put d (.v undef)) K)
  (hB : (Region.noSelect ops && Region.free .any ops ah i && (Region.ready .any ops ah).contains i) = true := by kernel_rfl) (r7 : dj < N.n := by decide) (hd : d < N.n := by decide) : AQ P N ops l0 rs t (i :: l) ah st K := AQ.skip ho hB hj r7 hd hx fc k
theorem AQ.rn (i : Nat) (ho : ops[i]? = some ⟨some d, op, ty, pos, af, some (j, want)⟩) (hj : (ops[j]?).bind (·.dst) = some dj) (hx : look st.aA dj = some (.v (.bool want))) (hy : Yields P N st ⟨some d, op, ty, pos, af, some (j, want)⟩ x) (k : AQ P N ops l0 rs t l (ah.setIfInBounds i true) (st.put d x) K)
  (hB : (Region.noSelect ops && Region.free .any ops ah i && (Region.ready .any ops ah).contains i) = true := by kernel_rfl) (r7 : dj < N.n := by decide) (hd : d < N.n := by decide) : AQ P N ops l0 rs t (i :: l) ah st K := AQ.run ho hB hj r7 hx hy hd k
end
section
variable {P : Program} {N : eg} {st : St} {Q : Exit → St → Prop} {all : Array Oper} {rest : List Oper} {d : Nat} {ty : TypeId} {pos : String} {af : Array Edge} {y p : X}
theorem aa.mv {x : Operand} (k : aa P N all rest (st.put d y) Q) (hx : bw st x = some y := by rfl) (hf : y.free = true := by rfl) (hd : d < N.n := by decide) : aa P N all (⟨some d, .move x, ty, pos, af, none⟩ :: rest) st Q := aa.val (Y.zf hx hf) hd k
theorem aa.an {x : Operand} (k : aa P N all rest (st.put d y) Q) (hx : bw st x = some y := by rfl) (hf : y.free = true := by rfl) (hd : d < N.n := by decide) : aa P N all (⟨some d, .assign x, ty, pos, af, none⟩ :: rest) st Q := aa.val (Y.qf hx hf) hd k
theorem aa.ld {t : TypeId} {x : Operand} {row : List X} (ht : TY.shape P t = some none) (k : aa P N all rest (st.put d y) Q) (hx : bw st x = some p := by rfl) (hr : rowAt st p = some row := by rfl) (hy : row[jZ p]? = some y := by rfl) (hf : y.free = true := by rfl) (hd : d < N.n := by decide) :
  aa P N all (⟨some d, .load t x, ty, pos, af, none⟩ :: rest) st Q := aa.val (Y.qz ht hx hr hy hf) hd k
end
section
variable {P : Program} {N : eg} {st : St} {Q : Exit → St → Prop} {all : Array Oper} {rest : List Oper} {d dd j : Nat} {want : Bool} {op : Op} {ty : TypeId} {pos : String} {af : Array Edge} {x y p q : X} {u : Value}
theorem aa.gw (d : Nat) (hy : Yields P N st ⟨some dd, op, ty, pos, af, some (j, want)⟩ x) (k : aa P N all rest (st.put dd x) Q) (hj : (all[j]?).bind (·.dst) = some d := by rfl) (hx : look st.aA d = some (.v (.bool want)) := by rfl) (hd : d < N.n := by decide) (Ce : dd < N.n := by decide) :
  aa P N all (⟨some dd, op, ty, pos, af, some (j, want)⟩ :: rest) st Q := aa.aQ hj hd hx (aa.val hy Ce k)
theorem aa.gz (d : Nat) (k : aa P N all rest (st.put dd (.v undef)) Q) (hj : (all[j]?).bind (·.dst) = some d := by rfl) (hx : look st.aA d = some (.v u) := by rfl) (fc : pP want u = true := by rfl) (hd : d < N.n := by decide) (Ce : dd < N.n := by decide) :
  aa P N all (⟨some dd, op, ty, pos, af, some (j, want)⟩ :: rest) st Q := aa.aH hj hd Ce hx fc k
theorem aa.pk {c a b : Operand} {v : Bool} (k : aa P N all rest (st.put d y) Q) (hc : bw st c = some (.v (.bool v)) := by rfl) (hz : bw st (if v then a else b) = some y := by rfl) (hf : y.free = true := by rfl) (hd : d < N.n := by decide) :
  aa P N all (⟨some d, .pick c a b, ty, pos, af, none⟩ :: rest) st Q := aa.val (Y.zp hc hz hf) hd k
theorem aa.fa {t : TypeId} {a : Operand} {f off : Nat} {ft : TypeId} (ht : TY.jY P t f = some (off, ft)) (k : aa P N all rest (st.put d q) Q) (hx : bw st a = some p := by rfl) (hq : p.on off = some q := by rfl) (hd : d < N.n := by decide) :
  aa P N all (⟨some d, .fieldAddr t a f, ty, pos, af, none⟩ :: rest) st Q := aa.val (Y.qo ht hx hq) hd k
end
theorem fB.c {α : Type} {l l' : List (Nat × α)} {s : Nat} {x : α} (hr : fB l l') (h : look l s = some x := by rfl) : fB l ((s, x) :: l') := fB.cons h hr
theorem fB.c2 {α : Type} {l l' : List (Nat × α)} {s t : Nat} {x y : α} (hr : fB l l') (h : look l s = some x := by rfl) (h1 : look l t = some y := by rfl) : fB l ((s, x) :: (t, y) :: l') := fB.cons h (fB.cons h1 hr)
theorem fB.c4 {α : Type} {l l' : List (Nat × α)} {s t s1 t1 : Nat} {x y x1 y1 : α} (hr : fB l l') (h : look l s = some x := by rfl) (h1 : look l t = some y := by rfl) (h2 : look l s1 = some x1 := by rfl) (h3 : look l t1 = some y1 := by rfl) : fB l ((s, x) :: (t, y) :: (s1, x1) :: (t1, y1) :: l') := fB.c2 (fB.c2 hr h2 h3) h h1
theorem fB.c8 {α : Type} {l l' : List (Nat × α)} {s t s1 t1 s2 t2 s3 t3 : Nat} {x y x1 y1 x2 y2 x3 y3 : α} (hr : fB l l') (h : look l s = some x := by rfl) (h1 : look l t = some y := by rfl) (h2 : look l s1 = some x1 := by rfl) (h3 : look l t1 = some y1 := by rfl) (h4 : look l s2 = some x2 := by rfl) (h5 : look l t2 = some y2 := by rfl) (h6 : look l s3 = some x3 := by rfl) (h7 : look l t3 = some y3 := by rfl) : fB l ((s, x) :: (t, y) :: (s1, x1) :: (t1, y1) :: (s2, x2) :: (t2, y2) :: (s3, x3) :: (t3, y3) :: l') := fB.c4 (fB.c4 hr h4 h5 h6 h7) h h1 h2 h3
theorem iJ {α β : Type} {f : α → β} {l : List α} : some (l.map f).length = some l.length := congrArg some (List.length_map ..)
theorem Ends.rb {P : Program} {px : List ResultVar} {st : St} {b b' : Bool} (h0 : kC P st px = some [.v (.bool b)]) (h : b = b') : Ends P px ([] : List Obj).length (fun r o => r = .v (.bool b') ∧ o = []) .ret st := ⟨_, _, h0, rfl, by rw [h]; exact ⟨rfl, rfl⟩⟩
theorem Ends.ri {P : Program} {px : List ResultVar} {st : St} {k : IntKind} {b b' : Int} (h0 : kC P st px = some [.v (.int k b)]) (h : b = b') : Ends P px ([] : List Obj).length (fun r o => r = .v (.int k b') ∧ o = []) .ret st := ⟨_, _, h0, rfl, by rw [h]; exact ⟨rfl, rfl⟩⟩
end Go.AW
namespace Go.AW
open Go
end Go.AW
namespace Go.AW
open Go
section
variable {P : Program} {N : eg} {st : St} {dst : Option Nat} {ty : TypeId} {pos : String} {af : Array Edge} {g : Option (Nat × Bool)}
end
end Go.AW
namespace Go.AW
open Go
section
variable {N : eg} {st : St} {d : Nat}
end
end Go.AW
namespace Go.AW
open Go
section
variable {P : Program} {N : eg} {st : St} {dst : Option Nat} {ty : TypeId} {pos : String} {af : Array Edge} {g : Option (Nat × Bool)}
end
end Go.AW
namespace Go.AW
open Go
theorem RO.setAt {E : Env} {cs : Array Value} {x y : X} {u : Value} (hf : x.free = true) : ∀ {xs : List X} {off k : Nat} {R : List Nat}, RO E xs cs off R → xs[k]? = some x → cs[off + k]? = some u → RX E y u [] → RO E (xs.set k y) cs off R
 | [], _, _, _, _, h, _, _ => by simp at h
 | z :: r, off, 0, R, h, hy, hu, yy => by
  simp only [RO] at h
  obtain ⟨u', R₁, R₂, Bu, hs, h1, h2, rfl⟩ := h
  simp only [List.getElem?_cons_zero, Option.some.injEq] at hy
  subst hy
  have h0 := RX.free hf h1
  subst h0
  rw [Nat.add_zero, Bu] at hu
  obtain rfl := Option.some.inj hu
  simp only [List.set, RO]
  exact ⟨u', [], R₂, Bu, hs, yy, h2, rfl⟩
 | z :: r, off, k + 1, R, h, hy, hu, yy => by
  simp only [RO] at h
  obtain ⟨u', R₁, R₂, Bu, hs, h1, h2, rfl⟩ := h
  simp only [List.getElem?_cons_succ] at hy
  simp only [List.set, RO]
  exact ⟨u', R₁, R₂, Bu, hs, h1, RO.setAt hf h2 hy (by rw [show off + 1 + k = off + (k + 1) by omega]; exact hu) yy, rfl⟩
section
variable {N : eg} {G : Ctx} {E : Env} {RR : Own → List Nat} {st : St} {a : Act}
theorem Inv.Ga (hi : Inv G E RR st a) {o s : Nat} {rs : List (List X)} (ho : look st.aC o = some (.rows s rs)) (hf : cp rs) (hF : G.fn.F.elem o = false) :
  ∃ E' fe, E'.w = E.w ∧ E'.β = E.β ∧ Inv G E' fe ((st.kill o).dO o .gone) a ∧ ∀ u n, n = rs.length → RX E (.aY o s 0 n) u [] → RX E' (.fz s rs) u [] := by
 have aS := hi.aC o _ ho
 simp only [dN] at aS
 obtain ⟨hu, aS⟩ := aS
 have hβ : cz G E E (fun _ => False) := ⟨rfl, fun _ h => h.elim, fun _ h => h.elim, fun _ _ _ => rfl, Nat.le_refl _, rfl, rfl, rfl⟩
 have kY := hi.m4 hβ (o := o) (ob := .gone) (R := []) (fun _ h => h.elim) (fun q _ => rfl) (fun h => rfl) (by simp only [dN]) List.nodup_nil (fun _ h => by cases h)
 rcases aS with ⟨h1, h2, h3⟩ | ⟨B, cs, ty, R', hB, hw, hφ, lv, ez, j4, iH⟩
 ·refine ⟨E, _, rfl, rfl, kY, fun u n hn hx => ?_⟩
  simp only [RX] at hx ⊢
  obtain ⟨_, base, cap, hc, cJ⟩ := hx
  rcases cJ with ⟨_, _, _, h5⟩ | ⟨B, hB, _⟩
  ·subst hn
   exact ⟨trivial, hu, base, cap, hc, .inl ⟨h2, h5⟩⟩
  ·rw [h1] at hB; cases hB
 ·have BW := bX.free hf j4
  subst BW
  have lu : B.b ∈ RR (.obj o) := by rw [iH]; simp
  have hle : ∀ c i v, E.φ c i = some v → (if c = B.b then cs[i]? else E.φ c i) = some v := by
   intro c i v h
   by_cases py : c = B.b
   ·subst py; rw [hφ i] at h; cases h
   ·rw [if_neg py]; exact h
  have iG : ∀ R : List Nat, B.b ∉ R → E.On { E with φ := fun c i => if c = B.b then cs[i]? else E.φ c i } R := by
   intro R E7
   refine ⟨hle, fun c nv => ⟨rfl, fun h i => ?_⟩⟩
   have : c ≠ B.b := fun e => E7 (e ▸ nv)
   show (if c = B.b then cs[i]? else E.φ c i) = none
   rw [if_neg this]; exact h i
  have EL : ∀ p, B.b ∉ fM st RR o [] p := by
   intro p hp
   cases p with
   | obj q =>
    by_cases hq : q = o
    ·subst hq; simp [fM] at hp
    ·exact hi.apart (.obj q) (.obj o) (by simpa using hq) _ (by simpa [fM, hq] using hp) lu
   | slot q =>
    rcases kA st RR o [] q with h | h
    ·rw [h] at hp; cases hp
    ·rw [h] at hp; exact hi.apart (.slot q) (.obj o) (by simp) _ hp lu
  refine ⟨{ E with φ := fun c i => if c = B.b then cs[i]? else E.φ c i }, _, rfl, rfl,
   {kY with
    lq := by
     intro c i v h
     change (if c = B.b then cs[i]? else E.φ c i) = some v at h
     by_cases py : c = B.b
     ·subst py; rw [if_pos rfl] at h
      show E.w.cell? _ = _
      rw [cy hw]; exact h
     ·rw [if_neg py] at h; exact hi.lq c i v h
    aA := fun q x hx => RX.mono x _ _ (iG _ (EL _)) (fun _ _ => rfl) (kY.aA q x hx)
    aC := fun o ob aS => dN.mono (iG _ (EL _)) rfl (fun _ _ _ _ => rfl) (kY.aC o ob aS)
    φ0 := fun c i v h => hle c i v (hi.φ0 c i v h)
    grow := by
     intro c i v h
     change (if c = B.b then cs[i]? else E.φ c i) = some v at h
     by_cases py : c = B.b
     ·subst py; exact .inr (hi.own _ _ lu).2
     ·rw [if_neg py] at h; exact hi.grow c i v h }, fun u n hn hx => ?_⟩
  simp only [RX] at hx ⊢
  obtain ⟨_, base, cap, hc, cJ⟩ := hx
  subst hn
  rcases cJ with ⟨h1, _⟩ | ⟨B', im, x4, pF, hb⟩
  ·rw [hB] at h1; cases h1
  ·rw [hB] at im
   obtain rfl := Option.some.inj im
   rcases hb with hb | hb
   ·exact ⟨trivial, hu, base, cap, hc, .inl ⟨List.eq_nil_of_length_eq_zero om, hb⟩⟩
   ·refine ⟨trivial, hu, base, cap, hc, .inr ⟨B.b, B.off, by simpa using hb, pF, ?_⟩⟩
    refine bX.freeze (E := E) (fun i v h => ?_) hle j4
    show (if B.b = B.b then cs[i]? else E.φ B.b i) = some v
    rw [if_pos rfl]; exact h
theorem Sh.AO (p o k : Nat) {s n : Nat} {xs ys : List X} {rs : List (List X)} (hp : look st.aC p = some (.cells xs)) (hk : xs[k]? = some (.aY o s 0 n)) (ho : look st.aC o = some (.rows s rs)) (hl : n = rs.length) (hf : cp rs) (hF : N.F.elem o = false)
  (GJ : look ((st.kill o).dO o .gone).aC p = some (.cells ys)) (wM : ys[k]? = some .no) (pw : X.bj (ys.set k (.fz s rs)) = true) :
  Sh N st (((st.kill o).dO o .gone).dO p (.cells (ys.set k (.fz s rs)))) := by
 intro G hn a w hh
 obtain ⟨E, RR, rfl, hi⟩ := hh
 have GN := hi.aC p _ hp
 simp only [dN] at GN
 obtain ⟨_, B, cs, ty, hB, hw, hφ, ez, vd, hR⟩ := GN
 obtain ⟨u, Ry, R1, DP, hs, BA, _, _, _⟩ := RO.pick vd hk
 have h0 := RX.free (x := .aY o s 0 n) rfl BA
 subst h0
 obtain ⟨E', fe, pf, Pj, gy, Kv⟩ := hi.Ga ho hf (by rw [hn]; exact hF)
 have Mw := gy.aC p _ GJ
 have Jv := Mw
 simp only [dN] at Jv
 obtain ⟨_, B', cG, ON, im, Jw, Rs, HA, Mx, EA⟩ := Jv
 rw [Pj, hB] at im
 obtain rfl := Option.some.inj im
 rw [pf, hw] at Jw
 simp only [Option.some.injEq, Go.Obj.cells.injEq] at Jw
 obtain ⟨rfl, rfl, _⟩ := Jw
 refine ⟨E', _, pf, gy.dO (R := fe (.obj p)) ?_ (gy.nodup _) (fun b hb => ⟨(gy.own _ _ hb).1, (gy.own _ _ hb).2, fun q hq h => gy.apart _ _ hq b h hb⟩)⟩
 simp only [dN]
 exact ⟨pw, B, cs, ty, by rw [Pj]; exact hB, by rw [pf]; exact hw, Rs, by rw [List.length_set]; exact HA, RO.setAt (x := .no) rfl Mx wM DP (Kv u n hl BA), EA⟩
end
end Go.AW
namespace Go.AW
open Go
theorem ye {a : Int} (h : (Lit.int .u8 a).wf = true) : ∃ n : Nat, a = (n : Int) ∧ n < 256 := by
 have h1 := (Lit.wf_int_iff .u8 a).1 h
 simp only [IntKind.min, IntKind.max, IntKind.signed, IntKind.bits] at h1
 exact ⟨a.toNat, by simp at h1; omega, by simp at h1; omega⟩
end Go.AW
namespace Go.AW
open Go
section
variable {P : Program} {N : eg} {st : St} {dst : Option Nat} {ty : TypeId} {pos : String} {af : Array Edge} {g : Option (Nat × Bool)}
theorem aL.bin {op : BinOp} {t t' : TypeId} {x y : Operand} {u v r : Value} (hx : bw st x = some (.v u)) (hy : bw st y = some (.v v))
  (hr : ∀ w, (do eqGuard op t x y u v; binOp op t u v : Sem Value).run P w = .ok r w) : aL P N st ⟨dst, .binOp op t x y t', ty, pos, af, g⟩ (.v r) := by
 intro G E RR a _ hi
 refine ⟨r, fun w => ?_, by simp [RX]⟩
 show (do let x ← (do eqGuard op t x y (a.eval x) (a.eval y); binOp op t (a.eval x) (a.eval y) : Sem Value); pure (Next.value x) : Sem Next).run P w = _
 rw [hi.val hx, hi.val hy]
 exact cT (hr _)
section ints
variable {t t' : TypeId} {x y : Operand} {k : IntKind} {a b r : Int}
theorem aL.add (hx : bw st x = some (.v (.int k a))) (hy : bw st y = some (.v (.int k b))) (hr : k.wrap (a + b) = r) : aL P N st ⟨dst, .binOp .add t x y t', ty, pos, af, g⟩ (.v (.int k r)) :=
 aL.bin hx hy fun w => by subst hr; simp [eqGuard, binOp, Op.intArith]
theorem aL.sub (hx : bw st x = some (.v (.int k a))) (hy : bw st y = some (.v (.int k b))) (hr : k.wrap (a - b) = r) : aL P N st ⟨dst, .binOp .sub t x y t', ty, pos, af, g⟩ (.v (.int k r)) :=
 aL.bin hx hy fun w => by subst hr; simp [eqGuard, binOp, Op.intArith]
theorem aL.mul (hx : bw st x = some (.v (.int k a))) (hy : bw st y = some (.v (.int k b))) (hr : k.wrap (a * b) = r) : aL P N st ⟨dst, .binOp .mul t x y t', ty, pos, af, g⟩ (.v (.int k r)) :=
 aL.bin hx hy fun w => by subst hr; simp [eqGuard, binOp, Op.intArith]
theorem aL.rem (hx : bw st x = some (.v (.int k a))) (hy : bw st y = some (.v (.int k b))) (h0 : b ≠ 0) (hr : a.tmod b = r) : aL P N st ⟨dst, .binOp .rem t x y t', ty, pos, af, g⟩ (.v (.int k r)) :=
 aL.bin hx hy fun w => by subst hr; simp [eqGuard, binOp, Op.intDiv, h0]
theorem aL.lss (hx : bw st x = some (.v (.int k a))) (hy : bw st y = some (.v (.int k b))) : aL P N st ⟨dst, .binOp .lss t x y t', ty, pos, af, g⟩ (.v (.bool (decide (a < b)))) :=
 aL.bin hx hy fun w => by simp [eqGuard, binOp, Op.intCmp]
theorem aL.leq (hx : bw st x = some (.v (.int k a))) (hy : bw st y = some (.v (.int k b))) : aL P N st ⟨dst, .binOp .leq t x y t', ty, pos, af, g⟩ (.v (.bool (decide (a ≤ b)))) :=
 aL.bin hx hy fun w => by simp [eqGuard, binOp, Op.intCmp]
theorem aL.gtr (hx : bw st x = some (.v (.int k a))) (hy : bw st y = some (.v (.int k b))) : aL P N st ⟨dst, .binOp .gtr t x y t', ty, pos, af, g⟩ (.v (.bool (decide (b < a)))) :=
 aL.bin hx hy fun w => by simp [eqGuard, binOp, Op.intCmp]
theorem aL.geq (hx : bw st x = some (.v (.int k a))) (hy : bw st y = some (.v (.int k b))) : aL P N st ⟨dst, .binOp .geq t x y t', ty, pos, af, g⟩ (.v (.bool (decide (b ≤ a)))) :=
 aL.bin hx hy fun w => by simp [eqGuard, binOp, Op.intCmp]
theorem aL.eql (hx : bw st x = some (.v (.int k a))) (hy : bw st y = some (.v (.int k b))) : aL P N st ⟨dst, .binOp .eql t x y t', ty, pos, af, g⟩ (.v (.bool (decide (a = b)))) :=
 aL.bin hx hy fun w => by simp [eqGuard, binOp, Op.intCmp, BEq.beq]
theorem aL.neq (hx : bw st x = some (.v (.int k a))) (hy : bw st y = some (.v (.int k b))) : aL P N st ⟨dst, .binOp .neq t x y t', ty, pos, af, g⟩ (.v (.bool (decide (a ≠ b)))) :=
 aL.bin hx hy fun w => by simp [eqGuard, binOp, Op.intCmp, bne, BEq.beq]
end ints
theorem aL.un {op : UnOp} {t : TypeId} {x : Operand} {u r : Value} (hx : bw st x = some (.v u)) (hr : ∀ w, (Op.unary op u).run P w = .ok r w) : aL P N st ⟨dst, .unOp op t x, ty, pos, af, g⟩ (.v r) := by
 intro G E RR a _ hi
 refine ⟨r, fun w => ?_, by simp [RX]⟩
 show (do let x ← Op.unary op (a.eval x); pure (Next.value x) : Sem Next).run P w = _
 rw [hi.val hx]
 exact cT (hr _)
theorem aL.not {t : TypeId} {x : Operand} {b : Bool} (hx : bw st x = some (.v (.bool b))) : aL P N st ⟨dst, .unOp .not t x, ty, pos, af, g⟩ (.v (.bool (!b))) :=
 aL.un hx fun _ => rfl
theorem aL.neg {t : TypeId} {x : Operand} {k : IntKind} {n r : Int} (hx : bw st x = some (.v (.int k n))) (hr : k.wrap (0 - n) = r) : aL P N st ⟨dst, .unOp .neg t x, ty, pos, af, g⟩ (.v (.int k r)) :=
 aL.un hx fun _ => by subst hr; rfl
theorem aL.conv {s d : TypeId} {x : Operand} {k k' : IntKind} {n r : Int} (hs : TY.isInt P s = some k') (hd : TY.isInt P d = some k) (hx : bw st x = some (.v (.int k' n))) (hr : k.wrap n = r) :
  aL P N st ⟨dst, .convert s d x, ty, pos, af, g⟩ (.v (.int k r)) := by
 intro G E RR a _ hi
 refine ⟨.int k r, fun w => ?_, by simp [RX]⟩
 show (do let x ← convert s d (a.eval x); pure (Next.value x) : Sem Next).run P w = _
 rw [hi.val hx]
 refine cT ?_
 have h1 : P.underlying s = some (.int k') := by unfold TY.isInt at hs; split at hs <;> simp_all
 have h2 : P.underlying d = some (.int k) := by unfold TY.isInt at hd; split at hd <;> simp_all
 simp [convert, run_underlying h1, run_underlying h2, Conv.intToInt, hr]
section
variable {t t' : TypeId} {x y : Operand} {a b : Int}
theorem aL.My (hx : bw st x = some (.v (.int .i64 a))) (hy : bw st y = some (.v (.int .i64 b))) (hr : -9223372036854775808 ≤ a + b ∧ a + b ≤ 9223372036854775807) : aL P N st ⟨dst, .binOp .add t x y t', ty, pos, af, g⟩ (.v (.int .i64 (a + b))) :=
 aL.add hx hy (IntWalk.i64_in _ hr)
theorem aL.Ru (hx : bw st x = some (.v (.int .i64 a))) (hy : bw st y = some (.v (.int .i64 b))) (hr : -9223372036854775808 ≤ a - b ∧ a - b ≤ 9223372036854775807) : aL P N st ⟨dst, .binOp .sub t x y t', ty, pos, af, g⟩ (.v (.int .i64 (a - b))) :=
 aL.sub hx hy (IntWalk.i64_in _ hr)
theorem aL.Rv (hx : bw st x = some (.v (.int .i64 a))) (hy : bw st y = some (.v (.int .i64 b))) (hr : -9223372036854775808 ≤ a * b ∧ a * b ≤ 9223372036854775807) : aL P N st ⟨dst, .binOp .mul t x y t', ty, pos, af, g⟩ (.v (.int .i64 (a * b))) :=
 aL.mul hx hy (IntWalk.i64_in _ hr)
theorem aL.Rw {k : IntKind} (hx : bw st x = some (.v (.int k a))) (hy : bw st y = some (.v (.int k b))) (hr : 0 ≤ a ∧ 1 ≤ b) : aL P N st ⟨dst, .binOp .rem t x y t', ty, pos, af, g⟩ (.v (.int k (a % b))) :=
 aL.rem hx hy om (IntWalk.rem_in a b hr.1)
end
theorem aL.Pk {s d : TypeId} {x : Operand} {k k' : IntKind} {n : Int} (hs : TY.isInt P s = some k') (hd : TY.isInt P d = some k) (hx : bw st x = some (.v (.int k' n))) (hr : k.wrap n = n) :
  aL P N st ⟨dst, .convert s d x, ty, pos, af, g⟩ (.v (.int k n)) := aL.conv hs hd hx hr
theorem aL.len {t e s cE : Nat} {x : Operand} {y : X} {n : Nat} (ht : TY.slice P t = some (e, s, cE)) (hx : bw st x = some y) (hn : y.len = some n) :
  aL P N st ⟨dst, .call ⟨.builtin .len, #[x], #[t]⟩, ty, pos, af, g⟩ (.v (.int .i64 (n : Int))) := by
 intro G E RR a _ hi
 obtain ⟨R, hp⟩ := hi.eval hx
 obtain ⟨base, cap, hc⟩ := hp.len hn
 refine ⟨.int .i64 (n : Int), fun w => gj ?_, by simp [RX]⟩
 obtain ⟨hu, _⟩ := TY.cI ht
 simp [builtin, Builtin.len_, hc, run_underlying hu, goInt]
theorem aL.AP {t e s cE : Nat} {x ix : Operand} {rows : List (List X)} {row : List X} {k : IntKind} {n : Int} {m : Nat} (ht : TY.slice P t = some (e, s, cE)) (hx : bw st x = some (.fz s rows))
  (uU : bw st ix = some (.v (.int k n))) (hn : n = (m : Int)) (hr : rows[m]? = some row) : aL P N st ⟨dst, .indexAddr t x ix, ty, pos, af, g⟩ (.fp row 0) := by
 intro G E RR a _ hi
 obtain ⟨R, hp⟩ := hi.eval hx
 have hm : m < rows.length := by
  rcases Nat.lt_or_ge m rows.length with h' | h'
  ·exact h'
  ·simp [List.getElem?_eq_none h'] at hr
 simp only [RX] at hp
 obtain ⟨_, hu, base, cap, hc, h⟩ := hp
 rcases h with ⟨h, _⟩ | ⟨b, off, rfl, hl, hf⟩
 ·subst h; simp at hr
 ·refine ⟨.pointer (some ⟨b, off + m * s, none⟩), fun w => ?_, ?_⟩
  ·show (do let z ← Instr.indexAt t (a.eval x) (a.eval ix); pure (Next.value z) : Sem Next).run P w = _
   rw [hc, hi.val uU]
   exact cT (j8 ht hn hm w)
  ·simp only [RX]
   exact ⟨trivial, b, off + m * s, rfl, iF.get hu hf hr⟩
theorem aL.Mz {t e s cE : Nat} {x ix : Operand} {o lo len : Nat} {k : IntKind} {n : Int} {m : Nat} (ht : TY.slice P t = some (e, s, cE)) (hx : bw st x = some (.aY o s lo len))
  (uU : bw st ix = some (.v (.int k n))) (hn : n = (m : Int)) (hm : m < len) : aL P N st ⟨dst, .indexAddr t x ix, ty, pos, af, g⟩ (.ptr o s (lo + m) 0) := by
 intro G E RR a _ hi
 obtain ⟨R, hp⟩ := hi.eval hx
 simp only [RX] at hp
 obtain ⟨_, base, cap, hc, h⟩ := hp
 rcases h with ⟨_, _, h, _⟩ | ⟨B, hB, _, hl, hb⟩
 ·omega
 ·have fS : base = some ⟨B.b, B.off + lo * s, none⟩ := hb.resolve_left om
  subst fS
  refine ⟨.pointer (some ⟨B.b, B.off + lo * s + m * s, none⟩), fun w => ?_, ?_⟩
  ·show (do let z ← Instr.indexAt t (a.eval x) (a.eval ix); pure (Next.value z) : Sem Next).run P w = _
   rw [hc, hi.val uU]
   exact cT (j8 ht hn hm w)
  ·simp only [RX]
   exact ⟨trivial, B, hB, by rw [Nat.add_mul]; simp [Nat.add_assoc]⟩
theorem aL.M0 {t len e s : Nat} {x ix : Operand} {p q : X} {k : IntKind} {n : Int} {m : Nat} (ht : TY.array P t = some (len, e, s)) (hx : bw st x = some p)
  (uU : bw st ix = some (.v (.int k n))) (hn : n = (m : Int)) (hm : m < len) (hq : p.on (m * s) = some q) : aL P N st ⟨dst, .indexAddr t x ix, ty, pos, af, g⟩ q := by
 intro G E RR a _ hi
 obtain ⟨R, hp⟩ := hi.eval hx
 obtain ⟨b, o, hc, h⟩ := hp.on hq
 refine ⟨_, fun w => ?_, h⟩
 show (do let z ← Instr.indexAt t (a.eval x) (a.eval ix); pure (Next.value z) : Sem Next).run P w = _
 rw [hc, hi.val uU]
 refine cT ?_
 obtain ⟨hu, i, fU, hs⟩ := TY.pG ht
 subst hn
 simp [Instr.indexAt, Instr.sureAddr, asIntOf, run_underlying hu, hm, run_sizeOf fU, hs, fO]
end
end Go.AW
namespace Go.AW
open Go
section
variable {P : Program} {N : eg} {st : St} {ops : Array Oper} {d : Nat} {ty : TypeId} {pos : String} {af : Array Edge} {K : St → Prop}
def SG (G : Ctx) (w : World) : Prop := (∀ b, G.K b → w.heap[b]? = G.w0.heap[b]?) ∧ ∀ b i v, G.φ0 b i = some v → w.cell? ⟨b, i, none⟩ = some v
theorem bZ.sg {G : Ctx} {a : Act} {w : World} (h : bZ G st a w) : SG G w := by
  obtain ⟨E, RR, rfl, hi⟩ := h
  exact ⟨hi.ao, fun b i v hv => hi.lq b i v (hi.φ0 b i v hv)⟩
def mX (G : Ctx) (E : Env) (L : List Nat) (T : Nat → List Nat) (F' : List Nat) : Ctx := ⟨fun b => G.K b ∨ ∃ o, o ∈ L ∧ b ∈ T o, E.w, E.φ, E.β, ⟨G.fn.n, F'⟩, G.ds⟩
def cd (P : Program) (N : eg) (ops : Array Oper) (n : Nat) (ah : Array Bool) (st : St) (K : St → Prop) : Prop :=
  ∀ G : Ctx, G.fn = N → ∀ a w, bZ G st a w → wpAnyH P .any ops (fun e a w => e = .normal ∧ ∃ bc, K bc ∧ bZ G bc a w) (SG G) n ah a w
def bF (P : Program) (N : eg) (L F' : List Nat) (ops : Array Oper) (n : Nat) (ah : Array Bool) (st : St) (K : St → Prop) : Prop :=
  ∀ G : Ctx, G.fn = N → ∀ E RR a (T : Nat → List Nat), (∀ o ∈ L, RR (.obj o) = T o) → Inv G E RR st a →
    wpAnyH P .any ops (fun e a w => e = .normal ∧ ∃ bc, K bc ∧ bZ G bc a w) (SG (mX G E L T F')) n ah a E.w
theorem Inv.Eu {G : Ctx} {E : Env} {RR : Own → List Nat} {a : Act} (hi : Inv G E RR st a) (L : List Nat) (T : Nat → List Nat) (F' : List Nat) : SG (mX G E L T F') E.w := ⟨fun _ _ => rfl, hi.lq⟩
theorem bF.blind {L F' : List Nat} {n : Nat} {ah : Array Bool} (i : Nat) {op : Op} {x : X} (ho : ops[i]? = some ⟨some d, op, ty, pos, af, none⟩)
    (hB : (Region.noSelect ops && Region.free .any ops ah i && (Region.ready .any ops ah).contains i) = true) (hy : aL P N st ⟨some d, op, ty, pos, af, none⟩ x) (hd : d < N.n)
    (k : bF P N L F' ops n (ah.setIfInBounds i true) (st.put d x) K) : bF P N L F' ops (n + 1) ah st K := by
  intro G hn E RR a T hT hi
  obtain ⟨u, hr, hx⟩ := hy G E RR a hn hi
  simp only [Bool.and_eq_true] at hB
  refine wpAnyH_take (v := u) ho hB.1.1 hB.1.2 hB.2 ?_ (.inl ⟨by simp [Region.wanted], fun w _ => hr w⟩) (hi.Eu L T F') (k G hn E _ _ T ?_ (hi.fT (hn ▸ hd) hx))
  · intro c a w h
    cases h.1
  · intro o ho
    have := hT o ho
    simpa [eZ] using this
def uq (L : List Nat) : X → Bool
  | .fp .. => true
  | .ptr o .. => L.elem o
  | _ => false
theorem Inv.held {G : Ctx} {E : Env} {RR : Own → List Nat} {a : Act} {L F' : List Nat} {T : Nat → List Nat} (hi : Inv G E RR st a) (hT : ∀ o ∈ L, RR (.obj o) = T o) {p : X} {c : Value} {R : List Nat} {row : List X}
    (hp : RX E p c R) (hr : rowAt st p = some row) (hL : uq L p = true) :
    ∃ b off, c = .pointer (some ⟨b, off + jZ p, none⟩) ∧ ∀ w, SG (mX G E L T F') w → ∀ j, j < row.length → w.cell? ⟨b, off + j, none⟩ = E.w.cell? ⟨b, off + j, none⟩ := by
  cases p with
  | fp row' k' =>
    simp only [rowAt, Option.some.injEq] at hr
    subst hr
    simp only [RX] at hp
    obtain ⟨_, b, off, hc, hf⟩ := hp
    refine ⟨b, off, hc, fun w hw j hj => ?_⟩
    obtain ⟨vs, hl, hv, hx⟩ := RF.cells hf
    obtain ⟨v, Rz⟩ : ∃ v, vs[j]? = some v := ⟨vs[j]'om, List.getElem?_eq_getElem om⟩
    have h1 := hv j v Rz
    rw [hi.lq _ _ _ h1]
    exact hw.2 _ _ _ h1
  | ptr o s i k' =>
    simp only [RX] at hp
    obtain ⟨_, B, hB, hc⟩ := hp
    have GL : o ∈ L := List.elem_iff.1 hL
    have Pm := hT o GL
    have hb : B.b ∈ T o := by
      simp only [rowAt] at hr
      split at hr
      · rename_i xs ho
        have h0 := hi.aC o _ ho
        simp only [dN] at h0
        obtain ⟨_, B', cs, ty, im, hw, _, _, j4, hR⟩ := h0
        rw [hB] at im
        obtain rfl := Option.some.inj im
        rw [← Pm, hR]; simp
      · rename_i s' rs ho
        have h0 := hi.aC o _ ho
        simp only [dN] at h0
        obtain ⟨hu, h0⟩ := h0
        rcases h0 with ⟨h0, _⟩ | ⟨B', cs, ty, R', im, hw, _, _, _, _, hR⟩
        · rw [hB] at h0; cases h0
        · rw [hB] at im
          obtain rfl := Option.some.inj im
          rw [← Pm, hR]; simp
      · cases hr
    refine ⟨B.b, B.off + i * s, by rw [hc]; simp [jZ, Nat.add_assoc], fun w hw j _ => ?_⟩
    have := hw.1 B.b (.inr ⟨o, GL, hb⟩)
    unfold World.cell?
    simp only [mX] at this
    rw [this]
  | _ => cases hL
theorem pC {b b' o o' k : Nat} (h : Value.pointer (some ⟨b, o + k, none⟩) = Value.pointer (some ⟨b', o' + k, none⟩)) : b = b' ∧ o = o' := by
  simp only [Value.pointer.injEq, Option.some.injEq, Addr.mk.injEq] at h
  omega
theorem bF.load {L F' : List Nat} {n : Nat} {ah : Array Bool} (i : Nat) {t : TypeId} {x : Operand} {p y : X} {row : List X} (ho : ops[i]? = some ⟨some d, .load t x, ty, pos, af, none⟩)
    (hB : (Region.noSelect ops && Region.free .any ops ah i && (Region.ready .any ops ah).contains i) = true) (ht : TY.shape P t = some none) (hx : bw st x = some p) (hL : uq L p = true) (hr : rowAt st p = some row)
    (hy : row[jZ p]? = some y) (hf : y.free = true) (hd : d < N.n)
    (k : bF P N L F' ops n (ah.setIfInBounds i true) (st.put d y) K) : bF P N L F' ops (n + 1) ah st K := by
  intro G hn E RR a T hT hi
  obtain ⟨R, hp⟩ := hi.eval hx
  obtain ⟨b, off, hc, g7⟩ := hi.behind hp hr
  obtain ⟨b', pJ, nv, m7⟩ := hi.held (F' := F') hT hp hr hL
  obtain ⟨rfl, rfl⟩ := pC (hc.symm.trans nv)
  have hk : jZ p < row.length := by
    rcases Nat.lt_or_ge (jZ p) row.length with h' | h'
    · exact h'
    · simp [List.getElem?_eq_none h'] at hy
  obtain ⟨vs, R', hl, hv, fR⟩ := g7 (jZ p) 1 om
  rw [getElem?_drop_take_one hy] at fR
  simp only [bt] at fR
  obtain ⟨c, cG, R₁, R₂, E6, _, h1, ⟨rfl, rfl⟩, rfl⟩ := fR
  subst E6
  have h0 := RX.free hf h1
  subst h0
  simp only [Bool.and_eq_true] at hB
  refine wpAnyH_take (v := c) ho hB.1.1 hB.1.2 hB.2 ?_ (.inl ⟨by simp [Region.wanted], fun w hw => ?_⟩) (hi.Eu L T F') (k G hn E _ _ T ?_ (hi.fT (hn ▸ hd) h1))
  · intro c a w h
    cases h.1
  · show (do let z ← Instr.loadAt t (a.eval x); pure (Next.value z) : Sem Next).run P w = _
    rw [hc]
    refine cT ?_
    have g8 := hv 0 c rfl
    simp only [Instr.loadAt, Instr.sureAddr, loadVar, Sem.run_bind, Sem.run_pure, Result.andThen_ok, (TY.jm ht w).1]
    simp only [Nat.add_zero] at g8
    rw [← m7 w hw _ hk] at g8
    simp [g8]
  · intro o ho
    have := hT o ho
    simpa [eZ] using this
theorem bF.AR {L F' : List Nat} {n : Nat} {ah : Array Bool} (i : Nat) {t : TypeId} {x : Operand} {p : X} {row : List X} {m : Nat} {ys : List X} (ho : ops[i]? = some ⟨some d, .load t x, ty, pos, af, none⟩)
    (hB : (Region.noSelect ops && Region.free .any ops ah i && (Region.ready .any ops ah).contains i) = true) (ht : TY.shape P t = some (some m)) (hx : bw st x = some p) (hL : uq L p = true) (hr : rowAt st p = some row)
    (hm : jZ p + m ≤ row.length) (tm : (row.drop (jZ p)).take m = ys) (hf : X.bj ys = true) (hd : d < N.n)
    (k : bF P N L F' ops n (ah.setIfInBounds i true) (st.put d (.agg ys)) K) : bF P N L F' ops (n + 1) ah st K := by
  intro G hn E RR a T hT hi
  obtain ⟨R, hp⟩ := hi.eval hx
  obtain ⟨b, off, hc, g7⟩ := hi.behind hp hr
  obtain ⟨b', pJ, nv, m7⟩ := hi.held (F' := F') hT hp hr hL
  obtain ⟨rfl, rfl⟩ := pC (hc.symm.trans nv)
  obtain ⟨vs, R', hl, hv, fR⟩ := g7 (jZ p) m hm
  rw [tm] at fR
  have h0 := bt.free hf fR
  subst h0
  simp only [Bool.and_eq_true] at hB
  refine wpAnyH_take (v := .agg vs.toArray) ho hB.1.1 hB.1.2 hB.2 ?_ (.inl ⟨by simp [Region.wanted], fun w hw => ?_⟩) (hi.Eu L T F') (k G hn E _ _ T ?_ (hi.fT (hn ▸ hd) (by simp only [RX]; exact ⟨_, rfl, fR⟩)))
  · intro c a w h
    cases h.1
  · show (do let z ← Instr.loadAt t (a.eval x); pure (Next.value z) : Sem Next).run P w = _
    rw [hc]
    refine cT ?_
    obtain ⟨h1, h2⟩ := TY.k9 ht w
    have h3 : (loadCells ⟨b, off + jZ p, none⟩ m).run P w = .ok vs.toArray w := by
      rw [← hl]
      refine run_loadCells_list (w := w) _ vs fun j v hj => ?_
      have lV : j < vs.length := (List.getElem?_eq_some_iff.1 hj).1
      rw [fO, Nat.add_assoc, m7 w hw _ om]; exact hv j v hj
    simp only [Instr.loadAt, Instr.sureAddr, loadVar, Sem.run_bind, Sem.run_pure, Result.andThen_ok, h1, if_true, h2, h3]
  · intro o ho
    have := hT o ho
    simpa [eZ] using this
def St.back (st : St) : List Nat → List (Nat × Obj) → List (Nat × Obj)
  | [], r => r
  | o :: L, r => match look st.aC o with
    | some ob => (o, ob) :: st.back L r
    | none => st.back L r
theorem se (st : St) {r : List (Nat × Obj)} {q : Nat} {x : Obj} : ∀ {L : List Nat}, (∀ o ∈ L, ∃ ob, look st.aC o = some ob) → look (st.back L r) q = some x → (q ∈ L ∧ look st.aC q = some x) ∨ (q ∉ L ∧ look r q = some x)
  | [], _, h => .inr ⟨by simp, h⟩
  | o :: L, hL, h => by
    obtain ⟨ob, aS⟩ := hL o (by simp)
    simp only [St.back, aS, look] at h
    cases hb : Nat.beq o q with
    | true =>
      have := Nat.eq_of_beq_eq_true hb
      subst this
      simp only [hb, cond_true, Option.some.injEq] at h
      exact .inl ⟨by simp, by rw [aS, h]⟩
    | false =>
      simp only [hb, cond_false] at h
      have fc : q ≠ o := Ne.symm (Nat.ne_of_beq_eq_false hb)
      rcases se st (fun o ho => hL o (List.mem_cons_of_mem _ ho)) h with ⟨h1, h2⟩ | ⟨h1, h2⟩
      · exact .inl ⟨List.mem_cons_of_mem _ h1, h2⟩
      · exact .inr ⟨by simp [fc, h1], h2⟩
def jN (st : St) (L F' : List Nat) : Prop := ∀ o ∈ L, ∃ ob, look st.aC o = some ob ∧ ∀ xs, ob = .cells xs → ∀ q, X.cH q xs = true → F'.elem q = true
theorem mX.down {G : Ctx} {E : Env} {RR : Own → List Nat} {a : Act} {L F' : List Nat} {T : Nat → List Nat} (hi : Inv G E RR st a) (hT : ∀ o ∈ L, RR (.obj o) = T o) {Bz : St} (hle : Le st Bz) (MA : ∀ o ∈ L, look Bz.aC o = none) :
    bZ (mX G E L T F') Bz a E.w := by
  refine ⟨E, fun p => match p with | .obj o => if o ∈ L then [] else RR (.obj o) | p => RR p, rfl, ?_⟩
  have sub : ∀ p b, b ∈ (match p with | .obj o => if o ∈ L then [] else RR (.obj o) | p => RR p : List Nat) → b ∈ RR p ∧ ∀ o, p = .obj o → o ∉ L := by
    intro p b h
    cases p with
    | obj o =>
      by_cases hL : o ∈ L
      · simp [hL] at h
      · simp only [hL, if_false] at h
        exact ⟨h, fun q hq => by cases hq; exact hL⟩
    | slot s => exact ⟨h, fun q hq => by cases hq⟩
  exact {
    lq := hi.lq
    aA := fun s x hx => hi.aA s x (hle.1 s x hx)
    aC := fun o ob ho => by
      by_cases hL : o ∈ L
      · rw [MA o hL] at ho; cases ho
      · simp only [hL, if_false]; exact hi.aC o ob (hle.2 o ob ho)
    nodup := fun p => by
      cases p with
      | obj o =>
        by_cases hL : o ∈ L
        · simp [hL]
        · simp only [hL, if_false]; exact hi.nodup _
      | slot s => exact hi.nodup _
    apart := fun p q lr b hb fS => hi.apart p q lr b (sub p b hb).1 (sub q b fS).1
    own := fun p b hb => by
      obtain ⟨h1, h2⟩ := sub p b hb
      refine ⟨(hi.own p b h1).1, fun BP => ?_⟩
      rcases (BP : G.K b ∨ ∃ o, o ∈ L ∧ b ∈ T o) with h | ⟨o, ho, GV⟩
      · exact (hi.own p b h1).2 h
      · rw [← hT o ho] at GV
        have fc : p ≠ .obj o := fun e => h2 o e ho
        exact hi.apart p (.obj o) fc b h1 GV
    ao := fun _ _ => rfl
    size := Nat.le_refl _
    small := fun b BP => by
      rcases (BP : G.K b ∨ ∃ o, o ∈ L ∧ b ∈ T o) with h | ⟨o, ho, GV⟩
      · exact Nat.lt_of_lt_of_le (hi.small b h) hi.size
      · rw [← hT o ho] at GV
        exact (hi.own _ b GV).1
    os := rfl
    tape := rfl
    output := rfl
    φ0 := fun _ _ _ h => h
    grow := fun _ _ _ h => .inl h
    fixed := fun _ _ => rfl
    tmps := hi.tmps
    defers := hi.defers }
theorem mX.up {G : Ctx} {E : Env} {RR : Own → List Nat} {a : Act} {L F' : List Nat} {T : Nat → List Nat} (hi : Inv G E RR st a) (hT : ∀ o ∈ L, RR (.obj o) = T o) (hF : ∀ o, G.fn.F.elem o = true → F'.elem o = true) (MB : ∀ o ∈ L, F'.elem o = true)
    (aS : jN st L F') {bc : St} {a' : Act} {w' : World} (h : bZ (mX G E L T F') bc a' w') : bZ G ⟨bc.aA, st.back L bc.aC⟩ a' w' := by
  obtain ⟨E', fe, rfl, hj⟩ := h
  have DB : ∀ {o b}, o ∈ L → b ∈ RR (.obj o) → (mX G E L T F').K b := fun ho hb => .inr ⟨_, ho, by rw [← hT _ ho]; exact hb⟩
  have sub : ∀ p b, b ∈ (match p with | .obj o => if o ∈ L then RR (.obj o) else fe (.obj o) | p => fe p : List Nat) → (∃ o, o ∈ L ∧ p = .obj o ∧ b ∈ RR p) ∨ ((∀ o, p = .obj o → o ∉ L) ∧ b ∈ fe p) := by
    intro p b h
    cases p with
    | obj o =>
      by_cases hL : o ∈ L
      · simp only [hL, if_true] at h
        exact .inl ⟨o, hL, rfl, h⟩
      · simp only [hL, if_false] at h
        exact .inr ⟨fun q hq => by cases hq; exact hL, h⟩
    | slot s => exact .inr ⟨fun q hq => (by cases hq), h⟩
  refine ⟨E', fun p => match p with | .obj o => if o ∈ L then RR (.obj o) else fe (.obj o) | p => fe p, rfl, ?_⟩
  exact {
    lq := hj.lq
    aA := fun s x hx => hj.aA s x hx
    aC := fun o ob ho => by
      rcases se st (fun o ho => (aS o ho).imp fun _ h => h.1) ho with ⟨h1, h2⟩ | ⟨h1, h2⟩
      · simp only [h1, if_true]
        obtain ⟨uH, Jx, Cm⟩ := aS o h1
        rw [h2] at Jx
        obtain rfl := Option.some.inj Jx
        refine dN.mono ⟨hj.φ0, fun b hb => ⟨hj.ao b (DB h1 hb), fun hn i => ?_⟩⟩ (hj.fixed o (MB o h1)) (fun xs fR q hq => hj.fixed q (Cm xs fR q hq)) (hi.aC o ob h2)
        cases hφ : E'.φ b i with
        | none => rfl
        | some v =>
          rcases hj.grow b i v hφ with h3 | h3
          · have h4 := hn i
            change E.φ b i = some v at h3
            rw [h4] at h3; cases h3
          · exact absurd (DB h1 hb) h3
      · simp only [h1, if_false]; exact hj.aC o ob h2
    nodup := fun p => by
      cases p with
      | obj o =>
        by_cases hL : o ∈ L
        · simp only [hL, if_true]; exact hi.nodup _
        · simp only [hL, if_false]; exact hj.nodup _
      | slot s => exact hj.nodup _
    apart := fun p q lr b hb fS => by
      rcases sub p b hb with ⟨o, ho, rfl, h1⟩ | ⟨_, h1⟩ <;> rcases sub q b fS with ⟨o', mr, rfl, h2⟩ | ⟨_, h2⟩
      · exact hi.apart _ _ lr b h1 h2
      · exact (hj.own _ b h2).2 (DB ho h1)
      · exact (hj.own _ b h1).2 (DB mr h2)
      · exact hj.apart _ _ lr b h1 h2
    own := fun p b hb => by
      rcases sub p b hb with ⟨o, ho, rfl, h1⟩ | ⟨_, h1⟩
      · exact ⟨Nat.lt_of_lt_of_le (hi.own _ b h1).1 hj.size, (hi.own _ b h1).2⟩
      · exact ⟨(hj.own _ b h1).1, fun hk => (hj.own _ b h1).2 (.inl hk)⟩
    ao := fun b hb => (hj.ao b (.inl hb)).trans (hi.ao b hb)
    size := Nat.le_trans hi.size hj.size
    small := hi.small
    os := hj.os.trans hi.os
    tape := hj.tape.trans hi.tape
    output := hj.output.trans hi.output
    φ0 := fun b i v h => hj.φ0 b i v (hi.φ0 b i v h)
    grow := fun b i v h => by
      rcases hj.grow b i v h with h1 | h1
      · exact hi.grow b i v h1
      · exact .inr fun hk => h1 (.inl hk)
    fixed := fun o ho => (hj.fixed o (hF o ho)).trans (hi.fixed o ho)
    tmps := hj.tmps
    defers := hj.defers }
theorem mY {Q1 Q2 : Exit → Act → World → Prop} {K1 K2 : Act → World → Prop} {j : Nat} {a : Act} {w : World} (hQ : ∀ e a w, e ≠ .normal → Q1 e a w → False) (hK : ∀ a w, K1 a w → K2 a w) (h : wpOp P ops Q1 j K1 a w) : wpOp P ops Q2 j K2 a w := by
  unfold wpOp at *
  cases ho : ops[j]? with
  | none => simp only [ho] at h ⊢; first | exact hK _ _ h | exact h
  | some o =>
    simp only [ho] at *
    split
    · rename_i hw
      simp only [hw, if_true] at h
      rcases h with h | ⟨_, hl⟩
      · refine .inl ?_
        unfold Oper.wp at *
        generalize (execOp a.eval o).run P w = r at *
        cases r with
        | ok nx w' =>
          cases nx <;> simp only [Oper.upon] at h ⊢ <;> first
            | exact hK _ _ h
            | exact Calls.mono h (fun e OK he => by
                cases e with
                | returned u => exact hK _ _ he
                | panicked c => exact (hQ _ _ _ (by simp) he).elim
                | outgrown => exact (let ⟨_, _, h'⟩ := he; hQ _ _ _ (by simp) h').elim)
            | exact Rows.mono h (fun _ _ he => hK _ _ he)
        | halt x w' => cases x <;> simp only [Oper.upon] at h ⊢ <;> first | exact (hQ _ _ _ (by simp) h).elim | exact (let ⟨_, _, h'⟩ := h; hQ _ _ _ (by simp) h').elim | exact h
      · obtain ⟨_, _, h'⟩ := hl
        exact (hQ _ _ _ (by simp) h').elim
    · rename_i hw
      simp only [hw] at h
      exact hK _ _ h
theorem pb {md : Region.Mode} {S : World → Prop} {Q1 Q2 : Exit → Act → World → Prop} (hQ : ∀ e a w, e ≠ .normal → Q1 e a w → False) (hN : ∀ a w, Q1 .normal a w → Q2 .normal a w) :
    ∀ (n : Nat) (ah : Array Bool) (a : Act) (w : World), wpAnyH P md ops Q1 S n ah a w → wpAnyH P md ops Q2 S n ah a w
  | 0, _, _, _, h => ⟨h.1, hN _ _ h.2⟩
  | n + 1, _, _, _, h => ⟨fun h0 => hN _ _ (h.1 h0), fun i hi => mY hQ (fun a w h' => ⟨h'.1, pb hQ hN n _ a w h'.2⟩) (h.2 i hi)⟩
theorem bF.go {L F' : List Nat} {n : Nat} {ah : Array Bool} (Bz : St) (hle : Le st Bz) (MA : ∀ o ∈ L, look Bz.aC o = none) (hF : ∀ o, N.F.elem o = true → F'.elem o = true) (MB : ∀ o ∈ L, F'.elem o = true)
    (aS : jN st L F') (k : cd P ⟨N.n, F'⟩ ops n ah Bz (fun bc => K ⟨bc.aA, st.back L bc.aC⟩)) : bF P N L F' ops n ah st K := by
  intro G hn E RR a T hT hi
  refine pb (fun e a w he h => he h.1) ?_ n ah a E.w (k (mX G E L T F') (by simp [mX, hn]) a E.w (mX.down hi hT hle MA))
  rintro a' w' ⟨_, bc, hk, hh⟩
  exact ⟨rfl, _, hk, mX.up hi hT (by rw [hn]; exact hF) MB aS hh⟩
theorem cd.step {n : Nat} {ah : Array Bool} (j : Nat) {o : Oper} (ho : ops[j]? = some o)
    (k : aa P N ops [o] st (fun e bc => e = .normal ∧ cd P N ops n (ah.setIfInBounds j true) bc K)) (G : Ctx) (hn : G.fn = N) (a : Act) (w : World) (hh : bZ G st a w) :
    wpOp P ops (fun e a w => e = .normal ∧ ∃ bc, K bc ∧ bZ G bc a w) j (fun a' w' => SG G w' ∧ wpAnyH P .any ops (fun e a w => e = .normal ∧ ∃ bc, K bc ∧ bZ G bc a w) (SG G) n (ah.setIfInBounds j true) a' w') a w := by
  have hk := k G hn a w hh
  have key : wpOp P ops (fun e a w => lh G (fun e bc => e = .normal ∧ cd P N ops n (ah.setIfInBounds j true) bc K) e a w) j
      (fun a w => lh G (fun e bc => e = .normal ∧ cd P N ops n (ah.setIfInBounds j true) bc K) .normal a w) a w := by
    unfold wpOp; simp only [ho]; exact hk
  refine mY ?_ ?_ key
  · rintro e a w he ⟨bc, _, h, _⟩
    exact he h
  · rintro a w ⟨bc, gR, _, wM⟩
    exact ⟨gR.sg, wM G hn a w gR⟩
theorem cd.one {n : Nat} {ah : Array Bool} (i : Nat) {o : Oper} (ho : ops[i]? = some o) (hr : (Region.ready .any ops ah == [i]) = true)
    (k : aa P N ops [o] st (fun e bc => e = .normal ∧ cd P N ops n (ah.setIfInBounds i true) bc K)) : cd P N ops (n + 1) ah st K := by
  intro G hn a w hh
  refine wpAnyH_all (rs := [i]) (by simpa using hr) (by simp) ?_
  intro j hj
  have : j = i := by simpa using hj
  subst this
  exact cd.step j ho k G hn a w hh
theorem cd.two {n : Nat} {ah : Array Bool} (i i' : Nat) {o o' : Oper} (ho : ops[i]? = some o) (mr : ops[i']? = some o') (hr : (Region.ready .any ops ah == [i, i']) = true)
    (k : aa P N ops [o] st (fun e bc => e = .normal ∧ cd P N ops n (ah.setIfInBounds i true) bc K))
    (k' : aa P N ops [o'] st (fun e bc => e = .normal ∧ cd P N ops n (ah.setIfInBounds i' true) bc K)) : cd P N ops (n + 1) ah st K := by
  intro G hn a w hh
  refine wpAnyH_all (rs := [i, i']) (by simpa using hr) (by simp) ?_
  intro j hj
  simp only [List.mem_cons, List.not_mem_nil, or_false] at hj
  rcases hj with rfl | rfl
  · exact cd.step j ho k G hn a w hh
  · exact cd.step j mr k' G hn a w hh
theorem cd.blind {n : Nat} {ah : Array Bool} (i : Nat) {op : Op} {x : X} (ho : ops[i]? = some ⟨some d, op, ty, pos, af, none⟩)
    (hB : (Region.noSelect ops && Region.free .any ops ah i && (Region.ready .any ops ah).contains i) = true) (hy : aL P N st ⟨some d, op, ty, pos, af, none⟩ x) (hd : d < N.n)
    (k : cd P N ops n (ah.setIfInBounds i true) (st.put d x) K) : cd P N ops (n + 1) ah st K := by
  intro G hn a w hh
  have hS := hh.sg
  obtain ⟨E, RR, rfl, hi⟩ := hh
  obtain ⟨u, hr, hx⟩ := hy G E RR a hn hi
  simp only [Bool.and_eq_true] at hB
  refine wpAnyH_take (v := u) ho hB.1.1 hB.1.2 hB.2 ?_ (.inl ⟨by simp [Region.wanted], fun w _ => hr w⟩) hS (k G hn _ _ ⟨E, _, rfl, hi.fT (hn ▸ hd) hx⟩)
  intro c a w h
  cases h.1
theorem cd.done {n : Nat} {ah : Array Bool} (hr : (Region.ready .any ops ah).isEmpty = true) (h : K st) : cd P N ops n ah st K :=
  fun _ _ _ _ hh => wpAnyH_done (by simpa using hr) ⟨rfl, st, h, hh⟩ n
theorem Le.aC {st : St} {l : List (Nat × Obj)} (h : fB st.aC l) : Le st ⟨st.aA, l⟩ := ⟨fun _ _ h => h, h⟩
theorem jN.nil {F' : List Nat} : jN st [] F' := fun _ h => by cases h
def ownNames : List X → List Nat
  | [] => []
  | .ptr o .. :: r | .aY o .. :: r | .mref o :: r => o :: ownNames r
  | .v _ :: r | .fz .. :: r | .no :: r | .fp .. :: r | .cX .. :: r => ownNames r
  | _ :: r => ownNames r
def xu : List X → Bool
  | [] => true
  | .agg _ :: _ | .tup _ :: _ | .gN .. :: _ => false
  | _ :: r => xu r
theorem jU {q : Nat} : ∀ {xs : List X}, xu xs = true → X.cH q xs = true → q ∈ ownNames xs
  | [], _, h => by simp [X.cH] at h
  | x :: r, hf, h => by
    simp only [X.cH, Bool.or_eq_true] at h
    cases x <;> simp only [xu, Bool.false_eq_true] at hf <;> simp only [ownNames, X.dA, Bool.false_eq_true, false_or, beq_iff_eq, List.mem_cons] at h ⊢ <;>
      first
        | exact jU hf h
        | (rcases h with h | h
           · first | exact .inl h.symm | exact .inl h | exact .inl (Nat.eq_of_beq_eq_true h).symm | exact .inl (Nat.eq_of_beq_eq_true h)
           · exact .inr (jU hf h))
theorem jN.cells {F' L : List Nat} {o : Nat} {xs : List X} (ho : look st.aC o = some (.cells xs)) (hf : xu xs = true) (hn : (ownNames xs).all (fun q => F'.elem q) = true) (hL : jN st L F') : jN st (o :: L) F' := by
  intro p hp
  rcases List.mem_cons.1 hp with rfl | hp
  · exact ⟨_, ho, fun ys tm q hq => by cases tm; exact List.all_eq_true.1 hn q (jU hf hq)⟩
  · exact hL p hp
theorem bF.R0 {n : Nat} {ah : Array Bool} (k : cd P N ops n ah st K) : bF P N [] N.F ops n ah st K :=
  bF.go st (Le.refl st) (fun _ h => by cases h) (fun _ h => h) (fun _ h => by cases h) jN.nil k
end
end Go.AW
namespace Go.AW
open Go
section
variable {P : Program}
theorem Sh.then {N : eg} {a b c : St} (h1 : Sh N a b) (h2 : Sh N b c) : Sh N a c := fun G hn x w hh => h2 G hn x w (h1 G hn x w hh)
end
end Go.AW
namespace Go.AW
open Go
section
variable {N : eg} {st : St} {d : Nat}
end
theorem ab.ur {P : Program} {N : eg} {st : St} {ops : Array Oper} (L F' : List Nat) (J : St) {Q : Exit → St → Prop} {id : Nat} (hm : P.follows .mixedOrders = true) (h : bF P N L F' ops ops.size (Array.replicate ops.size false) st (fun bc => Le bc J)) (k : Q .normal J) : ab P N (.region id ops true) st Q := by
 intro G hn a w hh
 obtain ⟨E, RR, hw, hi⟩ := hh.drew
 refine wp_mono (wp_region_held (S := SG (mX G E L (fun o => RR (.obj o)) F')) hm (hw ▸ h G hn E RR a _ (fun _ _ => rfl) hi)) ?_
 rintro e a w ⟨rfl, bc, hk, gR⟩
 exact ⟨J, hk.holds gR, k⟩
theorem ab.sU {P : Program} {N : eg} {st : St} {ops : Array Oper} (J : St) {Q : Exit → St → Prop} {id : Nat} (hm : P.follows .mixedOrders = true) (h : bF P N [] N.F ops ops.size (Array.replicate ops.size false) st (fun bc => Le bc J)) (k : Q .normal J) : ab P N (.region id ops true) st Q := ab.ur [] N.F J hm h k
end Go.AW
namespace Go.AW
open Go
section
variable {P : Program} {ops : Array Oper} {Q : Exit → Act → World → Prop} {md : Region.Mode} {S : World → Prop}
def wpAnyL (P : Program) (md : Region.Mode) (ops : Array Oper) (Q : Exit → Act → World → Prop) (S : World → Prop) (LT : List Nat) : Nat → Array Bool → Act → World → Prop
 | 0, ah, a, w => Region.ready md ops ah = [] ∧ Q .normal a w
 | n + 1, ah, a, w => (Region.ready md ops ah = [] → Q .normal a w) ∧
   ∀ i ∈ Region.ready md ops ah, wpOp P ops Q i (fun a' w' => (i ∈ LT ∨ S w') ∧ wpAnyL P md ops Q S LT n (ah.setIfInBounds i true) a' w') a w
theorem wpAnyL_first {LT : List Nat} {i : Nat} {oi : Oper} {v : Value} (hi : ops[i]? = some oi) (z3 : ∀ (j : Nat) (o : Oper) cs b, ops[j]? = some o → o.op ≠ .select cs b)
  (hQ : ∀ c a w, Q (.panic c) (a.put oi.dst v) w → Q (.panic c) a w) (gM : ∀ j ∈ LT, ∀ oj, ops[j]? = some oj → ∃ e ∈ oj.after, Region.binds md e = true ∧ e.on = i) :
  ∀ (n : Nat) (ah : Array Bool) (a : Act) (w : World), (∀ j oj, ops[j]? = some oj → j ≠ i → ah.getD j true = false → (∀ e ∈ oj.after, Region.binds md e = true → e.on ≠ i) → oi.apart ops oj = true) →
   i ∈ Region.ready md ops ah → YieldsIf P ops S oi v a → S w → wpAnyL P md ops Q S LT n (ah.setIfInBounds i true) (a.put oi.dst v) w → wpAnyL P md ops Q S LT (n + 1) ah a w := by
 intro n
 induction n with
 | zero =>
  intro ah a w _ hr hy hS H
  refine ⟨fun h => (by rw [h] at hr; cases hr), fun j hj => ?_⟩
  by_cases uL : j = i
  ·subst uL; exact hy.wpOp hi hS ⟨.inr hS, H⟩
  ·have := ready_mono hj uL
   rw [H.1] at this
   cases this
 | succ n ih =>
  intro ah a w ke hr hy hS H
  refine ⟨fun h => (by rw [h] at hr; cases hr), fun j hj => ?_⟩
  by_cases uL : j = i
  ·subst uL; exact hy.wpOp hi hS ⟨.inr hS, H⟩
  ·have h1 := H.2 j (ready_mono hj uL)
   obtain ⟨Jy, oj, yx, rz⟩ := mem_ready.1 hj
   have Ch : ∀ e ∈ oj.after, Region.binds md e = true → e.on ≠ i := by
    intro e he hb heq
    have h3 := rz e he hb
    have h4 := (mem_ready.1 hr).1
    rw [heq] at h3
    rcases Nat.lt_or_ge i ah.size with h' | h'
    ·simp [h'] at h3 h4; rw [h3] at h4; cases h4
    ·simp [Array.getElem?_eq_none h'] at h3
   have lV : j ∉ LT := fun hm => by
    obtain ⟨e, he, hb, ho⟩ := gM j hm oj yx
    exact Ch e he hb ho
   have h2 := wpOp_putIf yx (ke j oj yx uL Jy Ch) (fun cs b => z3 i oi cs b hi) (fun cs b => z3 j oj cs b yx) hQ hy h1
   refine wpOp_mono (fun a' w' h3 => ⟨h3.2.1, ih (ah.setIfInBounds j true) a' w' ?_ (ready_mono hr (Ne.symm uL)) h3.1 (h3.2.1.resolve_left lV) ?_⟩) h2
   ·intro k ok hk rq HU HO
    refine ke k ok hk rq ?_ HO
    by_cases rJ : j = k
    ·subst rJ; exact Jy
    ·rw [getD_set_ne true rJ] at HU; exact HU
   ·rw [Array.setIfInBounds_comm _ _ uL]; exact h3.2.2
end
end Go.AW
namespace Go.AW
open Go
section
variable {P : Program} {N : eg} {st : St} {ops : Array Oper} {d : Nat} {ty : TypeId} {pos : String} {af : Array Edge} {K : St → Prop}
def uu (ops : Array Oper) (LT : List Nat) (i : Nat) : Bool := LT.all fun j => match ops[j]? with
 | some oj => oj.after.toList.any fun e => Region.binds .any e && e.on == i
 | none => true
theorem jO {Q : Exit → Act → World → Prop} {S : World → Prop} {LT : List Nat} {i : Nat} {oi : Oper} {v : Value} {n : Nat} {ah : Array Bool} {a : Act} {w : World} (hi : ops[i]? = some oi)
  (hs : Region.noSelect ops = true) (hf : Region.free .any ops ah i = true) (hr : (Region.ready .any ops ah).contains i = true) (gM : uu ops LT i = true)
  (hQ : ∀ c a w, Q (.panic c) (a.put oi.dst v) w → Q (.panic c) a w) (hy : YieldsIf P ops S oi v a) (hS : S w)
  (h : wpAnyL P .any ops Q S LT n (ah.setIfInBounds i true) (a.put oi.dst v) w) : wpAnyL P .any ops Q S LT (n + 1) ah a w :=
 wpAnyL_first hi (Region.noSelect_spec hs) hQ (fun j hj oj yx => by
  have h1 := List.all_eq_true.1 gM j hj
  simp only [yx, List.any_eq_true, Bool.and_eq_true, beq_iff_eq, Array.mem_toList_iff] at h1
  exact h1) n ah a w (Region.free_spec hi hf) (by simpa using hr) hy hS h
theorem vU {Q : Exit → Act → World → Prop} {S : World → Prop} {LT rs : List Nat} {n : Nat} {ah : Array Bool} {a : Act} {w : World} (hr : Region.ready .any ops ah = rs) (fc : rs ≠ [])
  (h : ∀ i ∈ rs, wpOp P ops Q i (fun a' w' => S w' ∧ wpAnyL P .any ops Q S LT n (ah.setIfInBounds i true) a' w') a w) : wpAnyL P .any ops Q S LT (n + 1) ah a w :=
 ⟨fun h0 => absurd (hr ▸ h0) fc, fun i hi => wpOp_mono (fun _ _ h' => ⟨.inr h'.1, h'.2⟩) (h i (hr ▸ hi))⟩
def fP (P : Program) (N : eg) (LT : List Nat) (ops : Array Oper) (R : Nat → Array Bool → St → Prop) (n : Nat) (ah : Array Bool) (st : St) : Prop :=
 ∀ G : Ctx, G.fn = N → ∀ Q : Exit → Act → World → Prop, (∀ c a w, Q (.panic c) a w → False) →
  (∀ n' l' bc a' w', R n' l' bc → bZ G bc a' w' → wpAnyL P .any ops Q (SG G) LT n' l' a' w') → ∀ a w, bZ G st a w → wpAnyL P .any ops Q (SG G) LT n ah a w
def jd (P : Program) (N : eg) (LT L F' : List Nat) (ops : Array Oper) (n : Nat) (ah : Array Bool) (st : St) (K : St → Prop) : Prop :=
 ∀ G : Ctx, G.fn = N → ∀ E RR a (T : Nat → List Nat), (∀ o ∈ L, RR (.obj o) = T o) → Inv G E RR st a →
  wpAnyL P .any ops (fun e a w => e = .normal ∧ ∃ bc, K bc ∧ bZ G bc a w) (SG (mX G E L T F')) LT n ah a E.w
theorem jd.blind {LT L F' : List Nat} {n : Nat} {ah : Array Bool} (i : Nat) {op : Op} {x : X} (ho : ops[i]? = some ⟨some d, op, ty, pos, af, none⟩)
  (hB : (Region.noSelect ops && Region.free .any ops ah i && (Region.ready .any ops ah).contains i) = true) (gM : uu ops LT i = true) (hy : aL P N st ⟨some d, op, ty, pos, af, none⟩ x) (hd : d < N.n)
  (k : jd P N LT L F' ops n (ah.setIfInBounds i true) (st.put d x) K) : jd P N LT L F' ops (n + 1) ah st K := by
 intro G hn E RR a T hT hi
 obtain ⟨u, hr, hx⟩ := hy G E RR a hn hi
 simp only [Bool.and_eq_true] at hB
 refine jO (v := u) ho hB.1.1 hB.1.2 hB.2 gM ?_ (.inl ⟨by simp [Region.wanted], fun w _ => hr w⟩) (hi.Eu L T F') (k G hn E _ _ T ?_ (hi.fT (hn ▸ hd) hx))
 ·intro c a w h
  cases h.1
 ·intro o ho
  have := hT o ho
  simpa [eZ] using this
theorem jd.load {LT L F' : List Nat} {n : Nat} {ah : Array Bool} (i : Nat) {t : TypeId} {x : Operand} {p y : X} {row : List X} (ho : ops[i]? = some ⟨some d, .load t x, ty, pos, af, none⟩)
  (hB : (Region.noSelect ops && Region.free .any ops ah i && (Region.ready .any ops ah).contains i) = true) (gM : uu ops LT i = true) (ht : TY.shape P t = some none) (hx : bw st x = some p) (hL : uq L p = true) (hr : rowAt st p = some row)
  (hy : row[jZ p]? = some y) (hf : y.free = true) (hd : d < N.n)
  (k : jd P N LT L F' ops n (ah.setIfInBounds i true) (st.put d y) K) : jd P N LT L F' ops (n + 1) ah st K := by
 intro G hn E RR a T hT hi
 obtain ⟨R, hp⟩ := hi.eval hx
 obtain ⟨b, off, hc, g7⟩ := hi.behind hp hr
 obtain ⟨b', pJ, nv, m7⟩ := hi.held (F' := F') hT hp hr hL
 obtain ⟨rfl, rfl⟩ := pC (hc.symm.trans nv)
 have hk : jZ p < row.length := by
  rcases Nat.lt_or_ge (jZ p) row.length with h' | h'
  ·exact h'
  ·simp [List.getElem?_eq_none h'] at hy
 obtain ⟨vs, R', hl, hv, fR⟩ := g7 (jZ p) 1 om
 rw [getElem?_drop_take_one hy] at fR
 simp only [bt] at fR
 obtain ⟨c, cG, R₁, R₂, E6, _, h1, ⟨rfl, rfl⟩, rfl⟩ := fR
 subst E6
 have h0 := RX.free hf h1
 subst h0
 simp only [Bool.and_eq_true] at hB
 refine jO (v := c) ho hB.1.1 hB.1.2 hB.2 gM ?_ (.inl ⟨by simp [Region.wanted], fun w hw => ?_⟩) (hi.Eu L T F') (k G hn E _ _ T ?_ (hi.fT (hn ▸ hd) h1))
 ·intro c a w h
  cases h.1
 ·show (do let z ← Instr.loadAt t (a.eval x); pure (Next.value z) : Sem Next).run P w = _
  rw [hc]
  refine cT ?_
  have g8 := hv 0 c rfl
  simp only [Instr.loadAt, Instr.sureAddr, loadVar, Sem.run_bind, Sem.run_pure, Result.andThen_ok, (TY.jm ht w).1]
  simp only [Nat.add_zero] at g8
  rw [← m7 w hw _ hk] at g8
  simp [g8]
 ·intro o ho
  have := hT o ho
  simpa [eZ] using this
theorem jd.AR {LT L F' : List Nat} {n : Nat} {ah : Array Bool} (i : Nat) {t : TypeId} {x : Operand} {p : X} {row : List X} {m : Nat} {ys : List X} (ho : ops[i]? = some ⟨some d, .load t x, ty, pos, af, none⟩)
  (hB : (Region.noSelect ops && Region.free .any ops ah i && (Region.ready .any ops ah).contains i) = true) (gM : uu ops LT i = true) (ht : TY.shape P t = some (some m)) (hx : bw st x = some p) (hL : uq L p = true) (hr : rowAt st p = some row)
  (hm : jZ p + m ≤ row.length) (tm : (row.drop (jZ p)).take m = ys) (hf : X.bj ys = true) (hd : d < N.n)
  (k : jd P N LT L F' ops n (ah.setIfInBounds i true) (st.put d (.agg ys)) K) : jd P N LT L F' ops (n + 1) ah st K := by
 intro G hn E RR a T hT hi
 obtain ⟨R, hp⟩ := hi.eval hx
 obtain ⟨b, off, hc, g7⟩ := hi.behind hp hr
 obtain ⟨b', pJ, nv, m7⟩ := hi.held (F' := F') hT hp hr hL
 obtain ⟨rfl, rfl⟩ := pC (hc.symm.trans nv)
 obtain ⟨vs, R', hl, hv, fR⟩ := g7 (jZ p) m hm
 rw [tm] at fR
 have h0 := bt.free hf fR
 subst h0
 simp only [Bool.and_eq_true] at hB
 refine jO (v := .agg vs.toArray) ho hB.1.1 hB.1.2 hB.2 gM ?_ (.inl ⟨by simp [Region.wanted], fun w hw => ?_⟩) (hi.Eu L T F') (k G hn E _ _ T ?_ (hi.fT (hn ▸ hd) (by simp only [RX]; exact ⟨_, rfl, fR⟩)))
 ·intro c a w h
  cases h.1
 ·show (do let z ← Instr.loadAt t (a.eval x); pure (Next.value z) : Sem Next).run P w = _
  rw [hc]
  refine cT ?_
  obtain ⟨h1, h2⟩ := TY.k9 ht w
  have h3 : (loadCells ⟨b, off + jZ p, none⟩ m).run P w = .ok vs.toArray w := by
   rw [← hl]
   refine run_loadCells_list (w := w) _ vs fun j v hj => ?_
   have lV : j < vs.length := (List.getElem?_eq_some_iff.1 hj).1
   rw [fO, Nat.add_assoc, m7 w hw _ om]; exact hv j v hj
  simp only [Instr.loadAt, Instr.sureAddr, loadVar, Sem.run_bind, Sem.run_pure, Result.andThen_ok, h1, if_true, h2, h3]
 ·intro o ho
  have := hT o ho
  simpa [eZ] using this
def Jz (P : Program) (N : eg) (LT L : List Nat) (ops : Array Oper) (st : St) (K : St → Prop) (n' : Nat) (l' : Array Bool) (bc : St) : Prop :=
 ((List.range l'.size).all fun j => l'.getD j true || LT.elem j) = true ∧ aT P N ops n' l' ⟨bc.aA, st.back L bc.aC⟩ K
section
variable {LT : List Nat} {R : Nat → Array Bool → St → Prop}
theorem fP.back {n : Nat} {ah : Array Bool} (h : R n ah st) : fP P N LT ops R n ah st := fun _ _ _ _ hR _ _ hh => hR _ _ _ _ _ h hh
theorem fP.late {N0 : eg} {L : List Nat} {Pn : St} {n : Nat} {ah : Array Bool} (h : ((List.range ah.size).all fun j => ah.getD j true || LT.elem j) = true)
  (k : aT P N0 ops n ah ⟨st.aA, Pn.back L st.aC⟩ K) : fP P N LT ops (Jz P N0 LT L ops Pn K) n ah st := fP.back ⟨h, k⟩
theorem fP.step {n : Nat} {ah : Array Bool} (j : Nat) {o : Oper} (ho : ops[j]? = some o)
  (k : aa P N ops [o] st (fun e bc => e = .normal ∧ fP P N LT ops R n (ah.setIfInBounds j true) bc)) (G : Ctx) (hn : G.fn = N) (Q : Exit → Act → World → Prop) (hQ : ∀ c a w, Q (.panic c) a w → False)
  (hR : ∀ n' l' bc a' w', R n' l' bc → bZ G bc a' w' → wpAnyL P .any ops Q (SG G) LT n' l' a' w') (a : Act) (w : World) (hh : bZ G st a w) :
  wpOp P ops Q j (fun a' w' => SG G w' ∧ wpAnyL P .any ops Q (SG G) LT n (ah.setIfInBounds j true) a' w') a w := by
 have hk := k G hn a w hh
 have key : wpOp P ops (fun e a w => lh G (fun e bc => e = .normal ∧ fP P N LT ops R n (ah.setIfInBounds j true) bc) e a w) j
   (fun a w => lh G (fun e bc => e = .normal ∧ fP P N LT ops R n (ah.setIfInBounds j true) bc) .normal a w) a w := by
  unfold wpOp; simp only [ho]; exact hk
 refine mY ?_ ?_ key
 ·rintro e a w he ⟨bc, _, h, _⟩
  exact he h
 ·rintro a w ⟨bc, gR, _, wM⟩
  exact ⟨gR.sg, wM G hn Q hQ hR a w gR⟩
theorem fP.one {n : Nat} {ah : Array Bool} (i : Nat) {o : Oper} (ho : ops[i]? = some o) (hr : (Region.ready .any ops ah == [i]) = true)
  (k : aa P N ops [o] st (fun e bc => e = .normal ∧ fP P N LT ops R n (ah.setIfInBounds i true) bc)) : fP P N LT ops R (n + 1) ah st := by
 intro G hn Q hQ hR a w hh
 refine vU (rs := [i]) (by simpa using hr) (by simp) ?_
 intro j hj
 have : j = i := by simpa using hj
 subst this
 exact fP.step j ho k G hn Q hQ hR a w hh
theorem fP.blind {n : Nat} {ah : Array Bool} (i : Nat) {op : Op} {x : X} (ho : ops[i]? = some ⟨some d, op, ty, pos, af, none⟩)
  (hB : (Region.noSelect ops && Region.free .any ops ah i && (Region.ready .any ops ah).contains i) = true) (gM : uu ops LT i = true) (hy : aL P N st ⟨some d, op, ty, pos, af, none⟩ x) (hd : d < N.n)
  (k : fP P N LT ops R n (ah.setIfInBounds i true) (st.put d x)) : fP P N LT ops R (n + 1) ah st := by
 intro G hn Q hQ hR a w hh
 have hS := hh.sg
 obtain ⟨E, RR, rfl, hi⟩ := hh
 obtain ⟨u, hr, hx⟩ := hy G E RR a hn hi
 simp only [Bool.and_eq_true] at hB
 refine jO (v := u) ho hB.1.1 hB.1.2 hB.2 gM ?_ (.inl ⟨by simp [Region.wanted], fun w _ => hr w⟩) hS (k G hn Q hQ hR _ _ ⟨E, _, rfl, hi.fT (hn ▸ hd) hx⟩)
 intro c a w h
 exact (hQ _ _ _ h).elim
end
end
end Go.AW
namespace Go.AW
open Go
section
variable {P : Program} {N : eg} {st : St} {ops : Array Oper} {d : Nat} {ty : TypeId} {pos : String} {af : Array Edge} {K : St → Prop} {L F' : List Nat} {n : Nat} {ah : Array Bool}
theorem Inv.le {G : Ctx} {E : Env} {RR : Own → List Nat} {a : Act} {bc : St} (hi : Inv G E RR st a) (h : Le st bc) : Inv G E RR bc a :=
 {hi with aA := fun s x hx => hi.aA s x (h.1 s x hx), aC := fun o x hx => hi.aC o x (h.2 o x hx) }
theorem bF.le {bc : St} (hl : Le st bc) (h : bF P N L F' ops n ah bc K) : bF P N L F' ops n ah st K := fun G hn E RR a T hT hi => h G hn E RR a T hT (hi.le hl)
theorem bF.split {b : Bool} (hx : look st.aA d = some (.v (.bool b))) (ht : b = true → bF P N L F' ops n ah (st.put d (.v (.bool true))) K) (hf : b = false → bF P N L F' ops n ah (st.put d (.v (.bool false))) K) : bF P N L F' ops n ah st K := by
 have : Le st (st.put d (.v (.bool b))) := ⟨fB.cons hx (fun _ _ h => h), fun _ _ h => h⟩
 cases b
 ·exact (hf rfl).le this
 ·exact (ht rfl).le this
theorem bF.ax {p : Prop} {inst : Decidable p} (hx : look st.aA d = some (.v (.bool (decide p)))) (ht : p → bF P N L F' ops n ah (st.put d (.v (.bool true))) K) (hf : ¬ p → bF P N L F' ops n ah (st.put d (.v (.bool false))) K) : bF P N L F' ops n ah st K :=
 bF.split hx (fun h => ht (of_decide_eq_true h)) (fun h => hf (of_decide_eq_false h))
theorem Inv.wanted {G : Ctx} {E : Env} {RR : Own → List Nat} {a : Act} {j dj : Nat} {want : Bool} {dst : Option Nat} {op : Op} (hi : Inv G E RR st a) (hj : (ops[j]?).bind (·.dst) = some dj) (r7 : dj < G.fn.n) (hx : look st.aA dj = some (.v (.bool want))) :
  Region.wanted ⟨dst, op, ty, pos, af, some (j, want)⟩ (yielded ops a.tmps) = true := by
 have hs := hi.aA dj _ hx
 simp only [RX] at hs
 have ez : dj < a.tmps.size := by rw [hi.tmps]; exact r7
 have hv : a.tmps[dj]? = some (.bool want) := by
  have := hs.1
  simp only [Array.getD, ez, dif_pos] at this
  rw [Array.getElem?_eq_getElem ez]
  exact congrArg some this
 simp [Region.wanted, yielded, hj, hv]
theorem bF.bR (i : Nat) {op : Op} {j dj : Nat} {want : Bool} {u : Value} (ho : ops[i]? = some ⟨some d, op, ty, pos, af, some (j, want)⟩)
  (hB : (Region.noSelect ops && Region.free .any ops ah i && (Region.ready .any ops ah).contains i) = true)
  (hj : (ops[j]?).bind (·.dst) = some dj) (r7 : dj < N.n) (hd : d < N.n) (hx : look st.aA dj = some (.v u)) (fc : pP want u = true)
  (k : bF P N L F' ops n (ah.setIfInBounds i true) (st.put d (.v undef)) K) : bF P N L F' ops (n + 1) ah st K := by
 intro G hn E RR a T hT hi
 simp only [Bool.and_eq_true] at hB
 have hw := kf (all := ops) (dst := some d) (op := op) (ty := ty) (pos := pos) (af := af) hi hj (hn ▸ r7) hx fc
 refine wpAnyH_take (v := undef) ho hB.1.1 hB.1.2 hB.2 ?_ (.inr ⟨hw, rfl⟩) (hi.Eu L T F') (k G hn E _ _ T ?_ (hi.fT (hn ▸ hd) (by simp [RX])))
 ·intro c a w h
  cases h.1
 ·intro o ho
  have := hT o ho
  simpa [eZ] using this
theorem bF.jq (i : Nat) {op : Op} {x : X} {j dj : Nat} {want : Bool} (ho : ops[i]? = some ⟨some d, op, ty, pos, af, some (j, want)⟩)
  (hB : (Region.noSelect ops && Region.free .any ops ah i && (Region.ready .any ops ah).contains i) = true)
  (hj : (ops[j]?).bind (·.dst) = some dj) (r7 : dj < N.n) (hx : look st.aA dj = some (.v (.bool want))) (hy : aL P N st ⟨some d, op, ty, pos, af, some (j, want)⟩ x) (hd : d < N.n)
  (k : bF P N L F' ops n (ah.setIfInBounds i true) (st.put d x) K) : bF P N L F' ops (n + 1) ah st K := by
 intro G hn E RR a T hT hi
 obtain ⟨u, hr, j5⟩ := hy G E RR a hn hi
 simp only [Bool.and_eq_true] at hB
 refine wpAnyH_take (v := u) ho hB.1.1 hB.1.2 hB.2 ?_ (.inl ⟨hi.wanted hj (hn ▸ r7) hx, fun w _ => hr w⟩) (hi.Eu L T F') (k G hn E _ _ T ?_ (hi.fT (hn ▸ hd) j5))
 ·intro c a w h
  cases h.1
 ·intro o ho
  have := hT o ho
  simpa [eZ] using this
theorem aL.pick {c x y : Operand} {b : Bool} {z : X} {dst : Option Nat} {g : Option (Nat × Bool)} (hc : bw st c = some (.v (.bool b))) (hz : bw st (if b then x else y) = some z) (hf : z.free = true) : aL P N st ⟨dst, .pick c x y, ty, pos, af, g⟩ z := by
 intro G E RR a _ hi
 obtain ⟨R, h⟩ := hi.eval hz
 have := RX.free hf h
 subst this
 refine ⟨a.eval (if b then x else y), fun w => ?_, h⟩
 have nv := hi.val hc
 simp only [execOp, nv]
 cases b <;> rfl
theorem cd.le {bc : St} (hl : Le st bc) (h : cd P N ops n ah bc K) : cd P N ops n ah st K := fun G hn a w hh => h G hn a w (hl.holds hh)
theorem cd.split {b : Bool} (hx : look st.aA d = some (.v (.bool b))) (ht : b = true → cd P N ops n ah (st.put d (.v (.bool true))) K) (hf : b = false → cd P N ops n ah (st.put d (.v (.bool false))) K) : cd P N ops n ah st K := by
 have : Le st (st.put d (.v (.bool b))) := ⟨fB.cons hx (fun _ _ h => h), fun _ _ h => h⟩
 cases b
 ·exact (hf rfl).le this
 ·exact (ht rfl).le this
theorem cd.ax {p : Prop} {inst : Decidable p} (hx : look st.aA d = some (.v (.bool (decide p)))) (ht : p → cd P N ops n ah (st.put d (.v (.bool true))) K) (hf : ¬ p → cd P N ops n ah (st.put d (.v (.bool false))) K) : cd P N ops n ah st K :=
 cd.split hx (fun h => ht (of_decide_eq_true h)) (fun h => hf (of_decide_eq_false h))
theorem cd.bR (i : Nat) {op : Op} {j dj : Nat} {want : Bool} {u : Value} (ho : ops[i]? = some ⟨some d, op, ty, pos, af, some (j, want)⟩)
  (hB : (Region.noSelect ops && Region.free .any ops ah i && (Region.ready .any ops ah).contains i) = true)
  (hj : (ops[j]?).bind (·.dst) = some dj) (r7 : dj < N.n) (hd : d < N.n) (hx : look st.aA dj = some (.v u)) (fc : pP want u = true)
  (k : cd P N ops n (ah.setIfInBounds i true) (st.put d (.v undef)) K) : cd P N ops (n + 1) ah st K := by
 intro G hn a w hh
 have hS := hh.sg
 obtain ⟨E, RR, rfl, hi⟩ := hh
 simp only [Bool.and_eq_true] at hB
 have hw := kf (all := ops) (dst := some d) (op := op) (ty := ty) (pos := pos) (af := af) hi hj (hn ▸ r7) hx fc
 refine wpAnyH_take (v := undef) ho hB.1.1 hB.1.2 hB.2 ?_ (.inr ⟨hw, rfl⟩) hS (k G hn _ _ ⟨E, _, rfl, hi.fT (hn ▸ hd) (by simp [RX])⟩)
 intro c a w h
 cases h.1
theorem cd.jq (i : Nat) {op : Op} {x : X} {j dj : Nat} {want : Bool} (ho : ops[i]? = some ⟨some d, op, ty, pos, af, some (j, want)⟩)
  (hB : (Region.noSelect ops && Region.free .any ops ah i && (Region.ready .any ops ah).contains i) = true)
  (hj : (ops[j]?).bind (·.dst) = some dj) (r7 : dj < N.n) (hx : look st.aA dj = some (.v (.bool want))) (hy : aL P N st ⟨some d, op, ty, pos, af, some (j, want)⟩ x) (hd : d < N.n)
  (k : cd P N ops n (ah.setIfInBounds i true) (st.put d x) K) : cd P N ops (n + 1) ah st K := by
 intro G hn a w hh
 have hS := hh.sg
 obtain ⟨E, RR, rfl, hi⟩ := hh
 obtain ⟨u, hr, j5⟩ := hy G E RR a hn hi
 simp only [Bool.and_eq_true] at hB
 refine wpAnyH_take (v := u) ho hB.1.1 hB.1.2 hB.2 ?_ (.inl ⟨hi.wanted hj (hn ▸ r7) hx, fun w _ => hr w⟩) hS (k G hn _ _ ⟨E, _, rfl, hi.fT (hn ▸ hd) j5⟩)
 intro c a w h
 cases h.1
end
end Go.AW
namespace Go.AW
open Go
def FR (ro : Option Nat) : Fence := { Fence.wide with round := ro }
def lf (o : Oper) : Bool := match o.op with | .defer _ => false | _ => true
theorem wo {o : Oper} (h : lf o = true) : ∀ c, o.op ≠ .defer c := fun c e => by simp [lf, e] at h
section
variable {P : Program} {Q : Exit → Act → World → Prop} {a : Act} {w : World} {ro : Option Nat} {o : Oper} {next : Act → World → Prop}
theorem Bm {f : FuncId} {args : Array Value} {R : Ending → World → Prop} {n : Nat} (h : Calls P f args w R) : CallsIn (FR ro) n P f args w R := (callsIn_wide (n := n)).2 h
theorem Dt {row : String} {args : Array Value} {R : Value → World → Prop} {n : Nat} (h : Rows P row args w R) : RowsIn (FR ro) n P row args w R :=
 fun c cs _ => let ⟨v, w', r, s⟩ := h c cs; ⟨v, w', r, stepsIn_wide.2 s⟩
theorem Du {r : Result Next} (h : o.upon P a next Q r) : o.uponIn (FR ro) 0 P a next Q r := by
 cases r with
 | ok x w' =>
  cases x
  case value v => exact h
  case skip => exact h
  case defer d => exact h
  case enter f args => exact ⟨fun h => by simp [FR, Fence.wide] at h, Bm h⟩
  case row row args => exact ⟨fun h => by simp [FR, Fence.wide] at h, Dt h⟩
  all_goals exact (show False from h).elim
 | halt x w' =>
  cases x
  case panic v => exact h
  all_goals exact (show False from h).elim
theorem Bn (hd : lf o = true) (h : o.wp P a w next Q) : o.wpIn (FR ro) 0 P a w next Q := by
 refine ⟨fun _ _ => trivial, ?_⟩
 rw [Oper.semAt_eq _ _ _ (wo hd)]
 exact Du h
theorem oO {ops : Array Oper} (hQ : ¬ LetsOut Q) : ∀ {l : List Oper} {a : Act} {w : World}, l.all lf = true → wpList P ops Q l a w → wpListIn (FR ro) 0 P ops Q l a w
 | [], _, _, _, h => h
 | o :: rest, a, w, hd, h => by
  simp only [List.all_cons, Bool.and_eq_true] at hd
  unfold wpList at h
  unfold wpListIn
  split at h
  ·rename_i hw
   rw [if_pos hw]
   rcases h with h | h
   ·exact Oper.wpIn_mono (fun _ _ h => oO hQ hd.2 h) (Bn hd.1 h)
   ·exact absurd h.2 hQ
  ·rename_i hw
   rw [if_neg hw]
   exact ⟨fun _ _ => trivial, oO hQ hd.2 h⟩
theorem oc {ops : Array Oper} (hQ : ¬ LetsOut Q) (hd : ops.toList.all lf = true) : ∀ {l : List Nat} {a : Act} {w : World}, wpOps P ops Q l a w → wpOpsIn (FR ro) 0 P ops Q l a w
 | [], _, _, h => h
 | i :: rest, a, w, h => by
  unfold wpOps at h
  unfold wpOpsIn
  cases ho : ops[i]? with
  | none => rw [ho] at h; exact oc hQ hd h
  | some o =>
   rw [ho] at h
   simp only at h ⊢
   have J8 : lf o = true := List.all_eq_true.1 hd o (Array.mem_toList_iff.2 (Array.mem_of_getElem? ho))
   split at h
   ·rename_i hw
    rw [if_pos hw]
    rcases h with h | h
    ·exact Oper.wpIn_mono (fun _ _ h => oc hQ hd h) (Bn J8 h)
    ·exact absurd h.2 hQ
   ·rename_i hw
    rw [if_neg hw]
    exact ⟨fun _ _ => trivial, oc hQ hd h⟩
theorem yk {id : Nat} {l : List Oper} (hQ : ¬ LetsOut Q) (hd : l.all lf = true) (h : wpList P l.toArray Q l a w) : (Code.region id l.toArray false).wpIn (FR ro) 0 P Q a w :=
 wpIn_region_lit (oO hQ hd h)
theorem rj {id : Nat} {ops : Array Oper} (hm : P.follows .mixedOrders = true) (hQ : ¬ LetsOut Q) (hd : ops.toList.all lf = true) (h : wpAny P .any ops Q ops.size (Array.replicate ops.size false) a { w with drawn := w.drawn + 1 }) :
  (Code.region id ops true).wpIn (FR ro) 0 P Q a w :=
 wpIn_region_draw fun t => by
  simp only [Region.schedule, hm, Bool.true_or, if_true]
  exact oc hQ hd (wpAny_sound ops.size t _ a _ h)
end
def yl (K : St → Prop) : Exit → St → Prop
 | .normal, st => K st
 | _, _ => False
def Ctx.to (G : Ctx) (w : World) : Ctx := { G with w0 := w }
theorem bZ.Bo {G : Ctx} {st : St} {a : Act} {w w' : World} {S : Nat → Prop} (h : bZ G st a w) (hS : ∀ b, S b → G.K b ∧ ∀ i, G.φ0 b i = none) (ez : w.heap.size ≤ w'.heap.size)
  (hw : ∀ b, b < w.heap.size → ¬ S b → w'.heap[b]? = w.heap[b]?) : bZ (G.to w') st a w' := by
 obtain ⟨E, RR, rfl, hi⟩ := h
 have Sg : ∀ b i, S b → E.φ b i = none := fun b i hb => by
  cases he : E.φ b i with
  | none => rfl
  | some v =>
   rcases hi.grow b i v he with h1 | h1
   ·rw [(hS b hb).2 i] at h1; cases h1
   ·exact absurd (hS b hb).1 h1
 have g8 : ∀ b i v, E.φ b i = some v → w'.cell? ⟨b, i, none⟩ = some v := fun b i v hv => by
  have h1 := hi.lq b i v hv
  have hb : b < E.w.heap.size := by
   rcases Nat.lt_or_ge b E.w.heap.size with h2 | h2
   ·exact h2
   ·unfold World.cell? at h1
    rw [Array.getElem?_eq_none h2] at h1; cases h1
  unfold World.cell? at h1 ⊢
  rw [hw b hb (fun h2 => by rw [Sg b i h2] at hv; cases hv)]; exact h1
 have ot : ∀ p b, b ∈ RR p → w'.heap[b]? = E.w.heap[b]? := fun p b hb => hw b (hi.own p b hb).1 (fun h2 => (hi.own p b hb).2 (hS b h2).1)
 have iG : ∀ p, E.On { E with w := w' } (RR p) := fun p => ⟨fun _ _ _ h => h, fun c hc => ⟨ot p c hc, fun h i => h i⟩⟩
 refine ⟨{ E with w := w' }, RR, rfl, ?_⟩
 constructor
 case lq => exact g8
 case aA => exact fun s x hx => RX.mono x _ _ (iG _) (fun _ _ => rfl) (hi.aA s x hx)
 case aC => exact fun o ob aS => dN.mono (iG _) rfl (fun _ _ _ _ => rfl) (hi.aC o ob aS)
 case nodup => exact hi.nodup
 case apart => exact hi.apart
 case own => exact fun p b hb => ⟨Nat.lt_of_lt_of_le (hi.own p b hb).1 ez, (hi.own p b hb).2⟩
 case ao => exact fun _ _ => rfl
 case size => exact Nat.le_refl _
 case small => exact fun b hb => Nat.lt_of_lt_of_le (Nat.lt_of_lt_of_le (hi.small b hb) hi.size) ez
 case os => rfl
 case tape => rfl
 case output => rfl
 case φ0 => exact hi.φ0
 case grow => exact hi.grow
 case fixed => exact hi.fixed
 case tmps => exact hi.tmps
 case defers => exact hi.defers
end Go.AW
namespace Go.AW
open Go
abbrev Dv := List (Int × Int)
abbrev na := Dv × St
structure Kp (S : Nat → Prop) (W W' : World) : Prop where
 size : W.heap.size ≤ W'.heap.size
 same : ∀ b, b < W.heap.size → ¬ S b → W'.heap[b]? = W.heap[b]?
 os : W'.os = W.os
 tape : W'.tape = W.tape
 output : W'.output = W.output
theorem Kp.refl (S : Nat → Prop) (W : World) : Kp S W W := ⟨Nat.le_refl _, fun _ _ _ => rfl, rfl, rfl, rfl⟩
theorem Kp.trans {S : Nat → Prop} {A B C : World} (h : Kp S A B) (k : Kp S B C) : Kp S A C :=
 ⟨Nat.le_trans h.size k.size, fun b hb hs => (k.same b (Nat.lt_of_lt_of_le hb h.size) hs).trans (h.same b hb hs), k.os.trans h.os, k.tape.trans h.tape, k.output.trans h.output⟩
structure rk (P : Program) where
 l : Nat
 n1 : Nat
 S : Nat → Prop
 J : Dv → World → Prop
 Good : Int × Int → Prop
 Gu : ∀ i W W', J i W → W.heap.size ≤ W'.heap.size → (∀ b, b < n1 → W'.heap[b]? = W.heap[b]?) → J i W'
 yield : ∀ i x W, J i W → Good x → n1 ≤ W.heap.size → YieldAt (FR none) 0 P l #[.int .i64 x.1, .int .i64 x.2] W (fun e W' => e = .returned (.bool true) ∧ J (i ++ [x]) W' ∧ Kp S W W')
 lt : ∀ b, S b → b < n1
abbrev rk.v {P : Program} (Y : rk P) : X := .v (.func (.yield Y.l) #[] #[])
def xz (P : Program) (f : FuncId) (args : List X) (g : Dv) : Prop :=
 ∀ (Y : rk P) (i : Dv) (E : Env) (dB : List Value), Y.J i E.w → Y.n1 ≤ E.w.heap.size → (∀ x ∈ g, Y.Good x) → dU E args dB [] → (∀ b k v, E.φ b k = some v → E.w.cell? ⟨b, k, none⟩ = some v) → (∀ b k, Y.S b → E.φ b k = none) →
  Calls P f (#[.func (.yield Y.l) #[] #[]] ++ dB.toArray) E.w (fun e W' => ∃ v, e = .returned v ∧ Y.J (i ++ g) W' ∧ Kp Y.S E.w W')
structure Hi {P : Program} (Y : rk P) (G : Ctx) : Prop where
 KW : ∀ b, b < G.w0.heap.size → G.K b
 n1 : Y.n1 ≤ G.w0.heap.size
 φ : ∀ b i, Y.S b → G.φ0 b i = none
structure HI {P : Program} (Y : rk P) (G : Ctx) (s : na) (a : Act) (w : World) : Prop where
 j : Y.J s.1 w
 h : bZ (G.to w) s.2 a w
 kp : Kp Y.S G.w0 w
def bs (P : Program) (Y : rk P) (N : eg) (c : Code) (s : na) (Q : Exit → na → Prop) : Prop :=
 ∀ G : Ctx, G.fn = N → Hi Y G → ∀ a w, HI Y G s a w → c.wp P (fun e a w => ∃ s', HI Y G s' a w ∧ Q e s') a w
def ev (P : Program) (Y : rk P) (N : eg) (all : Array Oper) (rest : List Oper) (s : na) (Q : Exit → na → Prop) : Prop :=
 ∀ G : Ctx, G.fn = N → Hi Y G → ∀ a w, HI Y G s a w → wpListIn (FR none) 0 P all (fun e a w => ∃ s', HI Y G s' a w ∧ Q e s') rest a w
def lg (K : na → Prop) (Q : Exit → na → Prop) : Exit → na → Prop
 | .normal, st => K st
 | e, st => Q e st
def u5 (id : Nat) (Q : Exit → na → Prop) : Exit → na → Prop
 | .exit id', st => bif Nat.beq id' id then Q .normal st else Q (.exit id') st
 | e, st => Q e st
def ta (s s' : na) : Prop := s.1 = s'.1 ∧ Le s.2 s'.2
section
variable {P : Program} {Y : rk P} {N : eg} {s : na} {Q Q' : Exit → na → Prop} {i : Dv} {st bc : St} {id : Nat} {x y c : Code}
theorem HI.le {G : Ctx} {s s' : na} {a : Act} {w : World} (hl : ta s s') (h : HI Y G s a w) : HI Y G s' a w := ⟨hl.1 ▸ h.j, hl.2.holds h.h, h.kp⟩
theorem HI.step {G : Ctx} (hG : Hi Y G) {a a' : Act} {w w' : World} (h : HI Y G (i, st) a w) (h' : bZ (G.to w) bc a' w') : HI Y G (i, bc) a' w' := by
 have hr : bZ (G.to w') bc a' w' := bZ.Bo (G := G.to w) (S := fun _ => False) h' (fun _ h => h.elim) (Nat.le_refl _) (fun _ _ _ => rfl)
 obtain ⟨E, RR, rfl, hi⟩ := h'
 have ez : w.heap.size ≤ E.w.heap.size := hi.size
 have hold : ∀ b, b < G.w0.heap.size → E.w.heap[b]? = w.heap[b]? := fun b hb => hi.ao b (hG.KW b hb)
 exact ⟨Y.Gu i w E.w h.j ez (fun b hb => hold b (Nat.lt_of_lt_of_le hb hG.n1)), hr, Nat.le_trans h.kp.size ez, fun b hb hs => (hold b hb).trans (h.kp.same b hb hs), hi.os.trans h.kp.os, hi.tape.trans h.kp.tape, hi.output.trans h.kp.output⟩
theorem HI.NK {G : Ctx} (hG : Hi Y G) {a : Act} {w w' : World} {i' : Dv} (h : HI Y G (i, st) a w) (hj : Y.J i' w') (hk : Kp Y.S w w') : HI Y G (i', st) a w' :=
 ⟨hj, bZ.Bo (G := G.to w) (S := Y.S) h.h (fun b hb => ⟨hG.KW b (Nat.lt_of_lt_of_le (Y.lt b hb) hG.n1), fun k => hG.φ b k hb⟩) hk.size hk.same,
  Nat.le_trans h.kp.size hk.size, fun b hb hs => (hk.same b (Nat.lt_of_lt_of_le hb h.kp.size) hs).trans (h.kp.same b hb hs), hk.os.trans h.kp.os, hk.tape.trans h.kp.tape, hk.output.trans h.kp.output⟩
theorem HI.n1 {G : Ctx} (hG : Hi Y G) {a : Act} {w : World} (h : HI Y G s a w) : Y.n1 ≤ w.heap.size := Nat.le_trans hG.n1 h.kp.size
theorem bs.of (h : ab P N c st (fun e bc => Q e (i, bc))) : bs P Y N c (i, st) Q := by
 intro G hn hG a w hh
 refine wp_mono (h (G.to w) hn a w hh.h) ?_
 rintro e a' w' ⟨bc, h', hq⟩
 exact ⟨_, hh.step hG h', hq⟩
theorem bs.le {s' : na} (hl : ta s s') (h : bs P Y N c s' Q) : bs P Y N c s Q := fun G hn hG a w hh => h G hn hG a w (hh.le hl)
theorem bs.sh (h : Sh N st bc) (k : bs P Y N c (i, bc) Q) : bs P Y N c (i, st) Q := fun G hn hG a w hh => k G hn hG a w ⟨hh.j, h (G.to w) hn a w hh.h, hh.kp⟩
theorem bs.mono (h : bs P Y N c s Q) (hq : ∀ e s, Q e s → Q' e s) : bs P Y N c s Q' := fun G hn hG a w hh => wp_mono (h G hn hG a w hh) fun _ _ _ ⟨s', h', BO⟩ => ⟨s', h', hq _ _ BO⟩
theorem bs.skip (h : Q .normal s) : bs P Y N .skip s Q := fun _ _ _ _ _ hh => wp_skip ⟨s, hh, h⟩
theorem bs.exit (h : Q (.exit id) s) : bs P Y N (.exit id) s Q := fun _ _ _ _ _ hh => wp_exit ⟨s, hh, h⟩
theorem bs.ret (h : Q .ret s) : bs P Y N .ret s Q := fun _ _ _ _ _ hh => wp_ret ⟨s, hh, h⟩
theorem bs.seq (h : bs P Y N x s (lg (fun s' => bs P Y N y s' Q) Q)) : bs P Y N (.seq x y) s Q := by
 intro G hn hG a w hh
 refine wp_seq (wp_mono (h G hn hG a w hh) ?_)
 rintro e a' w' ⟨s', gR, hq⟩
 cases e <;> first | exact hq G hn hG a' w' gR | exact ⟨s', gR, hq⟩
theorem bs.block (h : bs P Y N c s (u5 id Q)) : bs P Y N (.block id c) s Q := by
 intro G hn hG a w hh
 refine wp_block (wp_mono (h G hn hG a w hh) ?_)
 rintro e a' w' ⟨s', gR, hq⟩
 cases e with
 | exit id' =>
  simp only [u5] at hq
  simp only [Exit.inBlock]
  cases hb : Nat.beq id' id with
  | true =>
   rw [hb] at hq
   rw [if_pos (Nat.eq_of_beq_eq_true hb)]
   exact ⟨s', gR, hq⟩
  | false =>
   rw [hb] at hq
   rw [if_neg (Nat.ne_of_beq_eq_false hb)]
   exact ⟨s', gR, hq⟩
 | _ => exact ⟨s', gR, hq⟩
theorem bs.cond {o : Operand} {b : Bool} (hc : bw s.2 o = some (.v (.bool b))) (ht : b = true → bs P Y N x s Q) (hf : b = false → bs P Y N y s Q) : bs P Y N (.cond o x y) s Q := by
 intro G hn hG a w hh
 obtain ⟨E, RR, rfl, hi⟩ := hh.h
 exact wp_cond_split (hi.val hc) (fun h => ht h G hn hG a E.w hh) (fun h => hf h G hn hG a E.w hh)
theorem bs.ay {o : Operand} {p : Prop} {inst : Decidable p} (hc : bw s.2 o = some (.v (.bool (decide p)))) (ht : p → bs P Y N x s Q) (hf : ¬ p → bs P Y N y s Q) : bs P Y N (.cond o x y) s Q :=
 bs.cond hc (fun h => ht (of_decide_eq_true h)) (fun h => hf (of_decide_eq_false h))
theorem bs.aI {o : Operand} (hc : bw s.2 o = some (.v (.bool true))) (h : bs P Y N x s Q) : bs P Y N (.cond o x y) s Q := bs.cond hc (fun _ => h) (fun h => by cases h)
theorem bs.cj {o : Operand} (hc : bw s.2 o = some (.v (.bool false))) (h : bs P Y N y s Q) : bs P Y N (.cond o x y) s Q := bs.cond hc (fun h => by cases h) (fun _ => h)
theorem bs.yU {d : Nat} {b : Bool} (hc : look st.aA d = some (.v (.bool b))) (ht : b = true → bs P Y N x (i, st.put d (.v (.bool true))) Q) (hf : b = false → bs P Y N y (i, st.put d (.v (.bool false))) Q) : bs P Y N (.cond (.tmp d) x y) (i, st) Q := by
 refine bs.cond (s := (i, st)) (b := b) hc (fun h => ?_) (fun h => ?_)
 ·subst h; exact bs.le (s := (i, st)) (s' := (i, st.put d (.v (.bool true)))) ⟨rfl, Le.test hc⟩ (ht rfl)
 ·subst h; exact bs.le (s := (i, st)) (s' := (i, st.put d (.v (.bool false)))) ⟨rfl, Le.test hc⟩ (hf rfl)
theorem bs.bh {d : Nat} {p : Prop} {inst : Decidable p} (hc : look st.aA d = some (.v (.bool (decide p)))) (ht : p → bs P Y N x (i, st.put d (.v (.bool true))) Q) (hf : ¬ p → bs P Y N y (i, st.put d (.v (.bool false))) Q) : bs P Y N (.cond (.tmp d) x y) (i, st) Q :=
 bs.yU hc (fun h => ht (of_decide_eq_true h)) (fun h => hf (of_decide_eq_false h))
theorem bs.loop {ι : Type} (S : ι → na) (I : ι → Prop) (μ : ι → Nat) (i0 : ι) (hi : I i0) (hs : ta s (S i0)) (round : ∀ i, I i → bs P Y N c (S i) (lg (fun s' => ∃ j, I j ∧ μ j < μ i ∧ ta s' (S j)) Q)) : bs P Y N (.loop c) s Q := by
 intro G hn hG a w hh
 refine pE (fun i a w => I i ∧ HI Y G (S i) a w) μ ?_ ⟨hi, hh.le hs⟩
 rintro i a w ⟨hI, hh⟩
 refine wp_mono (round i hI G hn hG a w hh) ?_
 rintro e a' w' ⟨s', gR, hq⟩
 cases e with
 | normal => obtain ⟨j, hj, gM, hle⟩ := hq; exact ⟨j, ⟨hj, gR.le hle⟩, gM⟩
 | _ => exact ⟨s', gR, hq⟩
theorem bs.join {ι : Type} (J : ι → na) (I : ι → Prop) (hx : bs P Y N x s (lg (fun bc => ∃ i, I i ∧ ta bc (J i)) Q)) (hy : ∀ i, I i → bs P Y N y (J i) Q) : bs P Y N (.seq x y) s Q := by
 refine bs.seq (hx.mono ?_)
 intro e Bz h
 cases e with
 | normal => obtain ⟨i, hI, hle⟩ := h; exact (hy i hI).le hle
 | _ => exact h
theorem bs.region {l : List Oper} (h : aa P N l.toArray l st (ka (fun bc => Q .normal (i, bc)) (fun e bc => Q e (i, bc)))) : bs P Y N (.region id l.toArray false) (i, st) Q :=
 bs.of ((ab.region h).mono fun e st h => by cases e <;> exact h)
theorem bs.sr {l : List Oper} (h : aa P N l.toArray l st (ka (fun bc => bs P Y N y (i, bc) Q) (fun e bc => Q e (i, bc)))) : bs P Y N (.seq (.region id l.toArray false) y) (i, st) Q :=
 bs.seq (bs.of ((ab.region h).mono fun e st h => by cases e <;> exact h))
end
end Go.AW
namespace Go.AW
open Go
theorem Bp {P : Program} {o : Oper} {Q1 Q2 : Exit → Act → World → Prop} {K1 K2 : Act → World → Prop} {a : Act} {w : World} (hQ : ∀ e a w, e ≠ .normal → Q1 e a w → False) (hK : ∀ a w, K1 a w → K2 a w) (h : o.wp P a w K1 Q1) : o.wp P a w K2 Q2 := by
 unfold Oper.wp at *
 generalize (execOp a.eval o).run P w = r at *
 cases r with
 | ok nx w' =>
  cases nx <;> simp only [Oper.upon] at h ⊢ <;> first
   | exact hK _ _ h
   | exact Calls.mono h (fun e OK he => by
     cases e with
     | returned u => exact hK _ _ he
     | panicked c => exact (hQ _ _ _ (by simp) he).elim
     | outgrown => exact (let ⟨_, _, h'⟩ := he; hQ _ _ _ (by simp) h').elim)
   | exact Rows.mono h (fun _ _ he => hK _ _ he)
 | halt x w' => cases x <;> simp only [Oper.upon] at h ⊢ <;> first | exact (hQ _ _ _ (by simp) h).elim | exact (let ⟨_, _, h'⟩ := h; hQ _ _ _ (by simp) h').elim | exact h
theorem X.si : ∀ {xs : List X} {k : Nat} {x : X}, X.bj xs = true → xs[k]? = some x → x.free = true
 | [], _, _, _, h => by simp at h
 | y :: r, 0, x, hf, h => by
  simp only [X.bj, Bool.and_eq_true] at hf
  simp only [List.getElem?_cons_zero, Option.some.injEq] at h
  subst h; exact hf.1
 | y :: r, k + 1, x, hf, h => by
  simp only [X.bj, Bool.and_eq_true] at hf
  simp only [List.getElem?_cons_succ] at h
  exact X.si hf.2 h
section
variable {P : Program} {Y : rk P} {N : eg} {s : na} {Q : Exit → na → Prop} {i : Dv} {st : St} {all : Array Oper} {rest : List Oper} {o : Oper} {d : Nat} {ty : TypeId} {pos : String} {af : Array Edge}
theorem ev.nil (h : Q .normal s) : ev P Y N all [] s Q := fun _ _ _ _ _ hh => ⟨s, hh, h⟩
theorem ev.op (h : aa P N all [o] st (yl (fun bc => ev P Y N all rest (i, bc) Q))) (hd : lf o = true := by rfl) : ev P Y N all (o :: rest) (i, st) Q := by
 intro G hn hG a w hh
 have h1 := h (G.to w) hn a w hh.h
 have hk : ∀ a' w', lh (G.to w) (yl (fun bc => ev P Y N all rest (i, bc) Q)) .normal a' w' → wpListIn (FR none) 0 P all (fun e a w => ∃ s', HI Y G s' a w ∧ Q e s') rest a' w' := by
  rintro a' w' ⟨bc, h', hq⟩
  exact hq G hn hG a' w' (hh.step hG h')
 have P5 : ∀ e a' w', e ≠ .normal → lh (G.to w) (yl (fun bc => ev P Y N all rest (i, bc) Q)) e a' w' → False := by
  rintro e a' w' he ⟨bc, _, hq⟩
  cases e <;> first | exact he rfl | exact hq
 unfold wpList at h1
 unfold wpListIn
 split at h1
 ·rename_i hw
  rw [if_pos hw]
  rcases h1 with h1 | ⟨_, _, _, h2⟩
  ·exact Bn hd (Bp P5 hk h1)
  ·exact (P5 _ _ _ (by simp) h2).elim
 ·rename_i hw
  rw [if_neg hw]
  exact ⟨fun _ _ => trivial, hk _ _ h1⟩
theorem ev.le {s' : na} (hl : ta s s') (h : ev P Y N all rest s' Q) : ev P Y N all rest s Q := fun G hn hG a w hh => h G hn hG a w (hh.le hl)
theorem ev.split {b : Bool} (hx : look st.aA d = some (.v (.bool b))) (ht : b = true → ev P Y N all rest (i, st.put d (.v (.bool true))) Q) (hf : b = false → ev P Y N all rest (i, st.put d (.v (.bool false))) Q) : ev P Y N all rest (i, st) Q := by
 cases b
 ·exact ev.le (s := (i, st)) (s' := (i, st.put d (.v (.bool false)))) ⟨rfl, Le.test hx⟩ (hf rfl)
 ·exact ev.le (s := (i, st)) (s' := (i, st.put d (.v (.bool true)))) ⟨rfl, Le.test hx⟩ (ht rfl)
theorem ev.ax {p : Prop} {inst : Decidable p} (hx : look st.aA d = some (.v (.bool (decide p)))) (ht : p → ev P Y N all rest (i, st.put d (.v (.bool true))) Q) (hf : ¬ p → ev P Y N all rest (i, st.put d (.v (.bool false))) Q) : ev P Y N all rest (i, st) Q :=
 ev.split hx (fun h => ht (of_decide_eq_true h)) (fun h => hf (of_decide_eq_false h))
theorem ev.aQ {dst : Option Nat} {op : Op} {j : Nat} {want : Bool} (hj : (all[j]?).bind (·.dst) = some d) (hd : d < N.n) (hx : look st.aA d = some (.v (.bool want)))
  (k : ev P Y N all (⟨dst, op, ty, pos, af, none⟩ :: rest) (i, st) Q) : ev P Y N all (⟨dst, op, ty, pos, af, some (j, want)⟩ :: rest) (i, st) Q := by
 intro G hn hG a w hh
 have hk := k G hn hG a w hh
 obtain ⟨E, RR, rfl, hi⟩ := hh.h
 have hw := hi.wanted (ops := all) (dst := dst) (op := op) (ty := ty) (pos := pos) (af := af) hj (by show d < (G.to E.w).fn.n; rw [show (G.to E.w).fn = N from hn]; exact hd) hx
 unfold wpListIn at hk ⊢
 rw [if_pos hw]
 rw [if_pos (by simp [Region.wanted])] at hk
 exact hk
theorem ym {x : Operand} {bP : Array Operand} {nk : Array TypeId} {a : Act} {w : World} {f : Fn} {cc : Array Value} {dst : Option Nat} {g : Option (Nat × Bool)} (hx : a.eval x = .func f #[] cc) :
  (execOp a.eval ⟨dst, .call ⟨.value x, bP, nk⟩, ty, pos, af, g⟩).run P w = (invoke (.fn f cc) (#[] ++ bP.map a.eval)).run P w := by
 have e : (execOp a.eval ⟨dst, .call ⟨.value x, bP, nk⟩, ty, pos, af, g⟩).run P w = (do let d ← Deferred.ofValue (a.eval x) (bP.map a.eval); invoke d.target d.args : Sem Next).run P w := rfl
 rw [e, hx]; rfl
theorem ev.yield {x : Operand} {bP : Array Operand} {nk : Array TypeId} {p q : Int} (hx : bw st x = some Y.v) (fR : j6 st bP.toList = some [.v (.int .i64 p), .v (.int .i64 q)]) (hg : Y.Good (p, q)) (hd : d < N.n)
  (k : ev P Y N all rest (i ++ [(p, q)], st.put d (.v (.bool true))) Q) : ev P Y N all (⟨some d, .call ⟨.value x, bP, nk⟩, ty, pos, af, none⟩ :: rest) (i, st) Q := by
 intro G hn hG a w hh
 have Hs := hh.n1 hG
 obtain ⟨E, RR, rfl, hi⟩ := hh.h
 have hv := hi.val hx
 obtain ⟨uK, DI⟩ := n6 hi fR
 have eh : bP.map a.eval = #[.int .i64 p, .int .i64 q] := by
  obtain ⟨o1, AM, R1, pI⟩ := DI 0 _ rfl
  obtain ⟨o2, sT, R2, x7⟩ := DI 1 _ rfl
  simp only [RX] at pI x7
  have hl : bP.toList.length = 2 := uK.symm
  apply Array.ext'
  rw [Array.toList_map]
  match hm : bP.toList, hl with
  | [u1, u2], _ =>
   rw [hm] at AM sT
   simp only [List.getElem?_cons_zero, List.getElem?_cons_succ, Option.some.injEq] at AM sT
   subst AM; subst sT
   simp [pI.1, x7.1]
 obtain ⟨fn, tmps, assign, body, hy, hR⟩ := Y.yield i (p, q) E.w hh.j hg Hs
 have gS : (execOp a.eval ⟨some d, .call ⟨.value x, bP, nk⟩, ty, pos, af, none⟩).run P E.w = .ok (.round Y.l fn tmps assign body) E.w := by
  rw [ym hv, eh]; exact hy
 refine wpListIn_plain rfl fun K hK => ?_
 refine ⟨fun _ _ => trivial, ?_⟩
 rw [show (FR none).round = none from rfl, Oper.semAt_none, gS]
 refine ⟨fun h => by simp [FR, Fence.wide] at h, hR.mono ?_⟩
 rintro e W' ⟨rfl, hj, hk⟩
 refine hK _ _ (k G hn hG _ _ ?_)
 have ht := HI.NK hG hh hj hk
 obtain ⟨E', fe, rfl, gy⟩ := ht.h
 exact ⟨ht.j, ⟨E', _, rfl, gy.fT (by show d < (G.to E'.w).fn.n; rw [show (G.to E'.w).fn = N from hn]; exact hd) (by simp [RX])⟩, ht.kp⟩
theorem xz.of {f : FuncId} {fn : Func} {c : Code} {args : List X} {g : Dv} {n : Nat} (hf : P.funcs[f]? = some fn) (hb : fn.body = some c) (hn : fn.ntmps = n) (hr : fn.results = #[]) (hle : args.length + 1 ≤ n)
  (h : ∀ (Y : rk P) (i : Dv), (∀ x ∈ g, Y.Good x) → bs P Y ⟨n, []⟩ c (i, ⟨dG 0 (Y.v :: args), []⟩) (fun e s => (e = .normal ∨ e = .ret) ∧ s.1 = i ++ g)) (pw : X.bj args = true) : xz P f args g := by
 intro Y i E dB hJ Hs hg eh Kv hφ
 refine calls_of_wp hf hb ?_
 let G : Ctx := ⟨fun b => b < E.w.heap.size, E.w, E.φ, E.β, ⟨n, []⟩, []⟩
 have hG : Hi Y G := ⟨fun _ h => h, Hs, hφ⟩
 have hlen : ∀ {l : List X} {c : List Value} {R : List Nat}, dU E l c R → l.length = c.length := by
  intro l
  induction l with
  | nil => intro c R h; simp only [dU] at h; rw [h.1]; rfl
  | cons y r ih =>
   intro c R h
   simp only [dU] at h
   obtain ⟨_, c', _, _, rfl, _, h2, _⟩ := h
   simp [ih h2]
 have hl := hlen eh
 have hH : HI Y G (i, ⟨dG 0 (Y.v :: args), []⟩) ⟨(#[.func (.yield Y.l) #[] #[]] ++ dB.toArray) ++ Array.replicate (fn.ntmps - (#[Value.func (.yield Y.l) #[] #[]] ++ dB.toArray).size) undef, []⟩ E.w := by
  refine ⟨hJ, ⟨E, fun _ => [], rfl, ?_⟩, Kp.refl _ _⟩
  constructor
  case lq => exact Kv
  case aA =>
   intro s x hx
   have j5 : look (dG 0 (Y.v :: args)) s = some x := hx
   rw [gT] at j5
   have hs : s < args.length + 1 := by
    rcases Nat.lt_or_ge s (args.length + 1) with h' | h'
    ·exact h'
    ·rw [List.getElem?_eq_none (by simpa using h')] at j5; cases j5
   have e1 : ((#[Value.func (.yield Y.l) #[] #[]] ++ dB.toArray) ++ Array.replicate (fn.ntmps - (#[Value.func (.yield Y.l) #[] #[]] ++ dB.toArray).size) undef).getD s undef = (Value.func (.yield Y.l) #[] #[] :: dB).getD s undef := by
    rw [Array.getD_eq_getD_getElem?, Array.getElem?_append_left (by simp; omega)]
    simp [List.getD_eq_getElem?_getD]
   show RX E x _ []
   rw [e1]
   cases s with
   | zero =>
    simp only [List.getElem?_cons_zero, Option.some.injEq] at j5
    subst j5
    simp [RX]
   | succ s =>
    simp only [List.getElem?_cons_succ] at j5
    obtain ⟨u, R, hu, hR⟩ := dU.get eh j5
    have h0 := RX.free (X.si pw j5) hR
    subst h0
    rw [List.getD_cons_succ, List.getD_eq_getElem?_getD, hu]; exact hR
  case aC => intro o ob h; cases h
  case nodup => exact fun _ => List.nodup_nil
  case apart => exact fun _ _ _ _ h => by cases h
  case own => exact fun _ _ h => by cases h
  case ao => exact fun _ _ => rfl
  case size => exact Nat.le_refl _
  case small => exact fun _ h => h
  case os => rfl
  case tape => rfl
  case output => rfl
  case φ0 => exact fun _ _ _ h => h
  case grow => exact fun _ _ _ h => .inl h
  case fixed => exact fun _ _ => rfl
  case tmps => show Array.size _ = n; simp; omega
  case defers => rfl
 refine wp_mono (h Y i hg G rfl hG _ _ hH) ?_
 rintro e a w ⟨s, hs, he, hi⟩
 have hd : a.defers = [] := by obtain ⟨_, _, _, h⟩ := hs.h; exact h.defers
 have EJ : (results fn a.tmps).run P w = .ok (.tuple #[]) w := by
  have e : results fn a.tmps = (do let vs ← fn.results.mapM (ou a.tmps); Pure.pure (if h : vs.size = 1 then vs[0] else .tuple vs) : Sem Value) := rfl
  rw [e, hr]
  refine il (u := #[]) (by simp [Sem.run_pure]) rfl
 have hk : a.defers = [] ∧ ∃ v, (results fn a.tmps).run P w = .ok v w ∧ ∃ v', Ending.returned v = .returned v' ∧ Y.J (i ++ g) w ∧ Kp Y.S E.w w := ⟨hd, _, EJ, _, rfl, hi ▸ hs.j, hs.kp⟩
 rcases he with rfl | rfl
 ·exact hk
 ·exact hk
end
end Go.AW
namespace Go.AW
open Go
def du (P : Program) (l : Nat) (N : eg) (c : Code) (st : St) (Q : Exit → St → Prop) : Prop :=
 ∀ G : Ctx, G.fn = N → ∀ a w, bZ G st a w → c.wpIn (FR (some l)) 0 P (lh G Q) a w
section
variable {P : Program} {l : Nat} {N : eg} {st bc : St} {Q Q' : Exit → St → Prop} {id : Nat} {x y c : Code}
theorem du.le (hl : Le st bc) (h : du P l N c bc Q) : du P l N c st Q := fun G hn a w hh => h G hn a w (hl.holds hh)
theorem du.mono (h : du P l N c st Q) (hq : ∀ e st, Q e st → Q' e st) : du P l N c st Q' := fun G hn a w hh => wpIn_mono (h G hn a w hh) fun e _ _ hp => lh.mono (hq e) hp
theorem du.sh (h : Sh N st bc) (k : du P l N c bc Q) : du P l N c st Q := fun G hn a w hh => k G hn a w (h G hn a w hh)
theorem du.skip (h : Q .normal st) : du P l N .skip st Q := fun _ _ _ _ hh => wpIn_skip ⟨st, hh, h⟩
theorem du.exit (h : Q (.exit id) st) : du P l N (.exit id) st Q := fun _ _ _ _ hh => wpIn_exit ⟨st, hh, h⟩
theorem du.seq (h : du P l N x st (ka (fun bc => du P l N y bc Q) Q)) : du P l N (.seq x y) st Q := by
 intro G hn a w hh
 refine wpIn_seq (wpIn_mono (h G hn a w hh) ?_)
 rintro e a' w' ⟨bc, gR, hq⟩
 cases e <;> first | exact hq G hn a' w' gR | exact ⟨bc, gR, hq⟩
theorem du.block (h : du P l N c st (lT id Q)) : du P l N (.block id c) st Q := by
 intro G hn a w hh
 refine wpIn_block (wpIn_mono (h G hn a w hh) ?_)
 rintro e a' w' ⟨bc, gR, hq⟩
 cases e with
 | exit id' =>
  simp only [lT] at hq
  simp only [Exit.inBlock]
  cases hb : Nat.beq id' id with
  | true =>
   rw [hb] at hq
   rw [if_pos (Nat.eq_of_beq_eq_true hb)]
   exact ⟨bc, gR, hq⟩
  | false =>
   rw [hb] at hq
   rw [if_neg (Nat.ne_of_beq_eq_false hb)]
   exact ⟨bc, gR, hq⟩
 | _ => exact ⟨bc, gR, hq⟩
theorem du.cond {o : Operand} {b : Bool} (hc : bw st o = some (.v (.bool b))) (ht : b = true → du P l N x st Q) (hf : b = false → du P l N y st Q) : du P l N (.cond o x y) st Q := by
 intro G hn a w hh
 obtain ⟨E, RR, rfl, hi⟩ := hh
 have hv := hi.val hc
 cases b with
 | true => exact wpIn_cond (t := true) hv (by simpa using ht rfl G hn a E.w ⟨E, RR, rfl, hi⟩)
 | false => exact wpIn_cond (t := false) hv (by simpa using hf rfl G hn a E.w ⟨E, RR, rfl, hi⟩)
theorem du.ay {o : Operand} {p : Prop} {inst : Decidable p} (hc : bw st o = some (.v (.bool (decide p)))) (ht : p → du P l N x st Q) (hf : ¬ p → du P l N y st Q) : du P l N (.cond o x y) st Q :=
 du.cond hc (fun h => ht (of_decide_eq_true h)) (fun h => hf (of_decide_eq_false h))
theorem du.aI {o : Operand} (hc : bw st o = some (.v (.bool true))) (h : du P l N x st Q) : du P l N (.cond o x y) st Q := du.cond hc (fun _ => h) (fun h => by cases h)
theorem du.cj {o : Operand} (hc : bw st o = some (.v (.bool false))) (h : du P l N y st Q) : du P l N (.cond o x y) st Q := du.cond hc (fun h => by cases h) (fun _ => h)
theorem du.pR {x y : Code} (J : St) (I : Prop) (hx : du P l N x st (ka (fun bc => I ∧ Le bc J) Q)) (hy : I → du P l N y J Q) : du P l N (.seq x y) st Q :=
 du.seq (hx.mono fun e Bz h => by cases e with
  | normal => exact (hy h.1).le h.2
  | _ => exact h)
theorem du.region {ops : List Oper} (h : aa P N ops.toArray ops st (yl (fun bc => Q .normal bc))) (hd : ops.all lf = true := by rfl) : du P l N (.region id ops.toArray false) st Q := by
 intro G hn a w hh
 refine wpIn_mono (yk (Q := lh G (yl (fun bc => Q .normal bc))) (fun ⟨_, _, _, _, h⟩ => h) hd (h G hn a w hh)) ?_
 rintro e a' w' ⟨bc, gR, hq⟩
 cases e <;> first | exact ⟨bc, gR, hq⟩ | exact hq.elim
theorem du.sr {ops : List Oper} (h : aa P N ops.toArray ops st (yl (fun bc => du P l N y bc Q))) (hd : ops.all lf = true := by rfl) : du P l N (.seq (.region id ops.toArray false) y) st Q :=
 du.seq (du.region (Q := ka (fun bc => du P l N y bc Q) Q) h hd)
theorem du.cv {ops : Array Oper} (hm : P.follows .mixedOrders = true) (h : aT P N ops ops.size (Array.replicate ops.size false) st (fun bc => Q .normal bc)) (hd : ops.toList.all lf = true := by rfl) : du P l N (.region id ops true) st Q := by
 intro G hn a w hh
 have h1 := h G hn a _ hh.drew
 refine wpIn_mono (rj (Q := fun e a w => e = .normal ∧ ∃ bc, Q .normal bc ∧ bZ G bc a w) hm (fun ⟨_, _, h, _⟩ => by cases h) hd h1) ?_
 rintro e a w ⟨rfl, bc, hk, gR⟩
 exact ⟨bc, gR, hk⟩
end
end Go.AW
namespace Go.AW
open Go
structure Ext (G G' : Ctx) : Prop where
 fn : G'.fn = G.fn
 K : ∀ b, G.K b → G'.K b
 ao : ∀ b, G.K b → G'.w0.heap[b]? = G.w0.heap[b]?
 size : G.w0.heap.size ≤ G'.w0.heap.size
 os : G'.w0.os = G.w0.os
 tape : G'.w0.tape = G.w0.tape
 output : G'.w0.output = G.w0.output
 φ0 : ∀ b i v, G.φ0 b i = some v → G'.φ0 b i = some v
 grow : ∀ b i v, G'.φ0 b i = some v → G.φ0 b i = some v ∨ ¬ G.K b
 fixed : ∀ o, G.fn.F.elem o = true → G'.β0 o = G.β0 o
 marks : ∃ ms : List Nat, G'.ds = ms.map (fun D => { target := .collected D, args := #[] }) ++ G.ds ∧ ms.Nodup ∧ ∀ D ∈ ms, G'.K D ∧ ¬ G.K D ∧ G'.w0.heap[D]? = some (.deferred (some []))
theorem Ext.refl (G : Ctx) : Ext G G := ⟨rfl, fun _ h => h, fun _ _ => rfl, Nat.le_refl _, rfl, rfl, rfl, fun _ _ _ h => h, fun _ _ _ h => .inl h, fun _ _ => rfl, [], rfl, List.nodup_nil, fun _ h => by cases h⟩
theorem Ext.trans {A B C : Ctx} (h : Ext A B) (k : Ext B C) : Ext A C := by
 obtain ⟨ms, h1, h2, h3⟩ := h.marks
 obtain ⟨ns, k1, k2, k3⟩ := k.marks
 refine ⟨k.fn.trans h.fn, fun b hb => k.K b (h.K b hb), fun b hb => (k.ao b (h.K b hb)).trans (h.ao b hb), Nat.le_trans h.size k.size, k.os.trans h.os, k.tape.trans h.tape, k.output.trans h.output, fun b i v hv => k.φ0 b i v (h.φ0 b i v hv), fun b i v hv => ?_,
  fun o ho => (k.fixed o (by rw [h.fn]; exact ho)).trans (h.fixed o ho), ns ++ ms, ?_, ?_, ?_⟩
 ·rcases k.grow b i v hv with h4 | h4
  ·exact h.grow b i v h4
  ·exact .inr (fun hb => h4 (h.K b hb))
 ·rw [k1, h1, List.map_append, List.append_assoc]
 ·refine List.nodup_append.2 ⟨k2, h2, fun a ha b hb e => ?_⟩
  subst e
  exact (k3 a ha).2.1 (h3 a hb).1
 ·intro D hD
  rcases List.mem_append.1 hD with hD | hD
  ·obtain ⟨a, b, c⟩ := k3 D hD
   exact ⟨a, fun hk => b (h.K D hk), c⟩
  ·obtain ⟨a, b, c⟩ := h3 D hD
   exact ⟨k.K D a, b, (k.ao D a).trans c⟩
def JR (G : Ctx) (Q : Exit → St → Prop) (e : Exit) (a : Act) (w : World) : Prop := ∃ G', Ext G G' ∧ lh G' Q e a w
def nc (P : Program) (N : eg) (c : Code) (st : St) (Q : Exit → St → Prop) : Prop :=
 ∀ G : Ctx, G.fn = N → ∀ a w, bZ G st a w → c.wp P (JR G Q) a w
section
variable {P : Program} {N : eg} {st bc : St} {Q Q' : Exit → St → Prop} {id : Nat} {x y c : Code}
theorem nc.of (h : ab P N c st Q) : nc P N c st Q := fun G hn a w hh => wp_mono (h G hn a w hh) fun _ _ _ hp => ⟨G, .refl G, hp⟩
theorem nc.le (hl : Le st bc) (h : nc P N c bc Q) : nc P N c st Q := fun G hn a w hh => h G hn a w (hl.holds hh)
theorem nc.sh (h : Sh N st bc) (k : nc P N c bc Q) : nc P N c st Q := fun G hn a w hh => k G hn a w (h G hn a w hh)
theorem nc.seq (h : nc P N x st (ka (fun bc => nc P N y bc Q) Q)) : nc P N (.seq x y) st Q := by
 intro G hn a w hh
 refine wp_seq (wp_mono (h G hn a w hh) ?_)
 rintro e a' w' ⟨G', hx, bc, gR, hq⟩
 cases e with
 | normal => exact wp_mono (hq G' (hx.fn.trans hn) a' w' gR) fun _ _ _ ⟨Si, j5, hp⟩ => ⟨Si, hx.trans j5, hp⟩
 | _ => exact ⟨G', hx, bc, gR, hq⟩
theorem nc.block (h : nc P N c st (lT id Q)) : nc P N (.block id c) st Q := by
 intro G hn a w hh
 refine wp_block (wp_mono (h G hn a w hh) ?_)
 rintro e a' w' ⟨G', hx, bc, gR, hq⟩
 cases e with
 | exit id' =>
  simp only [lT] at hq
  simp only [Exit.inBlock]
  cases hb : Nat.beq id' id with
  | true =>
   rw [hb] at hq
   rw [if_pos (Nat.eq_of_beq_eq_true hb)]
   exact ⟨G', hx, bc, gR, hq⟩
  | false =>
   rw [hb] at hq
   rw [if_neg (Nat.ne_of_beq_eq_false hb)]
   exact ⟨G', hx, bc, gR, hq⟩
 | _ => exact ⟨G', hx, bc, gR, hq⟩
end
end Go.AW
namespace Go.AW
open Go Go.RowKit
structure Dw (ν : List Nat) (ob : Obj) : Prop where
 plain : ob.plain
 Sj : jB ob
 ng : ob ≠ .gone
 dA : ∀ xs, ob = .cells xs → ∀ q, X.cH q xs = true → q ∈ ν
section
variable {P : Program} {N : eg} {st : St} {Q : Exit → St → Prop}
end
end Go.AW
namespace Go.AW
open Go
section
variable {P : Program} {Y : rk P} {N : eg} {s : na} {Q : Exit → na → Prop}
theorem bs.pR {x y : Code} (J : na) (I : Prop) (hx : bs P Y N x s (lg (fun bc => I ∧ ta bc J) Q)) (hy : I → bs P Y N y J Q) : bs P Y N (.seq x y) s Q :=
 bs.join (fun _ : Unit => J) (fun _ => I) (hx.mono fun e _ h => by cases e <;> first | exact ⟨(), h⟩ | exact h) (fun _ h => hy h)
theorem bs.jD {α0 : Type} {c : Code} (S : α0 → na) (I : α0 → Prop) (μ : α0 → Nat) (i0 : α0) (hi : I i0) (hs : ta s (S i0))
  (round : ∀ a0, I a0 → bs P Y N c (S a0) (lg (fun bc => ∃ b0, I b0 ∧ μ b0 < μ a0 ∧ ta bc (S b0)) Q)) : bs P Y N (.loop c) s Q :=
 bs.loop (ι := α0) (fun u => S u) (fun u => I u) (fun u => μ u) i0 hi hs (fun u h => (round u h).mono fun e _ h => by
  cases e <;> first | exact h | (obtain ⟨b0, h⟩ := h; exact ⟨b0, h⟩))
theorem bs.gO {α0 : Type} {x y : Code} (J : α0 → na) (I : α0 → Prop) (hx : bs P Y N x s (lg (fun bc => ∃ b0, I b0 ∧ ta bc (J b0)) Q)) (hy : ∀ a0, I a0 → bs P Y N y (J a0) Q) : bs P Y N (.seq x y) s Q :=
 bs.join (ι := α0) (fun u => J u) (fun u => I u) (hx.mono fun e _ h => by cases e <;> first | exact h | (obtain ⟨b0, h⟩ := h; exact ⟨b0, h⟩)) (fun u h => hy u h)
theorem bs.ir {α0 α1 : Type} {c : Code} (S : α0 → α1 → na) (I : α0 → α1 → Prop) (μ : α0 → α1 → Nat) (i0 : α0) (i1 : α1) (hi : I i0 i1) (hs : ta s (S i0 i1))
  (round : ∀ a0 a1, I a0 a1 → bs P Y N c (S a0 a1) (lg (fun bc => ∃ b0 b1, I b0 b1 ∧ μ b0 b1 < μ a0 a1 ∧ ta bc (S b0 b1)) Q)) : bs P Y N (.loop c) s Q :=
 bs.loop (ι := α0 × α1) (fun u => S u.1 u.2) (fun u => I u.1 u.2) (fun u => μ u.1 u.2) (i0, i1) hi hs (fun u h => (round u.1 u.2 h).mono fun e _ h => by
  cases e <;> first | exact h | (obtain ⟨b0, b1, h⟩ := h; exact ⟨(b0, b1), h⟩))
theorem bs.m5 {α0 α1 : Type} {x y : Code} (J : α0 → α1 → na) (I : α0 → α1 → Prop) (hx : bs P Y N x s (lg (fun bc => ∃ b0 b1, I b0 b1 ∧ ta bc (J b0 b1)) Q)) (hy : ∀ a0 a1, I a0 a1 → bs P Y N y (J a0 a1) Q) : bs P Y N (.seq x y) s Q :=
 bs.join (ι := α0 × α1) (fun u => J u.1 u.2) (fun u => I u.1 u.2) (hx.mono fun e _ h => by cases e <;> first | exact h | (obtain ⟨b0, b1, h⟩ := h; exact ⟨(b0, b1), h⟩)) (fun u h => hy u.1 u.2 h)
theorem bs.eP {α0 α1 α2 : Type} {c : Code} (S : α0 → α1 → α2 → na) (I : α0 → α1 → α2 → Prop) (μ : α0 → α1 → α2 → Nat) (i0 : α0) (i1 : α1) (i2 : α2) (hi : I i0 i1 i2) (hs : ta s (S i0 i1 i2))
  (round : ∀ a0 a1 a2, I a0 a1 a2 → bs P Y N c (S a0 a1 a2) (lg (fun bc => ∃ b0 b1 b2, I b0 b1 b2 ∧ μ b0 b1 b2 < μ a0 a1 a2 ∧ ta bc (S b0 b1 b2)) Q)) : bs P Y N (.loop c) s Q :=
 bs.loop (ι := α0 × α1 × α2) (fun u => S u.1 u.2.1 u.2.2) (fun u => I u.1 u.2.1 u.2.2) (fun u => μ u.1 u.2.1 u.2.2) (i0, i1, i2) hi hs (fun u h => (round u.1 u.2.1 u.2.2 h).mono fun e _ h => by
  cases e <;> first | exact h | (obtain ⟨b0, b1, b2, h⟩ := h; exact ⟨(b0, b1, b2), h⟩))
theorem bs.DL {α0 α1 α2 : Type} {x y : Code} (J : α0 → α1 → α2 → na) (I : α0 → α1 → α2 → Prop) (hx : bs P Y N x s (lg (fun bc => ∃ b0 b1 b2, I b0 b1 b2 ∧ ta bc (J b0 b1 b2)) Q)) (hy : ∀ a0 a1 a2, I a0 a1 a2 → bs P Y N y (J a0 a1 a2) Q) : bs P Y N (.seq x y) s Q :=
 bs.join (ι := α0 × α1 × α2) (fun u => J u.1 u.2.1 u.2.2) (fun u => I u.1 u.2.1 u.2.2) (hx.mono fun e _ h => by cases e <;> first | exact h | (obtain ⟨b0, b1, b2, h⟩ := h; exact ⟨(b0, b1, b2), h⟩)) (fun u h => hy u.1 u.2.1 u.2.2 h)
theorem bs.DM {α0 α1 α2 α3 : Type} {c : Code} (S : α0 → α1 → α2 → α3 → na) (I : α0 → α1 → α2 → α3 → Prop) (μ : α0 → α1 → α2 → α3 → Nat) (i0 : α0) (i1 : α1) (i2 : α2) (i3 : α3) (hi : I i0 i1 i2 i3) (hs : ta s (S i0 i1 i2 i3))
  (round : ∀ a0 a1 a2 a3, I a0 a1 a2 a3 → bs P Y N c (S a0 a1 a2 a3) (lg (fun bc => ∃ b0 b1 b2 b3, I b0 b1 b2 b3 ∧ μ b0 b1 b2 b3 < μ a0 a1 a2 a3 ∧ ta bc (S b0 b1 b2 b3)) Q)) : bs P Y N (.loop c) s Q :=
 bs.loop (ι := α0 × α1 × α2 × α3) (fun u => S u.1 u.2.1 u.2.2.1 u.2.2.2) (fun u => I u.1 u.2.1 u.2.2.1 u.2.2.2) (fun u => μ u.1 u.2.1 u.2.2.1 u.2.2.2) (i0, i1, i2, i3) hi hs (fun u h => (round u.1 u.2.1 u.2.2.1 u.2.2.2 h).mono fun e _ h => by
  cases e <;> first | exact h | (obtain ⟨b0, b1, b2, b3, h⟩ := h; exact ⟨(b0, b1, b2, b3), h⟩))
theorem bs.yY {α0 α1 α2 α3 : Type} {x y : Code} (J : α0 → α1 → α2 → α3 → na) (I : α0 → α1 → α2 → α3 → Prop) (hx : bs P Y N x s (lg (fun bc => ∃ b0 b1 b2 b3, I b0 b1 b2 b3 ∧ ta bc (J b0 b1 b2 b3)) Q)) (hy : ∀ a0 a1 a2 a3, I a0 a1 a2 a3 → bs P Y N y (J a0 a1 a2 a3) Q) : bs P Y N (.seq x y) s Q :=
 bs.join (ι := α0 × α1 × α2 × α3) (fun u => J u.1 u.2.1 u.2.2.1 u.2.2.2) (fun u => I u.1 u.2.1 u.2.2.1 u.2.2.2) (hx.mono fun e _ h => by cases e <;> first | exact h | (obtain ⟨b0, b1, b2, b3, h⟩ := h; exact ⟨(b0, b1, b2, b3), h⟩)) (fun u h => hy u.1 u.2.1 u.2.2.1 u.2.2.2 h)
end
mutual
theorem Dx {q : Nat} : ∀ {x : X}, x.nr = true → x.dA q = false
 | .v _, _ | .no, _ | .fz .., _ | .cX .., _ | .fp .., _ => rfl
 | .ptr .., h => by cases h
 | .aY .., h => by cases h
 | .mref _, h => by cases h
 | .agg xs, h => jj (xs := xs) h
 | .tup xs, h => jj (xs := xs) h
 | .gN _ a b, h => by
  simp only [X.nr, Bool.and_eq_true] at h
  simp only [X.dA, jj h.1, jj h.2, Bool.or_self]
theorem jj {q : Nat} : ∀ {xs : List X}, X.ga xs = true → X.cH q xs = false
 | [], _ => rfl
 | x :: r, h => by
  simp only [X.ga, Bool.and_eq_true] at h
  simp only [X.cH, Dx h.1, jj h.2, Bool.or_self]
end
theorem Dw.cells {ν : List Nat} {xs : List X} (hp : X.gA xs) (hn : X.ga xs = true) : Dw ν (.cells xs) :=
 ⟨hp, trivial, by simp, fun ys e q h => by cases e; rw [jj hn] at h; cases h⟩
theorem Dw.rows {ν : List Nat} {s : Nat} {rs : List (List X)} (hp : X.kE rs) (h0 : ∀ r ∈ rs, X.bj r = true) : Dw ν (.rows s rs) := ⟨hp, h0, by simp, fun ys e => by cases e⟩
end Go.AW
