/- Part of the abstract walk: slices.Grow of no slice. -/
import Derived.Test.YtligpghohcfpnaaAWx1
import Derived.Lib.AppendZeros
import Derived.Lib.SliceRun
import Derived.KernelRfl
import Derived.DataShut
import Derived.Laws.StructEq
import Derived.OrdersHeld
import Derived.RangeFuncLeaves
import Derived.RangeFuncSeq
import Derived.RangeFuncCalls
import Derived.TacticsIn
import Derived.OrdersIn
set_option linter.unusedSimpArgs false
set_option linter.unusedVariables false
set_option linter.unusedSectionVars false
namespace Go.AW
open Go
section
variable {P : Program} {N : eL} {G : Ctx} {E : Env} {RR : Own → List Nat} {st : St} {a : Act} {Q : Exit → St → Prop} {all : Array Oper} {rest : List Oper} {d : Nat} {dst : Option Nat} {ty : TypeId} {pos : String} {af : Array Edge} {g : Option (Nat × Bool)}
theorem Y.qi {t e s cY : Nat} {x : Operand} (ht : TY.slice P t = some (e, s, cY)) (hx : bS st x = some (.v (.slice none 0 0))) :
  Yields P N st ⟨dst, .call ⟨.builtin .cap, #[x], #[t]⟩, ty, pos, af, g⟩ (.v (.int .i64 0)) := by
 intro G E RR a _ hi
 refine ⟨.int .i64 0, hX ?_, by simp [RX]⟩
 obtain ⟨hu, _⟩ := TY.ez ht
 have hc := hi.val hx
 simp [builtin, Builtin.cap_, hc, run_underlying hu, goInt]
theorem Y.zw {t e s cY : Nat} {x : Operand} {lo iv : Option Operand} (ht : TY.slice P t = some (e, s, cY)) (hx : bS st x = some (.v (.slice none 0 0))) (hl : Bd st lo 0 0) (hh : Bd st iv 0 0) :
  Yields P N st ⟨dst, .slice t x lo iv none, ty, pos, af, g⟩ (.v (.slice none 0 0)) := by
 intro G E RR a _ hi
 obtain ⟨AG, i, iQ, fu, _⟩ := TY.ez ht
 have hc := hi.val hx
 refine ⟨.slice none 0 0, ?_, by simp [RX]⟩
 show (do let z ← Instr.sliceAt t (a.eval x) (lo.map a.eval) (iv.map a.eval) none; pure (Next.value z) : Sem Next).run P E.w = _
 rw [hc]
 refine dJ ?_
 simp only [Instr.sliceAt, Sem.run_bind, run_underlying AG, Result.andThen_ok, Instr.slice, my hi hl hh (Nat.le_refl 0) (Nat.le_refl 0), run_sizeOf iQ, fu]
 rfl
theorem aO.xh {t tn e s cY n : Nat} {x y : Operand} {z : List Value} {k kn : IntKind} (ht : TY.slice P t = some (e, s, cY)) (hz : TY.zero P e = some z) (qO : z.length = s) (h1 : X.td (z.map X.v) = true) (Qv : TY.isInt P tn = some kn)
  (hx : bS st x = some (.v (.slice none 0 0))) (hy : bS st y = some (.v (.int k (n : Int)))) (h0 : 0 < n) (Mi : 0 < s) (hb : n * cY ≤ 281474976710656) (R3 : n ≤ 9223372036854775807) (hd : d < N.n)
  (kk : aO P N all rest (st.put d (.ei s (List.replicate n (z.map X.v)))) Q) : aO P N all (⟨some d, .call ⟨.builtin .append, #[x, y], #[t, tn]⟩, ty, pos, af, none⟩ :: rest) st Q := by
 refine aO.AZ (fun G E RR a hn hi => ?_) kk
 obtain ⟨hu, i, iQ, hs, Fi⟩ := TY.ez ht
 obtain ⟨i', z0, oV, AH, AI⟩ := TY.jV hz
 rw [iQ] at oV
 obtain rfl := Option.some.inj oV
 have vv : z0.cells = z.toArray := by rw [← AI]
 have gQ := Lib.run_append_nil_zeros (P := P) E.w t tn ty e i z0 k kn hu (by unfold TY.isInt at Qv; split at Qv <;> simp_all : P.underlying tn = some (.int kn)) iQ AH n h0 (by rw [hs]; exact Mi) om (by rw [Fi]; exact hb)
 rw [vv] at gQ
 have hU : cz s (List.replicate n (z.map X.v)) := by
  intro r hr
  rw [(List.mem_replicate.1 hr).2]; simpa using qO
 have lL := hi.yn (cZ.drew G E) rfl
 have o3 := grownCap_ge E.w n 0 e
 have fu : (Builtin.zeroCells z.toArray n ++ Builtin.zeroCells z.toArray (grownCap E.w n 0 e - n)).size = grownCap E.w n 0 e * s := by
  rw [Array.size_append, size_zeroCells, size_zeroCells, ← Nat.add_mul]
  simp only [List.size_toArray, qO]
  congr 1; omega
 obtain ⟨fg, iv⟩ := lL.newRow (cs := Builtin.zeroCells z.toArray n ++ Builtin.zeroCells z.toArray (grownCap E.w n 0 e - n)) (e := e) (s := s) (cap := grownCap E.w n 0 e) (d := d) hU (by rw [List.length_replicate]; exact o3) (by rw [fu]; exact Nat.le_refl _) (by
  refine cH.wV hU fun j row hr => ?_
  have hj : j < n := by
   rcases Nat.lt_or_ge j n with h' | h'
   ·exact h'
   ·rw [List.getElem?_eq_none (by rw [List.length_replicate]; exact h')] at hr; cases hr
  have : row = z.map X.v := by
   have := List.mem_of_getElem? hr
   exact (List.mem_replicate.1 this).2
  subst this
  refine ⟨AY z, bz.GA (tE h1) fun q hq => ?_⟩
  have yV : q < s := by simpa [qO] using hq
  have iU : j * s + q < n * s := by
   have : (j + 1) * s ≤ n * s := Nat.mul_le_mul_right s hj
   rw [Nat.add_mul] at this; omega
  have GB : q < z.length := by omega
  rw [Array.getElem?_append_left (by rw [size_zeroCells]; simp only [List.size_toArray, qO]; omega)]
  simp only [Nat.zero_add, Builtin.zeroCells]
  rw [Array.getElem?_map, Array.getElem?_range, if_pos (by simpa [qO] using iU)]
  simp only [Option.map_some, List.size_toArray, qO, Ba yV]
  rw [List.getElem?_eq_getElem GB]
  simp [GB]) (by rw [hn]; exact hd)
 simp only [List.length_replicate] at iv
 refine ⟨_, _, _, ?_, iv⟩
 refine hX (g := none) ?_
 have e' : (#[x, y] : Array Operand).map a.eval = #[.slice none 0 0, .int k (n : Int)] := by simp [hi.val hx, hi.val hy]
 rw [e']
 exact dJ gQ
theorem Sh.Fy {d o s lo n : Nat} {rs : List (List X)} (tL : List (List X)) (hx : look st.aD d = some (.ba o s lo n)) (ho : look st.aG o = some (.rows s rs)) (qP : lo + n ≤ rs.length) (he : (rs.drop lo).take n = tL) (hF : N.F.elem o = false) :
  Sh N st (((st.kill o).eb o (.rows s tL)).put d (.ba o s 0 n)) := by subst he; exact Sh.trim hx ho qP hF
end
end Go.AW
namespace Go.AW
open Go
theorem X.yy : ∀ {xs : List X} (k : Nat), X.gA xs = true → X.gA (xs.set k .no) = true
 | [], _, _ => rfl
 | x :: r, 0, h => by
  simp only [X.gA, Bool.and_eq_true] at h
  simp [List.set, X.gA, X.nr, h.2]
 | x :: r, k + 1, h => by
  simp only [X.gA, Bool.and_eq_true] at h
  simp [List.set, X.gA, h.1, X.yy k h.2]
theorem RO.pick {E : Env} {cs : Array Value} {y : X} : ∀ {xs : List X} {off k : Nat} {R : List Nat}, RO E xs cs off R → xs[k]? = some y →
  ∃ u Ry R1, cs[off + k]? = some u ∧ jA u ∧ RX E y u Ry ∧ RO E (xs.set k .no) cs off R1 ∧ (R.Nodup → (Ry ++ R1).Nodup) ∧ ∀ b ∈ Ry ++ R1, b ∈ R
 | [], _, _, _, _, h => by simp at h
 | x :: r, off, 0, R, h, hy => by
  simp only [RO] at h
  obtain ⟨u, R₁, R₂, hu, hs, h1, h2, rfl⟩ := h
  simp only [List.getElem?_cons_zero, Option.some.injEq] at hy
  subst hy
  refine ⟨u, R₁, R₂, hu, hs, h1, ?_, fun h => h, fun b hb => hb⟩
  simp only [List.set, RO]
  exact ⟨u, [], R₂, hu, hs, by simp [RX], h2, rfl⟩
 | x :: r, off, k + 1, R, h, hy => by
  simp only [RO] at h
  obtain ⟨u, R₁, R₂, hu, hs, h1, h2, rfl⟩ := h
  simp only [List.getElem?_cons_succ] at hy
  obtain ⟨v, Ry, R', hv, RN, Dr, yX, iV, dz⟩ := RO.pick h2 hy
  refine ⟨v, Ry, R₁ ++ R', by rw [show off + (k + 1) = off + 1 + k by omega]; exact hv, RN, Dr, ?_, fun hn => ?_, fun b hb => ?_⟩
  ·simp only [List.set, RO]
   exact ⟨u, R₁, R', hu, hs, h1, yX, rfl⟩
  ·obtain ⟨n1, n2, n3⟩ := List.nodup_append.1 hn
   have h3 := iV n2
   rw [← List.append_assoc, List.nodup_append]
   obtain ⟨m1, m2, m3⟩ := List.nodup_append.1 h3
   refine ⟨?_, m2, fun a ha b hb => ?_⟩
   ·rw [List.nodup_append]
    exact ⟨m1, n1, fun a ha b hb e => n3 b hb a (dz a (List.mem_append.2 (.inl ha))) e.symm⟩
   ·rcases List.mem_append.1 ha with h | h
    ·exact m3 a h b hb
    ·exact n3 a h b (dz b (List.mem_append.2 (.inr hb)))
  ·rcases List.mem_append.1 hb with h | h
   ·exact List.mem_append.2 (.inr (dz b (List.mem_append.2 (.inl h))))
   ·rcases List.mem_append.1 h with h | h
    ·exact List.mem_append.2 (.inl h)
    ·exact List.mem_append.2 (.inr (dz b (List.mem_append.2 (.inr h))))
theorem cH.pick {E : Env} {cs : Array Value} {y : X} {s : Nat} : ∀ {rs : List (List X)} {row : List X} {off i k : Nat} {R : List Nat}, cz s rs → cH E rs cs off R → rs[i]? = some row → row[k]? = some y →
  ∃ u Ry R1, cs[off + (i * s + k)]? = some u ∧ jA u ∧ RX E y u Ry ∧ cH E (rs.set i (row.set k .no)) cs off R1 ∧ (R.Nodup → (Ry ++ R1).Nodup) ∧ ∀ b ∈ Ry ++ R1, b ∈ R
 | [], _, _, _, _, _, _, _, h, _ => by simp at h
 | r :: rs, row, off, 0, k, R, _, h, hr, hy => by
  simp only [cH] at h
  obtain ⟨R₁, R₂, hn, h1, h2, rfl⟩ := h
  simp only [List.getElem?_cons_zero, Option.some.injEq] at hr
  subst hr
  obtain ⟨u, Ry, R', hu, hs, Dr, yX, iV, dz⟩ := RO.pick h1 hy
  refine ⟨u, Ry, R' ++ R₂, by rw [Nat.zero_mul, Nat.zero_add]; exact hu, hs, Dr, ?_, fun pI => ?_, fun b hb => ?_⟩
  ·simp only [List.set, cH, List.length_set]
   exact ⟨R', R₂, X.yy k hn, yX, h2, rfl⟩
  ·obtain ⟨n1, n2, n3⟩ := List.nodup_append.1 pI
   rw [← List.append_assoc, List.nodup_append]
   exact ⟨iV n1, n2, fun a ha b hb => n3 a (dz a ha) b hb⟩
  ·rw [← List.append_assoc] at hb
   rcases List.mem_append.1 hb with h | h
   ·exact List.mem_append.2 (.inl (dz b h))
   ·exact List.mem_append.2 (.inr h)
 | r :: rs, row, off, i + 1, k, R, hU, h, hr, hy => by
  simp only [cH] at h
  obtain ⟨R₁, R₂, hn, h1, h2, rfl⟩ := h
  simp only [List.getElem?_cons_succ] at hr
  have hl : r.length = s := hU r (List.mem_cons_self ..)
  obtain ⟨u, Ry, R', hu, hs, Dr, yX, iV, dz⟩ := cH.pick (fun x hx => hU x (List.mem_cons_of_mem _ hx)) h2 hr hy
  refine ⟨u, Ry, R₁ ++ R', by rw [show off + ((i + 1) * s + k) = off + r.length + (i * s + k) by rw [Nat.add_mul, hl]; omega]; exact hu, hs, Dr, ?_, fun pI => ?_, fun b hb => ?_⟩
  ·simp only [List.set, cH]
   exact ⟨R₁, R', hn, h1, yX, rfl⟩
  ·obtain ⟨n1, n2, n3⟩ := List.nodup_append.1 pI
   have h3 := iV n2
   rw [← List.append_assoc, List.nodup_append]
   obtain ⟨m1, m2, m3⟩ := List.nodup_append.1 h3
   refine ⟨?_, m2, fun a ha b hb => ?_⟩
   ·rw [List.nodup_append]
    exact ⟨m1, n1, fun a ha b hb e => n3 b hb a (dz a (List.mem_append.2 (.inl ha))) e.symm⟩
   ·rcases List.mem_append.1 ha with h | h
    ·exact m3 a h b hb
    ·exact n3 a h b (dz b (List.mem_append.2 (.inr hb)))
  ·rcases List.mem_append.1 hb with h | h
   ·exact List.mem_append.2 (.inr (dz b (List.mem_append.2 (.inl h))))
   ·rcases List.mem_append.1 h with h | h
    ·exact List.mem_append.2 (.inl h)
    ·exact List.mem_append.2 (.inr (dz b (List.mem_append.2 (.inr h))))
section
variable {P : Program} {N : eL} {st : St} {Q : Exit → St → Prop} {all : Array Oper} {rest : List Oper} {d : Nat} {ty : TypeId} {pos : String} {af : Array Edge}
theorem aO.JN {t : TypeId} {x : Operand} {o s i k : Nat} {y : X} {row : List X} {rs : List (List X)} (tL : List (List X)) (ht : TY.shape P t = some none) (hx : bS st x = some (.ptr o s i k)) (ho : look st.aG o = some (.rows s rs)) (hr : rs[i]? = some row) (hy : row[k]? = some y)
  (he : rs.set i (row.set k .no) = tL) (hd : d < N.n) (kk : aO P N all rest ((st.eb o (.rows s tL)).put d y) Q) :
  aO P N all (⟨some d, .load t x, ty, pos, af, none⟩ :: rest) st Q := by
 subst he
 refine aO.AZ (fun G E RR a hn hi => ?_) kk
 obtain ⟨R, hp⟩ := hi.eval hx
 simp only [RX] at hp
 obtain ⟨_, B, hB, hc⟩ := hp
 have dm := hi.aG o _ ho
 have iV := hi.nodup (.obj o)
 simp only [dG] at dm
 obtain ⟨hu, dm⟩ := dm
 rcases dm with ⟨_, h, _⟩ | ⟨B', cs, tb, R', iz, hw, hφ, o3, hlen, jB, ir⟩
 ·subst h; simp at hr
 rw [hB] at iz
 obtain rfl := Option.some.inj iz
 obtain ⟨u, Ry, R1, FA, hs, Dr, yX, Ns, dz⟩ := cH.pick hu jB hr hy
 rw [ir] at iV
 obtain ⟨v5, mX⟩ := List.nodup_cons.1 iV
 have MN := Ns mX
 obtain ⟨m1, m2, m3⟩ := List.nodup_append.1 MN
 have FB : ∀ b ∈ Ry ++ R1, b ∈ RR (.obj o) := fun b hb => by rw [ir]; exact List.mem_cons.2 (.inr (dz b hb))
 have lL : Inv G E (fH RR (.obj o) (B.b :: R1)) (st.eb o (.rows s (rs.set i (row.set k .no)))) a := by
  refine hi.eb ?_ ?_ ?_
  ·simp only [dG]
   refine ⟨hu.set (by rw [List.length_set]; exact hu row (List.mem_of_getElem? hr)), .inr ⟨B, cs, tb, R1, hB, hw, hφ, by simpa using o3, hlen, yX, rfl⟩⟩
  ·exact List.nodup_cons.2 ⟨fun h => v5 (dz _ (List.mem_append.2 (.inr h))), m2⟩
  ·intro b hb
   have mZ : b ∈ RR (.obj o) := by
    rcases List.mem_cons.1 hb with h | h
    ·rw [ir, h]; simp
    ·exact FB b (List.mem_append.2 (.inr h))
   exact ⟨(hi.own _ _ mZ).1, (hi.own _ _ mZ).2, fun p hp h => hi.apart _ _ hp b h mZ⟩
 refine ⟨u, E, _, ?_, lL.put (by rw [hn]; exact hd) Dr m1 fun b hb => ?_⟩
 ·show (do let z ← Instr.loadAt t (a.eval x); pure (Next.value z) : Sem Next).run P E.w = _
  rw [hc]
  refine dJ ?_
  have fW : E.w.cell? ⟨B.b, B.off + (i * s + k), none⟩ = some u := by rw [dq hw]; exact FA
  simp only [Instr.loadAt, Instr.sureAddr, loadVar, Sem.run_bind, Sem.run_pure, Result.andThen_ok, (TY.gO ht E.w).1]
  simp [fW]
 ·have mZ := FB b (List.mem_append.2 (.inl hb))
  refine ⟨(hi.own _ _ mZ).1, (hi.own _ _ mZ).2, fun p hp h => ?_⟩
  unfold fH at h
  split at h
  ·rename_i Qw
   rcases List.mem_cons.1 h with h' | h'
   ·exact v5 (h' ▸ dz b (List.mem_append.2 (.inl hb)))
   ·exact m3 b hb b h' rfl
  ·rename_i Qw
   exact hi.apart _ _ Qw b h mZ
theorem aO.DX {t : TypeId} {x : Operand} {o s i k I2 tv : Nat} {rows : List (List X)} {DE : List X} {rs : List (List X)} (tL : List (List X)) (ht : TY.size P t = some 1) (hx : bS st x = some (.ptr o s i k)) (hy : look st.aD tv = some (.ei I2 rows))
  (ho : look st.aG o = some (.rows s rs)) (hr : rs[i]? = some DE) (hk : k + 1 ≤ DE.length) (he : rs.set i (jP DE k [.ei I2 rows]) = tL) (kk : aO P N all rest ((st.put tv .no).eb o (.rows s tL)) Q) :
  aO P N all (⟨none, .store t x (.tmp tv), ty, pos, af, none⟩ :: rest) st Q := by
 subst he; exact aO.GH ht hx hy (row := []) rfl ho hr hk kk
end
end Go.AW
namespace Go.AW
open Go
theorem RO.DY {E : Env} {cs : Array Value} {e off : Nat} {R : List Nat} (h : RO E [.v (.slice none 0 0)] cs off R) : RO E [.ei e []] cs off R := by
 simp only [RO] at h ⊢
 obtain ⟨u, R₁, R₂, hu, hs, h1, h2, h3⟩ := h
 simp only [RX] at h1
 refine ⟨u, R₁, R₂, hu, hs, ?_, h2, h3⟩
 simp only [RX]
 exact ⟨fun _ h => (by cases h), none, 0, h1.1, .inl ⟨by trivial, by trivial, h1.2⟩⟩
theorem cH.DY {E : Env} {cs : Array Value} {e : Nat} : ∀ {n off : Nat} {R : List Nat}, cH E (List.replicate n [.v (.slice none 0 0)]) cs off R → cH E (List.replicate n [.ei e []]) cs off R
 | 0, _, _, h => by simpa [cH] using h
 | n + 1, off, R, h => by
  simp only [List.replicate_succ, cH] at h ⊢
  obtain ⟨R₁, R₂, _, h1, h2, h3⟩ := h
  exact ⟨R₁, R₂, rfl, h1.DY, cH.DY h2, h3⟩
section
variable {N : eL} {st : St} {d : Nat}
theorem Sh.DZ (e : Nat) {n : Nat} (hx : look st.aD d = some (.ei 1 (List.replicate n [.v (.slice none 0 0)]))) : Sh N st (st.put d (.ei 1 (List.replicate n [.ei e []]))) := by
 intro G hn a w hh
 obtain ⟨E, RR, rfl, hi⟩ := hh
 have hv := hi.aD d _ hx
 refine ⟨E, _, rfl, hi.relabel (d := d) (R := RR (.slot d)) ?_ (hi.nodup _) (fun b hb => ⟨(hi.own _ _ hb).1, (hi.own _ _ hb).2, fun p hp h => hi.apart _ _ hp b h hb⟩)⟩
 simp only [RX] at hv ⊢
 obtain ⟨_, base, cap, hc, h⟩ := hv
 refine ⟨fun r hr => by rw [(List.mem_replicate.1 hr).2]; rfl, base, cap, by simpa using hc, ?_⟩
 rcases h with ⟨h1, h2, h3⟩ | ⟨b, off, cs, ty, R', h1, h2, h3, h4, h5, h6, h7⟩
 ·refine .inl ⟨?_, h2, h3⟩
  have : n = 0 := by simpa using congrArg List.length h1
  subst this; rfl
 ·exact .inr ⟨b, off, cs, ty, R', h1, h2, by simpa using h3, h4, h5, h6.DY, h7⟩
end
theorem Ea {α : Type} {l : List α} {f : α → List X} {m : Nat} {r : List X} (h : m < l.length) : ((l.map f).set (0 + m) r)[0 + m]? = some r := by
 rw [Nat.zero_add, List.getElem?_set_self (by simpa using h)]
theorem Bz {α : Type} {l : List α} {f : α → List X} {m : Nat} {r q : List X} {v : α} (h : q = f v) : ((l.map f).set (0 + m) r).set (0 + m) q = (l.set m v).map f := by
 rw [Nat.zero_add, List.set_set, h, List.map_set]
theorem z8 {α : Type} {l : List α} {f : α → List X} {m n : Nat} (h : n = l.length - m) : ((l.map f).drop (0 + m)).take n = (l.drop m).map f := by
 rw [Nat.zero_add, ← List.map_drop, List.take_of_length_le (by simp; omega)]
theorem X.sc {α : Type} {f g : α → List X} (h : ∀ a, X.js (f a) = g a) : ∀ l : List α, X.nh (l.map f) = l.map g
 | [] => rfl
 | a :: r => by simp only [List.map_cons, X.nh, h, X.sc h r]
theorem Sh.xi {α : Type} {f g : α → List X} {N : eL} {st : St} {d s : Nat} {l : List α} (h : ∀ a, X.js (f a) = g a) (hx : look st.aD d = some (.ei s (l.map f))) : Sh N st (st.put d (.fz s (l.map g))) :=
 Sh.pc hx (by simp only [X.lU, X.sc h])
end Go.AW
namespace Go.AW
open Go
section
variable {P : Program} {N : eL} {st : St} {Q : Exit → St → Prop} {all : Array Oper} {rest : List Oper} {d : Nat} {ty : TypeId} {pos : String} {af : Array Edge}
theorem RO.sd {E : Env} {cs : Array Value} {x y : X} (Eb : ∀ c, RX E x c [] → RX E y c []) (hf : x.free = true) : ∀ {xs : List X} {off k : Nat} {R : List Nat}, RO E xs cs off R → xs[k]? = some x → RO E (xs.set k y) cs off R
 | [], _, _, _, _, h => by simp at h
 | z :: r, off, 0, R, h, hy => by
  simp only [RO] at h
  obtain ⟨u, R₁, R₂, hu, hs, h1, h2, rfl⟩ := h
  simp only [List.getElem?_cons_zero, Option.some.injEq] at hy
  subst hy
  have h0 := RX.free hf h1
  subst h0
  simp only [List.set, RO]
  exact ⟨u, [], R₂, hu, hs, Eb u h1, h2, rfl⟩
 | z :: r, off, k + 1, R, h, hy => by
  simp only [RO] at h
  obtain ⟨u, R₁, R₂, hu, hs, h1, h2, rfl⟩ := h
  simp only [List.getElem?_cons_succ] at hy
  simp only [List.set, RO]
  exact ⟨u, R₁, R₂, hu, hs, h1, RO.sd Eb hf h2 hy, rfl⟩
theorem Sh.eC (o q s k : Nat) {xs : List X} (ho : look (st.kill q).aG o = some (.cells xs)) (hk : xs[k]? = some (.v (.slice none 0 0))) (rC : X.b9 (xs.set k (.ba q s 0 0)) = true) (RP : Nat.beq q o = false) (hF : N.F.elem q = false) :
  Sh N st (((st.kill q).eb q (.rows s [])).eb o (.cells (xs.set k (.ba q s 0 0)))) := by
 intro G hn a w hh
 obtain ⟨E, RR, rfl, hi⟩ := hh
 obtain ⟨E', fg, hw, h1, h2⟩ := hi.nil q s (by rw [hn]; exact hF)
 have dm := h1.aG o (.cells xs) (by simp only [St.eb, look, RP, cond_false]; exact ho)
 have Ec := dm
 simp only [dG] at Ec
 obtain ⟨_, B, cs, ty, hB, qQ, hφ, fu, yX, hR⟩ := Ec
 refine ⟨E', _, hw, h1.eb (R := fg (.obj o)) ?_ (h1.nodup _) (fun b hb => ⟨(h1.own _ _ hb).1, (h1.own _ _ hb).2, fun p hp h => h1.apart _ _ hp b h hb⟩)⟩
 simp only [dG]
 refine ⟨rC, B, cs, ty, hB, qQ, hφ, by rw [List.length_set]; exact fu, RO.sd (x := .v (.slice none 0 0)) (fun c hc => ?_) rfl yX hk, hR⟩
 simp only [RX] at hc
 rw [hc.1]; exact h2
theorem bz.sd {E : Env} {x y : X} (Eb : ∀ c, RX E x c [] → RX E y c []) (hf : x.free = true) : ∀ {xs : List X} {k : Nat} {cs : List Value} {R : List Nat}, bz E xs cs R → xs[k]? = some x → bz E (xs.set k y) cs R
 | [], _, _, _, _, h => by simp at h
 | z :: r, 0, cs, R, h, hy => by
  simp only [bz] at h
  obtain ⟨c, di, R₁, R₂, te, hs, h1, h2, rfl⟩ := h
  simp only [List.getElem?_cons_zero, Option.some.injEq] at hy
  subst hy
  have h0 := RX.free hf h1
  subst h0
  simp only [List.set, bz]
  exact ⟨c, di, [], R₂, te, hs, Eb c h1, h2, rfl⟩
 | z :: r, k + 1, cs, R, h, hy => by
  simp only [bz] at h
  obtain ⟨c, di, R₁, R₂, te, hs, h1, h2, rfl⟩ := h
  simp only [List.getElem?_cons_succ] at hy
  simp only [List.set, bz]
  exact ⟨c, di, R₁, R₂, te, hs, h1, bz.sd Eb hf h2 hy, rfl⟩
theorem Sh.FC (s k : Nat) {d : Nat} {xs : List X} (hx : look st.aD d = some (.agg xs)) (hk : xs[k]? = some (.v (.slice none 0 0))) : Sh N st (st.put d (.agg (xs.set k (.fz s [])))) := by
 intro G hn a w hh
 obtain ⟨E, RR, rfl, hi⟩ := hh
 have hv := hi.aD d _ hx
 refine ⟨E, _, rfl, hi.relabel (d := d) (R := RR (.slot d)) ?_ (hi.nodup _) (fun b hb => ⟨(hi.own _ _ hb).1, (hi.own _ _ hb).2, fun p hp h => hi.apart _ _ hp b h hb⟩)⟩
 simp only [RX] at hv ⊢
 obtain ⟨cs, hc, h⟩ := hv
 refine ⟨cs, hc, bz.sd (x := .v (.slice none 0 0)) (fun c hc => ?_) rfl h hk⟩
 simp only [RX] at hc ⊢
 exact ⟨trivial, fun _ h => (by cases h), none, 0, hc.1, .inl ⟨by trivial, by trivial⟩⟩
end
end Go.AW
namespace Go.AW
open Go
section
variable {P : Program} {N : eL} {st : St} {Q : Exit → St → Prop} {all : Array Oper} {rest : List Oper} {d dd j : Nat} {want : Bool} {op : Op} {ty : TypeId} {pos : String} {af : Array Edge} {x : X} {u : Value}
theorem aO.vl (hy : Yields P N st ⟨some d, op, ty, pos, af, none⟩ x) (k : aO P N all rest (st.put d x) Q) (hd : d < N.n := by decide) : aO P N all (⟨some d, op, ty, pos, af, none⟩ :: rest) st Q := aO.val hy hd k
theorem aO.gs (d : Nat) (hj : (all[j]?).bind (·.dst) = some d) (hx : look st.aD d = some (.v u)) (ew : rT want u = true) (k : aO P N all rest (st.put dd (.v undef)) Q) (hd : d < N.n := by decide) (DT : dd < N.n := by decide) :
  aO P N all (⟨some dd, op, ty, pos, af, some (j, want)⟩ :: rest) st Q := aO.al hj hd DT hx ew k
theorem dk.sr {id : Nat} {l : List Oper} {y : Code} (h : aO P N l.toArray l st (gN (fun aT => dk P N y aT Q) Q)) : dk P N (.seq (.region id l.toArray false) y) st Q := dk.seq (dk.region h)
variable {ops : Array Oper} {l0 rs l : List Nat} {t i dj : Nat} {ag : Array Bool} {K : Array Bool → St → Prop}
theorem AQ.cn (i : Nat) (ho : ops[i]? = some ⟨some d, op, ty, pos, af, none⟩) (hy : Yields P N st ⟨some d, op, ty, pos, af, none⟩ x) (k : AQ P N ops l0 rs t l (ag.setIfInBounds i true) (st.put d x) K)
  (hB : (Region.noSelect ops && Region.free .any ops ag i && (Region.ready .any ops ag).contains i) = true := by kernel_rfl) (hd : d < N.n := by decide) : AQ P N ops l0 rs t (i :: l) ag st K := AQ.cons ho hB hy hd k
theorem AQ.sk (i : Nat) (ho : ops[i]? = some ⟨some d, op, ty, pos, af, some (j, want)⟩) (hj : (ops[j]?).bind (·.dst) = some dj) (hx : look st.aD dj = some (.v u)) (ew : rT want u = true) (k : AQ P N ops l0 rs t l (ag.setIfInBounds i true) (st.put d (.v undef)) K)
  (hB : (Region.noSelect ops && Region.free .any ops ag i && (Region.ready .any ops ag).contains i) = true := by kernel_rfl) (rZ : dj < N.n := by decide) (hd : d < N.n := by decide) : AQ P N ops l0 rs t (i :: l) ag st K := AQ.skip ho hB hj rZ hd hx ew k
theorem AQ.rn (i : Nat) (ho : ops[i]? = some ⟨some d, op, ty, pos, af, some (j, want)⟩) (hj : (ops[j]?).bind (·.dst) = some dj) (hx : look st.aD dj = some (.v (.bool want))) (hy : Yields P N st ⟨some d, op, ty, pos, af, some (j, want)⟩ x) (k : AQ P N ops l0 rs t l (ag.setIfInBounds i true) (st.put d x) K)
  (hB : (Region.noSelect ops && Region.free .any ops ag i && (Region.ready .any ops ag).contains i) = true := by kernel_rfl) (rZ : dj < N.n := by decide) (hd : d < N.n := by decide) : AQ P N ops l0 rs t (i :: l) ag st K := AQ.run ho hB hj rZ hx hy hd k
end
section
variable {P : Program} {N : eL} {st : St} {Q : Exit → St → Prop} {all : Array Oper} {rest : List Oper} {d : Nat} {ty : TypeId} {pos : String} {af : Array Edge} {y p : X}
theorem aO.mv {x : Operand} (k : aO P N all rest (st.put d y) Q) (hx : bS st x = some y := by rfl) (hf : y.free = true := by rfl) (hd : d < N.n := by decide) : aO P N all (⟨some d, .move x, ty, pos, af, none⟩ :: rest) st Q := aO.val (Y.zg hx hf) hd k
theorem aO.an {x : Operand} (k : aO P N all rest (st.put d y) Q) (hx : bS st x = some y := by rfl) (hf : y.free = true := by rfl) (hd : d < N.n := by decide) : aO P N all (⟨some d, .assign x, ty, pos, af, none⟩ :: rest) st Q := aO.val (Y.qf hx hf) hd k
theorem aO.ld {t : TypeId} {x : Operand} {row : List X} (ht : TY.shape P t = some none) (k : aO P N all rest (st.put d y) Q) (hx : bS st x = some p := by rfl) (hr : rowAt st p = some row := by rfl) (hy : row[kO p]? = some y := by rfl) (hf : y.free = true := by rfl) (hd : d < N.n := by decide) :
  aO P N all (⟨some d, .load t x, ty, pos, af, none⟩ :: rest) st Q := aO.val (Y.za ht hx hr hy hf) hd k
end
section
variable {P : Program} {N : eL} {st : St} {Q : Exit → St → Prop} {all : Array Oper} {rest : List Oper} {d dd j : Nat} {want : Bool} {op : Op} {ty : TypeId} {pos : String} {af : Array Edge} {x y p q : X} {u : Value}
theorem aO.gw (d : Nat) (hy : Yields P N st ⟨some dd, op, ty, pos, af, some (j, want)⟩ x) (k : aO P N all rest (st.put dd x) Q) (hj : (all[j]?).bind (·.dst) = some d := by rfl) (hx : look st.aD d = some (.v (.bool want)) := by rfl) (hd : d < N.n := by decide) (DT : dd < N.n := by decide) :
  aO P N all (⟨some dd, op, ty, pos, af, some (j, want)⟩ :: rest) st Q := aO.ar hj hd hx (aO.val hy DT k)
theorem aO.gz (d : Nat) (k : aO P N all rest (st.put dd (.v undef)) Q) (hj : (all[j]?).bind (·.dst) = some d := by rfl) (hx : look st.aD d = some (.v u) := by rfl) (ew : rT want u = true := by rfl) (hd : d < N.n := by decide) (DT : dd < N.n := by decide) :
  aO P N all (⟨some dd, op, ty, pos, af, some (j, want)⟩ :: rest) st Q := aO.al hj hd DT hx ew k
theorem aO.pk {c a b : Operand} {v : Bool} (k : aO P N all rest (st.put d y) Q) (hc : bS st c = some (.v (.bool v)) := by rfl) (hz : bS st (if v then a else b) = some y := by rfl) (hf : y.free = true := by rfl) (hd : d < N.n := by decide) :
  aO P N all (⟨some d, .pick c a b, ty, pos, af, none⟩ :: rest) st Q := aO.val (Y.zn hc hz hf) hd k
theorem aO.fa {t : TypeId} {a : Operand} {f off : Nat} {ft : TypeId} (ht : TY.jI P t f = some (off, ft)) (k : aO P N all rest (st.put d q) Q) (hx : bS st a = some p := by rfl) (hq : p.on off = some q := by rfl) (hd : d < N.n := by decide) :
  aO P N all (⟨some d, .fieldAddr t a f, ty, pos, af, none⟩ :: rest) st Q := aO.val (Y.qp ht hx hq) hd k
end
theorem eM.c {α : Type} {l l' : List (Nat × α)} {s : Nat} {x : α} (hr : eM l l') (h : look l s = some x := by rfl) : eM l ((s, x) :: l') := eM.cons h hr
theorem eM.c2 {α : Type} {l l' : List (Nat × α)} {s t : Nat} {x y : α} (hr : eM l l') (h : look l s = some x := by rfl) (h1 : look l t = some y := by rfl) : eM l ((s, x) :: (t, y) :: l') := eM.cons h (eM.cons h1 hr)
theorem eM.c4 {α : Type} {l l' : List (Nat × α)} {s t s1 t1 : Nat} {x y x1 y1 : α} (hr : eM l l') (h : look l s = some x := by rfl) (h1 : look l t = some y := by rfl) (h2 : look l s1 = some x1 := by rfl) (h3 : look l t1 = some y1 := by rfl) : eM l ((s, x) :: (t, y) :: (s1, x1) :: (t1, y1) :: l') := eM.c2 (eM.c2 hr h2 h3) h h1
theorem eM.c8 {α : Type} {l l' : List (Nat × α)} {s t s1 t1 s2 t2 s3 t3 : Nat} {x y x1 y1 x2 y2 x3 y3 : α} (hr : eM l l') (h : look l s = some x := by rfl) (h1 : look l t = some y := by rfl) (h2 : look l s1 = some x1 := by rfl) (h3 : look l t1 = some y1 := by rfl) (h4 : look l s2 = some x2 := by rfl) (h5 : look l t2 = some y2 := by rfl) (h6 : look l s3 = some x3 := by rfl) (h7 : look l t3 = some y3 := by rfl) : eM l ((s, x) :: (t, y) :: (s1, x1) :: (t1, y1) :: (s2, x2) :: (t2, y2) :: (s3, x3) :: (t3, y3) :: l') := eM.c4 (eM.c4 hr h4 h5 h6 h7) h h1 h2 h3
theorem cS {α β : Type} {f : α → β} {l : List α} : some (l.map f).length = some l.length := congrArg some (List.length_map ..)
theorem Ends.rb {P : Program} {mJ : List ResultVar} {st : St} {b b' : Bool} (h0 : jD P st mJ = some [.v (.bool b)]) (h : b = b') : Ends P mJ ([] : List Obj).length (fun r o => r = .v (.bool b') ∧ o = []) .ret st := ⟨_, _, h0, rfl, by rw [h]; exact ⟨rfl, rfl⟩⟩
theorem Ends.ri {P : Program} {mJ : List ResultVar} {st : St} {k : IntKind} {b b' : Int} (h0 : jD P st mJ = some [.v (.int k b)]) (h : b = b') : Ends P mJ ([] : List Obj).length (fun r o => r = .v (.int k b') ∧ o = []) .ret st := ⟨_, _, h0, rfl, by rw [h]; exact ⟨rfl, rfl⟩⟩
end Go.AW
namespace Go.AW
open Go
theorem zG {a : Int} (h : (Lit.int .u8 a).wf = true) : ∃ n : Nat, a = (n : Int) ∧ n < 256 := by
 have h1 := (Lit.wf_int_iff .u8 a).1 h
 simp only [IntKind.min, IntKind.max, IntKind.signed, IntKind.bits] at h1
 exact ⟨a.toNat, by simp at h1; omega, by simp at h1; omega⟩
end Go.AW
namespace Go.AW
open Go
section
variable {P : Program} {N : eL} {st : St} {dst : Option Nat} {ty : TypeId} {pos : String} {af : Array Edge} {g : Option (Nat × Bool)}
end
end Go.AW
namespace Go.AW
open Go
section
variable {P : Program} {N : eL} {st : St} {dst : Option Nat} {ty : TypeId} {pos : String} {af : Array Edge} {g : Option (Nat × Bool)}
theorem aw.bin {op : BinOp} {t t' : TypeId} {x y : Operand} {u v r : Value} (hx : bS st x = some (.v u)) (hy : bS st y = some (.v v))
  (hr : ∀ w, (do eqGuard op t x y u v; binOp op t u v : Sem Value).run P w = .ok r w) : aw P N st ⟨dst, .binOp op t x y t', ty, pos, af, g⟩ (.v r) := by
 intro G E RR a _ hi
 refine ⟨r, fun w => ?_, by simp [RX]⟩
 show (do let x ← (do eqGuard op t x y (a.eval x) (a.eval y); binOp op t (a.eval x) (a.eval y) : Sem Value); pure (Next.value x) : Sem Next).run P w = _
 rw [hi.val hx, hi.val hy]
 exact dJ (hr _)
section ints
variable {t t' : TypeId} {x y : Operand} {k : IntKind} {a b r : Int}
theorem aw.add (hx : bS st x = some (.v (.int k a))) (hy : bS st y = some (.v (.int k b))) (hr : k.wrap (a + b) = r) : aw P N st ⟨dst, .binOp .add t x y t', ty, pos, af, g⟩ (.v (.int k r)) :=
 aw.bin hx hy fun w => by subst hr; simp [eqGuard, binOp, Op.intArith]
theorem aw.sub (hx : bS st x = some (.v (.int k a))) (hy : bS st y = some (.v (.int k b))) (hr : k.wrap (a - b) = r) : aw P N st ⟨dst, .binOp .sub t x y t', ty, pos, af, g⟩ (.v (.int k r)) :=
 aw.bin hx hy fun w => by subst hr; simp [eqGuard, binOp, Op.intArith]
theorem aw.mul (hx : bS st x = some (.v (.int k a))) (hy : bS st y = some (.v (.int k b))) (hr : k.wrap (a * b) = r) : aw P N st ⟨dst, .binOp .mul t x y t', ty, pos, af, g⟩ (.v (.int k r)) :=
 aw.bin hx hy fun w => by subst hr; simp [eqGuard, binOp, Op.intArith]
theorem aw.rem (hx : bS st x = some (.v (.int k a))) (hy : bS st y = some (.v (.int k b))) (h0 : b ≠ 0) (hr : a.tmod b = r) : aw P N st ⟨dst, .binOp .rem t x y t', ty, pos, af, g⟩ (.v (.int k r)) :=
 aw.bin hx hy fun w => by subst hr; simp [eqGuard, binOp, Op.intDiv, h0]
theorem aw.lss (hx : bS st x = some (.v (.int k a))) (hy : bS st y = some (.v (.int k b))) : aw P N st ⟨dst, .binOp .lss t x y t', ty, pos, af, g⟩ (.v (.bool (decide (a < b)))) :=
 aw.bin hx hy fun w => by simp [eqGuard, binOp, Op.intCmp]
theorem aw.leq (hx : bS st x = some (.v (.int k a))) (hy : bS st y = some (.v (.int k b))) : aw P N st ⟨dst, .binOp .leq t x y t', ty, pos, af, g⟩ (.v (.bool (decide (a ≤ b)))) :=
 aw.bin hx hy fun w => by simp [eqGuard, binOp, Op.intCmp]
theorem aw.gtr (hx : bS st x = some (.v (.int k a))) (hy : bS st y = some (.v (.int k b))) : aw P N st ⟨dst, .binOp .gtr t x y t', ty, pos, af, g⟩ (.v (.bool (decide (b < a)))) :=
 aw.bin hx hy fun w => by simp [eqGuard, binOp, Op.intCmp]
theorem aw.geq (hx : bS st x = some (.v (.int k a))) (hy : bS st y = some (.v (.int k b))) : aw P N st ⟨dst, .binOp .geq t x y t', ty, pos, af, g⟩ (.v (.bool (decide (b ≤ a)))) :=
 aw.bin hx hy fun w => by simp [eqGuard, binOp, Op.intCmp]
theorem aw.eql (hx : bS st x = some (.v (.int k a))) (hy : bS st y = some (.v (.int k b))) : aw P N st ⟨dst, .binOp .eql t x y t', ty, pos, af, g⟩ (.v (.bool (decide (a = b)))) :=
 aw.bin hx hy fun w => by simp [eqGuard, binOp, Op.intCmp, BEq.beq]
theorem aw.neq (hx : bS st x = some (.v (.int k a))) (hy : bS st y = some (.v (.int k b))) : aw P N st ⟨dst, .binOp .neq t x y t', ty, pos, af, g⟩ (.v (.bool (decide (a ≠ b)))) :=
 aw.bin hx hy fun w => by simp [eqGuard, binOp, Op.intCmp, bne, BEq.beq]
end ints
theorem aw.un {op : UnOp} {t : TypeId} {x : Operand} {u r : Value} (hx : bS st x = some (.v u)) (hr : ∀ w, (Op.unary op u).run P w = .ok r w) : aw P N st ⟨dst, .unOp op t x, ty, pos, af, g⟩ (.v r) := by
 intro G E RR a _ hi
 refine ⟨r, fun w => ?_, by simp [RX]⟩
 show (do let x ← Op.unary op (a.eval x); pure (Next.value x) : Sem Next).run P w = _
 rw [hi.val hx]
 exact dJ (hr _)
theorem aw.not {t : TypeId} {x : Operand} {b : Bool} (hx : bS st x = some (.v (.bool b))) : aw P N st ⟨dst, .unOp .not t x, ty, pos, af, g⟩ (.v (.bool (!b))) :=
 aw.un hx fun _ => rfl
theorem aw.conv {s d : TypeId} {x : Operand} {k k' : IntKind} {n r : Int} (hs : TY.isInt P s = some k') (hd : TY.isInt P d = some k) (hx : bS st x = some (.v (.int k' n))) (hr : k.wrap n = r) :
  aw P N st ⟨dst, .convert s d x, ty, pos, af, g⟩ (.v (.int k r)) := by
 intro G E RR a _ hi
 refine ⟨.int k r, fun w => ?_, by simp [RX]⟩
 show (do let x ← convert s d (a.eval x); pure (Next.value x) : Sem Next).run P w = _
 rw [hi.val hx]
 refine dJ ?_
 have h1 : P.underlying s = some (.int k') := by unfold TY.isInt at hs; split at hs <;> simp_all
 have h2 : P.underlying d = some (.int k) := by unfold TY.isInt at hd; split at hd <;> simp_all
 simp [convert, run_underlying h1, run_underlying h2, Conv.intToInt, hr]
section
variable {t t' : TypeId} {x y : Operand} {a b : Int}
theorem aw.C9 (hx : bS st x = some (.v (.int .i64 a))) (hy : bS st y = some (.v (.int .i64 b))) (hr : -9223372036854775808 ≤ a + b ∧ a + b ≤ 9223372036854775807) : aw P N st ⟨dst, .binOp .add t x y t', ty, pos, af, g⟩ (.v (.int .i64 (a + b))) :=
 aw.add hx hy (IntWalk.i64_in _ hr)
theorem aw.KX (hx : bS st x = some (.v (.int .i64 a))) (hy : bS st y = some (.v (.int .i64 b))) (hr : -9223372036854775808 ≤ a - b ∧ a - b ≤ 9223372036854775807) : aw P N st ⟨dst, .binOp .sub t x y t', ty, pos, af, g⟩ (.v (.int .i64 (a - b))) :=
 aw.sub hx hy (IntWalk.i64_in _ hr)
theorem aw.Oy (hx : bS st x = some (.v (.int .i64 a))) (hy : bS st y = some (.v (.int .i64 b))) (hr : -9223372036854775808 ≤ a * b ∧ a * b ≤ 9223372036854775807) : aw P N st ⟨dst, .binOp .mul t x y t', ty, pos, af, g⟩ (.v (.int .i64 (a * b))) :=
 aw.mul hx hy (IntWalk.i64_in _ hr)
theorem aw.CA {k : IntKind} (hx : bS st x = some (.v (.int k a))) (hy : bS st y = some (.v (.int k b))) (hr : 0 ≤ a ∧ 1 ≤ b) : aw P N st ⟨dst, .binOp .rem t x y t', ty, pos, af, g⟩ (.v (.int k (a % b))) :=
 aw.rem hx hy om (IntWalk.rem_in a b hr.1)
end
theorem aw.ud {s d : TypeId} {x : Operand} {k k' : IntKind} {n : Int} (hs : TY.isInt P s = some k') (hd : TY.isInt P d = some k) (hx : bS st x = some (.v (.int k' n))) (hr : k.wrap n = n) :
  aw P N st ⟨dst, .convert s d x, ty, pos, af, g⟩ (.v (.int k n)) := aw.conv hs hd hx hr
theorem aw.len {t e s cY : Nat} {x : Operand} {y : X} {n : Nat} (ht : TY.slice P t = some (e, s, cY)) (hx : bS st x = some y) (hn : y.len = some n) :
  aw P N st ⟨dst, .call ⟨.builtin .len, #[x], #[t]⟩, ty, pos, af, g⟩ (.v (.int .i64 (n : Int))) := by
 intro G E RR a _ hi
 obtain ⟨R, hp⟩ := hi.eval hx
 obtain ⟨base, cap, hc⟩ := hp.len hn
 refine ⟨.int .i64 (n : Int), fun w => hX ?_, by simp [RX]⟩
 obtain ⟨hu, _⟩ := TY.ez ht
 simp [builtin, Builtin.len_, hc, run_underlying hu, goInt]
theorem aw.mc {t e s cY : Nat} {x ix : Operand} {rows : List (List X)} {row : List X} {k : IntKind} {n : Int} {m : Nat} (ht : TY.slice P t = some (e, s, cY)) (hx : bS st x = some (.fz s rows))
  (wO : bS st ix = some (.v (.int k n))) (hn : n = (m : Int)) (hr : rows[m]? = some row) : aw P N st ⟨dst, .indexAddr t x ix, ty, pos, af, g⟩ (.fp row 0) := by
 intro G E RR a _ hi
 obtain ⟨R, hp⟩ := hi.eval hx
 have hm : m < rows.length := by
  rcases Nat.lt_or_ge m rows.length with h' | h'
  ·exact h'
  ·simp [List.getElem?_eq_none h'] at hr
 simp only [RX] at hp
 obtain ⟨_, hu, base, cap, hc, h⟩ := hp
 rcases h with ⟨h, _⟩ | ⟨b, off, rfl, hl, hf⟩
 ·subst h; simp at hr
 ·refine ⟨.pointer (some ⟨b, off + m * s, none⟩), fun w => ?_, ?_⟩
  ·show (do let z ← Instr.indexAt t (a.eval x) (a.eval ix); pure (Next.value z) : Sem Next).run P w = _
   rw [hc, hi.val wO]
   exact dJ (kS ht hn hm w)
  ·simp only [RX]
   exact ⟨trivial, b, off + m * s, rfl, ke.get hu hf hr⟩
theorem aw.sC {t e s cY : Nat} {x ix : Operand} {o lo len : Nat} {k : IntKind} {n : Int} {m : Nat} (ht : TY.slice P t = some (e, s, cY)) (hx : bS st x = some (.ba o s lo len))
  (wO : bS st ix = some (.v (.int k n))) (hn : n = (m : Int)) (hm : m < len) : aw P N st ⟨dst, .indexAddr t x ix, ty, pos, af, g⟩ (.ptr o s (lo + m) 0) := by
 intro G E RR a _ hi
 obtain ⟨R, hp⟩ := hi.eval hx
 simp only [RX] at hp
 obtain ⟨_, base, cap, hc, h⟩ := hp
 rcases h with ⟨_, _, h, _⟩ | ⟨B, hB, _, hl, hb⟩
 ·omega
 ·have gq : base = some ⟨B.b, B.off + lo * s, none⟩ := hb.resolve_left om
  subst gq
  refine ⟨.pointer (some ⟨B.b, B.off + lo * s + m * s, none⟩), fun w => ?_, ?_⟩
  ·show (do let z ← Instr.indexAt t (a.eval x) (a.eval ix); pure (Next.value z) : Sem Next).run P w = _
   rw [hc, hi.val wO]
   exact dJ (kS ht hn hm w)
  ·simp only [RX]
   exact ⟨trivial, B, hB, by rw [Nat.add_mul]; simp [Nat.add_assoc]⟩
theorem aw.kD {t len e s : Nat} {x ix : Operand} {p q : X} {k : IntKind} {n : Int} {m : Nat} (ht : TY.array P t = some (len, e, s)) (hx : bS st x = some p)
  (wO : bS st ix = some (.v (.int k n))) (hn : n = (m : Int)) (hm : m < len) (hq : p.on (m * s) = some q) : aw P N st ⟨dst, .indexAddr t x ix, ty, pos, af, g⟩ q := by
 intro G E RR a _ hi
 obtain ⟨R, hp⟩ := hi.eval hx
 obtain ⟨b, o, hc, h⟩ := hp.on hq
 refine ⟨_, fun w => ?_, h⟩
 show (do let z ← Instr.indexAt t (a.eval x) (a.eval ix); pure (Next.value z) : Sem Next).run P w = _
 rw [hc, hi.val wO]
 refine dJ ?_
 obtain ⟨hu, i, iQ, hs⟩ := TY.rL ht
 subst hn
 simp [Instr.indexAt, Instr.sureAddr, asIntOf, run_underlying hu, hm, run_sizeOf iQ, hs, iy]
end
end Go.AW
namespace Go.AW
open Go
section
variable {P : Program} {N : eL} {st : St} {ops : Array Oper} {d : Nat} {ty : TypeId} {pos : String} {af : Array Edge} {K : St → Prop}
def SG (G : Ctx) (w : World) : Prop := (∀ b, G.K b → w.heap[b]? = G.w0.heap[b]?) ∧ ∀ b i v, G.φ0 b i = some v → w.cell? ⟨b, i, none⟩ = some v
theorem cy.sg {G : Ctx} {a : Act} {w : World} (h : cy G st a w) : SG G w := by
  obtain ⟨E, RR, rfl, hi⟩ := h
  exact ⟨hi.ah, fun b i v hv => hi.kR b i v (hi.φ0 b i v hv)⟩
def l8 (G : Ctx) (E : Env) (L : List Nat) (T : Nat → List Nat) (F' : List Nat) : Ctx := ⟨fun b => G.K b ∨ ∃ o, o ∈ L ∧ b ∈ T o, E.w, E.φ, E.β, ⟨G.fn.n, F'⟩, G.ds⟩
def cR (P : Program) (N : eL) (ops : Array Oper) (n : Nat) (ag : Array Bool) (st : St) (K : St → Prop) : Prop :=
  ∀ G : Ctx, G.fn = N → ∀ a w, cy G st a w → wpAnyH P .any ops (fun e a w => e = .normal ∧ ∃ aT, K aT ∧ cy G aT a w) (SG G) n ag a w
def bX (P : Program) (N : eL) (L F' : List Nat) (ops : Array Oper) (n : Nat) (ag : Array Bool) (st : St) (K : St → Prop) : Prop :=
  ∀ G : Ctx, G.fn = N → ∀ E RR a (T : Nat → List Nat), (∀ o ∈ L, RR (.obj o) = T o) → Inv G E RR st a →
    wpAnyH P .any ops (fun e a w => e = .normal ∧ ∃ aT, K aT ∧ cy G aT a w) (SG (l8 G E L T F')) n ag a E.w
theorem Inv.EH {G : Ctx} {E : Env} {RR : Own → List Nat} {a : Act} (hi : Inv G E RR st a) (L : List Nat) (T : Nat → List Nat) (F' : List Nat) : SG (l8 G E L T F') E.w := ⟨fun _ _ => rfl, hi.kR⟩
theorem bX.blind {L F' : List Nat} {n : Nat} {ag : Array Bool} (i : Nat) {op : Op} {x : X} (ho : ops[i]? = some ⟨some d, op, ty, pos, af, none⟩)
    (hB : (Region.noSelect ops && Region.free .any ops ag i && (Region.ready .any ops ag).contains i) = true) (hy : aw P N st ⟨some d, op, ty, pos, af, none⟩ x) (hd : d < N.n)
    (k : bX P N L F' ops n (ag.setIfInBounds i true) (st.put d x) K) : bX P N L F' ops (n + 1) ag st K := by
  intro G hn E RR a T hT hi
  obtain ⟨u, hr, hx⟩ := hy G E RR a hn hi
  simp only [Bool.and_eq_true] at hB
  refine wpAnyH_take (v := u) ho hB.1.1 hB.1.2 hB.2 ?_ (.inl ⟨by simp [Region.wanted], fun w _ => hr w⟩) (hi.EH L T F') (k G hn E _ _ T ?_ (hi.g5 (hn ▸ hd) hx))
  · intro c a w h
    cases h.1
  · intro o ho
    have := hT o ho
    simpa [fH] using this
def ue (L : List Nat) : X → Bool
  | .fp .. => true
  | .ptr o .. => L.elem o
  | _ => false
theorem Inv.held {G : Ctx} {E : Env} {RR : Own → List Nat} {a : Act} {L F' : List Nat} {T : Nat → List Nat} (hi : Inv G E RR st a) (hT : ∀ o ∈ L, RR (.obj o) = T o) {p : X} {c : Value} {R : List Nat} {row : List X}
    (hp : RX E p c R) (hr : rowAt st p = some row) (hL : ue L p = true) :
    ∃ b off, c = .pointer (some ⟨b, off + kO p, none⟩) ∧ ∀ w, SG (l8 G E L T F') w → ∀ j, j < row.length → w.cell? ⟨b, off + j, none⟩ = E.w.cell? ⟨b, off + j, none⟩ := by
  cases p with
  | fp row' k' =>
    simp only [rowAt, Option.some.injEq] at hr
    subst hr
    simp only [RX] at hp
    obtain ⟨_, b, off, hc, hf⟩ := hp
    refine ⟨b, off, hc, fun w hw j hj => ?_⟩
    obtain ⟨vs, hl, hv, hx⟩ := RF.cells hf
    obtain ⟨v, Sm⟩ : ∃ v, vs[j]? = some v := ⟨vs[j]'om, List.getElem?_eq_getElem om⟩
    have h1 := hv j v Sm
    rw [hi.kR _ _ _ h1]
    exact hw.2 _ _ _ h1
  | ptr o s i k' =>
    simp only [RX] at hp
    obtain ⟨_, B, hB, hc⟩ := hp
    have I6 : o ∈ L := List.elem_iff.1 hL
    have Oz := hT o I6
    have hb : B.b ∈ T o := by
      simp only [rowAt] at hr
      split at hr
      · rename_i xs ho
        have h0 := hi.aG o _ ho
        simp only [dG] at h0
        obtain ⟨_, B', cs, ty, iz, hw, _, _, jB, hR⟩ := h0
        rw [hB] at iz
        obtain rfl := Option.some.inj iz
        rw [← Oz, hR]; simp
      · rename_i s' rs ho
        have h0 := hi.aG o _ ho
        simp only [dG] at h0
        obtain ⟨hu, h0⟩ := h0
        rcases h0 with ⟨h0, _⟩ | ⟨B', cs, ty, R', iz, hw, _, _, _, _, hR⟩
        · rw [hB] at h0; cases h0
        · rw [hB] at iz
          obtain rfl := Option.some.inj iz
          rw [← Oz, hR]; simp
      · cases hr
    refine ⟨B.b, B.off + i * s, by rw [hc]; simp [kO, Nat.add_assoc], fun w hw j _ => ?_⟩
    have := hw.1 B.b (.inr ⟨o, I6, hb⟩)
    unfold World.cell?
    simp only [l8] at this
    rw [this]
  | _ => cases hL
theorem p8 {b b' o o' k : Nat} (h : Value.pointer (some ⟨b, o + k, none⟩) = Value.pointer (some ⟨b', o' + k, none⟩)) : b = b' ∧ o = o' := by
  simp only [Value.pointer.injEq, Option.some.injEq, Addr.mk.injEq] at h
  omega
theorem bX.load {L F' : List Nat} {n : Nat} {ag : Array Bool} (i : Nat) {t : TypeId} {x : Operand} {p y : X} {row : List X} (ho : ops[i]? = some ⟨some d, .load t x, ty, pos, af, none⟩)
    (hB : (Region.noSelect ops && Region.free .any ops ag i && (Region.ready .any ops ag).contains i) = true) (ht : TY.shape P t = some none) (hx : bS st x = some p) (hL : ue L p = true) (hr : rowAt st p = some row)
    (hy : row[kO p]? = some y) (hf : y.free = true) (hd : d < N.n)
    (k : bX P N L F' ops n (ag.setIfInBounds i true) (st.put d y) K) : bX P N L F' ops (n + 1) ag st K := by
  intro G hn E RR a T hT hi
  obtain ⟨R, hp⟩ := hi.eval hx
  obtain ⟨b, off, hc, g6⟩ := hi.behind hp hr
  obtain ⟨b', ry, oz, m9⟩ := hi.held (F' := F') hT hp hr hL
  obtain ⟨rfl, rfl⟩ := p8 (hc.symm.trans oz)
  have hk : kO p < row.length := by
    rcases Nat.lt_or_ge (kO p) row.length with h' | h'
    · exact h'
    · simp [List.getElem?_eq_none h'] at hy
  obtain ⟨vs, R', hl, hv, fx⟩ := g6 (kO p) 1 om
  rw [getElem?_drop_take_one hy] at fx
  simp only [bz] at fx
  obtain ⟨c, di, R₁, R₂, DB, _, h1, ⟨rfl, rfl⟩, rfl⟩ := fx
  subst DB
  have h0 := RX.free hf h1
  subst h0
  simp only [Bool.and_eq_true] at hB
  refine wpAnyH_take (v := c) ho hB.1.1 hB.1.2 hB.2 ?_ (.inl ⟨by simp [Region.wanted], fun w hw => ?_⟩) (hi.EH L T F') (k G hn E _ _ T ?_ (hi.g5 (hn ▸ hd) h1))
  · intro c a w h
    cases h.1
  · show (do let z ← Instr.loadAt t (a.eval x); pure (Next.value z) : Sem Next).run P w = _
    rw [hc]
    refine dJ ?_
    have fW := hv 0 c rfl
    simp only [Instr.loadAt, Instr.sureAddr, loadVar, Sem.run_bind, Sem.run_pure, Result.andThen_ok, (TY.gO ht w).1]
    simp only [Nat.add_zero] at fW
    rw [← m9 w hw _ hk] at fW
    simp [fW]
  · intro o ho
    have := hT o ho
    simpa [fH] using this
theorem bX.e8 {L F' : List Nat} {n : Nat} {ag : Array Bool} (i : Nat) {t : TypeId} {x : Operand} {p : X} {row : List X} {m : Nat} {ys : List X} (ho : ops[i]? = some ⟨some d, .load t x, ty, pos, af, none⟩)
    (hB : (Region.noSelect ops && Region.free .any ops ag i && (Region.ready .any ops ag).contains i) = true) (ht : TY.shape P t = some (some m)) (hx : bS st x = some p) (hL : ue L p = true) (hr : rowAt st p = some row)
    (hm : kO p + m ≤ row.length) (vq : (row.drop (kO p)).take m = ys) (hf : X.b9 ys = true) (hd : d < N.n)
    (k : bX P N L F' ops n (ag.setIfInBounds i true) (st.put d (.agg ys)) K) : bX P N L F' ops (n + 1) ag st K := by
  intro G hn E RR a T hT hi
  obtain ⟨R, hp⟩ := hi.eval hx
  obtain ⟨b, off, hc, g6⟩ := hi.behind hp hr
  obtain ⟨b', ry, oz, m9⟩ := hi.held (F' := F') hT hp hr hL
  obtain ⟨rfl, rfl⟩ := p8 (hc.symm.trans oz)
  obtain ⟨vs, R', hl, hv, fx⟩ := g6 (kO p) m hm
  rw [vq] at fx
  have h0 := bz.free hf fx
  subst h0
  simp only [Bool.and_eq_true] at hB
  refine wpAnyH_take (v := .agg vs.toArray) ho hB.1.1 hB.1.2 hB.2 ?_ (.inl ⟨by simp [Region.wanted], fun w hw => ?_⟩) (hi.EH L T F') (k G hn E _ _ T ?_ (hi.g5 (hn ▸ hd) (by simp only [RX]; exact ⟨_, rfl, fx⟩)))
  · intro c a w h
    cases h.1
  · show (do let z ← Instr.loadAt t (a.eval x); pure (Next.value z) : Sem Next).run P w = _
    rw [hc]
    refine dJ ?_
    obtain ⟨h1, h2⟩ := TY.lN ht w
    have h3 : (loadCells ⟨b, off + kO p, none⟩ m).run P w = .ok vs.toArray w := by
      rw [← hl]
      refine run_loadCells_list (w := w) _ vs fun j v hj => ?_
      have qN : j < vs.length := (List.getElem?_eq_some_iff.1 hj).1
      rw [iy, Nat.add_assoc, m9 w hw _ om]; exact hv j v hj
    simp only [Instr.loadAt, Instr.sureAddr, loadVar, Sem.run_bind, Sem.run_pure, Result.andThen_ok, h1, if_true, h2, h3]
  · intro o ho
    have := hT o ho
    simpa [fH] using this
def St.back (st : St) : List Nat → List (Nat × Obj) → List (Nat × Obj)
  | [], r => r
  | o :: L, r => match look st.aG o with
    | some ob => (o, ob) :: st.back L r
    | none => st.back L r
theorem uf (st : St) {r : List (Nat × Obj)} {q : Nat} {x : Obj} : ∀ {L : List Nat}, (∀ o ∈ L, ∃ ob, look st.aG o = some ob) → look (st.back L r) q = some x → (q ∈ L ∧ look st.aG q = some x) ∨ (q ∉ L ∧ look r q = some x)
  | [], _, h => .inr ⟨by simp, h⟩
  | o :: L, hL, h => by
    obtain ⟨ob, dm⟩ := hL o (by simp)
    simp only [St.back, dm, look] at h
    cases hb : Nat.beq o q with
    | true =>
      have := Nat.eq_of_beq_eq_true hb
      subst this
      simp only [hb, cond_true, Option.some.injEq] at h
      exact .inl ⟨by simp, by rw [dm, h]⟩
    | false =>
      simp only [hb, cond_false] at h
      have ew : q ≠ o := Ne.symm (Nat.ne_of_beq_eq_false hb)
      rcases uf st (fun o ho => hL o (List.mem_cons_of_mem _ ho)) h with ⟨h1, h2⟩ | ⟨h1, h2⟩
      · exact .inl ⟨List.mem_cons_of_mem _ h1, h2⟩
      · exact .inr ⟨by simp [ew, h1], h2⟩
def cq (st : St) (L F' : List Nat) : Prop := ∀ o ∈ L, ∃ ob, look st.aG o = some ob ∧ ∀ xs, ob = .cells xs → ∀ q, X.cG q xs = true → F'.elem q = true
theorem l8.down {G : Ctx} {E : Env} {RR : Own → List Nat} {a : Act} {L F' : List Nat} {T : Nat → List Nat} (hi : Inv G E RR st a) (hT : ∀ o ∈ L, RR (.obj o) = T o) {z6 : St} (hle : Le st z6) (KY : ∀ o ∈ L, look z6.aG o = none) :
    cy (l8 G E L T F') z6 a E.w := by
  refine ⟨E, fun p => match p with | .obj o => if o ∈ L then [] else RR (.obj o) | p => RR p, rfl, ?_⟩
  have sub : ∀ p b, b ∈ (match p with | .obj o => if o ∈ L then [] else RR (.obj o) | p => RR p : List Nat) → b ∈ RR p ∧ ∀ o, p = .obj o → o ∉ L := by
    intro p b h
    cases p with
    | obj o =>
      by_cases hL : o ∈ L
      · simp [hL] at h
      · simp only [hL, if_false] at h
        exact ⟨h, fun q hq => by cases hq; exact hL⟩
    | slot s => exact ⟨h, fun q hq => by cases hq⟩
  exact {
    kR := hi.kR
    aD := fun s x hx => hi.aD s x (hle.1 s x hx)
    aG := fun o ob ho => by
      by_cases hL : o ∈ L
      · rw [KY o hL] at ho; cases ho
      · simp only [hL, if_false]; exact hi.aG o ob (hle.2 o ob ho)
    nodup := fun p => by
      cases p with
      | obj o =>
        by_cases hL : o ∈ L
        · simp [hL]
        · simp only [hL, if_false]; exact hi.nodup _
      | slot s => exact hi.nodup _
    apart := fun p q lr b hb gq => hi.apart p q lr b (sub p b hb).1 (sub q b gq).1
    own := fun p b hb => by
      obtain ⟨h1, h2⟩ := sub p b hb
      refine ⟨(hi.own p b h1).1, fun vx => ?_⟩
      rcases (vx : G.K b ∨ ∃ o, o ∈ L ∧ b ∈ T o) with h | ⟨o, ho, ug⟩
      · exact (hi.own p b h1).2 h
      · rw [← hT o ho] at ug
        have ew : p ≠ .obj o := fun e => h2 o e ho
        exact hi.apart p (.obj o) ew b h1 ug
    ah := fun _ _ => rfl
    size := Nat.le_refl _
    small := fun b vx => by
      rcases (vx : G.K b ∨ ∃ o, o ∈ L ∧ b ∈ T o) with h | ⟨o, ho, ug⟩
      · exact Nat.lt_of_lt_of_le (hi.small b h) hi.size
      · rw [← hT o ho] at ug
        exact (hi.own _ b ug).1
    os := rfl
    tape := rfl
    output := rfl
    φ0 := fun _ _ _ h => h
    grow := fun _ _ _ h => .inl h
    fixed := fun _ _ => rfl
    tmps := hi.tmps
    defers := hi.defers }
theorem l8.up {G : Ctx} {E : Env} {RR : Own → List Nat} {a : Act} {L F' : List Nat} {T : Nat → List Nat} (hi : Inv G E RR st a) (hT : ∀ o ∈ L, RR (.obj o) = T o) (hF : ∀ o, G.fn.F.elem o = true → F'.elem o = true) (HF : ∀ o ∈ L, F'.elem o = true)
    (dm : cq st L F') {aT : St} {a' : Act} {w' : World} (h : cy (l8 G E L T F') aT a' w') : cy G ⟨aT.aD, st.back L aT.aG⟩ a' w' := by
  obtain ⟨E', fg, rfl, hj⟩ := h
  have Fh : ∀ {o b}, o ∈ L → b ∈ RR (.obj o) → (l8 G E L T F').K b := fun ho hb => .inr ⟨_, ho, by rw [← hT _ ho]; exact hb⟩
  have sub : ∀ p b, b ∈ (match p with | .obj o => if o ∈ L then RR (.obj o) else fg (.obj o) | p => fg p : List Nat) → (∃ o, o ∈ L ∧ p = .obj o ∧ b ∈ RR p) ∨ ((∀ o, p = .obj o → o ∉ L) ∧ b ∈ fg p) := by
    intro p b h
    cases p with
    | obj o =>
      by_cases hL : o ∈ L
      · simp only [hL, if_true] at h
        exact .inl ⟨o, hL, rfl, h⟩
      · simp only [hL, if_false] at h
        exact .inr ⟨fun q hq => by cases hq; exact hL, h⟩
    | slot s => exact .inr ⟨fun q hq => (by cases hq), h⟩
  refine ⟨E', fun p => match p with | .obj o => if o ∈ L then RR (.obj o) else fg (.obj o) | p => fg p, rfl, ?_⟩
  exact {
    kR := hj.kR
    aD := fun s x hx => hj.aD s x hx
    aG := fun o ob ho => by
      rcases uf st (fun o ho => (dm o ho).imp fun _ h => h.1) ho with ⟨h1, h2⟩ | ⟨h1, h2⟩
      · simp only [h1, if_true]
        obtain ⟨wB, KZ, Ec⟩ := dm o h1
        rw [h2] at KZ
        obtain rfl := Option.some.inj KZ
        refine dG.mono ⟨hj.φ0, fun b hb => ⟨hj.ah b (Fh h1 hb), fun hn i => ?_⟩⟩ (hj.fixed o (HF o h1)) (fun xs fx q hq => hj.fixed q (Ec xs fx q hq)) (hi.aG o ob h2)
        cases hφ : E'.φ b i with
        | none => rfl
        | some v =>
          rcases hj.grow b i v hφ with h3 | h3
          · have h4 := hn i
            change E.φ b i = some v at h3
            rw [h4] at h3; cases h3
          · exact absurd (Fh h1 hb) h3
      · simp only [h1, if_false]; exact hj.aG o ob h2
    nodup := fun p => by
      cases p with
      | obj o =>
        by_cases hL : o ∈ L
        · simp only [hL, if_true]; exact hi.nodup _
        · simp only [hL, if_false]; exact hj.nodup _
      | slot s => exact hj.nodup _
    apart := fun p q lr b hb gq => by
      rcases sub p b hb with ⟨o, ho, rfl, h1⟩ | ⟨_, h1⟩ <;> rcases sub q b gq with ⟨o', lp, rfl, h2⟩ | ⟨_, h2⟩
      · exact hi.apart _ _ lr b h1 h2
      · exact (hj.own _ b h2).2 (Fh ho h1)
      · exact (hj.own _ b h1).2 (Fh lp h2)
      · exact hj.apart _ _ lr b h1 h2
    own := fun p b hb => by
      rcases sub p b hb with ⟨o, ho, rfl, h1⟩ | ⟨_, h1⟩
      · exact ⟨Nat.lt_of_lt_of_le (hi.own _ b h1).1 hj.size, (hi.own _ b h1).2⟩
      · exact ⟨(hj.own _ b h1).1, fun hk => (hj.own _ b h1).2 (.inl hk)⟩
    ah := fun b hb => (hj.ah b (.inl hb)).trans (hi.ah b hb)
    size := Nat.le_trans hi.size hj.size
    small := hi.small
    os := hj.os.trans hi.os
    tape := hj.tape.trans hi.tape
    output := hj.output.trans hi.output
    φ0 := fun b i v h => hj.φ0 b i v (hi.φ0 b i v h)
    grow := fun b i v h => by
      rcases hj.grow b i v h with h1 | h1
      · exact hi.grow b i v h1
      · exact .inr fun hk => h1 (.inl hk)
    fixed := fun o ho => (hj.fixed o (hF o ho)).trans (hi.fixed o ho)
    tmps := hj.tmps
    defers := hj.defers }
theorem oL {Q1 Q2 : Exit → Act → World → Prop} {K1 K2 : Act → World → Prop} {j : Nat} {a : Act} {w : World} (hQ : ∀ e a w, e ≠ .normal → Q1 e a w → False) (hK : ∀ a w, K1 a w → K2 a w) (h : wpOp P ops Q1 j K1 a w) : wpOp P ops Q2 j K2 a w := by
  unfold wpOp at *
  cases ho : ops[j]? with
  | none => simp only [ho] at h ⊢; first | exact hK _ _ h | exact h
  | some o =>
    simp only [ho] at *
    split
    · rename_i hw
      simp only [hw, if_true] at h
      rcases h with h | ⟨_, hl⟩
      · refine .inl ?_
        unfold Oper.wp at *
        generalize (execOp a.eval o).run P w = r at *
        cases r with
        | ok nx w' =>
          cases nx <;> simp only [Oper.upon] at h ⊢ <;> first
            | exact hK _ _ h
            | exact Calls.mono h (fun e Qp he => by
                cases e with
                | returned u => exact hK _ _ he
                | panicked c => exact (hQ _ _ _ (by simp) he).elim
                | outgrown => exact (let ⟨_, _, h'⟩ := he; hQ _ _ _ (by simp) h').elim)
            | exact Rows.mono h (fun _ _ he => hK _ _ he)
        | halt x w' => cases x <;> simp only [Oper.upon] at h ⊢ <;> first | exact (hQ _ _ _ (by simp) h).elim | exact (let ⟨_, _, h'⟩ := h; hQ _ _ _ (by simp) h').elim | exact h
      · obtain ⟨_, _, h'⟩ := hl
        exact (hQ _ _ _ (by simp) h').elim
    · rename_i hw
      simp only [hw] at h
      exact hK _ _ h
theorem rm {md : Region.Mode} {S : World → Prop} {Q1 Q2 : Exit → Act → World → Prop} (hQ : ∀ e a w, e ≠ .normal → Q1 e a w → False) (hN : ∀ a w, Q1 .normal a w → Q2 .normal a w) :
    ∀ (n : Nat) (ag : Array Bool) (a : Act) (w : World), wpAnyH P md ops Q1 S n ag a w → wpAnyH P md ops Q2 S n ag a w
  | 0, _, _, _, h => ⟨h.1, hN _ _ h.2⟩
  | n + 1, _, _, _, h => ⟨fun h0 => hN _ _ (h.1 h0), fun i hi => oL hQ (fun a w h' => ⟨h'.1, rm hQ hN n _ a w h'.2⟩) (h.2 i hi)⟩
theorem bX.go {L F' : List Nat} {n : Nat} {ag : Array Bool} (z6 : St) (hle : Le st z6) (KY : ∀ o ∈ L, look z6.aG o = none) (hF : ∀ o, N.F.elem o = true → F'.elem o = true) (HF : ∀ o ∈ L, F'.elem o = true)
    (dm : cq st L F') (k : cR P ⟨N.n, F'⟩ ops n ag z6 (fun aT => K ⟨aT.aD, st.back L aT.aG⟩)) : bX P N L F' ops n ag st K := by
  intro G hn E RR a T hT hi
  refine rm (fun e a w he h => he h.1) ?_ n ag a E.w (k (l8 G E L T F') (by simp [l8, hn]) a E.w (l8.down hi hT hle KY))
  rintro a' w' ⟨_, aT, hk, hh⟩
  exact ⟨rfl, _, hk, l8.up hi hT (by rw [hn]; exact hF) HF dm hh⟩
theorem cR.step {n : Nat} {ag : Array Bool} (j : Nat) {o : Oper} (ho : ops[j]? = some o)
    (k : aO P N ops [o] st (fun e aT => e = .normal ∧ cR P N ops n (ag.setIfInBounds j true) aT K)) (G : Ctx) (hn : G.fn = N) (a : Act) (w : World) (hh : cy G st a w) :
    wpOp P ops (fun e a w => e = .normal ∧ ∃ aT, K aT ∧ cy G aT a w) j (fun a' w' => SG G w' ∧ wpAnyH P .any ops (fun e a w => e = .normal ∧ ∃ aT, K aT ∧ cy G aT a w) (SG G) n (ag.setIfInBounds j true) a' w') a w := by
  have hk := k G hn a w hh
  have key : wpOp P ops (fun e a w => mI G (fun e aT => e = .normal ∧ cR P N ops n (ag.setIfInBounds j true) aT K) e a w) j
      (fun a w => mI G (fun e aT => e = .normal ∧ cR P N ops n (ag.setIfInBounds j true) aT K) .normal a w) a w := by
    unfold wpOp; simp only [ho]; exact hk
  refine oL ?_ ?_ key
  · rintro e a w he ⟨aT, _, h, _⟩
    exact he h
  · rintro a w ⟨aT, gL, _, AM⟩
    exact ⟨gL.sg, AM G hn a w gL⟩
theorem cR.one {n : Nat} {ag : Array Bool} (i : Nat) {o : Oper} (ho : ops[i]? = some o) (hr : (Region.ready .any ops ag == [i]) = true)
    (k : aO P N ops [o] st (fun e aT => e = .normal ∧ cR P N ops n (ag.setIfInBounds i true) aT K)) : cR P N ops (n + 1) ag st K := by
  intro G hn a w hh
  refine wpAnyH_all (rs := [i]) (by simpa using hr) (by simp) ?_
  intro j hj
  have : j = i := by simpa using hj
  subst this
  exact cR.step j ho k G hn a w hh
theorem cR.two {n : Nat} {ag : Array Bool} (i i' : Nat) {o o' : Oper} (ho : ops[i]? = some o) (lp : ops[i']? = some o') (hr : (Region.ready .any ops ag == [i, i']) = true)
    (k : aO P N ops [o] st (fun e aT => e = .normal ∧ cR P N ops n (ag.setIfInBounds i true) aT K))
    (k' : aO P N ops [o'] st (fun e aT => e = .normal ∧ cR P N ops n (ag.setIfInBounds i' true) aT K)) : cR P N ops (n + 1) ag st K := by
  intro G hn a w hh
  refine wpAnyH_all (rs := [i, i']) (by simpa using hr) (by simp) ?_
  intro j hj
  simp only [List.mem_cons, List.not_mem_nil, or_false] at hj
  rcases hj with rfl | rfl
  · exact cR.step j ho k G hn a w hh
  · exact cR.step j lp k' G hn a w hh
theorem cR.blind {n : Nat} {ag : Array Bool} (i : Nat) {op : Op} {x : X} (ho : ops[i]? = some ⟨some d, op, ty, pos, af, none⟩)
    (hB : (Region.noSelect ops && Region.free .any ops ag i && (Region.ready .any ops ag).contains i) = true) (hy : aw P N st ⟨some d, op, ty, pos, af, none⟩ x) (hd : d < N.n)
    (k : cR P N ops n (ag.setIfInBounds i true) (st.put d x) K) : cR P N ops (n + 1) ag st K := by
  intro G hn a w hh
  have hS := hh.sg
  obtain ⟨E, RR, rfl, hi⟩ := hh
  obtain ⟨u, hr, hx⟩ := hy G E RR a hn hi
  simp only [Bool.and_eq_true] at hB
  refine wpAnyH_take (v := u) ho hB.1.1 hB.1.2 hB.2 ?_ (.inl ⟨by simp [Region.wanted], fun w _ => hr w⟩) hS (k G hn _ _ ⟨E, _, rfl, hi.g5 (hn ▸ hd) hx⟩)
  intro c a w h
  cases h.1
theorem cR.done {n : Nat} {ag : Array Bool} (hr : (Region.ready .any ops ag).isEmpty = true) (h : K st) : cR P N ops n ag st K :=
  fun _ _ _ _ hh => wpAnyH_done (by simpa using hr) ⟨rfl, st, h, hh⟩ n
theorem dk.eU (L F' : List Nat) {Q : Exit → St → Prop} {id : Nat} (hm : P.follows .mixedOrders = true) (h : bX P N L F' ops ops.size (Array.replicate ops.size false) st (fun aT => Q .normal aT)) : dk P N (.region id ops true) st Q := by
  intro G hn a w hh
  obtain ⟨E, RR, hw, hi⟩ := hh.drew
  refine wp_mono (wp_region_held (S := SG (l8 G E L (fun o => RR (.obj o)) F')) hm (hw ▸ h G hn E RR a _ (fun _ _ => rfl) hi)) ?_
  rintro e a w ⟨rfl, aT, hk, gL⟩
  exact ⟨aT, gL, hk⟩
theorem ig {L : List Nat} {q : Nat} {x : Obj} : ∀ {l : List (Nat × Obj)}, look (l.filter fun p => !L.elem p.1) q = some x → look l q = some x ∧ q ∉ L
  | [], h => by simp [look] at h
  | (o, ob) :: r, h => by
    rw [List.filter_cons] at h
    cases hL : L.elem o with
    | true =>
      simp only [hL, Bool.not_true, Bool.false_eq_true, if_false] at h
      obtain ⟨h1, h2⟩ := ig h
      refine ⟨?_, h2⟩
      have ew : Nat.beq o q = false := by
        cases hb : Nat.beq o q with
        | false => rfl
        | true =>
          have := Nat.eq_of_beq_eq_true hb
          subst this
          exact absurd (List.elem_iff.1 hL) h2
      simp only [look, ew, cond_false]; exact h1
    | false =>
      simp only [hL, Bool.not_false, if_true, look] at h ⊢
      cases hb : Nat.beq o q with
      | true =>
        have := Nat.eq_of_beq_eq_true hb
        subst this
        simp only [hb, cond_true] at h ⊢
        exact ⟨h, fun hm => by rw [List.elem_iff.2 hm] at hL; cases hL⟩
      | false =>
        simp only [hb, cond_false] at h ⊢
        exact ig h
theorem dk.fA {Q : Exit → St → Prop} {id : Nat} (hm : P.follows .mixedOrders = true) (h : bX P N [] N.F ops ops.size (Array.replicate ops.size false) st (fun aT => Q .normal aT)) : dk P N (.region id ops true) st Q := dk.eU [] N.F hm h
theorem Le.aG {st : St} {l : List (Nat × Obj)} (h : eM st.aG l) : Le st ⟨st.aD, l⟩ := ⟨fun _ _ h => h, h⟩
theorem cq.nil {F' : List Nat} : cq st [] F' := fun _ h => by cases h
def ownNames : List X → List Nat
  | [] => []
  | .ptr o .. :: r | .ba o .. :: r | .mref o :: r => o :: ownNames r
  | .v _ :: r | .fz .. :: r | .no :: r | .fp .. :: r | .ei .. :: r => ownNames r
  | _ :: r => ownNames r
def yK : List X → Bool
  | [] => true
  | .agg _ :: _ | .tup _ :: _ | .gB .. :: _ => false
  | _ :: r => yK r
theorem lh {q : Nat} : ∀ {xs : List X}, yK xs = true → X.cG q xs = true → q ∈ ownNames xs
  | [], _, h => by simp [X.cG] at h
  | x :: r, hf, h => by
    simp only [X.cG, Bool.or_eq_true] at h
    cases x <;> simp only [yK, Bool.false_eq_true] at hf <;> simp only [ownNames, X.dN, Bool.false_eq_true, false_or, beq_iff_eq, List.mem_cons] at h ⊢ <;>
      first
        | exact lh hf h
        | (rcases h with h | h
           · first | exact .inl h.symm | exact .inl h | exact .inl (Nat.eq_of_beq_eq_true h).symm | exact .inl (Nat.eq_of_beq_eq_true h)
           · exact .inr (lh hf h))
theorem cq.cells {F' L : List Nat} {o : Nat} {xs : List X} (ho : look st.aG o = some (.cells xs)) (hf : yK xs = true) (hn : (ownNames xs).all (fun q => F'.elem q) = true) (hL : cq st L F') : cq st (o :: L) F' := by
  intro p hp
  rcases List.mem_cons.1 hp with rfl | hp
  · exact ⟨_, ho, fun ys vq q hq => by cases vq; exact List.all_eq_true.1 hn q (lh hf hq)⟩
  · exact hL p hp
theorem bX.AP {L F' : List Nat} {n : Nat} {ag : Array Bool} (hF : N.F.all (fun o => F'.elem o) = true) (HF : L.all (fun o => F'.elem o) = true)
    (dm : cq st L F') (k : cR P ⟨N.n, F'⟩ ops n ag ⟨st.aD, st.aG.filter fun p => !L.elem p.1⟩ (fun aT => K ⟨aT.aD, st.back L aT.aG⟩)) : bX P N L F' ops n ag st K :=
  bX.go ⟨st.aD, st.aG.filter fun p => !L.elem p.1⟩ ⟨fun _ _ h => h, fun _ _ h => (ig h).1⟩ (fun o ho => by
    have key : ∀ x, look (st.aG.filter fun p => !L.elem p.1) o ≠ some x := fun x h => absurd ho (ig h).2
    show look (st.aG.filter fun p => !L.elem p.1) o = none
    generalize look (st.aG.filter fun p => !L.elem p.1) o = z at key
    cases z with
    | none => rfl
    | some x => exact absurd rfl (key x)) (fun o ho => List.all_eq_true.1 hF o (List.elem_iff.1 ho)) (fun o ho => List.all_eq_true.1 HF o ho) dm k
theorem bX.xK {n : Nat} {ag : Array Bool} (k : cR P N ops n ag st K) : bX P N [] N.F ops n ag st K :=
  bX.go st (Le.refl st) (fun _ h => by cases h) (fun _ h => h) (fun _ h => by cases h) cq.nil k
end
end Go.AW
namespace Go.AW
open Go
theorem bz.CB {E E' : Env} {x y : X} {o : Nat} (hβ : ∀ q, q ≠ o → E'.β q = E.β q) (hf : x.free = true) : ∀ {xs : List X} {cs : List Value} {R : List Nat} {k : Nat}, bz E xs cs R → xs[k]? = some x → E.On E' R → X.cG o (xs.set k .no) = false →
  ∃ c Ra Rb, R = Ra ++ Rb ∧ RX E x c [] ∧ ∀ R1, RX E' y c R1 → bz E' (xs.set k y) cs (Ra ++ (R1 ++ Rb))
 | [], _, _, _, _, h, _, _ => by simp at h
 | z :: r, cs, R, 0, h, hy, hE, hm => by
  simp only [bz] at h
  obtain ⟨c, di, R₁, R₂, rfl, hs, h1, h2, rfl⟩ := h
  simp only [List.getElem?_cons_zero, Option.some.injEq] at hy
  subst hy
  have h0 := RX.free hf h1
  subst h0
  simp only [List.set, X.cG, Bool.or_eq_false_iff] at hm
  refine ⟨c, [], R₂, rfl, h1, fun R1 h3 => ?_⟩
  simp only [List.set, bz, List.nil_append]
  exact ⟨c, di, R1, R₂, rfl, hs, h3, bz.mono _ _ _ hE (fun q hq => hβ q (fun e => by rw [e, hm.2] at hq; cases hq)) h2, rfl⟩
 | z :: r, cs, R, k + 1, h, hy, hE, hm => by
  simp only [bz] at h
  obtain ⟨c0, di, R₁, R₂, rfl, hs, h1, h2, rfl⟩ := h
  simp only [List.getElem?_cons_succ] at hy
  simp only [List.set, X.cG, Bool.or_eq_false_iff] at hm
  obtain ⟨c, Ra, Rb, rfl, hc, hk⟩ := bz.CB hβ hf h2 hy (hE.sub (fun _ h => List.mem_append.2 (.inr h))) hm.2
  refine ⟨c, R₁ ++ Ra, Rb, by rw [List.append_assoc], hc, fun R1 h3 => ?_⟩
  simp only [List.set, bz]
  exact ⟨c0, di, R₁, Ra ++ (R1 ++ Rb), rfl, hs, RX.mono _ _ _ (hE.sub (fun _ h => List.mem_append.2 (.inl h))) (fun q hq => hβ q (fun e => by rw [e, hm.1] at hq; cases hq)) h1, hk R1 h3, by rw [List.append_assoc]⟩
theorem bz.Gc {E : Env} {x y : X} {o : Nat} : ∀ {xs : List X} {cs : List Value} {R : List Nat} {k : Nat}, bz E xs cs R → xs[k]? = some x → X.cG o (xs.set k .no) = false →
  ∃ c Ra R0 Rb, R = Ra ++ (R0 ++ Rb) ∧ RX E x c R0 ∧ ∀ (E' : Env), (∀ q, q ≠ o → E'.β q = E.β q) → E.On E' R → ∀ R1, RX E' y c R1 → bz E' (xs.set k y) cs (Ra ++ (R1 ++ Rb))
 | [], _, _, _, _, h, _ => by simp at h
 | z :: r, cs, R, 0, h, hy, hm => by
  simp only [bz] at h
  obtain ⟨c, di, R₁, R₂, rfl, hs, h1, h2, rfl⟩ := h
  simp only [List.getElem?_cons_zero, Option.some.injEq] at hy
  subst hy
  simp only [List.set, X.cG, Bool.or_eq_false_iff] at hm
  refine ⟨c, [], R₁, R₂, rfl, h1, fun E' hβ hE R1 h3 => ?_⟩
  simp only [List.set, bz, List.nil_append]
  exact ⟨c, di, R1, R₂, rfl, hs, h3, bz.mono _ _ _ (hE.sub (fun _ h => List.mem_append.2 (.inr h))) (fun q hq => hβ q (fun e => by rw [e, hm.2] at hq; cases hq)) h2, rfl⟩
 | z :: r, cs, R, k + 1, h, hy, hm => by
  simp only [bz] at h
  obtain ⟨c0, di, R₁, R₂, rfl, hs, h1, h2, rfl⟩ := h
  simp only [List.getElem?_cons_succ] at hy
  simp only [List.set, X.cG, Bool.or_eq_false_iff] at hm
  obtain ⟨c, Ra, R0, Rb, rfl, hc, hk⟩ := bz.Gc (y := y) h2 hy hm.2
  refine ⟨c, R₁ ++ Ra, R0, Rb, by rw [List.append_assoc], hc, fun E' hβ hE R1 h3 => ?_⟩
  simp only [List.set, bz]
  exact ⟨c0, di, R₁, Ra ++ (R1 ++ Rb), rfl, hs, RX.mono _ _ _ (hE.sub (fun _ h => List.mem_append.2 (.inl h))) (fun q hq => hβ q (fun e => by rw [e, hm.1] at hq; cases hq)) h1, hk E' hβ (hE.sub (fun _ h => List.mem_append.2 (.inr h))) R1 h3, by rw [List.append_assoc]⟩
section
variable {N : eL} {st : St} {d : Nat}
theorem Sh.La (k o : Nat) {s n : Nat} {xs : List X} {rows : List (List X)} (hx : look st.aD d = some (.agg xs)) (hk : xs[k]? = some (.ba o s 0 n)) (ho : look st.aG o = some (.rows s rows)) (hl : n = rows.length) (hm : X.cG o (xs.set k .no) = false) (hF : N.F.elem o = false) :
  Sh N st (((st.kill o).eb o (.rows 0 [])).put d (.agg (xs.set k (.ei s rows)))) := by
 intro G hn a w hh
 obtain ⟨E, RR, rfl, hi⟩ := hh
 subst hl
 have hv := hi.aD d _ hx
 have dm := hi.aG o _ ho
 have iV := hi.nodup (.obj o)
 have v7 := hi.nodup (.slot d)
 simp only [RX] at hv
 obtain ⟨cs, te, fx⟩ := hv
 simp only [dG] at dm
 obtain ⟨hu, dm⟩ := dm
 have hβ : cZ G E { E with β := fun q => if q = o then none else E.β q } (fun _ => False) :=
  ⟨rfl, fun _ h => h.elim, fun _ h => h.elim, fun _ _ _ => rfl, Nat.le_refl _, rfl, rfl, rfl⟩
 have h4 := hi.lu hβ (o := o) (ob := .rows 0 []) (R := []) (fun _ h => h.elim) (fun q hq => by simp [hq]) (fun h => by rw [hn, hF] at h; cases h)
  (by simp only [dG]; exact ⟨fun _ h => (by cases h), .inl ⟨by simp, trivial, trivial⟩⟩) List.nodup_nil (fun _ h => by cases h)
 have gx : ∀ R', E.On { E with β := fun q => if q = o then none else E.β q } R' := fun R' => ⟨fun _ _ _ h => h, fun _ _ => ⟨rfl, fun h => h⟩⟩
 obtain ⟨c, Ra, Rb, we, Lb, uw⟩ := bz.CB (E' := { E with β := fun q => if q = o then none else E.β q }) (y := .ei s rows) (o := o) (fun q hq => by simp [hq]) rfl fx hk (gx _) hm
 simp only [RX] at Lb
 obtain ⟨_, base, cap, hc, dA⟩ := Lb
 have Ju : ∃ R, RX { E with β := fun q => if q = o then none else E.β q } (.ei s rows) c R ∧ R.Nodup ∧ ∀ b ∈ R, b ∈ RR (.obj o) := by
  simp only [RX]
  rcases dm with ⟨h1, h2, h3⟩ | ⟨B, cs, ty, R', hB, hw, hφ, o3, fu, jB, ir⟩
  ·rcases dA with ⟨_, _, _, h5⟩ | ⟨B, hB, _⟩
   ·exact ⟨[], ⟨hu, base, cap, hc, .inl ⟨h2, h5, rfl⟩⟩, List.nodup_nil, fun _ h => by cases h⟩
   ·rw [h1] at hB; cases hB
  ·rcases dA with ⟨h1, _⟩ | ⟨B', iz, Dj, pI, hb⟩
   ·rw [hB] at h1; cases h1
   ·rw [hB] at iz
    obtain rfl := Option.some.inj iz
    rcases hb with hb | hb
    ·refine ⟨[], ⟨hu, base, cap, hc, .inl ⟨List.eq_nil_of_length_eq_zero om, hb, rfl⟩⟩, List.nodup_nil, fun _ h => by cases h⟩
    ·refine ⟨RR (.obj o), ⟨hu, base, cap, hc, .inr ⟨B.b, B.off, cs, ty, R', by simpa using hb, hw, om, by rw [show cap = B.cap by omega]; exact fu, hφ, cH.mono _ _ _ _ (gx R') jB, ir⟩⟩, iV, fun _ h => h⟩
 obtain ⟨R, pP, vz, DF⟩ := Ju
 have r3 : ∀ b ∈ Ra ++ (R ++ Rb), b ∈ RR (.slot d) ∨ b ∈ RR (.obj o) := by
  intro b hb
  rcases List.mem_append.1 hb with h | h
  ·exact .inl (by rw [we]; exact List.mem_append.2 (.inl h))
  ·rcases List.mem_append.1 h with h | h
   ·exact .inr (DF b h)
   ·exact .inl (by rw [we]; exact List.mem_append.2 (.inr h))
 have HG : ∀ b ∈ RR (.slot d), b ∉ RR (.obj o) := fun b hb => hi.apart (.slot d) (.obj o) (by simp) b hb
 rw [we] at v7 HG
 obtain ⟨m1, m2, m3⟩ := List.nodup_append.1 v7
 refine ⟨{ E with β := fun q => if q = o then none else E.β q }, _, rfl, h4.relabel (d := d) (R := Ra ++ (R ++ Rb)) ?_ ?_ (fun c hc => ?_)⟩
 ·simp only [RX]
  exact ⟨cs, te, uw R pP⟩
 ·rw [List.nodup_append, List.nodup_append]
  refine ⟨m1, ⟨vz, m2, fun x hx y hy e => HG y (List.mem_append.2 (.inr hy)) (by rw [← e]; exact DF x hx)⟩, fun x hx y hy e => ?_⟩
  rcases List.mem_append.1 hy with h | h
  ·exact HG x (List.mem_append.2 (.inl hx)) (by rw [e]; exact DF y h)
  ·exact m3 x hx y h e
 ·have lP : c < E.w.heap.size ∧ ¬ G.K c := by rcases r3 c hc with h | h <;> exact hi.own _ _ h
  refine ⟨lP.1, lP.2, fun p hp mS => ?_⟩
  have key : ∀ q, q ≠ .slot d → q ≠ .obj o → c ∉ RR q := by
   intro q h1 h2 h3
   rcases r3 c hc with h | h
   ·exact hi.apart q (.slot d) h1 c h3 h
   ·exact hi.apart q (.obj o) h2 c h3 h
  cases p with
  | obj q =>
   by_cases hq : q = o
   ·subst hq; simp [eZ] at mS
   ·have : c ∈ RR (.obj q) := by simpa [eZ, hq] using mS
    exact key (.obj q) (by simp) (by simpa using hq) this
  | slot q =>
   rcases gP st RR o [] q with h | h
   ·rw [h] at mS; cases mS
   ·rw [h] at mS; exact key (.slot q) hp (by simp) mS
theorem Sh.Lc (k o : Nat) {s : Nat} {xs : List X} {rows : List (List X)} (hx : look st.aD d = some (.agg xs)) (hk : xs[k]? = some (.ei s rows)) (hm : X.cG o (xs.set k .no) = false) (hF : N.F.elem o = false) :
  Sh N st (((st.kill o).eb o (.rows s rows)).put d (.agg (xs.set k (.ba o s 0 rows.length)))) := by
 intro G hn a w hh
 obtain ⟨E, RR, rfl, hi⟩ := hh
 have hv := hi.aD d _ hx
 have iV := hi.nodup (.slot d)
 simp only [RX] at hv
 obtain ⟨Mv, te, fx⟩ := hv
 have lL := hi.no d
 have IF : ∀ b ∈ RR (.slot d), b < E.w.heap.size ∧ ¬ G.K b ∧ ∀ p, b ∉ fH RR (.slot d) [] p := by
  intro b hb
  refine ⟨(hi.own _ _ hb).1, (hi.own _ _ hb).2, fun p hp => ?_⟩
  unfold fH at hp
  split at hp
  ·cases hp
  ·rename_i h; exact hi.apart _ _ h b hp hb
 have gx : ∀ (bk : Option AF) R', E.On { E with β := fun q => if q = o then bk else E.β q } R' := fun _ R' => ⟨fun _ _ _ h => h, fun _ _ => ⟨rfl, fun h => h⟩⟩
 have hβ : ∀ (bk : Option AF), cZ G E { E with β := fun q => if q = o then bk else E.β q } (fun _ => False) := fun _ =>
  ⟨rfl, fun _ h => h.elim, fun _ h => h.elim, fun _ _ _ => rfl, Nat.le_refl _, rfl, rfl, rfl⟩
 have fin : ∀ (bk : Option AF) (Ra R0 Rb : List Nat), RR (.slot d) = Ra ++ (R0 ++ Rb) → dG { E with β := fun q => if q = o then bk else E.β q } o (.rows s rows) R0 → bz { E with β := fun q => if q = o then bk else E.β q } (xs.set k (.ba o s 0 rows.length)) Mv.toList (Ra ++ ([] ++ Rb)) →
   cy G (((st.kill o).eb o (.rows s rows)).put d (.agg (xs.set k (.ba o s 0 rows.length)))) a E.w := by
  intro bk Ra R0 Rb hR dm mV
  rw [hR] at iV
  obtain ⟨m1, m2, m3⟩ := List.nodup_append.1 iV
  obtain ⟨m4, m5, m6⟩ := List.nodup_append.1 m2
  have h4 := lL.lu (hβ bk) (o := o) (ob := .rows s rows) (R := R0) (fun _ h => h.elim) (fun q hq => by simp [hq]) (fun h => by rw [hn, hF] at h; cases h) dm m4
   (fun c hc => by
    obtain ⟨a1, a2, a3⟩ := IF c (by rw [hR]; simp [hc])
    exact ⟨a1, a2, fun p _ => a3 p⟩)
  have h5 := h4.relabel (d := d) (x := .agg (xs.set k (.ba o s 0 rows.length))) (R := Ra ++ ([] ++ Rb)) (by simp only [RX]; exact ⟨Mv, te, mV⟩)
   (by
    rw [List.nil_append, List.nodup_append]
    exact ⟨m1, m5, fun x hx y hy => m3 x hx y (List.mem_append.2 (.inr hy))⟩)
   (fun c hc => by
    have Gv : c ∈ RR (.slot d) := by
     rw [hR]
     rcases List.mem_append.1 hc with h | h
     ·exact List.mem_append.2 (.inl h)
     ·exact List.mem_append.2 (.inr (List.mem_append.2 (.inr (by simpa using h))))
    have Gd : c ∉ R0 := by
     intro h0
     rcases List.mem_append.1 hc with h | h
     ·exact m3 c h c (List.mem_append.2 (.inl h0)) rfl
     ·exact m6 c h0 c (by simpa using h) rfl
    obtain ⟨a1, a2, a3⟩ := IF c Gv
    refine ⟨a1, a2, fun p hp mS => ?_⟩
    cases p with
    | obj q =>
     by_cases hq : q = o
     ·subst hq; exact Gd (by simpa [eZ] using mS)
     ·exact a3 (.obj q) (by simpa [eZ, hq] using mS)
    | slot q =>
     rcases gP (st.put d .no) (fH RR (.slot d) []) o R0 q with h | h
     ·rw [h] at mS; cases mS
     ·rw [h] at mS; exact a3 _ mS)
  refine ⟨{ E with β := fun q => if q = o then bk else E.β q }, _, rfl, { h5 with aD := fun q y hy => h5.aD q y ?_, aG := fun q y hy => h5.aG q y hy }⟩
  simp only [St.put, St.eb, St.kill, rM, List.map_cons, look] at hy ⊢
  cases hb : Nat.beq d q with
  | true => rw [hb] at hy; simpa using hy
  | false => rw [hb] at hy; simpa using hy
 obtain ⟨c0, Ra, R0, Rb, hR, Gd, uw⟩ := bz.Gc (y := .ba o s 0 rows.length) (o := o) fx hk hm
 simp only [RX] at Gd
 obtain ⟨hu, base, cap, hc, dA⟩ := Gd
 rcases dA with ⟨h1, h2, h3⟩ | ⟨b, off, cs, ty, R', hb, hw, hl, ho, hφ, jB, ir⟩
 ·refine fin none Ra R0 Rb hR ?_ (uw _ (fun q hq => by simp [hq]) (gx none _) [] ?_)
  ·simp only [dG]; exact ⟨hu, .inl ⟨by simp, h1, h3⟩⟩
  ·simp only [RX]; exact ⟨trivial, base, cap, hc, .inl ⟨by simp, trivial, by simp [h1], h2⟩⟩
 ·refine fin (some ⟨b, off, cap⟩) Ra R0 Rb hR ?_ (uw _ (fun q hq => by simp [hq]) (gx _ _) [] ?_)
  ·simp only [dG]; exact ⟨hu, .inr ⟨⟨b, off, cap⟩, cs, ty, R', by simp, hw, hφ, hl, ho, cH.mono _ _ _ _ (gx _ _) jB, ir⟩⟩
  ·simp only [RX]; exact ⟨trivial, base, cap, hc, .inr ⟨⟨b, off, cap⟩, by simp, by simp, hl, .inr (by simpa using hb)⟩⟩
end
end Go.AW
namespace Go.AW
open Go
section
variable {P : Program}
def Ld (P : Program) (mJ : List ResultVar) (F : List Nat) (k : Nat) (Q : X → List Obj → Prop) : Exit → St → Prop
 | .normal, st | .ret, st => ∃ xs, jD P st mJ = some xs ∧ ∃ EJ r bn, Sh ⟨1, F⟩ ⟨[(0, o6 xs)], st.aG⟩ EJ ∧ look EJ.aD 0 = some r ∧ jk EJ.aG 0 k = some bn ∧ Q r bn
 | _, _ => False
theorem au.O0 {f : FuncId} {fn : Func} {c : Code} {args : List X} {aG : List Obj} {F : List Nat} {Q : X → List Obj → Prop} {n : Nat} {mJ : List ResultVar} (hf : P.funcs[f]? = some fn) (hb : fn.body = some c) (hn : fn.ntmps = n) (hr : fn.results.toList = mJ)
  (iV : (gC mJ).Nodup) (hle : args.length ≤ n) (h : dk P ⟨n, F⟩ c ⟨du 0 args, du 0 aG⟩ (Ld P mJ F aG.length Q)) : au P f args aG F Q := by
 intro K E RR cI hi
 refine calls_of_wp hf hb ?_
 have te : cI.size = args.length := hi.tmps
 have iv : Inv (nc K E ⟨n, F⟩) E RR ⟨du 0 args, du 0 aG⟩ ⟨cI ++ Array.replicate (fn.ntmps - cI.size) undef, []⟩ := by
  refine { hi with aD := ?_, tmps := ?_, defers := rfl }
  ·intro s x hx
   have h0 := hi.aD s x hx
   have hs : s < cI.size := by
    rw [te]
    have iw : look (du 0 args) s = some x := hx
    rw [gr] at iw
    rcases Nat.lt_or_ge s args.length with h' | h'
    ·exact h'
    ·simp [List.getElem?_eq_none h'] at iw
   have : (cI ++ Array.replicate (fn.ntmps - cI.size) undef).getD s undef = cI.getD s undef := by
    simp only [Array.getD_eq_getD_getElem?, Array.getElem?_append_left hs]
   show RX E x ((cI ++ Array.replicate (fn.ntmps - cI.size) undef).getD s undef) (RR (.slot s))
   rw [this]; exact h0
  ·show (cI ++ Array.replicate (fn.ntmps - cI.size) undef).size = n
   simp; omega
 refine wp_mono (h (nc K E ⟨n, F⟩) rfl _ _ ⟨E, RR, rfl, iv⟩) ?_
 rintro e a w ⟨st, ⟨E', fg, rfl, h1⟩, hq⟩
 have key : (∃ xs, jD P st mJ = some xs ∧ ∃ EJ r bn, Sh ⟨1, F⟩ ⟨[(0, o6 xs)], st.aG⟩ EJ ∧ look EJ.aD 0 = some r ∧ jk EJ.aG 0 aG.length = some bn ∧ Q r bn) → a.defers = [] ∧ ∃ v, (results fn a.tmps).run P E'.w = .ok v E'.w ∧
   ∃ v' r bn, Ending.returned v = .returned v' ∧ Q r bn ∧ bn.length = aG.length ∧ ∃ kT rR, kT.w = E'.w ∧ Inv (nc K E ⟨1, F⟩) kT rR ⟨[(0, r)], du 0 bn⟩ ⟨#[v'], []⟩ := by
  rintro ⟨xs, xa, EJ, r2, bn, qG, I4, mK, hQ⟩
  obtain ⟨hlen, Bi⟩ := lQ mK
  have lv : ∀ j, j < aG.length → look EJ.aG j = bn[j]? := fun j hj => by have := Bi j hj; rwa [Nat.zero_add] at this
  refine ⟨h1.defers, ?_⟩
  obtain ⟨cs, R, gQ, hx, JA, MX⟩ := u0 h1 xa iV
  have rS : (results fn a.tmps).run P E'.w = .ok (if h : cs.toArray.size = 1 then cs.toArray[0] else .tuple cs.toArray) E'.w := by
   have e : results fn a.tmps = (do let vs ← fn.results.mapM (o7 a.tmps); Pure.pure (if h : vs.size = 1 then vs[0] else .tuple vs) : Sem Value) := rfl
   rw [e, show fn.results = mJ.toArray by rw [← hr]]
   refine jr (u := cs.toArray) ?_ rfl
   rw [List.mapM_toArray]
   simp only [Sem.run_map, gQ]
   rfl
  refine ⟨_, rS, _, r2, bn, rfl, hQ, hlen, ?_⟩
  have MY : RX E' (o6 xs) (if h : cs.toArray.size = 1 then cs.toArray[0] else .tuple cs.toArray) R := by
   cases xs with
   | nil =>
    simp only [ej] at hx
    obtain ⟨rfl, rfl⟩ := hx
    simp only [o6, RX]
    exact ⟨#[], by simp, by simp [ej]⟩
   | cons x xs =>
    cases xs with
    | nil =>
     simp only [ej] at hx
     obtain ⟨c, di, R₁, R₂, rfl, h1, ⟨rfl, rfl⟩, rfl⟩ := hx
     simpa [o6] using h1
    | cons y ys =>
     have iw := hx
     simp only [ej] at hx
     obtain ⟨c, di, R₁, R₂, rfl, _, ⟨c', GM, R₃, R₄, rfl, _⟩, _⟩ := hx
     simp only [o6, RX]
     exact ⟨(c :: c' :: GM).toArray, by simp, by simpa using iw⟩
  let nW : Own → List Nat := fun p => match p with
   | .slot s => if s = 0 then R else []
   | .obj o => fg (.obj o)
  have qR : ∀ p b, b ∈ nW p → ∃ q, b ∈ fg q ∧ ((∃ o, p = .obj o ∧ q = .obj o) ∨ (p = .slot 0 ∧ ∃ t, q = .slot t)) := by
   intro p b hb
   cases p with
   | slot s =>
    by_cases hs : s = 0
    ·subst hs
     simp only [nW, if_true] at hb
     obtain ⟨t, _, ht⟩ := MX b hb
     exact ⟨.slot t, ht, .inr ⟨rfl, t, rfl⟩⟩
    ·simp [nW, hs] at hb
   | obj o => exact ⟨.obj o, hb, .inl ⟨o, rfl, rfl⟩⟩
  have h3 : cy (nc K E ⟨1, F⟩) ⟨[(0, o6 xs)], st.aG⟩ ⟨#[if h : cs.toArray.size = 1 then cs.toArray[0] else .tuple cs.toArray], []⟩ E'.w := by
   refine ⟨E', nW, rfl, { h1 with aD := ?_, aG := ?_, nodup := ?_, apart := ?_, own := ?_, tmps := ?_, defers := rfl }⟩
   ·intro s x iw
    simp only [look] at iw
    cases vx : Nat.beq 0 s with
    | false => simp [vx] at iw
    | true =>
     have := Nat.eq_of_beq_eq_true vx
     subst this
     simp only [vx, cond_true, Option.some.injEq] at iw
     subst iw
     simpa [nW] using MY
   ·intro o ob ho
    exact h1.aG o ob ho
   ·intro p
    cases p with
    | slot s => by_cases hs : s = 0 <;> simp [nW, hs, JA]
    | obj o => exact h1.nodup _
   ·intro p q lr b hb gq
    obtain ⟨p', Fp, MZ⟩ := qR p b hb
    obtain ⟨q', yV, JB⟩ := qR q b gq
    have ew : p' ≠ q' := by
     rcases MZ with ⟨o, rfl, rfl⟩ | ⟨rfl, t, rfl⟩
     ·rcases JB with ⟨o', rfl, rfl⟩ | ⟨rfl, t', rfl⟩
      ·exact lr
      ·simp
     ·rcases JB with ⟨o', rfl, rfl⟩ | ⟨rfl, t', rfl⟩
      ·simp
      ·exact absurd rfl lr
    exact h1.apart p' q' ew b Fp yV
   ·intro p b hb
    obtain ⟨q, yV, _⟩ := qR p b hb
    exact h1.own q b yV
   ·rfl
  obtain ⟨E2, QA, tu, h2⟩ := qG _ rfl _ _ h3
  refine ⟨E2, QA, tu, { h2 with aD := ?_, aG := ?_ }⟩
  ·intro s x iw
   simp only [look] at iw
   cases vx : Nat.beq 0 s with
   | false => simp [vx] at iw
   | true =>
    have := Nat.eq_of_beq_eq_true vx
    subst this
    simp only [vx, cond_true, Option.some.injEq] at iw
    subst iw
    exact h2.aD 0 _ I4
  ·intro o ob ho
   have lp : look (du 0 bn) o = some ob := ho
   rw [gr] at lp
   have iU : o < aG.length := by
    rcases Nat.lt_or_ge o aG.length with h' | h'
    ·exact h'
    ·rw [List.getElem?_eq_none om] at lp; cases lp
   exact h2.aG o ob (by rw [lv o iU]; exact lp)
 cases e with
 | normal => exact key hq
 | ret => exact key hq
 | _ => exact hq.elim
theorem Sh.then {N : eL} {a b c : St} (h1 : Sh N a b) (h2 : Sh N b c) : Sh N a c := fun G hn x w hh => h2 G hn x w (h1 G hn x w hh)
end
end Go.AW
namespace Go.AW
open Go
section
variable {N : eL} {st : St} {d : Nat}
theorem Sh.l9 (k o : Nat) {s n : Nat} {xs zs : List X} {rows : List (List X)} (hx : look st.aD d = some (.tup (.agg xs :: zs))) (hz : X.cG o zs = false) (hk : xs[k]? = some (.ba o s 0 n)) (ho : look st.aG o = some (.rows s rows)) (hl : n = rows.length) (hm : X.cG o (xs.set k .no) = false) (hF : N.F.elem o = false) :
  Sh N st (((st.kill o).eb o (.rows 0 [])).put d (.tup (.agg (xs.set k (.ei s rows)) :: zs))) := by
 intro G hn a w hh
 obtain ⟨E, RR, rfl, hi⟩ := hh
 subst hl
 have hv := hi.aD d _ hx
 have dm := hi.aG o _ ho
 have iV := hi.nodup (.obj o)
 have v7 := hi.nodup (.slot d)
 simp only [RX, ej] at hv
 obtain ⟨ts, GR, c1, Qk, R1, R2, QB, ⟨cs, rfl, fx⟩, Mk, hR12⟩ := hv
 simp only [dG] at dm
 obtain ⟨hu, dm⟩ := dm
 have hβ : cZ G E { E with β := fun q => if q = o then none else E.β q } (fun _ => False) :=
  ⟨rfl, fun _ h => h.elim, fun _ h => h.elim, fun _ _ _ => rfl, Nat.le_refl _, rfl, rfl, rfl⟩
 have h4 := hi.lu hβ (o := o) (ob := .rows 0 []) (R := []) (fun _ h => h.elim) (fun q hq => by simp [hq]) (fun h => by rw [hn, hF] at h; cases h)
  (by simp only [dG]; exact ⟨fun _ h => (by cases h), .inl ⟨by simp, trivial, trivial⟩⟩) List.nodup_nil (fun _ h => by cases h)
 have gx : ∀ R', E.On { E with β := fun q => if q = o then none else E.β q } R' := fun R' => ⟨fun _ _ _ h => h, fun _ _ => ⟨rfl, fun h => h⟩⟩
 obtain ⟨c, Ra, Mw, Lf, Lb, Lg⟩ := bz.CB (E' := { E with β := fun q => if q = o then none else E.β q }) (y := .ei s rows) (o := o) (fun q hq => by simp [hq]) rfl fx hk (gx _) hm
 have we : RR (.slot d) = Ra ++ (Mw ++ R2) := by rw [hR12, Lf, List.append_assoc]
 have uw : ∀ R', RX { E with β := fun q => if q = o then none else E.β q } (.ei s rows) c R' → RX { E with β := fun q => if q = o then none else E.β q } (.tup (.agg (xs.set k (.ei s rows)) :: zs)) (a.tmps.getD d undef) (Ra ++ (R' ++ (Mw ++ R2))) := by
  intro R' h'
  rw [GR]
  simp only [RX, ej]
  exact ⟨ts, rfl, .agg cs, Qk, Ra ++ (R' ++ Mw), R2, QB, ⟨cs, rfl, Lg R' h'⟩, ej.mono _ _ _ (gx _) (fun q hq => by
   have ew : q ≠ o := fun e => by rw [e, hz] at hq; cases hq
   simp [ew]) Mk, by simp only [List.append_assoc]⟩
 generalize Mw ++ R2 = Rb at we uw
 simp only [RX] at Lb
 obtain ⟨_, base, cap, hc, dA⟩ := Lb
 have Ju : ∃ R, RX { E with β := fun q => if q = o then none else E.β q } (.ei s rows) c R ∧ R.Nodup ∧ ∀ b ∈ R, b ∈ RR (.obj o) := by
  simp only [RX]
  rcases dm with ⟨h1, h2, h3⟩ | ⟨B, cs, ty, R', hB, hw, hφ, o3, fu, jB, ir⟩
  ·rcases dA with ⟨_, _, _, h5⟩ | ⟨B, hB, _⟩
   ·exact ⟨[], ⟨hu, base, cap, hc, .inl ⟨h2, h5, rfl⟩⟩, List.nodup_nil, fun _ h => by cases h⟩
   ·rw [h1] at hB; cases hB
  ·rcases dA with ⟨h1, _⟩ | ⟨B', iz, Dj, pI, hb⟩
   ·rw [hB] at h1; cases h1
   ·rw [hB] at iz
    obtain rfl := Option.some.inj iz
    rcases hb with hb | hb
    ·refine ⟨[], ⟨hu, base, cap, hc, .inl ⟨List.eq_nil_of_length_eq_zero om, hb, rfl⟩⟩, List.nodup_nil, fun _ h => by cases h⟩
    ·refine ⟨RR (.obj o), ⟨hu, base, cap, hc, .inr ⟨B.b, B.off, cs, ty, R', by simpa using hb, hw, om, by rw [show cap = B.cap by omega]; exact fu, hφ, cH.mono _ _ _ _ (gx R') jB, ir⟩⟩, iV, fun _ h => h⟩
 obtain ⟨R, pP, vz, DF⟩ := Ju
 have r3 : ∀ b ∈ Ra ++ (R ++ Rb), b ∈ RR (.slot d) ∨ b ∈ RR (.obj o) := by
  intro b hb
  rcases List.mem_append.1 hb with h | h
  ·exact .inl (by rw [we]; exact List.mem_append.2 (.inl h))
  ·rcases List.mem_append.1 h with h | h
   ·exact .inr (DF b h)
   ·exact .inl (by rw [we]; exact List.mem_append.2 (.inr h))
 have HG : ∀ b ∈ RR (.slot d), b ∉ RR (.obj o) := fun b hb => hi.apart (.slot d) (.obj o) (by simp) b hb
 rw [we] at v7 HG
 obtain ⟨m1, m2, m3⟩ := List.nodup_append.1 v7
 refine ⟨{ E with β := fun q => if q = o then none else E.β q }, _, rfl, h4.relabel (d := d) (R := Ra ++ (R ++ Rb)) ?_ ?_ (fun c hc => ?_)⟩
 ·exact uw R pP
 ·rw [List.nodup_append, List.nodup_append]
  refine ⟨m1, ⟨vz, m2, fun x hx y hy e => HG y (List.mem_append.2 (.inr hy)) (by rw [← e]; exact DF x hx)⟩, fun x hx y hy e => ?_⟩
  rcases List.mem_append.1 hy with h | h
  ·exact HG x (List.mem_append.2 (.inl hx)) (by rw [e]; exact DF y h)
  ·exact m3 x hx y h e
 ·have lP : c < E.w.heap.size ∧ ¬ G.K c := by rcases r3 c hc with h | h <;> exact hi.own _ _ h
  refine ⟨lP.1, lP.2, fun p hp mS => ?_⟩
  have key : ∀ q, q ≠ .slot d → q ≠ .obj o → c ∉ RR q := by
   intro q h1 h2 h3
   rcases r3 c hc with h | h
   ·exact hi.apart q (.slot d) h1 c h3 h
   ·exact hi.apart q (.obj o) h2 c h3 h
  cases p with
  | obj q =>
   by_cases hq : q = o
   ·subst hq; simp [eZ] at mS
   ·have : c ∈ RR (.obj q) := by simpa [eZ, hq] using mS
    exact key (.obj q) (by simp) (by simpa using hq) this
  | slot q =>
   rcases gP st RR o [] q with h | h
   ·rw [h] at mS; cases mS
   ·rw [h] at mS; exact key (.slot q) hp (by simp) mS
end
theorem Sh.CC {N : eL} {st : St} {d : Nat} (k o n : Nat) {s : Nat} {xs : List X} {rows : List (List X)} (hx : look st.aD d = some (.agg xs)) (hk : xs[k]? = some (.ei s rows)) (hm : X.cG o (xs.set k .no) = false) (hF : N.F.elem o = false) (hn : n = rows.length) :
  Sh N st (((st.kill o).eb o (.rows s rows)).put d (.agg (xs.set k (.ba o s 0 n)))) := by subst hn; exact Sh.Lc k o hx hk hm hF
theorem dk.ij {P : Program} {N : eL} {st : St} {ops : Array Oper} (L F' : List Nat) (J : St) {Q : Exit → St → Prop} {id : Nat} (hm : P.follows .mixedOrders = true) (h : bX P N L F' ops ops.size (Array.replicate ops.size false) st (fun aT => Le aT J)) (k : Q .normal J) : dk P N (.region id ops true) st Q := by
 intro G hn a w hh
 obtain ⟨E, RR, hw, hi⟩ := hh.drew
 refine wp_mono (wp_region_held (S := SG (l8 G E L (fun o => RR (.obj o)) F')) hm (hw ▸ h G hn E RR a _ (fun _ _ => rfl) hi)) ?_
 rintro e a w ⟨rfl, aT, hk, gL⟩
 exact ⟨J, hk.holds gL, k⟩
theorem dk.er {P : Program} {N : eL} {st : St} {ops : Array Oper} (J : St) {Q : Exit → St → Prop} {id : Nat} (hm : P.follows .mixedOrders = true) (h : bX P N [] N.F ops ops.size (Array.replicate ops.size false) st (fun aT => Le aT J)) (k : Q .normal J) : dk P N (.region id ops true) st Q := dk.ij [] N.F J hm h k
theorem wg (x : Nat) : IntKind.u8.wrap (x : Int) = ((x % 256 : Nat) : Int) := by
 unfold IntKind.wrap
 simp only [IntKind.signed, IntKind.bits]
 simp
end Go.AW
namespace Go.AW
open Go
section
variable {P : Program} {ops : Array Oper} {Q : Exit → Act → World → Prop} {md : Region.Mode} {S : World → Prop}
def wpAnyL (P : Program) (md : Region.Mode) (ops : Array Oper) (Q : Exit → Act → World → Prop) (S : World → Prop) (LT : List Nat) : Nat → Array Bool → Act → World → Prop
 | 0, ag, a, w => Region.ready md ops ag = [] ∧ Q .normal a w
 | n + 1, ag, a, w => (Region.ready md ops ag = [] → Q .normal a w) ∧
   ∀ i ∈ Region.ready md ops ag, wpOp P ops Q i (fun a' w' => (i ∈ LT ∨ S w') ∧ wpAnyL P md ops Q S LT n (ag.setIfInBounds i true) a' w') a w
theorem uh {LT : List Nat} : ∀ (n : Nat) (ag : Array Bool) (a : Act) (w : World), (∀ j, ag.getD j true = false → j ∈ LT) → wpAny P md ops Q n ag a w → wpAnyL P md ops Q S LT n ag a w
 | 0, _, _, _, _, h => h
 | n + 1, ag, _, _, hl, h => ⟨h.1, fun i hi => wpOp_mono (fun a' w' h' => ⟨.inl (hl i (mem_ready.1 hi).1), uh n _ a' w' (fun j hj => by
   refine hl j ?_
   by_cases Mt : i = j
   ·subst Mt; exact (mem_ready.1 hi).1
   ·rw [getD_set_ne true Mt] at hj; exact hj) h'⟩) (h.2 i hi)⟩
theorem wpAnyL_first {LT : List Nat} {i : Nat} {oi : Oper} {v : Value} (hi : ops[i]? = some oi) (Bu : ∀ (j : Nat) (o : Oper) cs b, ops[j]? = some o → o.op ≠ .select cs b)
  (hQ : ∀ c a w, Q (.panic c) (a.put oi.dst v) w → Q (.panic c) a w) (iU : ∀ j ∈ LT, ∀ oj, ops[j]? = some oj → ∃ e ∈ oj.after, Region.binds md e = true ∧ e.on = i) :
  ∀ (n : Nat) (ag : Array Bool) (a : Act) (w : World), (∀ j oj, ops[j]? = some oj → j ≠ i → ag.getD j true = false → (∀ e ∈ oj.after, Region.binds md e = true → e.on ≠ i) → oi.apart ops oj = true) →
   i ∈ Region.ready md ops ag → YieldsIf P ops S oi v a → S w → wpAnyL P md ops Q S LT n (ag.setIfInBounds i true) (a.put oi.dst v) w → wpAnyL P md ops Q S LT (n + 1) ag a w := by
 intro n
 induction n with
 | zero =>
  intro ag a w _ hr hy hS H
  refine ⟨fun h => (by rw [h] at hr; cases hr), fun j hj => ?_⟩
  by_cases wF : j = i
  ·subst wF; exact hy.wpOp hi hS ⟨.inr hS, H⟩
  ·have := ready_mono hj wF
   rw [H.1] at this
   cases this
 | succ n ih =>
  intro ag a w lx hr hy hS H
  refine ⟨fun h => (by rw [h] at hr; cases hr), fun j hj => ?_⟩
  by_cases wF : j = i
  ·subst wF; exact hy.wpOp hi hS ⟨.inr hS, H⟩
  ·have h1 := H.2 j (ready_mono hj wF)
   obtain ⟨Lh, oj, AN, tf⟩ := mem_ready.1 hj
   have DW : ∀ e ∈ oj.after, Region.binds md e = true → e.on ≠ i := by
    intro e he hb heq
    have h3 := tf e he hb
    have h4 := (mem_ready.1 hr).1
    rw [heq] at h3
    rcases Nat.lt_or_ge i ag.size with h' | h'
    ·simp [h'] at h3 h4; rw [h3] at h4; cases h4
    ·simp [Array.getElem?_eq_none h'] at h3
   have qN : j ∉ LT := fun hm => by
    obtain ⟨e, he, hb, ho⟩ := iU j hm oj AN
    exact DW e he hb ho
   have h2 := wpOp_putIf AN (lx j oj AN wF Lh DW) (fun cs b => Bu i oi cs b hi) (fun cs b => Bu j oj cs b AN) hQ hy h1
   refine wpOp_mono (fun a' w' h3 => ⟨h3.2.1, ih (ag.setIfInBounds j true) a' w' ?_ (ready_mono hr (Ne.symm wF)) h3.1 (h3.2.1.resolve_left qN) ?_⟩) h2
   ·intro k ok hk wE JL DR
    refine lx k ok hk wE ?_ DR
    by_cases tH : j = k
    ·subst tH; exact Lh
    ·rw [getD_set_ne true tH] at JL; exact JL
   ·rw [Array.setIfInBounds_comm _ _ wF]; exact h3.2.2
end
end Go.AW
namespace Go.AW
open Go
section
variable {P : Program} {N : eL} {st : St} {ops : Array Oper} {d : Nat} {ty : TypeId} {pos : String} {af : Array Edge} {K : St → Prop}
def wh (ops : Array Oper) (LT : List Nat) (i : Nat) : Bool := LT.all fun j => match ops[j]? with
 | some oj => oj.after.toList.any fun e => Region.binds .any e && e.on == i
 | none => true
theorem kV {Q : Exit → Act → World → Prop} {S : World → Prop} {LT : List Nat} {i : Nat} {oi : Oper} {v : Value} {n : Nat} {ag : Array Bool} {a : Act} {w : World} (hi : ops[i]? = some oi)
  (hs : Region.noSelect ops = true) (hf : Region.free .any ops ag i = true) (hr : (Region.ready .any ops ag).contains i = true) (iU : wh ops LT i = true)
  (hQ : ∀ c a w, Q (.panic c) (a.put oi.dst v) w → Q (.panic c) a w) (hy : YieldsIf P ops S oi v a) (hS : S w)
  (h : wpAnyL P .any ops Q S LT n (ag.setIfInBounds i true) (a.put oi.dst v) w) : wpAnyL P .any ops Q S LT (n + 1) ag a w :=
 wpAnyL_first hi (Region.noSelect_spec hs) hQ (fun j hj oj AN => by
  have h1 := List.all_eq_true.1 iU j hj
  simp only [AN, List.any_eq_true, Bool.and_eq_true, beq_iff_eq, Array.mem_toList_iff] at h1
  exact h1) n ag a w (Region.free_spec hi hf) (by simpa using hr) hy hS h
theorem xL {Q : Exit → Act → World → Prop} {S : World → Prop} {LT rs : List Nat} {n : Nat} {ag : Array Bool} {a : Act} {w : World} (hr : Region.ready .any ops ag = rs) (ew : rs ≠ [])
  (h : ∀ i ∈ rs, wpOp P ops Q i (fun a' w' => S w' ∧ wpAnyL P .any ops Q S LT n (ag.setIfInBounds i true) a' w') a w) : wpAnyL P .any ops Q S LT (n + 1) ag a w :=
 ⟨fun h0 => absurd (hr ▸ h0) ew, fun i hi => wpOp_mono (fun _ _ h' => ⟨.inr h'.1, h'.2⟩) (h i (hr ▸ hi))⟩
def gh (P : Program) (N : eL) (LT : List Nat) (ops : Array Oper) (R : Nat → Array Bool → St → Prop) (n : Nat) (ag : Array Bool) (st : St) : Prop :=
 ∀ G : Ctx, G.fn = N → ∀ Q : Exit → Act → World → Prop, (∀ c a w, Q (.panic c) a w → False) →
  (∀ n' l' aT a' w', R n' l' aT → cy G aT a' w' → wpAnyL P .any ops Q (SG G) LT n' l' a' w') → ∀ a w, cy G st a w → wpAnyL P .any ops Q (SG G) LT n ag a w
def iJ (P : Program) (N : eL) (LT L F' : List Nat) (ops : Array Oper) (n : Nat) (ag : Array Bool) (st : St) (K : St → Prop) : Prop :=
 ∀ G : Ctx, G.fn = N → ∀ E RR a (T : Nat → List Nat), (∀ o ∈ L, RR (.obj o) = T o) → Inv G E RR st a →
  wpAnyL P .any ops (fun e a w => e = .normal ∧ ∃ aT, K aT ∧ cy G aT a w) (SG (l8 G E L T F')) LT n ag a E.w
theorem iJ.blind {LT L F' : List Nat} {n : Nat} {ag : Array Bool} (i : Nat) {op : Op} {x : X} (ho : ops[i]? = some ⟨some d, op, ty, pos, af, none⟩)
  (hB : (Region.noSelect ops && Region.free .any ops ag i && (Region.ready .any ops ag).contains i) = true) (iU : wh ops LT i = true) (hy : aw P N st ⟨some d, op, ty, pos, af, none⟩ x) (hd : d < N.n)
  (k : iJ P N LT L F' ops n (ag.setIfInBounds i true) (st.put d x) K) : iJ P N LT L F' ops (n + 1) ag st K := by
 intro G hn E RR a T hT hi
 obtain ⟨u, hr, hx⟩ := hy G E RR a hn hi
 simp only [Bool.and_eq_true] at hB
 refine kV (v := u) ho hB.1.1 hB.1.2 hB.2 iU ?_ (.inl ⟨by simp [Region.wanted], fun w _ => hr w⟩) (hi.EH L T F') (k G hn E _ _ T ?_ (hi.g5 (hn ▸ hd) hx))
 ·intro c a w h
  cases h.1
 ·intro o ho
  have := hT o ho
  simpa [fH] using this
theorem iJ.load {LT L F' : List Nat} {n : Nat} {ag : Array Bool} (i : Nat) {t : TypeId} {x : Operand} {p y : X} {row : List X} (ho : ops[i]? = some ⟨some d, .load t x, ty, pos, af, none⟩)
  (hB : (Region.noSelect ops && Region.free .any ops ag i && (Region.ready .any ops ag).contains i) = true) (iU : wh ops LT i = true) (ht : TY.shape P t = some none) (hx : bS st x = some p) (hL : ue L p = true) (hr : rowAt st p = some row)
  (hy : row[kO p]? = some y) (hf : y.free = true) (hd : d < N.n)
  (k : iJ P N LT L F' ops n (ag.setIfInBounds i true) (st.put d y) K) : iJ P N LT L F' ops (n + 1) ag st K := by
 intro G hn E RR a T hT hi
 obtain ⟨R, hp⟩ := hi.eval hx
 obtain ⟨b, off, hc, g6⟩ := hi.behind hp hr
 obtain ⟨b', ry, oz, m9⟩ := hi.held (F' := F') hT hp hr hL
 obtain ⟨rfl, rfl⟩ := p8 (hc.symm.trans oz)
 have hk : kO p < row.length := by
  rcases Nat.lt_or_ge (kO p) row.length with h' | h'
  ·exact h'
  ·simp [List.getElem?_eq_none h'] at hy
 obtain ⟨vs, R', hl, hv, fx⟩ := g6 (kO p) 1 om
 rw [getElem?_drop_take_one hy] at fx
 simp only [bz] at fx
 obtain ⟨c, di, R₁, R₂, DB, _, h1, ⟨rfl, rfl⟩, rfl⟩ := fx
 subst DB
 have h0 := RX.free hf h1
 subst h0
 simp only [Bool.and_eq_true] at hB
 refine kV (v := c) ho hB.1.1 hB.1.2 hB.2 iU ?_ (.inl ⟨by simp [Region.wanted], fun w hw => ?_⟩) (hi.EH L T F') (k G hn E _ _ T ?_ (hi.g5 (hn ▸ hd) h1))
 ·intro c a w h
  cases h.1
 ·show (do let z ← Instr.loadAt t (a.eval x); pure (Next.value z) : Sem Next).run P w = _
  rw [hc]
  refine dJ ?_
  have fW := hv 0 c rfl
  simp only [Instr.loadAt, Instr.sureAddr, loadVar, Sem.run_bind, Sem.run_pure, Result.andThen_ok, (TY.gO ht w).1]
  simp only [Nat.add_zero] at fW
  rw [← m9 w hw _ hk] at fW
  simp [fW]
 ·intro o ho
  have := hT o ho
  simpa [fH] using this
theorem iJ.e8 {LT L F' : List Nat} {n : Nat} {ag : Array Bool} (i : Nat) {t : TypeId} {x : Operand} {p : X} {row : List X} {m : Nat} {ys : List X} (ho : ops[i]? = some ⟨some d, .load t x, ty, pos, af, none⟩)
  (hB : (Region.noSelect ops && Region.free .any ops ag i && (Region.ready .any ops ag).contains i) = true) (iU : wh ops LT i = true) (ht : TY.shape P t = some (some m)) (hx : bS st x = some p) (hL : ue L p = true) (hr : rowAt st p = some row)
  (hm : kO p + m ≤ row.length) (vq : (row.drop (kO p)).take m = ys) (hf : X.b9 ys = true) (hd : d < N.n)
  (k : iJ P N LT L F' ops n (ag.setIfInBounds i true) (st.put d (.agg ys)) K) : iJ P N LT L F' ops (n + 1) ag st K := by
 intro G hn E RR a T hT hi
 obtain ⟨R, hp⟩ := hi.eval hx
 obtain ⟨b, off, hc, g6⟩ := hi.behind hp hr
 obtain ⟨b', ry, oz, m9⟩ := hi.held (F' := F') hT hp hr hL
 obtain ⟨rfl, rfl⟩ := p8 (hc.symm.trans oz)
 obtain ⟨vs, R', hl, hv, fx⟩ := g6 (kO p) m hm
 rw [vq] at fx
 have h0 := bz.free hf fx
 subst h0
 simp only [Bool.and_eq_true] at hB
 refine kV (v := .agg vs.toArray) ho hB.1.1 hB.1.2 hB.2 iU ?_ (.inl ⟨by simp [Region.wanted], fun w hw => ?_⟩) (hi.EH L T F') (k G hn E _ _ T ?_ (hi.g5 (hn ▸ hd) (by simp only [RX]; exact ⟨_, rfl, fx⟩)))
 ·intro c a w h
  cases h.1
 ·show (do let z ← Instr.loadAt t (a.eval x); pure (Next.value z) : Sem Next).run P w = _
  rw [hc]
  refine dJ ?_
  obtain ⟨h1, h2⟩ := TY.lN ht w
  have h3 : (loadCells ⟨b, off + kO p, none⟩ m).run P w = .ok vs.toArray w := by
   rw [← hl]
   refine run_loadCells_list (w := w) _ vs fun j v hj => ?_
   have qN : j < vs.length := (List.getElem?_eq_some_iff.1 hj).1
   rw [iy, Nat.add_assoc, m9 w hw _ om]; exact hv j v hj
  simp only [Instr.loadAt, Instr.sureAddr, loadVar, Sem.run_bind, Sem.run_pure, Result.andThen_ok, h1, if_true, h2, h3]
 ·intro o ho
  have := hT o ho
  simpa [fH] using this
def Ge (P : Program) (N : eL) (LT L : List Nat) (ops : Array Oper) (st : St) (K : St → Prop) (n' : Nat) (l' : Array Bool) (aT : St) : Prop :=
 ((List.range l'.size).all fun j => l'.getD j true || LT.elem j) = true ∧ eN P N ops n' l' ⟨aT.aD, st.back L aT.aG⟩ K
theorem iJ.AP {LT L F' : List Nat} {n : Nat} {ag : Array Bool} (hF : N.F.all (fun o => F'.elem o) = true) (HF : L.all (fun o => F'.elem o) = true)
  (dm : cq st L F') (k : gh P ⟨N.n, F'⟩ LT ops (Ge P N LT L ops st K) n ag ⟨st.aD, st.aG.filter fun p => !L.elem p.1⟩) : iJ P N LT L F' ops n ag st K := by
 intro G hn E RR a T hT hi
 refine k (l8 G E L T F') (by simp [l8, hn]) _ (fun c a w h => by cases h.1) ?_ a E.w (l8.down hi hT ⟨fun _ _ h => h, fun _ _ h => (ig h).1⟩ ?_)
 ·rintro n' l' aT a' w' ⟨hl, hk⟩ hh
  refine uh n' l' a' w' (fun j hj => ?_) (hk G hn a' w' (l8.up hi hT (fun o ho => List.all_eq_true.1 hF o (List.elem_iff.1 (hn ▸ ho))) (fun o ho => List.all_eq_true.1 HF o ho) dm hh))
  rcases Nat.lt_or_ge j l'.size with h' | h'
  ·have h1 := List.all_eq_true.1 hl j (List.mem_range.2 h')
   rw [hj, Bool.false_or] at h1
   exact List.elem_iff.1 h1
  ·simp [Array.getD, Nat.not_lt.2 h'] at hj
 ·intro o ho
  have key : ∀ x, look (st.aG.filter fun p => !L.elem p.1) o ≠ some x := fun x h => absurd ho (ig h).2
  show look (st.aG.filter fun p => !L.elem p.1) o = none
  generalize look (st.aG.filter fun p => !L.elem p.1) o = z at key
  cases z with
  | none => rfl
  | some x => exact absurd rfl (key x)
section
variable {LT : List Nat} {R : Nat → Array Bool → St → Prop}
theorem gh.back {n : Nat} {ag : Array Bool} (h : R n ag st) : gh P N LT ops R n ag st := fun _ _ _ _ hR _ _ hh => hR _ _ _ _ _ h hh
theorem gh.late {N0 : eL} {L : List Nat} {QC : St} {n : Nat} {ag : Array Bool} (h : ((List.range ag.size).all fun j => ag.getD j true || LT.elem j) = true)
  (k : eN P N0 ops n ag ⟨st.aD, QC.back L st.aG⟩ K) : gh P N LT ops (Ge P N0 LT L ops QC K) n ag st := gh.back ⟨h, k⟩
theorem gh.step {n : Nat} {ag : Array Bool} (j : Nat) {o : Oper} (ho : ops[j]? = some o)
  (k : aO P N ops [o] st (fun e aT => e = .normal ∧ gh P N LT ops R n (ag.setIfInBounds j true) aT)) (G : Ctx) (hn : G.fn = N) (Q : Exit → Act → World → Prop) (hQ : ∀ c a w, Q (.panic c) a w → False)
  (hR : ∀ n' l' aT a' w', R n' l' aT → cy G aT a' w' → wpAnyL P .any ops Q (SG G) LT n' l' a' w') (a : Act) (w : World) (hh : cy G st a w) :
  wpOp P ops Q j (fun a' w' => SG G w' ∧ wpAnyL P .any ops Q (SG G) LT n (ag.setIfInBounds j true) a' w') a w := by
 have hk := k G hn a w hh
 have key : wpOp P ops (fun e a w => mI G (fun e aT => e = .normal ∧ gh P N LT ops R n (ag.setIfInBounds j true) aT) e a w) j
   (fun a w => mI G (fun e aT => e = .normal ∧ gh P N LT ops R n (ag.setIfInBounds j true) aT) .normal a w) a w := by
  unfold wpOp; simp only [ho]; exact hk
 refine oL ?_ ?_ key
 ·rintro e a w he ⟨aT, _, h, _⟩
  exact he h
 ·rintro a w ⟨aT, gL, _, AM⟩
  exact ⟨gL.sg, AM G hn Q hQ hR a w gL⟩
theorem gh.one {n : Nat} {ag : Array Bool} (i : Nat) {o : Oper} (ho : ops[i]? = some o) (hr : (Region.ready .any ops ag == [i]) = true)
  (k : aO P N ops [o] st (fun e aT => e = .normal ∧ gh P N LT ops R n (ag.setIfInBounds i true) aT)) : gh P N LT ops R (n + 1) ag st := by
 intro G hn Q hQ hR a w hh
 refine xL (rs := [i]) (by simpa using hr) (by simp) ?_
 intro j hj
 have : j = i := by simpa using hj
 subst this
 exact gh.step j ho k G hn Q hQ hR a w hh
theorem gh.blind {n : Nat} {ag : Array Bool} (i : Nat) {op : Op} {x : X} (ho : ops[i]? = some ⟨some d, op, ty, pos, af, none⟩)
  (hB : (Region.noSelect ops && Region.free .any ops ag i && (Region.ready .any ops ag).contains i) = true) (iU : wh ops LT i = true) (hy : aw P N st ⟨some d, op, ty, pos, af, none⟩ x) (hd : d < N.n)
  (k : gh P N LT ops R n (ag.setIfInBounds i true) (st.put d x)) : gh P N LT ops R (n + 1) ag st := by
 intro G hn Q hQ hR a w hh
 have hS := hh.sg
 obtain ⟨E, RR, rfl, hi⟩ := hh
 obtain ⟨u, hr, hx⟩ := hy G E RR a hn hi
 simp only [Bool.and_eq_true] at hB
 refine kV (v := u) ho hB.1.1 hB.1.2 hB.2 iU ?_ (.inl ⟨by simp [Region.wanted], fun w _ => hr w⟩) hS (k G hn Q hQ hR _ _ ⟨E, _, rfl, hi.g5 (hn ▸ hd) hx⟩)
 intro c a w h
 exact (hQ _ _ _ h).elim
end
end
end Go.AW
namespace Go.AW
open Go
section
variable {P : Program} {N : eL} {st : St} {ops : Array Oper} {d : Nat} {ty : TypeId} {pos : String} {af : Array Edge} {K : St → Prop} {L F' : List Nat} {n : Nat} {ag : Array Bool}
theorem Inv.le {G : Ctx} {E : Env} {RR : Own → List Nat} {a : Act} {aT : St} (hi : Inv G E RR st a) (h : Le st aT) : Inv G E RR aT a :=
 {hi with aD := fun s x hx => hi.aD s x (h.1 s x hx), aG := fun o x hx => hi.aG o x (h.2 o x hx) }
theorem bX.le {aT : St} (hl : Le st aT) (h : bX P N L F' ops n ag aT K) : bX P N L F' ops n ag st K := fun G hn E RR a T hT hi => h G hn E RR a T hT (hi.le hl)
theorem bX.split {b : Bool} (hx : look st.aD d = some (.v (.bool b))) (ht : b = true → bX P N L F' ops n ag (st.put d (.v (.bool true))) K) (hf : b = false → bX P N L F' ops n ag (st.put d (.v (.bool false))) K) : bX P N L F' ops n ag st K := by
 have : Le st (st.put d (.v (.bool b))) := ⟨eM.cons hx (fun _ _ h => h), fun _ _ h => h⟩
 cases b
 ·exact (hf rfl).le this
 ·exact (ht rfl).le this
theorem bX.ax {p : Prop} {inst : Decidable p} (hx : look st.aD d = some (.v (.bool (decide p)))) (ht : p → bX P N L F' ops n ag (st.put d (.v (.bool true))) K) (hf : ¬ p → bX P N L F' ops n ag (st.put d (.v (.bool false))) K) : bX P N L F' ops n ag st K :=
 bX.split hx (fun h => ht (of_decide_eq_true h)) (fun h => hf (of_decide_eq_false h))
theorem Inv.wanted {G : Ctx} {E : Env} {RR : Own → List Nat} {a : Act} {j dj : Nat} {want : Bool} {dst : Option Nat} {op : Op} (hi : Inv G E RR st a) (hj : (ops[j]?).bind (·.dst) = some dj) (rZ : dj < G.fn.n) (hx : look st.aD dj = some (.v (.bool want))) :
  Region.wanted ⟨dst, op, ty, pos, af, some (j, want)⟩ (yielded ops a.tmps) = true := by
 have hs := hi.aD dj _ hx
 simp only [RX] at hs
 have fu : dj < a.tmps.size := by rw [hi.tmps]; exact rZ
 have hv : a.tmps[dj]? = some (.bool want) := by
  have := hs.1
  simp only [Array.getD, fu, dif_pos] at this
  rw [Array.getElem?_eq_getElem fu]
  exact congrArg some this
 simp [Region.wanted, yielded, hj, hv]
theorem bX.aZ (i : Nat) {op : Op} {j dj : Nat} {want : Bool} {u : Value} (ho : ops[i]? = some ⟨some d, op, ty, pos, af, some (j, want)⟩)
  (hB : (Region.noSelect ops && Region.free .any ops ag i && (Region.ready .any ops ag).contains i) = true)
  (hj : (ops[j]?).bind (·.dst) = some dj) (rZ : dj < N.n) (hd : d < N.n) (hx : look st.aD dj = some (.v u)) (ew : rT want u = true)
  (k : bX P N L F' ops n (ag.setIfInBounds i true) (st.put d (.v undef)) K) : bX P N L F' ops (n + 1) ag st K := by
 intro G hn E RR a T hT hi
 simp only [Bool.and_eq_true] at hB
 have hw := ly (all := ops) (dst := some d) (op := op) (ty := ty) (pos := pos) (af := af) hi hj (hn ▸ rZ) hx ew
 refine wpAnyH_take (v := undef) ho hB.1.1 hB.1.2 hB.2 ?_ (.inr ⟨hw, rfl⟩) (hi.EH L T F') (k G hn E _ _ T ?_ (hi.g5 (hn ▸ hd) (by simp [RX])))
 ·intro c a w h
  cases h.1
 ·intro o ho
  have := hT o ho
  simpa [fH] using this
theorem bX.dQ (i : Nat) {op : Op} {x : X} {j dj : Nat} {want : Bool} (ho : ops[i]? = some ⟨some d, op, ty, pos, af, some (j, want)⟩)
  (hB : (Region.noSelect ops && Region.free .any ops ag i && (Region.ready .any ops ag).contains i) = true)
  (hj : (ops[j]?).bind (·.dst) = some dj) (rZ : dj < N.n) (hx : look st.aD dj = some (.v (.bool want))) (hy : aw P N st ⟨some d, op, ty, pos, af, some (j, want)⟩ x) (hd : d < N.n)
  (k : bX P N L F' ops n (ag.setIfInBounds i true) (st.put d x) K) : bX P N L F' ops (n + 1) ag st K := by
 intro G hn E RR a T hT hi
 obtain ⟨u, hr, iw⟩ := hy G E RR a hn hi
 simp only [Bool.and_eq_true] at hB
 refine wpAnyH_take (v := u) ho hB.1.1 hB.1.2 hB.2 ?_ (.inl ⟨hi.wanted hj (hn ▸ rZ) hx, fun w _ => hr w⟩) (hi.EH L T F') (k G hn E _ _ T ?_ (hi.g5 (hn ▸ hd) iw))
 ·intro c a w h
  cases h.1
 ·intro o ho
  have := hT o ho
  simpa [fH] using this
theorem bX.uS (i : Nat) {t : TypeId} {x : Operand} {p y : X} {row : List X} {j dj : Nat} {want : Bool} (ho : ops[i]? = some ⟨some d, .load t x, ty, pos, af, some (j, want)⟩)
  (hB : (Region.noSelect ops && Region.free .any ops ag i && (Region.ready .any ops ag).contains i) = true)
  (hj : (ops[j]?).bind (·.dst) = some dj) (rZ : dj < N.n) (hg : look st.aD dj = some (.v (.bool want))) (ht : TY.shape P t = some none) (hx : bS st x = some p) (hL : ue L p = true) (hr : rowAt st p = some row)
  (hy : row[kO p]? = some y) (hf : y.free = true) (hd : d < N.n)
  (k : bX P N L F' ops n (ag.setIfInBounds i true) (st.put d y) K) : bX P N L F' ops (n + 1) ag st K := by
 intro G hn E RR a T hT hi
 have Li := hi.wanted (ops := ops) (dst := some d) (op := .load t x) (ty := ty) (pos := pos) (af := af) hj (hn ▸ rZ) hg
 obtain ⟨R, hp⟩ := hi.eval hx
 obtain ⟨b, off, hc, g6⟩ := hi.behind hp hr
 obtain ⟨b', ry, oz, m9⟩ := hi.held (F' := F') hT hp hr hL
 obtain ⟨rfl, rfl⟩ := p8 (hc.symm.trans oz)
 have hk : kO p < row.length := by
  rcases Nat.lt_or_ge (kO p) row.length with h' | h'
  ·exact h'
  ·simp [List.getElem?_eq_none h'] at hy
 obtain ⟨vs, R', hl, hv, fx⟩ := g6 (kO p) 1 om
 rw [getElem?_drop_take_one hy] at fx
 simp only [bz] at fx
 obtain ⟨c, di, R₁, R₂, DB, _, h1, ⟨rfl, rfl⟩, rfl⟩ := fx
 subst DB
 have h0 := RX.free hf h1
 subst h0
 simp only [Bool.and_eq_true] at hB
 refine wpAnyH_take (v := c) ho hB.1.1 hB.1.2 hB.2 ?_ (.inl ⟨Li, fun w hw => ?_⟩) (hi.EH L T F') (k G hn E _ _ T ?_ (hi.g5 (hn ▸ hd) h1))
 ·intro c a w h
  cases h.1
 ·show (do let z ← Instr.loadAt t (a.eval x); pure (Next.value z) : Sem Next).run P w = _
  rw [hc]
  refine dJ ?_
  have fW := hv 0 c rfl
  simp only [Instr.loadAt, Instr.sureAddr, loadVar, Sem.run_bind, Sem.run_pure, Result.andThen_ok, (TY.gO ht w).1]
  simp only [Nat.add_zero] at fW
  rw [← m9 w hw _ hk] at fW
  simp [fW]
 ·intro o ho
  have := hT o ho
  simpa [fH] using this
theorem aw.pick {c x y : Operand} {b : Bool} {z : X} {dst : Option Nat} {g : Option (Nat × Bool)} (hc : bS st c = some (.v (.bool b))) (hz : bS st (if b then x else y) = some z) (hf : z.free = true) : aw P N st ⟨dst, .pick c x y, ty, pos, af, g⟩ z := by
 intro G E RR a _ hi
 obtain ⟨R, h⟩ := hi.eval hz
 have := RX.free hf h
 subst this
 refine ⟨a.eval (if b then x else y), fun w => ?_, h⟩
 have oz := hi.val hc
 simp only [execOp, oz]
 cases b <;> rfl
theorem cR.le {aT : St} (hl : Le st aT) (h : cR P N ops n ag aT K) : cR P N ops n ag st K := fun G hn a w hh => h G hn a w (hl.holds hh)
theorem cR.split {b : Bool} (hx : look st.aD d = some (.v (.bool b))) (ht : b = true → cR P N ops n ag (st.put d (.v (.bool true))) K) (hf : b = false → cR P N ops n ag (st.put d (.v (.bool false))) K) : cR P N ops n ag st K := by
 have : Le st (st.put d (.v (.bool b))) := ⟨eM.cons hx (fun _ _ h => h), fun _ _ h => h⟩
 cases b
 ·exact (hf rfl).le this
 ·exact (ht rfl).le this
theorem cR.ax {p : Prop} {inst : Decidable p} (hx : look st.aD d = some (.v (.bool (decide p)))) (ht : p → cR P N ops n ag (st.put d (.v (.bool true))) K) (hf : ¬ p → cR P N ops n ag (st.put d (.v (.bool false))) K) : cR P N ops n ag st K :=
 cR.split hx (fun h => ht (of_decide_eq_true h)) (fun h => hf (of_decide_eq_false h))
theorem cR.aZ (i : Nat) {op : Op} {j dj : Nat} {want : Bool} {u : Value} (ho : ops[i]? = some ⟨some d, op, ty, pos, af, some (j, want)⟩)
  (hB : (Region.noSelect ops && Region.free .any ops ag i && (Region.ready .any ops ag).contains i) = true)
  (hj : (ops[j]?).bind (·.dst) = some dj) (rZ : dj < N.n) (hd : d < N.n) (hx : look st.aD dj = some (.v u)) (ew : rT want u = true)
  (k : cR P N ops n (ag.setIfInBounds i true) (st.put d (.v undef)) K) : cR P N ops (n + 1) ag st K := by
 intro G hn a w hh
 have hS := hh.sg
 obtain ⟨E, RR, rfl, hi⟩ := hh
 simp only [Bool.and_eq_true] at hB
 have hw := ly (all := ops) (dst := some d) (op := op) (ty := ty) (pos := pos) (af := af) hi hj (hn ▸ rZ) hx ew
 refine wpAnyH_take (v := undef) ho hB.1.1 hB.1.2 hB.2 ?_ (.inr ⟨hw, rfl⟩) hS (k G hn _ _ ⟨E, _, rfl, hi.g5 (hn ▸ hd) (by simp [RX])⟩)
 intro c a w h
 cases h.1
theorem cR.dQ (i : Nat) {op : Op} {x : X} {j dj : Nat} {want : Bool} (ho : ops[i]? = some ⟨some d, op, ty, pos, af, some (j, want)⟩)
  (hB : (Region.noSelect ops && Region.free .any ops ag i && (Region.ready .any ops ag).contains i) = true)
  (hj : (ops[j]?).bind (·.dst) = some dj) (rZ : dj < N.n) (hx : look st.aD dj = some (.v (.bool want))) (hy : aw P N st ⟨some d, op, ty, pos, af, some (j, want)⟩ x) (hd : d < N.n)
  (k : cR P N ops n (ag.setIfInBounds i true) (st.put d x) K) : cR P N ops (n + 1) ag st K := by
 intro G hn a w hh
 have hS := hh.sg
 obtain ⟨E, RR, rfl, hi⟩ := hh
 obtain ⟨u, hr, iw⟩ := hy G E RR a hn hi
 simp only [Bool.and_eq_true] at hB
 refine wpAnyH_take (v := u) ho hB.1.1 hB.1.2 hB.2 ?_ (.inl ⟨hi.wanted hj (hn ▸ rZ) hx, fun w _ => hr w⟩) hS (k G hn _ _ ⟨E, _, rfl, hi.g5 (hn ▸ hd) iw⟩)
 intro c a w h
 cases h.1
end
end Go.AW
namespace Go.AW
open Go
def FR (ro : Option Nat) : Fence := { Fence.wide with round := ro }
def jO (o : Oper) : Bool := match o.op with | .defer _ => false | _ => true
theorem xN {o : Oper} (h : jO o = true) : ∀ c, o.op ≠ .defer c := fun c e => by simp [jO, e] at h
section
variable {P : Program} {Q : Exit → Act → World → Prop} {a : Act} {w : World} {ro : Option Nat} {o : Oper} {next : Act → World → Prop}
theorem sD {f : FuncId} {args : Array Value} {R : Ending → World → Prop} {n : Nat} (h : Calls P f args w R) : CallsIn (FR ro) n P f args w R := (callsIn_wide (n := n)).2 h
theorem EP {row : String} {args : Array Value} {R : Value → World → Prop} {n : Nat} (h : Rows P row args w R) : RowsIn (FR ro) n P row args w R :=
 fun c cs _ => let ⟨v, w', r, s⟩ := h c cs; ⟨v, w', r, stepsIn_wide.2 s⟩
theorem ER {r : Result Next} (h : o.upon P a next Q r) : o.uponIn (FR ro) 0 P a next Q r := by
 cases r with
 | ok x w' =>
  cases x
  case value v => exact h
  case skip => exact h
  case defer d => exact h
  case enter f args => exact ⟨fun h => by simp [FR, Fence.wide] at h, sD h⟩
  case row row args => exact ⟨fun h => by simp [FR, Fence.wide] at h, EP h⟩
  all_goals exact (show False from h).elim
 | halt x w' =>
  cases x
  case panic v => exact h
  all_goals exact (show False from h).elim
theorem CI (hd : jO o = true) (h : o.wp P a w next Q) : o.wpIn (FR ro) 0 P a w next Q := by
 refine ⟨fun _ _ => trivial, ?_⟩
 rw [Oper.semAt_eq _ _ _ (xN hd)]
 exact ER h
theorem qI {ops : Array Oper} (hQ : ¬ LetsOut Q) : ∀ {l : List Oper} {a : Act} {w : World}, l.all jO = true → wpList P ops Q l a w → wpListIn (FR ro) 0 P ops Q l a w
 | [], _, _, _, h => h
 | o :: rest, a, w, hd, h => by
  simp only [List.all_cons, Bool.and_eq_true] at hd
  unfold wpList at h
  unfold wpListIn
  split at h
  ·rename_i hw
   rw [if_pos hw]
   rcases h with h | h
   ·exact Oper.wpIn_mono (fun _ _ h => qI hQ hd.2 h) (CI hd.1 h)
   ·exact absurd h.2 hQ
  ·rename_i hw
   rw [if_neg hw]
   exact ⟨fun _ _ => trivial, qI hQ hd.2 h⟩
theorem p9 {ops : Array Oper} (hQ : ¬ LetsOut Q) (hd : ops.toList.all jO = true) : ∀ {l : List Nat} {a : Act} {w : World}, wpOps P ops Q l a w → wpOpsIn (FR ro) 0 P ops Q l a w
 | [], _, _, h => h
 | i :: rest, a, w, h => by
  unfold wpOps at h
  unfold wpOpsIn
  cases ho : ops[i]? with
  | none => rw [ho] at h; exact p9 hQ hd h
  | some o =>
   rw [ho] at h
   simp only at h ⊢
   have HM : jO o = true := List.all_eq_true.1 hd o (Array.mem_toList_iff.2 (Array.mem_of_getElem? ho))
   split at h
   ·rename_i hw
    rw [if_pos hw]
    rcases h with h | h
    ·exact Oper.wpIn_mono (fun _ _ h => p9 hQ hd h) (CI HM h)
    ·exact absurd h.2 hQ
   ·rename_i hw
    rw [if_neg hw]
    exact ⟨fun _ _ => trivial, p9 hQ hd h⟩
theorem Aj {id : Nat} {l : List Oper} (hQ : ¬ LetsOut Q) (hd : l.all jO = true) (h : wpList P l.toArray Q l a w) : (Code.region id l.toArray false).wpIn (FR ro) 0 P Q a w :=
 wpIn_region_lit (qI hQ hd h)
theorem kI {id : Nat} {ops : Array Oper} (hm : P.follows .mixedOrders = true) (hQ : ¬ LetsOut Q) (hd : ops.toList.all jO = true) (h : wpAny P .any ops Q ops.size (Array.replicate ops.size false) a { w with drawn := w.drawn + 1 }) :
  (Code.region id ops true).wpIn (FR ro) 0 P Q a w :=
 wpIn_region_draw fun t => by
  simp only [Region.schedule, hm, Bool.true_or, if_true]
  exact p9 hQ hd (wpAny_sound ops.size t _ a _ h)
theorem uT {c : Code} : c.wpIn (FR none) 0 P Q a w ↔ c.wp P Q a w := wpIn_wide
end
def Ak (K : St → Prop) : Exit → St → Prop
 | .normal, st => K st
 | _, _ => False
def Ctx.to (G : Ctx) (w : World) : Ctx := { G with w0 := w }
theorem cy.xO {G : Ctx} {st : St} {a : Act} {w w' : World} {S : Nat → Prop} (h : cy G st a w) (hS : ∀ b, S b → G.K b ∧ ∀ i, G.φ0 b i = none) (fu : w.heap.size ≤ w'.heap.size)
  (hw : ∀ b, b < w.heap.size → ¬ S b → w'.heap[b]? = w.heap[b]?) : cy (G.to w') st a w' := by
 obtain ⟨E, RR, rfl, hi⟩ := h
 have IJ : ∀ b i, S b → E.φ b i = none := fun b i hb => by
  cases he : E.φ b i with
  | none => rfl
  | some v =>
   rcases hi.grow b i v he with h1 | h1
   ·rw [(hS b hb).2 i] at h1; cases h1
   ·exact absurd (hS b hb).1 h1
 have fW : ∀ b i v, E.φ b i = some v → w'.cell? ⟨b, i, none⟩ = some v := fun b i v hv => by
  have h1 := hi.kR b i v hv
  have hb : b < E.w.heap.size := by
   rcases Nat.lt_or_ge b E.w.heap.size with h2 | h2
   ·exact h2
   ·unfold World.cell? at h1
    rw [Array.getElem?_eq_none h2] at h1; cases h1
  unfold World.cell? at h1 ⊢
  rw [hw b hb (fun h2 => by rw [IJ b i h2] at hv; cases hv)]; exact h1
 have lP : ∀ p b, b ∈ RR p → w'.heap[b]? = E.w.heap[b]? := fun p b hb => hw b (hi.own p b hb).1 (fun h2 => (hi.own p b hb).2 (hS b h2).1)
 have gx : ∀ p, E.On { E with w := w' } (RR p) := fun p => ⟨fun _ _ _ h => h, fun c hc => ⟨lP p c hc, fun h i => h i⟩⟩
 refine ⟨{ E with w := w' }, RR, rfl, ?_⟩
 constructor
 case kR => exact fW
 case aD => exact fun s x hx => RX.mono x _ _ (gx _) (fun _ _ => rfl) (hi.aD s x hx)
 case aG => exact fun o ob dm => dG.mono (gx _) rfl (fun _ _ _ _ => rfl) (hi.aG o ob dm)
 case nodup => exact hi.nodup
 case apart => exact hi.apart
 case own => exact fun p b hb => ⟨Nat.lt_of_lt_of_le (hi.own p b hb).1 fu, (hi.own p b hb).2⟩
 case ah => exact fun _ _ => rfl
 case size => exact Nat.le_refl _
 case small => exact fun b hb => Nat.lt_of_lt_of_le (Nat.lt_of_lt_of_le (hi.small b hb) hi.size) fu
 case os => rfl
 case tape => rfl
 case output => rfl
 case φ0 => exact hi.φ0
 case grow => exact hi.grow
 case fixed => exact hi.fixed
 case tmps => exact hi.tmps
 case defers => exact hi.defers
end Go.AW
namespace Go.AW
open Go
abbrev Al := List (Int × Int)
abbrev oM := Al × St
structure Kp (S : Nat → Prop) (W W' : World) : Prop where
 size : W.heap.size ≤ W'.heap.size
 same : ∀ b, b < W.heap.size → ¬ S b → W'.heap[b]? = W.heap[b]?
 os : W'.os = W.os
 tape : W'.tape = W.tape
 output : W'.output = W.output
theorem Kp.refl (S : Nat → Prop) (W : World) : Kp S W W := ⟨Nat.le_refl _, fun _ _ _ => rfl, rfl, rfl, rfl⟩
theorem Kp.trans {S : Nat → Prop} {A B C : World} (h : Kp S A B) (k : Kp S B C) : Kp S A C :=
 ⟨Nat.le_trans h.size k.size, fun b hb hs => (k.same b (Nat.lt_of_lt_of_le hb h.size) hs).trans (h.same b hb hs), k.os.trans h.os, k.tape.trans h.tape, k.output.trans h.output⟩
structure r8 (P : Program) where
 l : Nat
 n1 : Nat
 S : Nat → Prop
 J : Al → World → Prop
 Good : Int × Int → Prop
 HN : ∀ i W W', J i W → W.heap.size ≤ W'.heap.size → (∀ b, b < n1 → W'.heap[b]? = W.heap[b]?) → J i W'
 yield : ∀ i x W, J i W → Good x → n1 ≤ W.heap.size → YieldAt (FR none) 0 P l #[.int .i64 x.1, .int .i64 x.2] W (fun e W' => e = .returned (.bool true) ∧ J (i ++ [x]) W' ∧ Kp S W W')
 lt : ∀ b, S b → b < n1
abbrev r8.v {P : Program} (Y : r8 P) : X := .v (.func (.yield Y.l) #[] #[])
def jn (P : Program) (f : FuncId) (args : List X) (g : Al) : Prop :=
 ∀ (Y : r8 P) (i : Al) (E : Env) (cI : List Value), Y.J i E.w → Y.n1 ≤ E.w.heap.size → (∀ x ∈ g, Y.Good x) → ej E args cI [] → (∀ b k v, E.φ b k = some v → E.w.cell? ⟨b, k, none⟩ = some v) → (∀ b k, Y.S b → E.φ b k = none) →
  Calls P f (#[.func (.yield Y.l) #[] #[]] ++ cI.toArray) E.w (fun e W' => ∃ v, e = .returned v ∧ Y.J (i ++ g) W' ∧ Kp Y.S E.w W')
structure IK {P : Program} (Y : r8 P) (G : Ctx) : Prop where
 GK : ∀ b, b < G.w0.heap.size → G.K b
 n1 : Y.n1 ≤ G.w0.heap.size
 φ : ∀ b i, Y.S b → G.φ0 b i = none
structure HI {P : Program} (Y : r8 P) (G : Ctx) (s : oM) (a : Act) (w : World) : Prop where
 j : Y.J s.1 w
 h : cy (G.to w) s.2 a w
 kp : Kp Y.S G.w0 w
def aJ (P : Program) (Y : r8 P) (N : eL) (c : Code) (s : oM) (Q : Exit → oM → Prop) : Prop :=
 ∀ G : Ctx, G.fn = N → IK Y G → ∀ a w, HI Y G s a w → c.wp P (fun e a w => ∃ s', HI Y G s' a w ∧ Q e s') a w
def aS (P : Program) (Y : r8 P) (N : eL) (all : Array Oper) (rest : List Oper) (s : oM) (Q : Exit → oM → Prop) : Prop :=
 ∀ G : Ctx, G.fn = N → IK Y G → ∀ a w, HI Y G s a w → wpListIn (FR none) 0 P all (fun e a w => ∃ s', HI Y G s' a w ∧ Q e s') rest a w
def mG (K : oM → Prop) (Q : Exit → oM → Prop) : Exit → oM → Prop
 | .normal, st => K st
 | e, st => Q e st
def wm (id : Nat) (Q : Exit → oM → Prop) : Exit → oM → Prop
 | .exit id', st => bif Nat.beq id' id then Q .normal st else Q (.exit id') st
 | e, st => Q e st
def uU (s s' : oM) : Prop := s.1 = s'.1 ∧ Le s.2 s'.2
section
variable {P : Program} {Y : r8 P} {N : eL} {s : oM} {Q Q' : Exit → oM → Prop} {i : Al} {st aT : St} {id : Nat} {x y c : Code}
theorem HI.le {G : Ctx} {s s' : oM} {a : Act} {w : World} (hl : uU s s') (h : HI Y G s a w) : HI Y G s' a w := ⟨hl.1 ▸ h.j, hl.2.holds h.h, h.kp⟩
theorem HI.step {G : Ctx} (hG : IK Y G) {a a' : Act} {w w' : World} (h : HI Y G (i, st) a w) (h' : cy (G.to w) aT a' w') : HI Y G (i, aT) a' w' := by
 have hr : cy (G.to w') aT a' w' := cy.xO (G := G.to w) (S := fun _ => False) h' (fun _ h => h.elim) (Nat.le_refl _) (fun _ _ _ => rfl)
 obtain ⟨E, RR, rfl, hi⟩ := h'
 have fu : w.heap.size ≤ E.w.heap.size := hi.size
 have hold : ∀ b, b < G.w0.heap.size → E.w.heap[b]? = w.heap[b]? := fun b hb => hi.ah b (hG.GK b hb)
 exact ⟨Y.HN i w E.w h.j fu (fun b hb => hold b (Nat.lt_of_lt_of_le hb hG.n1)), hr, Nat.le_trans h.kp.size fu, fun b hb hs => (hold b hb).trans (h.kp.same b hb hs), hi.os.trans h.kp.os, hi.tape.trans h.kp.tape, hi.output.trans h.kp.output⟩
theorem HI.Lo {G : Ctx} (hG : IK Y G) {a : Act} {w w' : World} {i' : Al} (h : HI Y G (i, st) a w) (hj : Y.J i' w') (hk : Kp Y.S w w') : HI Y G (i', st) a w' :=
 ⟨hj, cy.xO (G := G.to w) (S := Y.S) h.h (fun b hb => ⟨hG.GK b (Nat.lt_of_lt_of_le (Y.lt b hb) hG.n1), fun k => hG.φ b k hb⟩) hk.size hk.same,
  Nat.le_trans h.kp.size hk.size, fun b hb hs => (hk.same b (Nat.lt_of_lt_of_le hb h.kp.size) hs).trans (h.kp.same b hb hs), hk.os.trans h.kp.os, hk.tape.trans h.kp.tape, hk.output.trans h.kp.output⟩
theorem HI.n1 {G : Ctx} (hG : IK Y G) {a : Act} {w : World} (h : HI Y G s a w) : Y.n1 ≤ w.heap.size := Nat.le_trans hG.n1 h.kp.size
theorem aJ.of (h : dk P N c st (fun e aT => Q e (i, aT))) : aJ P Y N c (i, st) Q := by
 intro G hn hG a w hh
 refine wp_mono (h (G.to w) hn a w hh.h) ?_
 rintro e a' w' ⟨aT, h', hq⟩
 exact ⟨_, hh.step hG h', hq⟩
theorem aJ.le {s' : oM} (hl : uU s s') (h : aJ P Y N c s' Q) : aJ P Y N c s Q := fun G hn hG a w hh => h G hn hG a w (hh.le hl)
theorem aJ.sh (h : Sh N st aT) (k : aJ P Y N c (i, aT) Q) : aJ P Y N c (i, st) Q := fun G hn hG a w hh => k G hn hG a w ⟨hh.j, h (G.to w) hn a w hh.h, hh.kp⟩
theorem aJ.mono (h : aJ P Y N c s Q) (hq : ∀ e s, Q e s → Q' e s) : aJ P Y N c s Q' := fun G hn hG a w hh => wp_mono (h G hn hG a w hh) fun _ _ _ ⟨s', h', yV⟩ => ⟨s', h', hq _ _ yV⟩
theorem aJ.skip (h : Q .normal s) : aJ P Y N .skip s Q := fun _ _ _ _ _ hh => wp_skip ⟨s, hh, h⟩
theorem aJ.exit (h : Q (.exit id) s) : aJ P Y N (.exit id) s Q := fun _ _ _ _ _ hh => wp_exit ⟨s, hh, h⟩
theorem aJ.ret (h : Q .ret s) : aJ P Y N .ret s Q := fun _ _ _ _ _ hh => wp_ret ⟨s, hh, h⟩
theorem aJ.seq (h : aJ P Y N x s (mG (fun s' => aJ P Y N y s' Q) Q)) : aJ P Y N (.seq x y) s Q := by
 intro G hn hG a w hh
 refine wp_seq (wp_mono (h G hn hG a w hh) ?_)
 rintro e a' w' ⟨s', gL, hq⟩
 cases e <;> first | exact hq G hn hG a' w' gL | exact ⟨s', gL, hq⟩
theorem aJ.block (h : aJ P Y N c s (wm id Q)) : aJ P Y N (.block id c) s Q := by
 intro G hn hG a w hh
 refine wp_block (wp_mono (h G hn hG a w hh) ?_)
 rintro e a' w' ⟨s', gL, hq⟩
 cases e with
 | exit id' =>
  simp only [wm] at hq
  simp only [Exit.inBlock]
  cases hb : Nat.beq id' id with
  | true =>
   rw [hb] at hq
   rw [if_pos (Nat.eq_of_beq_eq_true hb)]
   exact ⟨s', gL, hq⟩
  | false =>
   rw [hb] at hq
   rw [if_neg (Nat.ne_of_beq_eq_false hb)]
   exact ⟨s', gL, hq⟩
 | _ => exact ⟨s', gL, hq⟩
theorem aJ.cond {o : Operand} {b : Bool} (hc : bS s.2 o = some (.v (.bool b))) (ht : b = true → aJ P Y N x s Q) (hf : b = false → aJ P Y N y s Q) : aJ P Y N (.cond o x y) s Q := by
 intro G hn hG a w hh
 obtain ⟨E, RR, rfl, hi⟩ := hh.h
 exact wp_cond_split (hi.val hc) (fun h => ht h G hn hG a E.w hh) (fun h => hf h G hn hG a E.w hh)
theorem aJ.a8 {o : Operand} {p : Prop} {inst : Decidable p} (hc : bS s.2 o = some (.v (.bool (decide p)))) (ht : p → aJ P Y N x s Q) (hf : ¬ p → aJ P Y N y s Q) : aJ P Y N (.cond o x y) s Q :=
 aJ.cond hc (fun h => ht (of_decide_eq_true h)) (fun h => hf (of_decide_eq_false h))
theorem aJ.aM {o : Operand} (hc : bS s.2 o = some (.v (.bool true))) (h : aJ P Y N x s Q) : aJ P Y N (.cond o x y) s Q := aJ.cond hc (fun _ => h) (fun h => by cases h)
theorem aJ.bO {o : Operand} (hc : bS s.2 o = some (.v (.bool false))) (h : aJ P Y N y s Q) : aJ P Y N (.cond o x y) s Q := aJ.cond hc (fun h => by cases h) (fun _ => h)
theorem aJ.Bn {d : Nat} {b : Bool} (hc : look st.aD d = some (.v (.bool b))) (ht : b = true → aJ P Y N x (i, st.put d (.v (.bool true))) Q) (hf : b = false → aJ P Y N y (i, st.put d (.v (.bool false))) Q) : aJ P Y N (.cond (.tmp d) x y) (i, st) Q := by
 refine aJ.cond (s := (i, st)) (b := b) hc (fun h => ?_) (fun h => ?_)
 ·subst h; exact aJ.le (s := (i, st)) (s' := (i, st.put d (.v (.bool true)))) ⟨rfl, Le.test hc⟩ (ht rfl)
 ·subst h; exact aJ.le (s := (i, st)) (s' := (i, st.put d (.v (.bool false)))) ⟨rfl, Le.test hc⟩ (hf rfl)
theorem aJ.bx {d : Nat} {p : Prop} {inst : Decidable p} (hc : look st.aD d = some (.v (.bool (decide p)))) (ht : p → aJ P Y N x (i, st.put d (.v (.bool true))) Q) (hf : ¬ p → aJ P Y N y (i, st.put d (.v (.bool false))) Q) : aJ P Y N (.cond (.tmp d) x y) (i, st) Q :=
 aJ.Bn hc (fun h => ht (of_decide_eq_true h)) (fun h => hf (of_decide_eq_false h))
theorem aJ.loop {ι : Type} (S : ι → oM) (I : ι → Prop) (μ : ι → Nat) (i0 : ι) (hi : I i0) (hs : uU s (S i0)) (round : ∀ i, I i → aJ P Y N c (S i) (mG (fun s' => ∃ j, I j ∧ μ j < μ i ∧ uU s' (S j)) Q)) : aJ P Y N (.loop c) s Q := by
 intro G hn hG a w hh
 refine rK (fun i a w => I i ∧ HI Y G (S i) a w) μ ?_ ⟨hi, hh.le hs⟩
 rintro i a w ⟨hI, hh⟩
 refine wp_mono (round i hI G hn hG a w hh) ?_
 rintro e a' w' ⟨s', gL, hq⟩
 cases e with
 | normal => obtain ⟨j, hj, iU, hle⟩ := hq; exact ⟨j, ⟨hj, gL.le hle⟩, iU⟩
 | _ => exact ⟨s', gL, hq⟩
theorem aJ.join {ι : Type} (J : ι → oM) (I : ι → Prop) (hx : aJ P Y N x s (mG (fun aT => ∃ i, I i ∧ uU aT (J i)) Q)) (hy : ∀ i, I i → aJ P Y N y (J i) Q) : aJ P Y N (.seq x y) s Q := by
 refine aJ.seq (hx.mono ?_)
 intro e z6 h
 cases e with
 | normal => obtain ⟨i, hI, hle⟩ := h; exact (hy i hI).le hle
 | _ => exact h
theorem aJ.region {l : List Oper} (h : aO P N l.toArray l st (gN (fun aT => Q .normal (i, aT)) (fun e aT => Q e (i, aT)))) : aJ P Y N (.region id l.toArray false) (i, st) Q :=
 aJ.of ((dk.region h).mono fun e st h => by cases e <;> exact h)
theorem aJ.sr {l : List Oper} (h : aO P N l.toArray l st (gN (fun aT => aJ P Y N y (i, aT) Q) (fun e aT => Q e (i, aT)))) : aJ P Y N (.seq (.region id l.toArray false) y) (i, st) Q :=
 aJ.seq (aJ.of ((dk.region h).mono fun e st h => by cases e <;> exact h))
theorem aJ.mj {l : List Oper} (h : aS P Y N l.toArray l s Q) : aJ P Y N (.region id l.toArray false) s Q := fun G hn hG a w hh => uT.1 (wpIn_region_lit (h G hn hG a w hh))
end
end Go.AW
namespace Go.AW
open Go
theorem CJ {P : Program} {o : Oper} {Q1 Q2 : Exit → Act → World → Prop} {K1 K2 : Act → World → Prop} {a : Act} {w : World} (hQ : ∀ e a w, e ≠ .normal → Q1 e a w → False) (hK : ∀ a w, K1 a w → K2 a w) (h : o.wp P a w K1 Q1) : o.wp P a w K2 Q2 := by
 unfold Oper.wp at *
 generalize (execOp a.eval o).run P w = r at *
 cases r with
 | ok nx w' =>
  cases nx <;> simp only [Oper.upon] at h ⊢ <;> first
   | exact hK _ _ h
   | exact Calls.mono h (fun e Qp he => by
     cases e with
     | returned u => exact hK _ _ he
     | panicked c => exact (hQ _ _ _ (by simp) he).elim
     | outgrown => exact (let ⟨_, _, h'⟩ := he; hQ _ _ _ (by simp) h').elim)
   | exact Rows.mono h (fun _ _ he => hK _ _ he)
 | halt x w' => cases x <;> simp only [Oper.upon] at h ⊢ <;> first | exact (hQ _ _ _ (by simp) h).elim | exact (let ⟨_, _, h'⟩ := h; hQ _ _ _ (by simp) h').elim | exact h
theorem X.ui : ∀ {xs : List X} {k : Nat} {x : X}, X.b9 xs = true → xs[k]? = some x → x.free = true
 | [], _, _, _, h => by simp at h
 | y :: r, 0, x, hf, h => by
  simp only [X.b9, Bool.and_eq_true] at hf
  simp only [List.getElem?_cons_zero, Option.some.injEq] at h
  subst h; exact hf.1
 | y :: r, k + 1, x, hf, h => by
  simp only [X.b9, Bool.and_eq_true] at hf
  simp only [List.getElem?_cons_succ] at h
  exact X.ui hf.2 h
section
variable {P : Program} {Y : r8 P} {N : eL} {s : oM} {Q : Exit → oM → Prop} {i : Al} {st : St} {all : Array Oper} {rest : List Oper} {o : Oper} {d : Nat} {ty : TypeId} {pos : String} {af : Array Edge}
theorem aS.nil (h : Q .normal s) : aS P Y N all [] s Q := fun _ _ _ _ _ hh => ⟨s, hh, h⟩
theorem aS.op (h : aO P N all [o] st (Ak (fun aT => aS P Y N all rest (i, aT) Q))) (hd : jO o = true := by rfl) : aS P Y N all (o :: rest) (i, st) Q := by
 intro G hn hG a w hh
 have h1 := h (G.to w) hn a w hh.h
 have hk : ∀ a' w', mI (G.to w) (Ak (fun aT => aS P Y N all rest (i, aT) Q)) .normal a' w' → wpListIn (FR none) 0 P all (fun e a w => ∃ s', HI Y G s' a w ∧ Q e s') rest a' w' := by
  rintro a' w' ⟨aT, h', hq⟩
  exact hq G hn hG a' w' (hh.step hG h')
 have QH : ∀ e a' w', e ≠ .normal → mI (G.to w) (Ak (fun aT => aS P Y N all rest (i, aT) Q)) e a' w' → False := by
  rintro e a' w' he ⟨aT, _, hq⟩
  cases e <;> first | exact he rfl | exact hq
 unfold wpList at h1
 unfold wpListIn
 split at h1
 ·rename_i hw
  rw [if_pos hw]
  rcases h1 with h1 | ⟨_, _, _, h2⟩
  ·exact CI hd (CJ QH hk h1)
  ·exact (QH _ _ _ (by simp) h2).elim
 ·rename_i hw
  rw [if_neg hw]
  exact ⟨fun _ _ => trivial, hk _ _ h1⟩
theorem aS.le {s' : oM} (hl : uU s s') (h : aS P Y N all rest s' Q) : aS P Y N all rest s Q := fun G hn hG a w hh => h G hn hG a w (hh.le hl)
theorem aS.split {b : Bool} (hx : look st.aD d = some (.v (.bool b))) (ht : b = true → aS P Y N all rest (i, st.put d (.v (.bool true))) Q) (hf : b = false → aS P Y N all rest (i, st.put d (.v (.bool false))) Q) : aS P Y N all rest (i, st) Q := by
 cases b
 ·exact aS.le (s := (i, st)) (s' := (i, st.put d (.v (.bool false)))) ⟨rfl, Le.test hx⟩ (hf rfl)
 ·exact aS.le (s := (i, st)) (s' := (i, st.put d (.v (.bool true)))) ⟨rfl, Le.test hx⟩ (ht rfl)
theorem aS.ax {p : Prop} {inst : Decidable p} (hx : look st.aD d = some (.v (.bool (decide p)))) (ht : p → aS P Y N all rest (i, st.put d (.v (.bool true))) Q) (hf : ¬ p → aS P Y N all rest (i, st.put d (.v (.bool false))) Q) : aS P Y N all rest (i, st) Q :=
 aS.split hx (fun h => ht (of_decide_eq_true h)) (fun h => hf (of_decide_eq_false h))
theorem aS.ar {dst : Option Nat} {op : Op} {j : Nat} {want : Bool} (hj : (all[j]?).bind (·.dst) = some d) (hd : d < N.n) (hx : look st.aD d = some (.v (.bool want)))
  (k : aS P Y N all (⟨dst, op, ty, pos, af, none⟩ :: rest) (i, st) Q) : aS P Y N all (⟨dst, op, ty, pos, af, some (j, want)⟩ :: rest) (i, st) Q := by
 intro G hn hG a w hh
 have hk := k G hn hG a w hh
 obtain ⟨E, RR, rfl, hi⟩ := hh.h
 have hw := hi.wanted (ops := all) (dst := dst) (op := op) (ty := ty) (pos := pos) (af := af) hj (by show d < (G.to E.w).fn.n; rw [show (G.to E.w).fn = N from hn]; exact hd) hx
 unfold wpListIn at hk ⊢
 rw [if_pos hw]
 rw [if_pos (by simp [Region.wanted])] at hk
 exact hk
theorem uj {x : Operand} {cB : Array Operand} {mT : Array TypeId} {a : Act} {w : World} {f : Fn} {cc : Array Value} {dst : Option Nat} {g : Option (Nat × Bool)} (hx : a.eval x = .func f #[] cc) :
  (execOp a.eval ⟨dst, .call ⟨.value x, cB, mT⟩, ty, pos, af, g⟩).run P w = (invoke (.fn f cc) (#[] ++ cB.map a.eval)).run P w := by
 have e : (execOp a.eval ⟨dst, .call ⟨.value x, cB, mT⟩, ty, pos, af, g⟩).run P w = (do let d ← Deferred.ofValue (a.eval x) (cB.map a.eval); invoke d.target d.args : Sem Next).run P w := rfl
 rw [e, hx]; rfl
theorem aS.yield {x : Operand} {cB : Array Operand} {mT : Array TypeId} {p q : Int} (hx : bS st x = some Y.v) (fx : kg st cB.toList = some [.v (.int .i64 p), .v (.int .i64 q)]) (hg : Y.Good (p, q)) (hd : d < N.n)
  (k : aS P Y N all rest (i ++ [(p, q)], st.put d (.v (.bool true))) Q) : aS P Y N all (⟨some d, .call ⟨.value x, cB, mT⟩, ty, pos, af, none⟩ :: rest) (i, st) Q := by
 intro G hn hG a w hh
 have GD := hh.n1 hG
 obtain ⟨E, RR, rfl, hi⟩ := hh.h
 have hv := hi.val hx
 obtain ⟨xd, Fs⟩ := oY hi fx
 have dO : cB.map a.eval = #[.int .i64 p, .int .i64 q] := by
  obtain ⟨o1, ES, R1, pP⟩ := Fs 0 _ rfl
  obtain ⟨o2, HO, R2, vz⟩ := Fs 1 _ rfl
  simp only [RX] at pP vz
  have hl : cB.toList.length = 2 := xd.symm
  apply Array.ext'
  rw [Array.toList_map]
  match hm : cB.toList, hl with
  | [u1, u2], _ =>
   rw [hm] at ES HO
   simp only [List.getElem?_cons_zero, List.getElem?_cons_succ, Option.some.injEq] at ES HO
   subst ES; subst HO
   simp [pP.1, vz.1]
 obtain ⟨fn, tmps, assign, body, hy, hR⟩ := Y.yield i (p, q) E.w hh.j hg GD
 have gQ : (execOp a.eval ⟨some d, .call ⟨.value x, cB, mT⟩, ty, pos, af, none⟩).run P E.w = .ok (.round Y.l fn tmps assign body) E.w := by
  rw [uj hv, dO]; exact hy
 refine wpListIn_plain rfl fun K hK => ?_
 refine ⟨fun _ _ => trivial, ?_⟩
 rw [show (FR none).round = none from rfl, Oper.semAt_none, gQ]
 refine ⟨fun h => by simp [FR, Fence.wide] at h, hR.mono ?_⟩
 rintro e W' ⟨rfl, hj, hk⟩
 refine hK _ _ (k G hn hG _ _ ?_)
 have ht := HI.Lo hG hh hj hk
 obtain ⟨E', fg, rfl, iv⟩ := ht.h
 exact ⟨ht.j, ⟨E', _, rfl, iv.g5 (by show d < (G.to E'.w).fn.n; rw [show (G.to E'.w).fn = N from hn]; exact hd) (by simp [RX])⟩, ht.kp⟩
theorem aS.HP {f : FuncId} {g : Al} {x y : Operand} {mT : Array TypeId} {kW : List X} (hx : bS st x = some (.gB (.func f) [] kW)) (j9 : aP P f = true) (fi : jn P f kW g) (hy : bS st y = some Y.v) (hg : ∀ e ∈ g, Y.Good e) (hd : d < N.n)
  (k : aS P Y N all rest (i ++ g, st.put d .no) Q) : aS P Y N all (⟨some d, .call ⟨.value x, #[y], mT⟩, ty, pos, af, none⟩ :: rest) (i, st) Q := by
 intro G hn hG a w hh
 have GD := hh.n1 hG
 obtain ⟨E, RR, rfl, hi⟩ := hh.h
 have hv := hi.val hy
 obtain ⟨Rx, DD⟩ := hi.eval hx
 simp only [RX] at DD
 obtain ⟨_, ff, cc, Nr, Fx, I7⟩ := DD
 simp only [ej] at Fx
 have Bx : ff = #[] := by
  have := Fx.1
  cases ff; simp_all
 subst Bx
 have hφ : ∀ b k, Y.S b → E.φ b k = none := fun b k hb => by
  cases he : E.φ b k with
  | none => rfl
  | some v =>
   rcases hi.grow b k v he with h1 | h1
   ·rw [show (G.to E.w).φ0 b k = G.φ0 b k from rfl, hG.φ b k hb] at h1; cases h1
   ·exact absurd (hG.GK b (Nat.lt_of_lt_of_le (Y.lt b hb) hG.n1)) h1
 have hc := fi Y i E cc.toList hh.j GD hg I7 hi.kR hφ
 have gQ : (execOp a.eval ⟨some d, .call ⟨.value x, #[y], mT⟩, ty, pos, af, none⟩).run P E.w = .ok (.enter f (#[.func (.yield Y.l) #[] #[]] ++ cc.toList.toArray)) E.w := by
  rw [uj Nr]
  show (callFunc f ((#[] ++ #[y].map a.eval) ++ cc)).run P E.w = _
  rw [lS j9]
  congr 2
  apply Array.ext'
  simp [hv]
 refine wpListIn_plain rfl fun K hK => ?_
 refine ⟨fun _ _ => trivial, ?_⟩
 rw [show (FR none).round = none from rfl, Oper.semAt_none, gQ]
 refine ⟨fun h => by simp [FR, Fence.wide] at h, sD (hc.mono ?_)⟩
 rintro e W' ⟨v, rfl, hj, hk⟩
 refine hK _ _ (k G hn hG _ _ ?_)
 have ht := HI.Lo hG hh hj hk
 obtain ⟨E', fg, rfl, iv⟩ := ht.h
 exact ⟨ht.j, ⟨E', _, rfl, iv.g5 (by show d < (G.to E'.w).fn.n; rw [show (G.to E'.w).fn = N from hn]; exact hd) (by simp [RX])⟩, ht.kp⟩
theorem jn.of {f : FuncId} {fn : Func} {c : Code} {args : List X} {g : Al} {n : Nat} (hf : P.funcs[f]? = some fn) (hb : fn.body = some c) (hn : fn.ntmps = n) (hr : fn.results = #[]) (hle : args.length + 1 ≤ n)
  (h : ∀ (Y : r8 P) (i : Al), (∀ x ∈ g, Y.Good x) → aJ P Y ⟨n, []⟩ c (i, ⟨du 0 (Y.v :: args), []⟩) (fun e s => (e = .normal ∨ e = .ret) ∧ s.1 = i ++ g)) (rC : X.b9 args = true) : jn P f args g := by
 intro Y i E cI hJ GD hg dO My hφ
 refine calls_of_wp hf hb ?_
 let G : Ctx := ⟨fun b => b < E.w.heap.size, E.w, E.φ, E.β, ⟨n, []⟩, []⟩
 have hG : IK Y G := ⟨fun _ h => h, GD, hφ⟩
 have hlen : ∀ {l : List X} {c : List Value} {R : List Nat}, ej E l c R → l.length = c.length := by
  intro l
  induction l with
  | nil => intro c R h; simp only [ej] at h; rw [h.1]; rfl
  | cons y r ih =>
   intro c R h
   simp only [ej] at h
   obtain ⟨_, c', _, _, rfl, _, h2, _⟩ := h
   simp [ih h2]
 have hl := hlen dO
 have hH : HI Y G (i, ⟨du 0 (Y.v :: args), []⟩) ⟨(#[.func (.yield Y.l) #[] #[]] ++ cI.toArray) ++ Array.replicate (fn.ntmps - (#[Value.func (.yield Y.l) #[] #[]] ++ cI.toArray).size) undef, []⟩ E.w := by
  refine ⟨hJ, ⟨E, fun _ => [], rfl, ?_⟩, Kp.refl _ _⟩
  constructor
  case kR => exact My
  case aD =>
   intro s x hx
   have iw : look (du 0 (Y.v :: args)) s = some x := hx
   rw [gr] at iw
   have hs : s < args.length + 1 := by
    rcases Nat.lt_or_ge s (args.length + 1) with h' | h'
    ·exact h'
    ·rw [List.getElem?_eq_none (by simpa using h')] at iw; cases iw
   have e1 : ((#[Value.func (.yield Y.l) #[] #[]] ++ cI.toArray) ++ Array.replicate (fn.ntmps - (#[Value.func (.yield Y.l) #[] #[]] ++ cI.toArray).size) undef).getD s undef = (Value.func (.yield Y.l) #[] #[] :: cI).getD s undef := by
    rw [Array.getD_eq_getD_getElem?, Array.getElem?_append_left (by simp; omega)]
    simp [List.getD_eq_getElem?_getD]
   show RX E x _ []
   rw [e1]
   cases s with
   | zero =>
    simp only [List.getElem?_cons_zero, Option.some.injEq] at iw
    subst iw
    simp [RX]
   | succ s =>
    simp only [List.getElem?_cons_succ] at iw
    obtain ⟨u, R, hu, hR⟩ := ej.get dO iw
    have h0 := RX.free (X.ui rC iw) hR
    subst h0
    rw [List.getD_cons_succ, List.getD_eq_getElem?_getD, hu]; exact hR
  case aG => intro o ob h; cases h
  case nodup => exact fun _ => List.nodup_nil
  case apart => exact fun _ _ _ _ h => by cases h
  case own => exact fun _ _ h => by cases h
  case ah => exact fun _ _ => rfl
  case size => exact Nat.le_refl _
  case small => exact fun _ h => h
  case os => rfl
  case tape => rfl
  case output => rfl
  case φ0 => exact fun _ _ _ h => h
  case grow => exact fun _ _ _ h => .inl h
  case fixed => exact fun _ _ => rfl
  case tmps => show Array.size _ = n; simp; omega
  case defers => rfl
 refine wp_mono (h Y i hg G rfl hG _ _ hH) ?_
 rintro e a w ⟨s, hs, he, hi⟩
 have hd : a.defers = [] := by obtain ⟨_, _, _, h⟩ := hs.h; exact h.defers
 have xa : (results fn a.tmps).run P w = .ok (.tuple #[]) w := by
  have e : results fn a.tmps = (do let vs ← fn.results.mapM (o7 a.tmps); Pure.pure (if h : vs.size = 1 then vs[0] else .tuple vs) : Sem Value) := rfl
  rw [e, hr]
  refine jr (u := #[]) (by simp [Sem.run_pure]) rfl
 have hk : a.defers = [] ∧ ∃ v, (results fn a.tmps).run P w = .ok v w ∧ ∃ v', Ending.returned v = .returned v' ∧ Y.J (i ++ g) w ∧ Kp Y.S E.w w := ⟨hd, _, xa, _, rfl, hi ▸ hs.j, hs.kp⟩
 rcases he with rfl | rfl
 ·exact hk
 ·exact hk
end
end Go.AW
namespace Go.AW
open Go
def bc (P : Program) (l : Nat) (N : eL) (c : Code) (st : St) (Q : Exit → St → Prop) : Prop :=
 ∀ G : Ctx, G.fn = N → ∀ a w, cy G st a w → c.wpIn (FR (some l)) 0 P (mI G Q) a w
section
variable {P : Program} {l : Nat} {N : eL} {st aT : St} {Q Q' : Exit → St → Prop} {id : Nat} {x y c : Code}
theorem bc.le (hl : Le st aT) (h : bc P l N c aT Q) : bc P l N c st Q := fun G hn a w hh => h G hn a w (hl.holds hh)
theorem bc.mono (h : bc P l N c st Q) (hq : ∀ e st, Q e st → Q' e st) : bc P l N c st Q' := fun G hn a w hh => wpIn_mono (h G hn a w hh) fun e _ _ hp => mI.mono (hq e) hp
theorem bc.sh (h : Sh N st aT) (k : bc P l N c aT Q) : bc P l N c st Q := fun G hn a w hh => k G hn a w (h G hn a w hh)
theorem bc.skip (h : Q .normal st) : bc P l N .skip st Q := fun _ _ _ _ hh => wpIn_skip ⟨st, hh, h⟩
theorem bc.exit (h : Q (.exit id) st) : bc P l N (.exit id) st Q := fun _ _ _ _ hh => wpIn_exit ⟨st, hh, h⟩
theorem bc.seq (h : bc P l N x st (gN (fun aT => bc P l N y aT Q) Q)) : bc P l N (.seq x y) st Q := by
 intro G hn a w hh
 refine wpIn_seq (wpIn_mono (h G hn a w hh) ?_)
 rintro e a' w' ⟨aT, gL, hq⟩
 cases e <;> first | exact hq G hn a' w' gL | exact ⟨aT, gL, hq⟩
theorem bc.block (h : bc P l N c st (nK id Q)) : bc P l N (.block id c) st Q := by
 intro G hn a w hh
 refine wpIn_block (wpIn_mono (h G hn a w hh) ?_)
 rintro e a' w' ⟨aT, gL, hq⟩
 cases e with
 | exit id' =>
  simp only [nK] at hq
  simp only [Exit.inBlock]
  cases hb : Nat.beq id' id with
  | true =>
   rw [hb] at hq
   rw [if_pos (Nat.eq_of_beq_eq_true hb)]
   exact ⟨aT, gL, hq⟩
  | false =>
   rw [hb] at hq
   rw [if_neg (Nat.ne_of_beq_eq_false hb)]
   exact ⟨aT, gL, hq⟩
 | _ => exact ⟨aT, gL, hq⟩
theorem bc.cond {o : Operand} {b : Bool} (hc : bS st o = some (.v (.bool b))) (ht : b = true → bc P l N x st Q) (hf : b = false → bc P l N y st Q) : bc P l N (.cond o x y) st Q := by
 intro G hn a w hh
 obtain ⟨E, RR, rfl, hi⟩ := hh
 have hv := hi.val hc
 cases b with
 | true => exact wpIn_cond (t := true) hv (by simpa using ht rfl G hn a E.w ⟨E, RR, rfl, hi⟩)
 | false => exact wpIn_cond (t := false) hv (by simpa using hf rfl G hn a E.w ⟨E, RR, rfl, hi⟩)
theorem bc.a8 {o : Operand} {p : Prop} {inst : Decidable p} (hc : bS st o = some (.v (.bool (decide p)))) (ht : p → bc P l N x st Q) (hf : ¬ p → bc P l N y st Q) : bc P l N (.cond o x y) st Q :=
 bc.cond hc (fun h => ht (of_decide_eq_true h)) (fun h => hf (of_decide_eq_false h))
theorem bc.aM {o : Operand} (hc : bS st o = some (.v (.bool true))) (h : bc P l N x st Q) : bc P l N (.cond o x y) st Q := bc.cond hc (fun _ => h) (fun h => by cases h)
theorem bc.bO {o : Operand} (hc : bS st o = some (.v (.bool false))) (h : bc P l N y st Q) : bc P l N (.cond o x y) st Q := bc.cond hc (fun h => by cases h) (fun _ => h)
theorem bc.nn {x y : Code} (J : St) (I : Prop) (hx : bc P l N x st (gN (fun aT => I ∧ Le aT J) Q)) (hy : I → bc P l N y J Q) : bc P l N (.seq x y) st Q :=
 bc.seq (hx.mono fun e z6 h => by cases e with
  | normal => exact (hy h.1).le h.2
  | _ => exact h)
theorem bc.region {ops : List Oper} (h : aO P N ops.toArray ops st (Ak (fun aT => Q .normal aT))) (hd : ops.all jO = true := by rfl) : bc P l N (.region id ops.toArray false) st Q := by
 intro G hn a w hh
 refine wpIn_mono (Aj (Q := mI G (Ak (fun aT => Q .normal aT))) (fun ⟨_, _, _, _, h⟩ => h) hd (h G hn a w hh)) ?_
 rintro e a' w' ⟨aT, gL, hq⟩
 cases e <;> first | exact ⟨aT, gL, hq⟩ | exact hq.elim
theorem bc.sr {ops : List Oper} (h : aO P N ops.toArray ops st (Ak (fun aT => bc P l N y aT Q))) (hd : ops.all jO = true := by rfl) : bc P l N (.seq (.region id ops.toArray false) y) st Q :=
 bc.seq (bc.region (Q := gN (fun aT => bc P l N y aT Q) Q) h hd)
theorem bc.eU (L F' : List Nat) {ops : Array Oper} (hm : P.follows .mixedOrders = true) (h : bX P N L F' ops ops.size (Array.replicate ops.size false) st (fun aT => Q .normal aT)) (hd : ops.toList.all jO = true := by rfl) : bc P l N (.region id ops true) st Q := by
 intro G hn a w hh
 obtain ⟨E, RR, hw, hi⟩ := hh.drew
 have h1 := hw ▸ h G hn E RR a _ (fun _ _ => rfl) hi
 refine wpIn_mono (kI (Q := fun e a w => e = .normal ∧ ∃ aT, Q .normal aT ∧ cy G aT a w) hm (fun ⟨_, _, h, _⟩ => by cases h) hd (wpAny_of_held _ _ _ _ h1)) ?_
 rintro e a w ⟨rfl, aT, hk, gL⟩
 exact ⟨aT, gL, hk⟩
theorem bc.fA {ops : Array Oper} (hm : P.follows .mixedOrders = true) (h : bX P N [] N.F ops ops.size (Array.replicate ops.size false) st (fun aT => Q .normal aT)) (hd : ops.toList.all jO = true := by rfl) : bc P l N (.region id ops true) st Q := bc.eU [] N.F hm h hd
theorem bc.fN {ops : Array Oper} (hm : P.follows .mixedOrders = true) (h : eN P N ops ops.size (Array.replicate ops.size false) st (fun aT => Q .normal aT)) (hd : ops.toList.all jO = true := by rfl) : bc P l N (.region id ops true) st Q := by
 intro G hn a w hh
 have h1 := h G hn a _ hh.drew
 refine wpIn_mono (kI (Q := fun e a w => e = .normal ∧ ∃ aT, Q .normal aT ∧ cy G aT a w) hm (fun ⟨_, _, h, _⟩ => by cases h) hd h1) ?_
 rintro e a w ⟨rfl, aT, hk, gL⟩
 exact ⟨aT, gL, hk⟩
end
end Go.AW
namespace Go.AW
open Go
structure Ext (G G' : Ctx) : Prop where
 fn : G'.fn = G.fn
 K : ∀ b, G.K b → G'.K b
 ah : ∀ b, G.K b → G'.w0.heap[b]? = G.w0.heap[b]?
 size : G.w0.heap.size ≤ G'.w0.heap.size
 os : G'.w0.os = G.w0.os
 tape : G'.w0.tape = G.w0.tape
 output : G'.w0.output = G.w0.output
 φ0 : ∀ b i v, G.φ0 b i = some v → G'.φ0 b i = some v
 grow : ∀ b i v, G'.φ0 b i = some v → G.φ0 b i = some v ∨ ¬ G.K b
 fixed : ∀ o, G.fn.F.elem o = true → G'.β0 o = G.β0 o
 marks : ∃ ms : List Nat, G'.ds = ms.map (fun D => { target := .collected D, args := #[] }) ++ G.ds ∧ ms.Nodup ∧ ∀ D ∈ ms, G'.K D ∧ ¬ G.K D ∧ G'.w0.heap[D]? = some (.deferred (some []))
theorem Ext.refl (G : Ctx) : Ext G G := ⟨rfl, fun _ h => h, fun _ _ => rfl, Nat.le_refl _, rfl, rfl, rfl, fun _ _ _ h => h, fun _ _ _ h => .inl h, fun _ _ => rfl, [], rfl, List.nodup_nil, fun _ h => by cases h⟩
theorem Ext.trans {A B C : Ctx} (h : Ext A B) (k : Ext B C) : Ext A C := by
 obtain ⟨ms, h1, h2, h3⟩ := h.marks
 obtain ⟨ns, k1, k2, k3⟩ := k.marks
 refine ⟨k.fn.trans h.fn, fun b hb => k.K b (h.K b hb), fun b hb => (k.ah b (h.K b hb)).trans (h.ah b hb), Nat.le_trans h.size k.size, k.os.trans h.os, k.tape.trans h.tape, k.output.trans h.output, fun b i v hv => k.φ0 b i v (h.φ0 b i v hv), fun b i v hv => ?_,
  fun o ho => (k.fixed o (by rw [h.fn]; exact ho)).trans (h.fixed o ho), ns ++ ms, ?_, ?_, ?_⟩
 ·rcases k.grow b i v hv with h4 | h4
  ·exact h.grow b i v h4
  ·exact .inr (fun hb => h4 (h.K b hb))
 ·rw [k1, h1, List.map_append, List.append_assoc]
 ·refine List.nodup_append.2 ⟨k2, h2, fun a ha b hb e => ?_⟩
  subst e
  exact (k3 a ha).2.1 (h3 a hb).1
 ·intro D hD
  rcases List.mem_append.1 hD with hD | hD
  ·obtain ⟨a, b, c⟩ := k3 D hD
   exact ⟨a, fun hk => b (h.K D hk), c⟩
  ·obtain ⟨a, b, c⟩ := h3 D hD
   exact ⟨k.K D a, b, (k.ah D a).trans c⟩
def Gh (G : Ctx) (Q : Exit → St → Prop) (e : Exit) (a : Act) (w : World) : Prop := ∃ G', Ext G G' ∧ mI G' Q e a w
def dT (P : Program) (N : eL) (c : Code) (st : St) (Q : Exit → St → Prop) : Prop :=
 ∀ G : Ctx, G.fn = N → ∀ a w, cy G st a w → c.wp P (Gh G Q) a w
section
variable {P : Program} {N : eL} {st aT : St} {Q Q' : Exit → St → Prop} {id : Nat} {x y c : Code}
theorem dT.of (h : dk P N c st Q) : dT P N c st Q := fun G hn a w hh => wp_mono (h G hn a w hh) fun _ _ _ hp => ⟨G, .refl G, hp⟩
theorem dT.le (hl : Le st aT) (h : dT P N c aT Q) : dT P N c st Q := fun G hn a w hh => h G hn a w (hl.holds hh)
theorem dT.sh (h : Sh N st aT) (k : dT P N c aT Q) : dT P N c st Q := fun G hn a w hh => k G hn a w (h G hn a w hh)
theorem dT.seq (h : dT P N x st (gN (fun aT => dT P N y aT Q) Q)) : dT P N (.seq x y) st Q := by
 intro G hn a w hh
 refine wp_seq (wp_mono (h G hn a w hh) ?_)
 rintro e a' w' ⟨G', hx, aT, gL, hq⟩
 cases e with
 | normal => exact wp_mono (hq G' (hx.fn.trans hn) a' w' gL) fun _ _ _ ⟨Ss, iw, hp⟩ => ⟨Ss, hx.trans iw, hp⟩
 | _ => exact ⟨G', hx, aT, gL, hq⟩
theorem dT.ml (h : dk P N x st (gN (fun aT => dT P N y aT Q) Q)) : dT P N (.seq x y) st Q := dT.seq (dT.of h)
theorem dT.block (h : dT P N c st (nK id Q)) : dT P N (.block id c) st Q := by
 intro G hn a w hh
 refine wp_block (wp_mono (h G hn a w hh) ?_)
 rintro e a' w' ⟨G', hx, aT, gL, hq⟩
 cases e with
 | exit id' =>
  simp only [nK] at hq
  simp only [Exit.inBlock]
  cases hb : Nat.beq id' id with
  | true =>
   rw [hb] at hq
   rw [if_pos (Nat.eq_of_beq_eq_true hb)]
   exact ⟨G', hx, aT, gL, hq⟩
  | false =>
   rw [hb] at hq
   rw [if_neg (Nat.ne_of_beq_eq_false hb)]
   exact ⟨G', hx, aT, gL, hq⟩
 | _ => exact ⟨G', hx, aT, gL, hq⟩
theorem pA {fn : Func} {tmps : Array Value} {R : Ending → World → Prop} : ∀ (ms : List Nat) (w : World), ms.Nodup → (∀ D ∈ ms, w.heap[D]? = some (.deferred (some []))) →
  (∀ w' : World, w'.heap.size = w.heap.size → w'.os = w.os → w'.tape = w.tape → w'.output = w.output → (∀ b, b ∉ ms → w'.heap[b]? = w.heap[b]?) → ∃ v, (results fn tmps).run P w' = .ok v w' ∧ R (.returned v) w') →
  LeavesInM (FR none) 0 P fn tmps R (ms.map (fun D => { target := .collected D, args := #[] })) .returning w
 | [], w, _, _, h => h w rfl rfl rfl rfl (fun _ _ => rfl)
 | D :: ms, w, hn, hD, h => by
  refine ⟨by simp, .inl ⟨D, w.putObj D (.deferred none), rfl, run_takeDeferred (hD D (List.mem_cons_self ..)), ?_⟩⟩
  have pI := List.nodup_cons.1 hn
  refine pA ms _ pI.2 (fun D' QI => ?_) (fun w' h1 h2 h3 h4 h5 => ?_)
  ·rw [World.putObj_heap_other (show D' ≠ D from fun e => pI.1 (by rw [← e]; exact QI))]; exact hD D' (List.mem_cons_of_mem _ QI)
  ·refine h w' (by rw [h1]; simp) (h2.trans rfl) (h3.trans rfl) (h4.trans rfl) (fun b hb => ?_)
   rw [h5 b (fun e => hb (List.mem_cons_of_mem _ e)), World.putObj_heap_other (show b ≠ D from fun e => hb (by rw [e]; exact List.mem_cons_self ..))]
theorem au.ofM {f : FuncId} {fn : Func} {c : Code} {args : List X} {aG : List Obj} {F : List Nat} {Q : X → List Obj → Prop} {n : Nat} {mJ : List ResultVar} (hf : P.funcs[f]? = some fn) (hb : fn.body = some c) (hn : fn.ntmps = n) (hr : fn.results.toList = mJ)
  (iV : (gC mJ).Nodup) (hle : args.length ≤ n) (h : dT P ⟨n, F⟩ c ⟨du 0 args, du 0 aG⟩ (Ends P mJ aG.length Q)) : au P f args aG F Q := by
 intro K E RR cI hi
 refine (callsIn_wide (n := 0)).1 (callsIn_of_wp_marks (F := FR none) hf hb trivial (uT.2 ?_))
 refine wp_mono (h (nc K E ⟨n, F⟩) rfl _ _ ⟨E, RR, rfl, hi.enter hn hle⟩) ?_
 rintro e a w ⟨G', hx, st, ⟨E', fg, rfl, h1⟩, hq⟩
 obtain ⟨ms, Nm, Jx, Mz⟩ := hx.marks
 have Su : a.defers = ms.map (fun D => { target := .collected D, args := #[] }) := by rw [h1.defers, Nm]; exact List.append_nil _
 have hD : ∀ D ∈ ms, E'.w.heap[D]? = some (.deferred (some [])) := fun D hD => (h1.ah D (Mz D hD).1).trans (Mz D hD).2.2
 have fin : (∃ xs bn, jD P st mJ = some xs ∧ jk st.aG 0 aG.length = some bn ∧ Q (o6 xs) bn) → LeavesInM (FR none) 0 P fn a.tmps
   (fun e w' => ∃ v r bn, e = .returned v ∧ Q r bn ∧ bn.length = aG.length ∧ ∃ E' fg, E'.w = w' ∧ Inv (nc K E ⟨1, F⟩) E' fg ⟨[(0, r)], du 0 bn⟩ ⟨#[v], []⟩) a.defers .returning E'.w := by
  intro hq
  rw [Su]
  refine pA ms E'.w Jx hD fun w' fu Sv Sw Sx hw => ?_
  have Sy : ∀ D ∈ ms, ∀ i v, E'.φ D i = some v → False := fun D OA i v hv => by
   have h2 := h1.kR D i v hv
   unfold World.cell? at h2
   rw [hD D OA] at h2; cases h2
  have S0 : ∀ p, ∀ D ∈ ms, D ∉ fg p := fun p D OA hb => (h1.own p D hb).2 (Mz D OA).1
  have gx : ∀ p, E'.On { E' with w := w' } (fg p) := fun p => ⟨fun _ _ _ h => h, fun b hb => ⟨hw b (fun hm => S0 p b hm hb), fun h i => h i⟩⟩
  have h2 : Inv (nc K E ⟨n, F⟩) { E' with w := w' } fg st ⟨a.tmps, []⟩ := by
   constructor
   case kR =>
    intro b i v hv
    have h2 := h1.kR b i v hv
    unfold World.cell? at h2 ⊢
    rw [hw b (fun hm => Sy b hm i v hv)]; exact h2
   case aD => exact fun s x hx => RX.mono x _ _ (gx _) (fun _ _ => rfl) (h1.aD s x hx)
   case aG => exact fun o ob dm => dG.mono (gx _) rfl (fun _ _ _ _ => rfl) (h1.aG o ob dm)
   case nodup => exact h1.nodup
   case apart => exact h1.apart
   case own => exact fun p b hb => ⟨by have := (h1.own p b hb).1; show b < w'.heap.size; omega, fun hk => (h1.own p b hb).2 (hx.K b hk)⟩
   case ah => exact fun b hb => (hw b (fun hm => (Mz b hm).2.1 hb)).trans ((h1.ah b (hx.K b hb)).trans (hx.ah b hb))
   case size => show E.w.heap.size ≤ w'.heap.size; rw [fu]; exact Nat.le_trans hx.size h1.size
   case small => exact hi.small
   case os => exact Sv.trans (h1.os.trans hx.os)
   case tape => exact Sw.trans (h1.tape.trans hx.tape)
   case output => exact Sx.trans (h1.output.trans hx.output)
   case φ0 => exact fun b i v hv => h1.φ0 b i v (hx.φ0 b i v hv)
   case grow =>
    intro b i v hv
    rcases h1.grow b i v hv with h3 | h3
    ·exact hx.grow b i v h3
    ·exact .inr (fun hb => h3 (hx.K b hb))
   case fixed => exact fun o ho => (h1.fixed o (by rw [hx.fn]; exact ho)).trans (hx.fixed o ho)
   case tmps => exact h1.tmps.trans (by rw [hx.fn])
   case defers => rfl
  obtain ⟨_, v, xa, v', r, bn, he, hQ, hl, hE⟩ := v8 (P := P) (aG := aG) (Q := Q) hr iV h2 hq
  exact ⟨v, xa, v', r, bn, he, hQ, hl, hE⟩
 cases e with
 | normal => exact fin hq
 | ret => exact fin hq
 | _ => exact hq.elim
end
end Go.AW
namespace Go.AW
open Go Go.RowKit
def sE (β : Nat → Option AF) (o : Nat) : List Nat := match β o with
 | some B => [B.b]
 | none => []
structure r9 (ν : List Nat) (ob : Obj) : Prop where
 plain : ob.plain
 Lp : iC ob
 ng : ob ≠ .gone
 dN : ∀ xs, ob = .cells xs → ∀ q, X.cG q xs = true → q ∈ ν
theorem dG.sE {E : Env} {o : Nat} {ob : Obj} {R : List Nat} (h : dG E o ob R) (h0 : iC ob) (hg : ob ≠ .gone) : R = sE E.β o ∧ ∀ b ∈ sE E.β o, ∀ i, E.φ b i = none := by
 cases ob with
 | cells xs =>
  simp only [dG] at h
  obtain ⟨_, B, cs, ty, hB, _, hφ, _, _, rfl⟩ := h
  unfold AW.sE
  rw [hB]
  exact ⟨rfl, fun b hb => by rw [List.mem_singleton.1 hb]; exact hφ⟩
 | rows s rs =>
  simp only [dG] at h
  obtain ⟨_, ⟨hB, _, rfl⟩ | ⟨B, cs, ty, R', hB, _, hφ, _, _, hR, rfl⟩⟩ := h
  ·unfold AW.sE
   rw [hB]
   exact ⟨rfl, fun b hb => by cases hb⟩
  ·have h1 := cH.free h0 hR
   subst h1
   unfold AW.sE
   rw [hB]
   exact ⟨rfl, fun b hb => by rw [List.mem_singleton.1 hb]; exact hφ⟩
 | wA es =>
  simp only [dG] at h
  obtain ⟨B, pL, clock, hB, _, hφ, _, rfl⟩ := h
  unfold AW.sE
  rw [hB]
  exact ⟨rfl, fun b hb => by rw [List.mem_singleton.1 hb]; exact hφ⟩
 | gone => exact absurd rfl hg
theorem wo {α : Type} : ∀ {l : List (Nat × α)} {o : Nat}, o ∈ l.map Prod.fst → ∃ x, look l o = some x
 | (t, x) :: r, o, h => by
  simp only [look]
  cases hb : Nat.beq t o with
  | true => exact ⟨x, rfl⟩
  | false =>
   rcases List.mem_cons.1 h with h1 | h1
   ·subst h1; simp at hb
   ·exact wo h1
theorem lC {α : Type} : ∀ {l : List (Nat × α)} {o : Nat} {x : α}, look l o = some x → o ∈ l.map Prod.fst
 | (t, y) :: r, o, x, h => by
  simp only [look] at h
  cases hb : Nat.beq t o with
  | true => rw [Nat.eq_of_beq_eq_true hb]; exact List.mem_cons_self ..
  | false => rw [hb] at h; exact List.mem_cons_of_mem _ (lC h)
theorem wq {α : Type} : ∀ {l m : List (Nat × α)} {o : Nat} {x : α}, look (l ++ m) o = some x → look l o = some x ∨ (o ∉ l.map Prod.fst ∧ look m o = some x)
 | [], _, _, _, h => .inr ⟨by simp, h⟩
 | (t, y) :: r, m, o, x, h => by
  simp only [List.cons_append, look] at h ⊢
  cases hb : Nat.beq t o with
  | true => rw [hb] at h; exact .inl h
  | false =>
   rw [hb] at h
   rcases wq (l := r) h with h1 | ⟨h1, h2⟩
   ·exact .inl h1
   ·refine .inr ⟨?_, h2⟩
    rw [List.map_cons, List.mem_cons]
    rintro (h3 | h3)
    ·have h3 : o = t := h3
     subst h3; simp at hb
    ·exact h1 h3
theorem uk : ∀ {l : List (Nat × X)} {s : Nat} {x : X}, l.all (fun q => q.2.free) = true → look l s = some x → x.free = true
 | (t, y) :: r, s, x, h, hx => by
  simp only [List.all_cons, Bool.and_eq_true] at h
  simp only [look] at hx
  cases hb : Nat.beq t s with
  | true => rw [hb] at hx; simp only [cond_true, Option.some.injEq] at hx; subst hx; exact h.1
  | false => rw [hb] at hx; exact uk h.2 hx
section
variable {P : Program} {N : eL} {st : St} {Q : Exit → St → Prop}
set_option maxHeartbeats 1000000 in
theorem dT.rangeFunc {g : Operand} {ps : Array Tmp} {p1 p2 : Nat} {assign body : Code} {f : FuncId} {kW : List X} {gen : Al} (ν : List Nat) (O : Al → List (Nat × Obj)) (Good : Int × Int → Prop) (uV : List (Nat × X))
  (hg : bS st g = some (.gB (.func f) [] kW)) (j9 : aP P f = true) (fi : jn P f kW gen) (QJ : ps = #[p1, p2]) (OB : p1 < N.n) (EF : p2 < N.n) (hp : p1 ≠ p2)
  (hs : eM st.aD uV) (rC : uV.all (fun q => q.2.free) = true) (QK : eM st.aG (O [])) (HQ : ∀ i, (O i).map Prod.fst = ν) (OC : ∀ i o ob, look (O i) o = some ob → r9 ν ob)
  (Lq : ∀ l i x, (∀ y ∈ i, Good y) → Good x → bc P l ⟨N.n, ν⟩ assign ⟨(p1, .v (.int .i64 x.1)) :: (p2, .v (.int .i64 x.2)) :: uV, O i⟩ (gN (fun aT => bc P l ⟨N.n, ν⟩ body aT (fun e aT => e = .normal ∧ eM aT.aG (O (i ++ [x])))) (fun _ _ => False)))
  (mH : ∀ y ∈ gen, Good y) (k : Q .normal ⟨st.aD, O gen ++ st.aG⟩) : dT P N (.rangeFunc g ps assign body) st Q := by
 intro G hn a w hh
 obtain ⟨E0, IL, rfl, hi⟩ := hh
 obtain ⟨Rg, Gi⟩ := hi.eval hg
 simp only [RX] at Gi
 obtain ⟨_, ff, cc, S1, Fx, I7⟩ := Gi
 simp only [ej] at Fx
 have Bx : ff = #[] := by
  have := Fx.1
  cases ff; simp_all
 subst Bx
 obtain ⟨n0, wD⟩ : ∃ n0, n0 = E0.w.heap.size := ⟨_, rfl⟩
 -- the objects
 have hν : ∀ o ∈ ν, ∃ ob, look (O []) o = some ob ∧ dG E0 o ob (IL (.obj o)) := fun o ho => by
  obtain ⟨ob, dm⟩ := wo (l := O []) (o := o) (by rw [HQ]; exact ho)
  exact ⟨ob, dm, hi.aG o ob (QK o ob dm)⟩
 have xP : ∀ o ∈ ν, IL (.obj o) = sE E0.β o ∧ ∀ b ∈ sE E0.β o, ∀ i, E0.φ b i = none := fun o ho => by
  obtain ⟨ob, dm, hr⟩ := hν o ho
  exact hr.sE (OC _ _ _ dm).Lp (OC _ _ _ dm).ng
 have ET : ∀ o ∈ ν, ∀ b ∈ sE E0.β o, b < n0 ∧ ¬ G.K b := fun o ho b hb => by
  have := hi.own (.obj o) b (by rw [(xP o ho).1]; exact hb)
  rw [wD]; exact this
 let S : Nat → Prop := fun b => b = n0 + 1 ∨ ∃ o ∈ ν, b ∈ sE E0.β o
 have M0 : ∀ b i v, E0.φ b i = some v → b < n0 := fun b i v hv => by
  have h1 := hi.kR b i v hv
  rcases Nat.lt_or_ge b n0 with h2 | h2
  ·exact h2
  ·unfold World.cell? at h1
   rw [Array.getElem?_eq_none (show E0.w.heap.size ≤ b by omega)] at h1; cases h1
 have IJ : ∀ b i, S b → E0.φ b i = none := fun b i hb => by
  rcases hb with rfl | ⟨o, ho, hb⟩
  ·cases he : E0.φ (n0 + 1) i with
   | none => rfl
   | some v => have := M0 _ _ _ he; omega
  ·exact (xP o ho).2 b hb i
 have OD : ∀ b, S b → b < n0 + 2 := fun b hb => by
  rcases hb with rfl | ⟨o, ho, hb⟩
  ·omega
  ·have := (ET o ho b hb).1; omega
 refine uT.1 (wpIn_rangeFunc fun fn _ => ?_)
 obtain ⟨rec, xQ⟩ : ∃ rec : LoopState → Option Code → Loop, rec = fun st pe => { state := st, pending := pe, fn, tmps := a.tmps, params := ps, assign, body, defers := n0 } := ⟨_, rfl⟩
 obtain ⟨W1, IM⟩ : ∃ W1, (E0.w.alloc (.deferred (some []))).alloc (.loop (rec .ready none)) = W1 := ⟨_, rfl⟩
 have S2 : W1.heap.size = n0 + 2 := by rw [← IM, wD]; simp
 have KY : W1.heap[n0 + 1]? = some (.loop (rec .ready none)) := by
  rw [← IM, wD]; have := World.alloc_heap_new (E0.w.alloc (.deferred (some []))) (.loop (rec .ready none)); rwa [World.size_alloc] at this
 have S3 : W1.heap[n0]? = some (.deferred (some [])) := by
  rw [← IM, wD]; exact (Below.heap_alloc _ _ _ (by simp)).trans (World.alloc_heap_new E0.w _)
 have CK : ∀ b, b < n0 → W1.heap[b]? = E0.w.heap[b]? := fun b hb => by
  rw [← IM]; exact (Below.heap_alloc _ _ _ (by simp; omega)).trans (Below.heap_alloc _ _ _ om)
 have xR : ∀ b i v, E0.φ b i = some v → W1.cell? ⟨b, i, none⟩ = some v := fun b i v hv => by
  have h1 := hi.kR b i v hv
  unfold World.cell? at h1 ⊢
  rw [CK b (M0 b i v hv)]; exact h1
 have HR : W1.os = E0.w.os ∧ W1.tape = E0.w.tape ∧ W1.output = E0.w.output := by rw [← IM]; exact ⟨rfl, rfl, rfl⟩
 let J : Al → World → Prop := fun i W => n0 + 2 ≤ W.heap.size ∧ (∀ y ∈ i, Good y) ∧ (∀ b, b < n0 + 2 → ¬ S b → W.heap[b]? = W1.heap[b]?) ∧ W.heap[n0 + 1]? = some (.loop (rec .ready none)) ∧
  ∀ o ob, look (O i) o = some ob → dG ⟨E0.φ, E0.β, W⟩ o ob (sE E0.β o)
 have HS : ∀ i W, J i W → ∀ b k v, E0.φ b k = some v → W.cell? ⟨b, k, none⟩ = some v := fun i W hJ b k v hv => by
  have h1 := xR b k v hv
  have h2 := M0 b k v hv
  unfold World.cell? at h1 ⊢
  rw [hJ.2.2.1 b om (fun hb => by rw [IJ b k hb] at hv; cases hv)]; exact h1
 have EU : ∀ i W W', J i W → W.heap.size ≤ W'.heap.size → (∀ b, b < n0 + 2 → W'.heap[b]? = W.heap[b]?) → J i W' := fun i W W' hJ fu hw => by
  obtain ⟨h1, h2, h3, h4, h5⟩ := hJ
  refine ⟨om, h2, fun b hb hs => (hw b hb).trans (h3 b hb hs), (hw _ om).trans h4, fun o ob dm => ?_⟩
  have ho : o ∈ ν := by rw [← HQ i]; exact lC dm
  exact dG.mono (E := ⟨E0.φ, E0.β, W⟩) ⟨fun _ _ _ h => h, fun b hb => ⟨hw b (by have := (ET o ho b hb).1; omega), fun h i => h i⟩⟩ rfl (fun _ _ _ _ => rfl) (h5 o ob dm)
 have HT : ∀ i x W, J i W → Good x → n0 + 2 ≤ W.heap.size → YieldAt (FR none) 0 P (n0 + 1) #[.int .i64 x.1, .int .i64 x.2] W (fun e W' => e = .returned (.bool true) ∧ J (i ++ [x]) W' ∧ Kp S W W') := fun i x W hJ hx fu => by
  obtain ⟨S4, Gz, QL, OE, QM⟩ := hJ
  have hJ : J i W := ⟨S4, Gz, QL, OE, QM⟩
  have hy := run_yield (P := P) (args := #[.int .i64 x.1, .int .i64 x.2]) OE (by rw [xQ]; simp [QJ])
  refine ⟨fn, _, assign, body, by rw [hy, xQ], roundIn_of_wpIn (F := FR none) trivial ?_⟩
  let Gr : Ctx := ⟨fun b => b < W.heap.size ∧ (¬ S b ∨ b = n0 + 1), W, E0.φ, E0.β, ⟨N.n, ν⟩, []⟩
  let Er : Env := ⟨E0.φ, E0.β, W⟩
  let M1 : Own → List Nat := fun p => match p with
   | .slot _ => []
   | .obj o => if o ∈ ν then sE E0.β o else []
  have ir : ∀ p b, b ∈ M1 p → ∃ o ∈ ν, p = .obj o ∧ b ∈ sE E0.β o := fun p b hb => by
   cases p with
   | slot s => cases hb
   | obj o =>
    by_cases ho : o ∈ ν
    ·simp only [M1, ho, if_true] at hb; exact ⟨o, ho, rfl, hb⟩
    ·simp [M1, ho] at hb
  have hH : cy Gr ⟨(p1, .v (.int .i64 x.1)) :: (p2, .v (.int .i64 x.2)) :: uV, O i⟩ ⟨(a.tmps.setIfInBounds p1 (.int .i64 x.1)).setIfInBounds p2 (.int .i64 x.2), []⟩ W := by
   have GR : a.tmps.size = N.n := hi.tmps.trans (by rw [hn])
   refine ⟨Er, M1, rfl, ?_⟩
   constructor
   case kR => exact HS i W hJ
   case aD =>
    intro s y hy
    simp only [look] at hy
    show RX Er y (((a.tmps.setIfInBounds p1 (.int .i64 x.1)).setIfInBounds p2 (.int .i64 x.2)).getD s undef) []
    cases M3 : Nat.beq p1 s with
    | true =>
     rw [M3] at hy
     have e := Nat.eq_of_beq_eq_true M3
     subst e
     simp only [cond_true, Option.some.injEq] at hy
     subst hy
     simp only [RX, and_true]
     simp [Array.getD_eq_getD_getElem?, Array.getElem?_setIfInBounds, GR, OB, Ne.symm hp]
    | false =>
     rw [M3] at hy
     have OF := Nat.ne_of_beq_eq_false M3
     simp only [cond_false] at hy
     cases rz : Nat.beq p2 s with
     | true =>
      rw [rz] at hy
      have e := Nat.eq_of_beq_eq_true rz
      subst e
      simp only [cond_true, Option.some.injEq] at hy
      subst hy
      simp only [RX, and_true]
      simp [Array.getD_eq_getD_getElem?, Array.getElem?_setIfInBounds, GR, EF]
     | false =>
      rw [rz] at hy
      have OG := Nat.ne_of_beq_eq_false rz
      simp only [cond_false] at hy
      have h0 := hi.aD s y (hs s y hy)
      have hf := RX.free (uk rC hy) h0
      rw [hf] at h0
      have e : ((a.tmps.setIfInBounds p1 (.int .i64 x.1)).setIfInBounds p2 (.int .i64 x.2)).getD s undef = a.tmps.getD s undef := by
       simp [Array.getD_eq_getD_getElem?, Array.getElem?_setIfInBounds, OF, OG]
      rw [e]
      exact RX.mono (E := E0) (E' := Er) y _ _ ⟨fun _ _ _ h => h, fun _ h => by cases h⟩ (fun _ _ => rfl) h0
   case aG =>
    intro o ob dm
    have ho : o ∈ ν := by rw [← HQ i]; exact lC dm
    show dG Er o ob (if o ∈ ν then sE E0.β o else [])
    rw [if_pos ho]
    exact QM o ob dm
   case nodup =>
    intro p
    cases p with
    | slot s => exact List.nodup_nil
    | obj o =>
     show (if o ∈ ν then sE E0.β o else []).Nodup
     split
     ·unfold AW.sE; split <;> simp
     ·exact List.nodup_nil
   case apart =>
    intro p q lr b hb gq
    obtain ⟨o, ho, rfl, ug⟩ := ir p b hb
    obtain ⟨o', lp, rfl, Lr⟩ := ir q b gq
    rw [← (xP o ho).1] at ug
    rw [← (xP o' lp).1] at Lr
    exact hi.apart _ _ lr b ug Lr
   case own =>
    intro p b hb
    obtain ⟨o, ho, rfl, ug⟩ := ir p b hb
    have h1 := (ET o ho b ug).1
    refine ⟨by show b < W.heap.size; omega, fun hk => ?_⟩
    rcases hk.2 with h2 | h2
    ·exact h2 (.inr ⟨o, ho, ug⟩)
    ·omega
   case ah => exact fun _ _ => rfl
   case size => exact Nat.le_refl _
   case small => exact fun _ h => h.1
   case os => rfl
   case tape => rfl
   case output => rfl
   case φ0 => exact fun _ _ _ h => h
   case grow => exact fun _ _ _ h => .inl h
   case fixed => exact fun _ _ => rfl
   case tmps => show Array.size _ = N.n; simp [GR]
   case defers => rfl
  refine (fun (h : ∀ T : Array Value, T = (a.tmps.setIfInBounds p1 (.int .i64 x.1)).setIfInBounds p2 (.int .i64 x.2) → Code.wpIn ((FR none).inRound (n0 + 1)) 0 P assign _ { tmps := T, defers := [] } W) => h _ (by simp [QJ])) ?_
  rintro T rfl
  have OH : Gr.K (n0 + 1) := ⟨om, .inr rfl⟩
  refine wpIn_mono (Lq (n0 + 1) i x Gz hx Gr rfl _ W hH) ?_
  rintro e a1 w1 ⟨z6, JQ, hq⟩
  cases e with
  | normal =>
   have CL : ∀ b, Gr.K b → w1.heap[b]? = W.heap[b]? := by obtain ⟨E, RR, rfl, h⟩ := JQ; exact h.ah
   have IN : W.heap.size ≤ w1.heap.size := by obtain ⟨E, RR, rfl, h⟩ := JQ; exact h.size
   have ES : w1.os = W.os ∧ w1.tape = W.tape ∧ w1.output = W.output := by obtain ⟨E, RR, rfl, h⟩ := JQ; exact ⟨h.os, h.tape, h.output⟩
   have QN : w1.heap[n0 + 1]? = some (.loop (rec .ready none)) := (CL _ OH).trans OE
   refine ⟨_, run_beginRound QN (by rw [xQ]), ?_⟩
   obtain ⟨w2, tu⟩ : ∃ w2, w1.putObj (n0 + 1) (.loop { rec .ready none with state := .busy }) = w2 := ⟨_, rfl⟩
   rw [tu]
   have S5 : cy (Gr.to w2) z6 a1 w2 := cy.xO (S := fun b => b = n0 + 1) JQ (fun b hb => by
    subst hb; exact ⟨OH, fun k => IJ _ k (.inl rfl)⟩) (by rw [← tu]; simp) (fun b _ hb => by rw [← tu]; exact World.putObj_heap_other hb)
   refine wpIn_mono (hq (Gr.to w2) rfl a1 w2 S5) ?_
   rintro e a2 w3 ⟨Uh, ⟨E3, QA, rfl, h3⟩, rfl, dz⟩
   have OI : ∀ b, Gr.K b → E3.w.heap[b]? = w2.heap[b]? := h3.ah
   have GF : w2.heap[n0 + 1]? = some (.loop { rec .ready none with state := .busy }) := by rw [← tu]; exact World.putObj_heap_same (Array.getElem?_eq_some_iff.1 QN).1
   have OJ : E3.w.heap[n0 + 1]? = some (.loop { rec .ready none with state := .busy }) := (OI _ OH).trans GF
   refine ⟨_, _, run_endRound none OJ, rfl, ?_, ?_⟩
   ·have S6 : W.heap.size ≤ E3.w.heap.size := by
     have h4 : w2.heap.size ≤ E3.w.heap.size := h3.size
     rw [← tu] at h4; simp at h4; omega
    refine ⟨by simp; omega, fun y hy => ?_, fun b hb yM => ?_, ?_, fun o ob dm => ?_⟩
    ·rcases List.mem_append.1 hy with h4 | h4
     ·exact Gz y h4
     ·rw [List.mem_singleton.1 h4]; exact hx
    ·have ew : b ≠ n0 + 1 := fun e => yM (.inl e)
     have Ls : Gr.K b := ⟨om, .inl yM⟩
     rw [World.putObj_heap_other ew, OI b Ls, ← tu, World.putObj_heap_other ew, CL b Ls]
     exact QL b hb yM
    ·rw [World.putObj_heap_same (Array.getElem?_eq_some_iff.1 OJ).1, xQ]; rfl
    ·have ho : o ∈ ν := by rw [← HQ (i ++ [x])]; exact lC dm
     have j9 := OC _ _ _ dm
     have hr := h3.aG o ob (dz o ob dm)
     have hβ : ∀ q ∈ ν, E3.β q = E0.β q := fun q hq => h3.fixed q (show ν.elem q = true from List.elem_iff.2 hq)
     have hR := (hr.sE j9.Lp j9.ng).1
     have S7 : sE E3.β o = sE E0.β o := by unfold AW.sE; rw [hβ o ho]
     rw [hR, S7] at hr
     have I4 : dG ⟨E0.φ, E3.β, E3.w.putObj (n0 + 1) (.loop { ({ rec .ready none with state := .busy } : Loop) with state := if (none : Option Code).isNone then .ready else .done, pending := none })⟩ o ob (sE E0.β o) := by
      refine dG.off j9.plain (fun b hb => ⟨World.putObj_heap_other (by have := (ET o ho b hb).1; omega), fun h i => ?_⟩) (fun _ => rfl) hr
      cases he : E0.φ b i with
      | none => rfl
      | some v => have h5 := h3.φ0 b i v he; rw [h i] at h5; cases h5
     exact dG.mono (E := ⟨E0.φ, E3.β, _⟩) ⟨fun _ _ _ h => h, fun _ _ => ⟨rfl, fun h i => h i⟩⟩ (hβ o ho).symm (fun xs e q hq => (hβ q (j9.dN xs e q hq)).symm) I4
   ·have h4 : w2.heap.size ≤ E3.w.heap.size := h3.size
    have h5 : w2.heap.size = w1.heap.size := by rw [← tu]; simp
    refine ⟨by simp; omega, fun b hb yM => ?_, ?_, ?_, ?_⟩
    ·have ew : b ≠ n0 + 1 := fun e => yM (.inl e)
     have Ls : Gr.K b := ⟨hb, .inl yM⟩
     rw [World.putObj_heap_other ew, OI b Ls, ← tu, World.putObj_heap_other ew, CL b Ls]
    ·exact (show E3.w.os = _ from h3.os.trans (by rw [← tu]; exact ES.1))
    ·exact (show E3.w.tape = _ from h3.tape.trans (by rw [← tu]; exact ES.2.1))
    ·exact (show E3.w.output = _ from h3.output.trans (by rw [← tu]; exact ES.2.2))
  | _ => exact hq.elim
 let Y : r8 P := ⟨n0 + 1, n0 + 2, S, J, Good, EU, HT, OD⟩
 have OK : ej ⟨E0.φ, E0.β, W1⟩ kW cc.toList [] := ej.mono (E := E0) (E' := ⟨E0.φ, E0.β, W1⟩) kW _ _ ⟨fun _ _ _ h => h, fun _ h => by cases h⟩ (fun _ _ => rfl) I7
 have S8 : J [] W1 := by
  refine ⟨om, fun _ h => (by cases h), fun _ _ _ => rfl, KY, fun o ob dm => ?_⟩
  have ho : o ∈ ν := by rw [← HQ []]; exact lC dm
  have hr := hi.aG o ob (QK o ob dm)
  rw [(xP o ho).1] at hr
  exact dG.mono (E := E0) ⟨fun _ _ _ h => h, fun b hb => ⟨CK b (ET o ho b hb).1, fun h i => h i⟩⟩ rfl (fun _ _ _ _ => rfl) hr
 obtain ⟨cI, CM⟩ : ∃ cI, (#[.func (.yield (n0 + 1)) #[] #[]] ++ cc.toList.toArray : Array Value) = cI := ⟨_, rfl⟩
 have HU := fi Y [] ⟨E0.φ, E0.β, W1⟩ cc.toList S8 (by show n0 + 2 ≤ W1.heap.size; omega) mH OK xR (fun b i hb => IJ b i hb)
 have Lt : Calls P f cI W1 (fun e W' => ∃ v, e = .returned v ∧ J ([] ++ gen) W' ∧ Kp S W1 W') := by rw [← CM]; exact HU
 refine ⟨n0 + 1, [{ target := .collected n0, args := #[] }], W1, { target := .fn (.func f) cc, args := #[.func (.yield (n0 + 1)) #[] #[]] }, W1, f, cI, W1, ?_, ?_, fun _ _ => trivial, ?_, ?_, ?_⟩
 ·rw [← IM, xQ, wD]; exact run_enterLoop_outer _ _ _ _ _
 ·simp only [resolve, S1]
  simp [go_sem]
 ·rw [← CM]; simp [invoke, go_sem, lS j9]
 ·intro h; simp [FR, Fence.wide] at h
 ·refine sD (Lt.mono ?_)
  rintro e W3 ⟨v, rfl, ⟨j1, j2, j3, j4, j5⟩, hk⟩
  simp only [List.nil_append] at j2 j5
  refine ⟨none, _, (by have := run_endLoop (P := P) j4 (by rw [xQ]; simp); rw [xQ] at this; exact this), ?_⟩
  obtain ⟨W4, HV⟩ : ∃ W4, W3.putObj (n0 + 1) (.loop { ({ state := .ready, pending := none, fn, tmps := a.tmps, params := ps, assign, body, defers := n0 } : Loop) with state := .exhausted }) = W4 := ⟨_, rfl⟩
  show Gh G Q .normal { a with defers := [{ target := .collected n0, args := #[] }] ++ a.defers } _
  rw [HV]
  have OL : ∀ b, b < n0 + 2 → ¬ S b → W4.heap[b]? = W1.heap[b]? := fun b hb yM => by rw [← HV, World.putObj_heap_other (fun e => yM (.inl e))]; exact j3 b hb yM
  have S9 : n0 + 2 ≤ W4.heap.size := by rw [← HV]; simp; exact j1
  have SA : ∀ b, b < n0 → (∀ o ∈ ν, b ∉ IL (.obj o)) → ¬ S b := fun b hb DR yM => by
   rcases yM with rfl | ⟨o, ho, ug⟩
   ·omega
   ·exact DR o ho (by rw [(xP o ho).1]; exact ug)
  have Gj : ∀ b, b < n0 → (∀ o ∈ ν, b ∉ IL (.obj o)) → W4.heap[b]? = E0.w.heap[b]? := fun b hb DR => (OL b om (SA b hb DR)).trans (CK b hb)
  have SB : W4.heap[n0]? = some (.deferred (some [])) := (OL n0 om (fun yM => by
   rcases yM with h | ⟨o, ho, ug⟩
   ·omega
   ·have := (ET o ho n0 ug).1; omega)).trans S3
  have OM : ¬ G.K n0 := fun hk => by have h1 := hi.small n0 hk; have h2 := hi.size; omega
  have Gk : ∀ b, G.K b → b < n0 := fun b hb => by have h1 := hi.small b hb; have h2 := hi.size; omega
  let G2 : Ctx := ⟨fun b => G.K b ∨ b = n0, W4, E0.φ, G.β0, G.fn, [{ target := .collected n0, args := #[] }] ++ G.ds⟩
  refine ⟨G2, ?_, ⟨st.aD, O gen ++ st.aG⟩, ⟨⟨E0.φ, E0.β, W4⟩, IL, rfl, ?_⟩, k⟩
  ·refine ⟨rfl, fun b hb => .inl hb, fun b hb => ?_, ?_, ?_, ?_, ?_, hi.φ0, hi.grow, fun _ _ => rfl, [n0], rfl, by simp, fun D hD => ?_⟩
   ·exact (Gj b (Gk b hb) (fun o ho ug => (hi.own _ b ug).2 hb)).trans (hi.ah b hb)
   ·have := hi.size; show G.w0.heap.size ≤ W4.heap.size; omega
   ·exact (show W4.os = _ by rw [← HV]; exact (hk.os.trans HR.1).trans hi.os)
   ·exact (show W4.tape = _ by rw [← HV]; exact (hk.tape.trans HR.2.1).trans hi.tape)
   ·exact (show W4.output = _ by rw [← HV]; exact (hk.output.trans HR.2.2).trans hi.output)
   ·rw [List.mem_singleton.1 hD]; exact ⟨.inr rfl, OM, SB⟩
  ·have gx : ∀ p, (∀ o ∈ ν, p ≠ .obj o) → E0.On ⟨E0.φ, E0.β, W4⟩ (IL p) := fun p hp => ⟨fun _ _ _ h => h, fun b hb => ⟨Gj b (by rw [wD]; exact (hi.own p b hb).1) (fun o ho ug => hi.apart p (.obj o) (hp o ho) b hb ug), fun h i => h i⟩⟩
   constructor
   case kR =>
    intro b i v hv
    have h1 := xR b i v hv
    have h2 := M0 b i v hv
    unfold World.cell? at h1 ⊢
    show (match W4.heap[b]? with | some (.cells cs _ _) => cs[i]? | _ => none) = _
    rw [OL b om (fun hb => by rw [IJ b i hb] at hv; cases hv)]; exact h1
   case aD => exact fun s x hx => RX.mono x _ _ (gx _ (fun o _ => by simp)) (fun _ _ => rfl) (hi.aD s x hx)
   case aG =>
    intro o ob dm
    rcases wq dm with h1 | ⟨h1, h2⟩
    ·have ho : o ∈ ν := by rw [← HQ gen]; exact lC h1
     rw [(xP o ho).1]
     exact dG.mono (E := ⟨E0.φ, E0.β, W3⟩) ⟨fun _ _ _ h => h, fun b hb => ⟨by rw [← HV]; exact World.putObj_heap_other (by have := (ET o ho b hb).1; omega), fun h i => h i⟩⟩ rfl (fun _ _ _ _ => rfl) (j5 o ob h1)
    ·rw [HQ gen] at h1
     exact dG.mono (gx _ (fun o' lp e => by cases e; exact h1 lp)) rfl (fun _ _ _ _ => rfl) (hi.aG o ob h2)
   case nodup => exact hi.nodup
   case apart => exact hi.apart
   case own =>
    intro p b hb
    have h1 := hi.own p b hb
    refine ⟨by show b < W4.heap.size; omega, fun hk => ?_⟩
    rcases hk with h2 | h2
    ·exact h1.2 h2
    ·omega
   case ah => exact fun _ _ => rfl
   case size => exact Nat.le_refl _
   case small =>
    rintro b (hb | hb)
    ·have := Gk b hb; show b < W4.heap.size; omega
    ·show b < W4.heap.size; omega
   case os => rfl
   case tape => rfl
   case output => rfl
   case φ0 => exact fun _ _ _ h => h
   case grow => exact fun _ _ _ h => .inl h
   case fixed => exact hi.fixed
   case tmps => exact hi.tmps
   case defers => show _ ++ a.defers = _ ++ G.ds; rw [hi.defers]
end
end Go.AW
namespace Go.AW
open Go
section
variable {P : Program} {Y : r8 P} {N : eL} {s : oM} {Q : Exit → oM → Prop}
theorem aJ.nn {x y : Code} (J : oM) (I : Prop) (hx : aJ P Y N x s (mG (fun aT => I ∧ uU aT J) Q)) (hy : I → aJ P Y N y J Q) : aJ P Y N (.seq x y) s Q :=
 aJ.join (fun _ : Unit => J) (fun _ => I) (hx.mono fun e _ h => by cases e <;> first | exact ⟨(), h⟩ | exact h) (fun _ h => hy h)
theorem aJ.fY {α0 : Type} {c : Code} (S : α0 → oM) (I : α0 → Prop) (μ : α0 → Nat) (i0 : α0) (hi : I i0) (hs : uU s (S i0))
  (round : ∀ a0, I a0 → aJ P Y N c (S a0) (mG (fun aT => ∃ b0, I b0 ∧ μ b0 < μ a0 ∧ uU aT (S b0)) Q)) : aJ P Y N (.loop c) s Q :=
 aJ.loop (ι := α0) (fun u => S u) (fun u => I u) (fun u => μ u) i0 hi hs (fun u h => (round u h).mono fun e _ h => by
  cases e <;> first | exact h | (obtain ⟨b0, h⟩ := h; exact ⟨b0, h⟩))
theorem aJ.fb {α0 : Type} {x y : Code} (J : α0 → oM) (I : α0 → Prop) (hx : aJ P Y N x s (mG (fun aT => ∃ b0, I b0 ∧ uU aT (J b0)) Q)) (hy : ∀ a0, I a0 → aJ P Y N y (J a0) Q) : aJ P Y N (.seq x y) s Q :=
 aJ.join (ι := α0) (fun u => J u) (fun u => I u) (hx.mono fun e _ h => by cases e <;> first | exact h | (obtain ⟨b0, h⟩ := h; exact ⟨b0, h⟩)) (fun u h => hy u h)
theorem aJ.e0 {α0 α1 : Type} {c : Code} (S : α0 → α1 → oM) (I : α0 → α1 → Prop) (μ : α0 → α1 → Nat) (i0 : α0) (i1 : α1) (hi : I i0 i1) (hs : uU s (S i0 i1))
  (round : ∀ a0 a1, I a0 a1 → aJ P Y N c (S a0 a1) (mG (fun aT => ∃ b0 b1, I b0 b1 ∧ μ b0 b1 < μ a0 a1 ∧ uU aT (S b0 b1)) Q)) : aJ P Y N (.loop c) s Q :=
 aJ.loop (ι := α0 × α1) (fun u => S u.1 u.2) (fun u => I u.1 u.2) (fun u => μ u.1 u.2) (i0, i1) hi hs (fun u h => (round u.1 u.2 h).mono fun e _ h => by
  cases e <;> first | exact h | (obtain ⟨b0, b1, h⟩ := h; exact ⟨(b0, b1), h⟩))
theorem aJ.np {α0 α1 : Type} {x y : Code} (J : α0 → α1 → oM) (I : α0 → α1 → Prop) (hx : aJ P Y N x s (mG (fun aT => ∃ b0 b1, I b0 b1 ∧ uU aT (J b0 b1)) Q)) (hy : ∀ a0 a1, I a0 a1 → aJ P Y N y (J a0 a1) Q) : aJ P Y N (.seq x y) s Q :=
 aJ.join (ι := α0 × α1) (fun u => J u.1 u.2) (fun u => I u.1 u.2) (hx.mono fun e _ h => by cases e <;> first | exact h | (obtain ⟨b0, b1, h⟩ := h; exact ⟨(b0, b1), h⟩)) (fun u h => hy u.1 u.2 h)
theorem aJ.jt {α0 α1 α2 : Type} {c : Code} (S : α0 → α1 → α2 → oM) (I : α0 → α1 → α2 → Prop) (μ : α0 → α1 → α2 → Nat) (i0 : α0) (i1 : α1) (i2 : α2) (hi : I i0 i1 i2) (hs : uU s (S i0 i1 i2))
  (round : ∀ a0 a1 a2, I a0 a1 a2 → aJ P Y N c (S a0 a1 a2) (mG (fun aT => ∃ b0 b1 b2, I b0 b1 b2 ∧ μ b0 b1 b2 < μ a0 a1 a2 ∧ uU aT (S b0 b1 b2)) Q)) : aJ P Y N (.loop c) s Q :=
 aJ.loop (ι := α0 × α1 × α2) (fun u => S u.1 u.2.1 u.2.2) (fun u => I u.1 u.2.1 u.2.2) (fun u => μ u.1 u.2.1 u.2.2) (i0, i1, i2) hi hs (fun u h => (round u.1 u.2.1 u.2.2 h).mono fun e _ h => by
  cases e <;> first | exact h | (obtain ⟨b0, b1, b2, h⟩ := h; exact ⟨(b0, b1, b2), h⟩))
theorem aJ.vE {α0 α1 α2 : Type} {x y : Code} (J : α0 → α1 → α2 → oM) (I : α0 → α1 → α2 → Prop) (hx : aJ P Y N x s (mG (fun aT => ∃ b0 b1 b2, I b0 b1 b2 ∧ uU aT (J b0 b1 b2)) Q)) (hy : ∀ a0 a1 a2, I a0 a1 a2 → aJ P Y N y (J a0 a1 a2) Q) : aJ P Y N (.seq x y) s Q :=
 aJ.join (ι := α0 × α1 × α2) (fun u => J u.1 u.2.1 u.2.2) (fun u => I u.1 u.2.1 u.2.2) (hx.mono fun e _ h => by cases e <;> first | exact h | (obtain ⟨b0, b1, b2, h⟩ := h; exact ⟨(b0, b1, b2), h⟩)) (fun u h => hy u.1 u.2.1 u.2.2 h)
theorem aJ.vF {α0 α1 α2 α3 : Type} {c : Code} (S : α0 → α1 → α2 → α3 → oM) (I : α0 → α1 → α2 → α3 → Prop) (μ : α0 → α1 → α2 → α3 → Nat) (i0 : α0) (i1 : α1) (i2 : α2) (i3 : α3) (hi : I i0 i1 i2 i3) (hs : uU s (S i0 i1 i2 i3))
  (round : ∀ a0 a1 a2 a3, I a0 a1 a2 a3 → aJ P Y N c (S a0 a1 a2 a3) (mG (fun aT => ∃ b0 b1 b2 b3, I b0 b1 b2 b3 ∧ μ b0 b1 b2 b3 < μ a0 a1 a2 a3 ∧ uU aT (S b0 b1 b2 b3)) Q)) : aJ P Y N (.loop c) s Q :=
 aJ.loop (ι := α0 × α1 × α2 × α3) (fun u => S u.1 u.2.1 u.2.2.1 u.2.2.2) (fun u => I u.1 u.2.1 u.2.2.1 u.2.2.2) (fun u => μ u.1 u.2.1 u.2.2.1 u.2.2.2) (i0, i1, i2, i3) hi hs (fun u h => (round u.1 u.2.1 u.2.2.1 u.2.2.2 h).mono fun e _ h => by
  cases e <;> first | exact h | (obtain ⟨b0, b1, b2, b3, h⟩ := h; exact ⟨(b0, b1, b2, b3), h⟩))
theorem aJ.yw {α0 α1 α2 α3 : Type} {x y : Code} (J : α0 → α1 → α2 → α3 → oM) (I : α0 → α1 → α2 → α3 → Prop) (hx : aJ P Y N x s (mG (fun aT => ∃ b0 b1 b2 b3, I b0 b1 b2 b3 ∧ uU aT (J b0 b1 b2 b3)) Q)) (hy : ∀ a0 a1 a2 a3, I a0 a1 a2 a3 → aJ P Y N y (J a0 a1 a2 a3) Q) : aJ P Y N (.seq x y) s Q :=
 aJ.join (ι := α0 × α1 × α2 × α3) (fun u => J u.1 u.2.1 u.2.2.1 u.2.2.2) (fun u => I u.1 u.2.1 u.2.2.1 u.2.2.2) (hx.mono fun e _ h => by cases e <;> first | exact h | (obtain ⟨b0, b1, b2, b3, h⟩ := h; exact ⟨(b0, b1, b2, b3), h⟩)) (fun u h => hy u.1 u.2.1 u.2.2.1 u.2.2.2 h)
end
mutual
theorem EV {q : Nat} : ∀ {x : X}, x.nr = true → x.dN q = false
 | .v _, _ | .no, _ | .fz .., _ | .ei .., _ | .fp .., _ => rfl
 | .ptr .., h => by cases h
 | .ba .., h => by cases h
 | .mref _, h => by cases h
 | .agg xs, h => jZ (xs := xs) h
 | .tup xs, h => jZ (xs := xs) h
 | .gB _ a b, h => by
  simp only [X.nr, Bool.and_eq_true] at h
  simp only [X.dN, jZ h.1, jZ h.2, Bool.or_self]
theorem jZ {q : Nat} : ∀ {xs : List X}, X.gA xs = true → X.cG q xs = false
 | [], _ => rfl
 | x :: r, h => by
  simp only [X.gA, Bool.and_eq_true] at h
  simp only [X.cG, EV h.1, jZ h.2, Bool.or_self]
end
theorem r9.cells {ν : List Nat} {xs : List X} (hp : X.iB xs) (hn : X.gA xs = true) : r9 ν (.cells xs) :=
 ⟨hp, trivial, by simp, fun ys e q h => by cases e; rw [jZ hn] at h; cases h⟩
theorem r9.rows {ν : List Nat} {s : Nat} {rs : List (List X)} (hp : X.lR rs) (h0 : ∀ r ∈ rs, X.b9 r = true) : r9 ν (.rows s rs) := ⟨hp, h0, by simp, fun ys e => by cases e⟩
theorem Am {p : Obj → Prop} {m : Nat} {a : Obj} (h : p a) : ∀ {o : Nat} {ob : Obj}, look [(m, a)] o = some ob → p ob := fun {o ob} e => by
 simp only [look] at e
 cases hb : Nat.beq m o <;> rw [hb] at e <;> simp only [cond_true, cond_false, Option.some.injEq, reduceCtorEq] at e
 subst e; exact h
theorem qJ {p : Obj → Prop} {m n : Nat} {a b : Obj} (h : p a) (h' : p b) : ∀ {o : Nat} {ob : Obj}, look [(m, a), (n, b)] o = some ob → p ob := fun {o ob} e => by
 rw [look] at e
 cases hb : Nat.beq m o with
 | true => rw [hb] at e; simp only [cond_true, Option.some.injEq] at e; subst e; exact h
 | false => rw [hb] at e; exact Am h' e
end Go.AW
