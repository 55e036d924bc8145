/- Part of the abstract walk: guarded operations that look at no memory, in open orders. -/
import Derived.Test.YtligpghohcfpnaaAWx1
import Derived.Lib.AppendZeros
import Derived.Lib.SliceRun
import Derived.KernelRfl
import Derived.DataShut
import Derived.Laws.StructEq
import Derived.OrdersHeld
set_option linter.unusedSimpArgs false
set_option linter.unusedVariables false
set_option linter.unusedSectionVars false
namespace Go.AW
open Go

section
variable {P : Program} {N : Frm} {ops : Array Oper} {st : St} {d : Nat} {ty : TypeId} {pos : String} {af : Array Edge} {K : St → Prop}
theorem AAny.skipOp {n : Nat} {listed : Array Bool} (i : Nat) {op : Op} {j dj : Nat} {want : Bool} {u : Value} (ho : ops[i]? = some ⟨some d, op, ty, pos, af, some (j, want)⟩)
  (hB : (Region.noSelect ops && Region.free .any ops listed i && (Region.ready .any ops listed).contains i) = true)
  (hj : (ops[j]?).bind (·.dst) = some dj) (hdj : dj < N.n) (hd : d < N.n) (hx : look st.slots dj = some (.v u)) (hne : notB want u = true)
  (k : AAny P N ops n (listed.setIfInBounds i true) (st.put d (.v undef)) K) : AAny P N ops (n + 1) listed st K := by
 intro G hn a w hh
 obtain ⟨E, RR, rfl, hi⟩ := hh
 simp only [Bool.and_eq_true] at hB
 have hw := unwanted (all := ops) (dst := some d) (op := op) (ty := ty) (pos := pos) (af := af) hi hj (hn ▸ hdj) hx hne
 refine wpAny_take (v := undef) ho hB.1.1 hB.1.2 hB.2 ?_ (.inr ⟨hw, rfl⟩) (k G hn _ _ ⟨E, _, rfl, hi.put0 (hn ▸ hd) (by simp [RX])⟩)
 intro c a w h
 cases h.1
theorem AAny.blindRun {n : Nat} {listed : Array Bool} (i : Nat) {op : Op} {x : X} {j dj : Nat} {want : Bool} (ho : ops[i]? = some ⟨some d, op, ty, pos, af, some (j, want)⟩)
  (hB : (Region.noSelect ops && Region.free .any ops listed i && (Region.ready .any ops listed).contains i) = true)
  (hj : (ops[j]?).bind (·.dst) = some dj) (hdj : dj < N.n) (hx : look st.slots dj = some (.v (.bool want))) (hy : Blind P N st ⟨some d, op, ty, pos, af, some (j, want)⟩ x) (hd : d < N.n)
  (k : AAny P N ops n (listed.setIfInBounds i true) (st.put d x) K) : AAny P N ops (n + 1) listed st K := by
 intro G hn a w hh
 obtain ⟨E, RR, rfl, hi⟩ := hh
 obtain ⟨u, hr, hx'⟩ := hy G E RR a hn hi
 simp only [Bool.and_eq_true] at hB
 have hs := hi.slots dj _ hx
 simp only [RX] at hs
 have hsz : dj < a.tmps.size := by rw [hi.tmps, hn]; exact hdj
 have hv : a.tmps[dj]? = some (.bool want) := by
  have := hs.1
  simp only [Array.getD, hsz, dif_pos] at this
  rw [Array.getElem?_eq_getElem hsz]
  exact congrArg some this
 have hw : Region.wanted ⟨some d, op, ty, pos, af, some (j, want)⟩ (yielded ops a.tmps) = true := by
  simp [Region.wanted, yielded, hj, hv]
 refine wpAny_take (v := u) ho hB.1.1 hB.1.2 hB.2 ?_ (.inl ⟨hw, hr⟩) (k G hn _ _ ⟨E, _, rfl, hi.put0 (hn ▸ hd) hx'⟩)
 intro c a w h
 cases h.1
end
end Go.AW
/- Part of the abstract walk: slices.Grow of no slice. -/
namespace Go.AW
open Go

section
variable {P : Program} {N : Frm} {G : Ctx} {E : Env} {RR : Own → List Nat} {st : St} {a : Act} {Q : Exit → St → Prop} {all : Array Oper} {rest : List Oper} {d : Nat} {dst : Option Nat} {ty : TypeId} {pos : String} {af : Array Edge} {g : Option (Nat × Bool)}
theorem Y.capNil {t e s by_ : Nat} {x : Operand} (ht : TY.slice P t = some (e, s, by_)) (hx : opd st x = some (.v (.slice none 0 0))) :
  Yields P N st ⟨dst, .call ⟨.builtin .cap, #[x], #[t]⟩, ty, pos, af, g⟩ (.v (.int .i64 0)) := by
 intro G E RR a _ hi
 refine ⟨.int .i64 0, run_callB ?_, by simp [RX]⟩
 obtain ⟨hu, _⟩ := TY.slice_spec ht
 have hc := hi.val hx
 simp [builtin, Builtin.cap_, hc, run_underlying hu, goInt]
theorem Y.sliceNil {t e s by_ : Nat} {x : Operand} {lo hi' : Option Operand} (ht : TY.slice P t = some (e, s, by_)) (hx : opd st x = some (.v (.slice none 0 0))) (hl : Bd st lo 0 0) (hh : Bd st hi' 0 0) :
  Yields P N st ⟨dst, .slice t x lo hi' none, ty, pos, af, g⟩ (.v (.slice none 0 0)) := by
 intro G E RR a _ hi
 obtain ⟨hun, i, hinf, hsz, _⟩ := TY.slice_spec ht
 have hc := hi.val hx
 refine ⟨.slice none 0 0, ?_, by simp [RX]⟩
 show (do let z ← Instr.sliceAt t (a.eval x) (lo.map a.eval) (hi'.map a.eval) none; pure (Next.value z) : Sem Next).run P E.w = _
 rw [hc]
 refine run_v ?_
 simp only [Instr.sliceAt, Sem.run_bind, run_underlying hun, Result.andThen_ok, Instr.slice, run_sliceBounds hi hl hh (Nat.le_refl 0) (Nat.le_refl 0), run_sizeOf hinf, hsz]
 rfl
theorem AOps.appendMake {t tn e s by_ n : Nat} {x y : Operand} {z : List Value} {k kn : IntKind} (ht : TY.slice P t = some (e, s, by_)) (hz : TY.zero P e = some z) (hzl : z.length = s) (h1 : X.ones (z.map X.v) = true) (htn : TY.isInt P tn = some kn)
  (hx : opd st x = some (.v (.slice none 0 0))) (hy : opd st y = some (.v (.int k (n : Int)))) (h0 : 0 < n) (hs0 : 0 < s) (hb : n * by_ ≤ 281474976710656) (h63 : n ≤ 9223372036854775807) (hd : d < N.n)
  (kk : AOps P N all rest (st.put d (.uni s (List.replicate n (z.map X.v)))) Q) : AOps P N all (⟨some d, .call ⟨.builtin .append, #[x, y], #[t, tn]⟩, ty, pos, af, none⟩ :: rest) st Q := by
 refine AOps.eff (fun G E RR a hn hi => ?_) kk
 obtain ⟨hu, i, hinf, hs, hby⟩ := TY.slice_spec ht
 obtain ⟨i', z0, hi0, hz0, hzz⟩ := TY.zero_spec hz
 rw [hinf] at hi0
 obtain rfl := Option.some.inj hi0
 have hzz' : z0.cells = z.toArray := by rw [← hzz]
 have hrun := Lib.run_append_nil_zeros (P := P) E.w t tn ty e i z0 k kn hu (by unfold TY.isInt at htn; split at htn <;> simp_all : P.underlying tn = some (.int kn)) hinf hz0 n h0 (by rw [hs]; exact hs0) (by omega) (by rw [hby]; exact hb)
 rw [hzz'] at hrun
 have hU : Uniform s (List.replicate n (z.map X.v)) := by
  intro r hr
  rw [(List.mem_replicate.1 hr).2]; simpa using hzl
 have hi2 := hi.moves (Moves.drew G E) rfl
 have hcap := grownCap_ge E.w n 0 e
 have hsz : (Builtin.zeroCells z.toArray n ++ Builtin.zeroCells z.toArray (grownCap E.w n 0 e - n)).size = grownCap E.w n 0 e * s := by
  rw [Array.size_append, size_zeroCells, size_zeroCells, ← Nat.add_mul]
  simp only [List.size_toArray, hzl]
  congr 1; omega
 obtain ⟨RR', hi'⟩ := hi2.newRow (cs := Builtin.zeroCells z.toArray n ++ Builtin.zeroCells z.toArray (grownCap E.w n 0 e - n)) (e := e) (s := s) (cap := grownCap E.w n 0 e) (d := d) hU (by rw [List.length_replicate]; exact hcap) (by rw [hsz]; exact Nat.le_refl _) (by
  refine ROr.of_all hU fun j row hr => ?_
  have hj : j < n := by
   rcases Nat.lt_or_ge j n with h' | h'
   ·exact h'
   ·rw [List.getElem?_eq_none (by rw [List.length_replicate]; exact h')] at hr; cases hr
  have : row = z.map X.v := by
   have := List.mem_of_getElem? hr
   exact (List.mem_replicate.1 this).2
  subst this
  refine ⟨nrs_v z, RXs.toRO (RXs_v h1) fun q hq => ?_⟩
  have hq' : q < s := by simpa [hzl] using hq
  have hlt : j * s + q < n * s := by
   have : (j + 1) * s ≤ n * s := Nat.mul_le_mul_right s hj
   rw [Nat.add_mul] at this; omega
  have hqz : q < z.length := by omega
  rw [Array.getElem?_append_left (by rw [size_zeroCells]; simp only [List.size_toArray, hzl]; omega)]
  simp only [Nat.zero_add, Builtin.zeroCells]
  rw [Array.getElem?_map, Array.getElem?_range, if_pos (by simpa [hzl] using hlt)]
  simp only [Option.map_some, List.size_toArray, hzl, mod_of hq']
  rw [List.getElem?_eq_getElem hqz]
  simp [hqz]) (by rw [hn]; exact hd)
 simp only [List.length_replicate] at hi'
 refine ⟨_, _, _, ?_, hi'⟩
 refine run_callB (g := none) ?_
 have e' : (#[x, y] : Array Operand).map a.eval = #[.slice none 0 0, .int k (n : Int)] := by simp [hi.val hx, hi.val hy]
 rw [e']
 exact run_v hrun
theorem Sh.trimE {d o s lo n : Nat} {rs : List (List X)} (rs' : List (List X)) (hx : look st.slots d = some (.slc o s lo n)) (ho : look st.objs o = some (.rows s rs)) (hln : lo + n ≤ rs.length) (he : (rs.drop lo).take n = rs') (hF : N.F.elem o = false) :
  Sh N st (((st.kill o).putO o (.rows s rs')).put d (.slc o s 0 n)) := by subst he; exact Sh.trim hx ho hln hF
end
end Go.AW
/- Part of the abstract walk: a slice of one's own is taken out of the slice that holds it. -/
namespace Go.AW
open Go

theorem X.nrs_set : ∀ {xs : List X} (k : Nat), X.nrs xs = true → X.nrs (xs.set k .no) = true
 | [], _, _ => rfl
 | x :: r, 0, h => by
  simp only [X.nrs, Bool.and_eq_true] at h
  simp [List.set, X.nrs, X.nr, h.2]
 | x :: r, k + 1, h => by
  simp only [X.nrs, Bool.and_eq_true] at h
  simp [List.set, X.nrs, h.1, X.nrs_set k h.2]
theorem RO.pick {E : Env} {cs : Array Value} {y : X} : ∀ {xs : List X} {off k : Nat} {R : List Nat}, RO E xs cs off R → xs[k]? = some y →
  ∃ u Ry R1, cs[off + k]? = some u ∧ Single u ∧ RX E y u Ry ∧ RO E (xs.set k .no) cs off R1 ∧ (R.Nodup → (Ry ++ R1).Nodup) ∧ ∀ b ∈ Ry ++ R1, b ∈ R
 | [], _, _, _, _, h => by simp at h
 | x :: r, off, 0, R, h, hy => by
  simp only [RO] at h
  obtain ⟨u, R₁, R₂, hu, hs, h1, h2, rfl⟩ := h
  simp only [List.getElem?_cons_zero, Option.some.injEq] at hy
  subst hy
  refine ⟨u, R₁, R₂, hu, hs, h1, ?_, fun h => h, fun b hb => hb⟩
  simp only [List.set, RO]
  exact ⟨u, [], R₂, hu, hs, by simp [RX], h2, rfl⟩
 | x :: r, off, k + 1, R, h, hy => by
  simp only [RO] at h
  obtain ⟨u, R₁, R₂, hu, hs, h1, h2, rfl⟩ := h
  simp only [List.getElem?_cons_succ] at hy
  obtain ⟨v, Ry, R', hv, hsv, hvy, hro, hnd, hsub⟩ := RO.pick h2 hy
  refine ⟨v, Ry, R₁ ++ R', by rw [show off + (k + 1) = off + 1 + k by omega]; exact hv, hsv, hvy, ?_, fun hn => ?_, fun b hb => ?_⟩
  ·simp only [List.set, RO]
   exact ⟨u, R₁, R', hu, hs, h1, hro, rfl⟩
  ·obtain ⟨n1, n2, n3⟩ := List.nodup_append.1 hn
   have h3 := hnd n2
   rw [← List.append_assoc, List.nodup_append]
   obtain ⟨m1, m2, m3⟩ := List.nodup_append.1 h3
   refine ⟨?_, m2, fun a ha b hb => ?_⟩
   ·rw [List.nodup_append]
    exact ⟨m1, n1, fun a ha b hb e => n3 b hb a (hsub a (List.mem_append.2 (.inl ha))) e.symm⟩
   ·rcases List.mem_append.1 ha with h | h
    ·exact m3 a h b hb
    ·exact n3 a h b (hsub b (List.mem_append.2 (.inr hb)))
  ·rcases List.mem_append.1 hb with h | h
   ·exact List.mem_append.2 (.inr (hsub b (List.mem_append.2 (.inl h))))
   ·rcases List.mem_append.1 h with h | h
    ·exact List.mem_append.2 (.inl h)
    ·exact List.mem_append.2 (.inr (hsub b (List.mem_append.2 (.inr h))))
theorem ROr.pick {E : Env} {cs : Array Value} {y : X} {s : Nat} : ∀ {rs : List (List X)} {row : List X} {off i k : Nat} {R : List Nat}, Uniform s rs → ROr E rs cs off R → rs[i]? = some row → row[k]? = some y →
  ∃ u Ry R1, cs[off + (i * s + k)]? = some u ∧ Single u ∧ RX E y u Ry ∧ ROr E (rs.set i (row.set k .no)) cs off R1 ∧ (R.Nodup → (Ry ++ R1).Nodup) ∧ ∀ b ∈ Ry ++ R1, b ∈ R
 | [], _, _, _, _, _, _, _, h, _ => by simp at h
 | r :: rs, row, off, 0, k, R, _, h, hr, hy => by
  simp only [ROr] at h
  obtain ⟨R₁, R₂, hn, h1, h2, rfl⟩ := h
  simp only [List.getElem?_cons_zero, Option.some.injEq] at hr
  subst hr
  obtain ⟨u, Ry, R', hu, hs, hvy, hro, hnd, hsub⟩ := RO.pick h1 hy
  refine ⟨u, Ry, R' ++ R₂, by rw [Nat.zero_mul, Nat.zero_add]; exact hu, hs, hvy, ?_, fun hn' => ?_, fun b hb => ?_⟩
  ·simp only [List.set, ROr, List.length_set]
   exact ⟨R', R₂, X.nrs_set k hn, hro, h2, rfl⟩
  ·obtain ⟨n1, n2, n3⟩ := List.nodup_append.1 hn'
   rw [← List.append_assoc, List.nodup_append]
   exact ⟨hnd n1, n2, fun a ha b hb => n3 a (hsub a ha) b hb⟩
  ·rw [← List.append_assoc] at hb
   rcases List.mem_append.1 hb with h | h
   ·exact List.mem_append.2 (.inl (hsub b h))
   ·exact List.mem_append.2 (.inr h)
 | r :: rs, row, off, i + 1, k, R, hU, h, hr, hy => by
  simp only [ROr] at h
  obtain ⟨R₁, R₂, hn, h1, h2, rfl⟩ := h
  simp only [List.getElem?_cons_succ] at hr
  have hl : r.length = s := hU r (List.mem_cons_self ..)
  obtain ⟨u, Ry, R', hu, hs, hvy, hro, hnd, hsub⟩ := ROr.pick (fun x hx => hU x (List.mem_cons_of_mem _ hx)) h2 hr hy
  refine ⟨u, Ry, R₁ ++ R', by rw [show off + ((i + 1) * s + k) = off + r.length + (i * s + k) by rw [Nat.add_mul, hl]; omega]; exact hu, hs, hvy, ?_, fun hn' => ?_, fun b hb => ?_⟩
  ·simp only [List.set, ROr]
   exact ⟨R₁, R', hn, h1, hro, rfl⟩
  ·obtain ⟨n1, n2, n3⟩ := List.nodup_append.1 hn'
   have h3 := hnd n2
   rw [← List.append_assoc, List.nodup_append]
   obtain ⟨m1, m2, m3⟩ := List.nodup_append.1 h3
   refine ⟨?_, m2, fun a ha b hb => ?_⟩
   ·rw [List.nodup_append]
    exact ⟨m1, n1, fun a ha b hb e => n3 b hb a (hsub a (List.mem_append.2 (.inl ha))) e.symm⟩
   ·rcases List.mem_append.1 ha with h | h
    ·exact m3 a h b hb
    ·exact n3 a h b (hsub b (List.mem_append.2 (.inr hb)))
  ·rcases List.mem_append.1 hb with h | h
   ·exact List.mem_append.2 (.inr (hsub b (List.mem_append.2 (.inl h))))
   ·rcases List.mem_append.1 h with h | h
    ·exact List.mem_append.2 (.inl h)
    ·exact List.mem_append.2 (.inr (hsub b (List.mem_append.2 (.inr h))))
section
variable {P : Program} {N : Frm} {st : St} {Q : Exit → St → Prop} {all : Array Oper} {rest : List Oper} {d : Nat} {ty : TypeId} {pos : String} {af : Array Edge}
theorem AOps.loadU {t : TypeId} {x : Operand} {o s i k : Nat} {y : X} {row : List X} {rs : List (List X)} (rs' : List (List X)) (ht : TY.shape P t = some none) (hx : opd st x = some (.ptr o s i k)) (ho : look st.objs o = some (.rows s rs)) (hr : rs[i]? = some row) (hy : row[k]? = some y)
  (he : rs.set i (row.set k .no) = rs') (hd : d < N.n) (kk : AOps P N all rest ((st.putO o (.rows s rs')).put d y) Q) :
  AOps P N all (⟨some d, .load t x, ty, pos, af, none⟩ :: rest) st Q := by
 subst he
 refine AOps.eff (fun G E RR a hn hi => ?_) kk
 obtain ⟨R, hp⟩ := hi.eval hx
 simp only [RX] at hp
 obtain ⟨_, B, hB, hc⟩ := hp
 have hob := hi.objs o _ ho
 have hnd := hi.nodup (.obj o)
 simp only [ROb] at hob
 obtain ⟨hu, hob⟩ := hob
 rcases hob with ⟨_, h, _⟩ | ⟨B', cs, tb, R', hB', hw, hφ, hcap, hlen, hRO, hRR⟩
 ·subst h; simp at hr
 rw [hB] at hB'
 obtain rfl := Option.some.inj hB'
 obtain ⟨u, Ry, R1, hcu, hs, hvy, hro, hnod, hsub⟩ := ROr.pick hu hRO hr hy
 rw [hRR] at hnd
 obtain ⟨hnin, hnd'⟩ := List.nodup_cons.1 hnd
 have hn2 := hnod hnd'
 obtain ⟨m1, m2, m3⟩ := List.nodup_append.1 hn2
 have hsubo : ∀ b ∈ Ry ++ R1, b ∈ RR (.obj o) := fun b hb => by rw [hRR]; exact List.mem_cons.2 (.inr (hsub b hb))
 have hi2 : Inv G E (upd RR (.obj o) (B.b :: R1)) (st.putO o (.rows s (rs.set i (row.set k .no)))) a := by
  refine hi.putO ?_ ?_ ?_
  ·simp only [ROb]
   refine ⟨hu.set (by rw [List.length_set]; exact hu row (List.mem_of_getElem? hr)), .inr ⟨B, cs, tb, R1, hB, hw, hφ, by simpa using hcap, hlen, hro, rfl⟩⟩
  ·exact List.nodup_cons.2 ⟨fun h => hnin (hsub _ (List.mem_append.2 (.inr h))), m2⟩
  ·intro b hb
   have hbm : b ∈ RR (.obj o) := by
    rcases List.mem_cons.1 hb with h | h
    ·rw [hRR, h]; simp
    ·exact hsubo b (List.mem_append.2 (.inr h))
   exact ⟨(hi.own _ _ hbm).1, (hi.own _ _ hbm).2, fun p hp h => hi.apart _ _ hp b h hbm⟩
 refine ⟨u, E, _, ?_, hi2.put (by rw [hn]; exact hd) hvy m1 fun b hb => ?_⟩
 ·show (do let z ← Instr.loadAt t (a.eval x); pure (Next.value z) : Sem Next).run P E.w = _
  rw [hc]
  refine run_v ?_
  have hcell : E.w.cell? ⟨B.b, B.off + (i * s + k), none⟩ = some u := by rw [cell_of_heap hw]; exact hcu
  simp only [Instr.loadAt, Instr.sureAddr, loadVar, Sem.run_bind, Sem.run_pure, Result.andThen_ok, (TY.shape_none ht E.w).1]
  simp [hcell]
 ·have hbm := hsubo b (List.mem_append.2 (.inl hb))
  refine ⟨(hi.own _ _ hbm).1, (hi.own _ _ hbm).2, fun p hp h => ?_⟩
  unfold upd at h
  split at h
  ·rename_i hpo
   rcases List.mem_cons.1 h with h' | h'
   ·exact hnin (h' ▸ hsub b (List.mem_append.2 (.inl hb)))
   ·exact m3 b hb b h' rfl
  ·rename_i hpo
   exact hi.apart _ _ hpo b h hbm
theorem AOps.storeUE {t : TypeId} {x : Operand} {o s i k ys' tv : Nat} {rows : List (List X)} {rw' : List X} {rs : List (List X)} (rs' : List (List X)) (ht : TY.size P t = some 1) (hx : opd st x = some (.ptr o s i k)) (hy : look st.slots tv = some (.uni ys' rows))
  (ho : look st.objs o = some (.rows s rs)) (hr : rs[i]? = some rw') (hk : k + 1 ≤ rw'.length) (he : rs.set i (putL rw' k [.uni ys' rows]) = rs') (kk : AOps P N all rest ((st.put tv .no).putO o (.rows s rs')) Q) :
  AOps P N all (⟨none, .store t x (.tmp tv), ty, pos, af, none⟩ :: rest) st Q := by
 subst he; exact AOps.storeU ht hx hy (row := []) rfl ho hr hk kk
end
end Go.AW
/- Part of the abstract walk: slices of slices of one's own. -/
namespace Go.AW
open Go

theorem RO.nilu {E : Env} {cs : Array Value} {e off : Nat} {R : List Nat} (h : RO E [.v (.slice none 0 0)] cs off R) : RO E [.uni e []] cs off R := by
 simp only [RO] at h ⊢
 obtain ⟨u, R₁, R₂, hu, hs, h1, h2, h3⟩ := h
 simp only [RX] at h1
 refine ⟨u, R₁, R₂, hu, hs, ?_, h2, h3⟩
 simp only [RX]
 exact ⟨fun _ h => (by cases h), none, 0, h1.1, .inl ⟨by trivial, by trivial, h1.2⟩⟩
theorem ROr.nilu {E : Env} {cs : Array Value} {e : Nat} : ∀ {n off : Nat} {R : List Nat}, ROr E (List.replicate n [.v (.slice none 0 0)]) cs off R → ROr E (List.replicate n [.uni e []]) cs off R
 | 0, _, _, h => by simpa [ROr] using h
 | n + 1, off, R, h => by
  simp only [List.replicate_succ, ROr] at h ⊢
  obtain ⟨R₁, R₂, _, h1, h2, h3⟩ := h
  exact ⟨R₁, R₂, rfl, h1.nilu, ROr.nilu h2, h3⟩
section
variable {N : Frm} {st : St} {d : Nat}
theorem Sh.nilRows (e : Nat) {n : Nat} (hx : look st.slots d = some (.uni 1 (List.replicate n [.v (.slice none 0 0)]))) : Sh N st (st.put d (.uni 1 (List.replicate n [.uni e []]))) := by
 intro G hn a w hh
 obtain ⟨E, RR, rfl, hi⟩ := hh
 have hv := hi.slots d _ hx
 refine ⟨E, _, rfl, hi.relabel (d := d) (R := RR (.slot d)) ?_ (hi.nodup _) (fun b hb => ⟨(hi.own _ _ hb).1, (hi.own _ _ hb).2, fun p hp h => hi.apart _ _ hp b h hb⟩)⟩
 simp only [RX] at hv ⊢
 obtain ⟨_, base, cap, hc, h⟩ := hv
 refine ⟨fun r hr => by rw [(List.mem_replicate.1 hr).2]; rfl, base, cap, by simpa using hc, ?_⟩
 rcases h with ⟨h1, h2, h3⟩ | ⟨b, off, cs, ty, R', h1, h2, h3, h4, h5, h6, h7⟩
 ·refine .inl ⟨?_, h2, h3⟩
  have : n = 0 := by simpa using congrArg List.length h1
  subst this; rfl
 ·exact .inr ⟨b, off, cs, ty, R', h1, h2, by simpa using h3, h4, h5, h6.nilu, h7⟩
end
theorem out_get {α : Type} {l : List α} {f : α → List X} {m : Nat} {r : List X} (h : m < l.length) : ((l.map f).set (0 + m) r)[0 + m]? = some r := by
 rw [Nat.zero_add, List.getElem?_set_self (by simpa using h)]
theorem out_back {α : Type} {l : List α} {f : α → List X} {m : Nat} {r q : List X} {v : α} (h : q = f v) : ((l.map f).set (0 + m) r).set (0 + m) q = (l.set m v).map f := by
 rw [Nat.zero_add, List.set_set, h, List.map_set]
theorem trim_drop {α : Type} {l : List α} {f : α → List X} {m n : Nat} (h : n = l.length - m) : ((l.map f).drop (0 + m)).take n = (l.drop m).map f := by
 rw [Nat.zero_add, ← List.map_drop, List.take_of_length_le (by simp; omega)]
theorem X.ffzr_map {α : Type} {f g : α → List X} (h : ∀ a, X.ffzs (f a) = g a) : ∀ l : List α, X.ffzr (l.map f) = l.map g
 | [] => rfl
 | a :: r => by simp only [List.map_cons, X.ffzr, h, X.ffzr_map h r]
theorem Sh.freezeNest {α : Type} {f g : α → List X} {N : Frm} {st : St} {d s : Nat} {l : List α} (h : ∀ a, X.ffzs (f a) = g a) (hx : look st.slots d = some (.uni s (l.map f))) : Sh N st (st.put d (.fz s (l.map g))) :=
 Sh.freezeX hx (by simp only [X.ffz, X.ffzr_map h])
end Go.AW
/- Part of the abstract walk: is a frozen slice nil; a nil slice in a variable gets a name. -/
namespace Go.AW
open Go

section
variable {P : Program} {N : Frm} {st : St} {Q : Exit → St → Prop} {all : Array Oper} {rest : List Oper} {d : Nat} {ty : TypeId} {pos : String} {af : Array Edge}
theorem AOps.eqNil {t t' e s by_ : Nat} {x y : Operand} {s' : Nat} {rows : List (List X)} (ht : TY.slice P t = some (e, s, by_)) (hx : opd st x = some (.fz s' rows)) (hy : opd st y = some (.v (.slice none 0 0))) (hd : d < N.n)
  (k : ∀ b : Bool, (b = true → rows = []) → AOps P N all rest (st.put d (.v (.bool b))) Q) : AOps P N all (⟨some d, .binOp .eql t x y t', ty, pos, af, none⟩ :: rest) st Q := by
 intro G hn a w hh
 obtain ⟨E, RR, rfl, hi⟩ := hh
 obtain ⟨R, hp⟩ := hi.eval hx
 have hyv := hi.val hy
 obtain ⟨hu, _⟩ := TY.slice_spec ht
 simp only [RX] at hp
 obtain ⟨_, hU, base, cap, hc, hcase⟩ := hp
 have hr : (execOp a.eval ⟨some d, .binOp .eql t x y t', ty, pos, af, none⟩).run P E.w = .ok (.value (.bool base.isNone)) E.w := by
  show (do let x ← (do eqGuard .eql t x y (a.eval x) (a.eval y); binOp .eql t (a.eval x) (a.eval y) : Sem Value); pure (Next.value x) : Sem Next).run P E.w = _
  rw [hyv, hc]
  refine run_v ?_
  have := Lib.run_eql_slice_nil (P := P) E.w t e base rows.length cap 0 0 hu
  simp only [eqGuard, Sem.run_bind]
  simpa using this
 refine wpList_plain rfl fun K hK => ?_
 simp only [Oper.wp, hr, Oper.upon_value]
 refine hK _ _ (k base.isNone (fun h => ?_) G hn _ _ ⟨E, _, rfl, hi.put0 (by rw [hn]; exact hd) (by simp [RX])⟩)
 rcases hcase with ⟨h1, _⟩ | ⟨b, off, h1, _⟩
 ·exact h1
 ·rw [h1] at h; cases h
theorem RO.recell {E : Env} {cs : Array Value} {x y : X} (hxy : ∀ c, RX E x c [] → RX E y c []) (hf : x.free = true) : ∀ {xs : List X} {off k : Nat} {R : List Nat}, RO E xs cs off R → xs[k]? = some x → RO E (xs.set k y) cs off R
 | [], _, _, _, _, h => by simp at h
 | z :: r, off, 0, R, h, hy => by
  simp only [RO] at h
  obtain ⟨u, R₁, R₂, hu, hs, h1, h2, rfl⟩ := h
  simp only [List.getElem?_cons_zero, Option.some.injEq] at hy
  subst hy
  have h0 := RX.free hf h1
  subst h0
  simp only [List.set, RO]
  exact ⟨u, [], R₂, hu, hs, hxy u h1, h2, rfl⟩
 | z :: r, off, k + 1, R, h, hy => by
  simp only [RO] at h
  obtain ⟨u, R₁, R₂, hu, hs, h1, h2, rfl⟩ := h
  simp only [List.getElem?_cons_succ] at hy
  simp only [List.set, RO]
  exact ⟨u, R₁, R₂, hu, hs, h1, RO.recell hxy hf h2 hy, rfl⟩
theorem Sh.nilCell (o q s k : Nat) {xs : List X} (ho : look (st.kill q).objs o = some (.cells xs)) (hk : xs[k]? = some (.v (.slice none 0 0))) (hfr : X.frees (xs.set k (.slc q s 0 0)) = true) (hoq : Nat.beq q o = false) (hF : N.F.elem q = false) :
  Sh N st (((st.kill q).putO q (.rows s [])).putO o (.cells (xs.set k (.slc q s 0 0)))) := by
 intro G hn a w hh
 obtain ⟨E, RR, rfl, hi⟩ := hh
 obtain ⟨E', RR', hw, h1, h2⟩ := hi.nil q s (by rw [hn]; exact hF)
 have hob := h1.objs o (.cells xs) (by simp only [St.putO, look, hoq, cond_false]; exact ho)
 have hob2 := hob
 simp only [ROb] at hob2
 obtain ⟨_, B, cs, ty, hB, hw', hφ, hsz, hro, hR⟩ := hob2
 refine ⟨E', _, hw, h1.putO (R := RR' (.obj o)) ?_ (h1.nodup _) (fun b hb => ⟨(h1.own _ _ hb).1, (h1.own _ _ hb).2, fun p hp h => h1.apart _ _ hp b h hb⟩)⟩
 simp only [ROb]
 refine ⟨hfr, B, cs, ty, hB, hw', hφ, by rw [List.length_set]; exact hsz, RO.recell (x := .v (.slice none 0 0)) (fun c hc => ?_) rfl hro hk, hR⟩
 simp only [RX] at hc
 rw [hc.1]; exact h2
theorem RXs.recell {E : Env} {x y : X} (hxy : ∀ c, RX E x c [] → RX E y c []) (hf : x.free = true) : ∀ {xs : List X} {k : Nat} {cs : List Value} {R : List Nat}, RXs E xs cs R → xs[k]? = some x → RXs E (xs.set k y) cs R
 | [], _, _, _, _, h => by simp at h
 | z :: r, 0, cs, R, h, hy => by
  simp only [RXs] at h
  obtain ⟨c, cs', R₁, R₂, hcs, hs, h1, h2, rfl⟩ := h
  simp only [List.getElem?_cons_zero, Option.some.injEq] at hy
  subst hy
  have h0 := RX.free hf h1
  subst h0
  simp only [List.set, RXs]
  exact ⟨c, cs', [], R₂, hcs, hs, hxy c h1, h2, rfl⟩
 | z :: r, k + 1, cs, R, h, hy => by
  simp only [RXs] at h
  obtain ⟨c, cs', R₁, R₂, hcs, hs, h1, h2, rfl⟩ := h
  simp only [List.getElem?_cons_succ] at hy
  simp only [List.set, RXs]
  exact ⟨c, cs', R₁, R₂, hcs, hs, h1, RXs.recell hxy hf h2 hy, rfl⟩
theorem Sh.fzA (s k : Nat) {d : Nat} {xs : List X} (hx : look st.slots d = some (.agg xs)) (hk : xs[k]? = some (.v (.slice none 0 0))) : Sh N st (st.put d (.agg (xs.set k (.fz s [])))) := by
 intro G hn a w hh
 obtain ⟨E, RR, rfl, hi⟩ := hh
 have hv := hi.slots d _ hx
 refine ⟨E, _, rfl, hi.relabel (d := d) (R := RR (.slot d)) ?_ (hi.nodup _) (fun b hb => ⟨(hi.own _ _ hb).1, (hi.own _ _ hb).2, fun p hp h => hi.apart _ _ hp b h hb⟩)⟩
 simp only [RX] at hv ⊢
 obtain ⟨cs, hc, h⟩ := hv
 refine ⟨cs, hc, RXs.recell (x := .v (.slice none 0 0)) (fun c hc => ?_) rfl h hk⟩
 simp only [RX] at hc ⊢
 exact ⟨trivial, fun _ h => (by cases h), none, 0, hc.1, .inl ⟨by trivial, by trivial⟩⟩
theorem Sh.fzCell (o s k : Nat) {xs : List X} (ho : look st.objs o = some (.cells xs)) (hk : xs[k]? = some (.v (.slice none 0 0))) (hfr : X.frees (xs.set k (.fz s [])) = true) :
  Sh N st (st.putO o (.cells (xs.set k (.fz s [])))) := by
 intro G hn a w hh
 obtain ⟨E, RR, rfl, hi⟩ := hh
 have hob := hi.objs o _ ho
 simp only [ROb] at hob
 obtain ⟨_, B, cs, ty, hB, hw', hφ, hsz, hro, hR⟩ := hob
 refine ⟨E, _, rfl, hi.putO (R := RR (.obj o)) ?_ (hi.nodup _) (fun b hb => ⟨(hi.own _ _ hb).1, (hi.own _ _ hb).2, fun p hp h => hi.apart _ _ hp b h hb⟩)⟩
 simp only [ROb]
 refine ⟨hfr, B, cs, ty, hB, hw', hφ, by rw [List.length_set]; exact hsz, RO.recell (x := .v (.slice none 0 0)) (fun c hc => ?_) rfl hro hk, hR⟩
 simp only [RX] at hc ⊢
 exact ⟨trivial, fun _ h => (by cases h), none, 0, hc.1, .inl ⟨by trivial, by trivial⟩⟩
end
end Go.AW
/- Part of the abstract walk: the rules that are used most, under short names. -/
namespace Go.AW
open Go

section
variable {P : Program} {N : Frm} {st : St} {Q : Exit → St → Prop} {all : Array Oper} {rest : List Oper} {d dd j : Nat} {want : Bool} {op : Op} {ty : TypeId} {pos : String} {af : Array Edge} {x : X} {u : Value}
theorem AOps.vl (hy : Yields P N st ⟨some d, op, ty, pos, af, none⟩ x) (k : AOps P N all rest (st.put d x) Q) (hd : d < N.n := by decide) : AOps P N all (⟨some d, op, ty, pos, af, none⟩ :: rest) st Q := AOps.val hy hd k
theorem AOps.gs (d : Nat) (hj : (all[j]?).bind (·.dst) = some d) (hx : look st.slots d = some (.v u)) (hne : notB want u = true) (k : AOps P N all rest (st.put dd (.v undef)) Q) (hd : d < N.n := by decide) (hdd : dd < N.n := by decide) :
  AOps P N all (⟨some dd, op, ty, pos, af, some (j, want)⟩ :: rest) st Q := AOps.guardSkipV hj hd hdd hx hne k
theorem AWp.sr {id : Nat} {l : List Oper} {y : Code} (h : AOps P N l.toArray l st (Then (fun st' => AWp P N y st' Q) Q)) : AWp P N (.seq (.region id l.toArray false) y) st Q := AWp.seq (AWp.region h)
variable {ops : Array Oper} {l0 rs l : List Nat} {t i dj : Nat} {listed : Array Bool} {K : Array Bool → St → Prop}
theorem AQ.cn (i : Nat) (ho : ops[i]? = some ⟨some d, op, ty, pos, af, none⟩) (hy : Yields P N st ⟨some d, op, ty, pos, af, none⟩ x) (k : AQ P N ops l0 rs t l (listed.setIfInBounds i true) (st.put d x) K)
  (hB : (Region.noSelect ops && Region.free .any ops listed i && (Region.ready .any ops listed).contains i) = true := by kernel_rfl) (hd : d < N.n := by decide) : AQ P N ops l0 rs t (i :: l) listed st K := AQ.cons ho hB hy hd k
theorem AQ.sk (i : Nat) (ho : ops[i]? = some ⟨some d, op, ty, pos, af, some (j, want)⟩) (hj : (ops[j]?).bind (·.dst) = some dj) (hx : look st.slots dj = some (.v u)) (hne : notB want u = true) (k : AQ P N ops l0 rs t l (listed.setIfInBounds i true) (st.put d (.v undef)) K)
  (hB : (Region.noSelect ops && Region.free .any ops listed i && (Region.ready .any ops listed).contains i) = true := by kernel_rfl) (hdj : dj < N.n := by decide) (hd : d < N.n := by decide) : AQ P N ops l0 rs t (i :: l) listed st K := AQ.skip ho hB hj hdj hd hx hne k
theorem AQ.rn (i : Nat) (ho : ops[i]? = some ⟨some d, op, ty, pos, af, some (j, want)⟩) (hj : (ops[j]?).bind (·.dst) = some dj) (hx : look st.slots dj = some (.v (.bool want))) (hy : Yields P N st ⟨some d, op, ty, pos, af, some (j, want)⟩ x) (k : AQ P N ops l0 rs t l (listed.setIfInBounds i true) (st.put d x) K)
  (hB : (Region.noSelect ops && Region.free .any ops listed i && (Region.ready .any ops listed).contains i) = true := by kernel_rfl) (hdj : dj < N.n := by decide) (hd : d < N.n := by decide) : AQ P N ops l0 rs t (i :: l) listed st K := AQ.run ho hB hj hdj hx hy hd k
end
section
variable {P : Program} {N : Frm} {st : St} {Q : Exit → St → Prop} {all : Array Oper} {rest : List Oper} {d : Nat} {ty : TypeId} {pos : String} {af : Array Edge} {y p : X}
theorem AOps.mv {x : Operand} (k : AOps P N all rest (st.put d y) Q) (hx : opd st x = some y := by rfl) (hf : y.free = true := by rfl) (hd : d < N.n := by decide) : AOps P N all (⟨some d, .move x, ty, pos, af, none⟩ :: rest) st Q := AOps.val (Y.move hx hf) hd k
theorem AOps.an {x : Operand} (k : AOps P N all rest (st.put d y) Q) (hx : opd st x = some y := by rfl) (hf : y.free = true := by rfl) (hd : d < N.n := by decide) : AOps P N all (⟨some d, .assign x, ty, pos, af, none⟩ :: rest) st Q := AOps.val (Y.assign hx hf) hd k
theorem AOps.ld {t : TypeId} {x : Operand} {row : List X} (ht : TY.shape P t = some none) (k : AOps P N all rest (st.put d y) Q) (hx : opd st x = some p := by rfl) (hr : rowAt st p = some row := by rfl) (hy : row[kAt p]? = some y := by rfl) (hf : y.free = true := by rfl) (hd : d < N.n := by decide) :
  AOps P N all (⟨some d, .load t x, ty, pos, af, none⟩ :: rest) st Q := AOps.val (Y.load ht hx hr hy hf) hd k
end
section
variable {P : Program} {N : Frm} {st : St} {Q : Exit → St → Prop} {all : Array Oper} {rest : List Oper} {d dd j : Nat} {want : Bool} {op : Op} {ty : TypeId} {pos : String} {af : Array Edge} {x y p q : X} {u : Value}
theorem AOps.gw (d : Nat) (hy : Yields P N st ⟨some dd, op, ty, pos, af, some (j, want)⟩ x) (k : AOps P N all rest (st.put dd x) Q) (hj : (all[j]?).bind (·.dst) = some d := by rfl) (hx : look st.slots d = some (.v (.bool want)) := by rfl) (hd : d < N.n := by decide) (hdd : dd < N.n := by decide) :
  AOps P N all (⟨some dd, op, ty, pos, af, some (j, want)⟩ :: rest) st Q := AOps.guardRun hj hd hx (AOps.val hy hdd k)
theorem AOps.gz (d : Nat) (k : AOps P N all rest (st.put dd (.v undef)) Q) (hj : (all[j]?).bind (·.dst) = some d := by rfl) (hx : look st.slots d = some (.v u) := by rfl) (hne : notB want u = true := by rfl) (hd : d < N.n := by decide) (hdd : dd < N.n := by decide) :
  AOps P N all (⟨some dd, op, ty, pos, af, some (j, want)⟩ :: rest) st Q := AOps.guardSkipV hj hd hdd hx hne k
theorem AOps.pk {c a b : Operand} {v : Bool} (k : AOps P N all rest (st.put d y) Q) (hc : opd st c = some (.v (.bool v)) := by rfl) (hz : opd st (if v then a else b) = some y := by rfl) (hf : y.free = true := by rfl) (hd : d < N.n := by decide) :
  AOps P N all (⟨some d, .pick c a b, ty, pos, af, none⟩ :: rest) st Q := AOps.val (Y.pick hc hz hf) hd k
theorem AOps.fa {t : TypeId} {a : Operand} {f off : Nat} {ft : TypeId} (ht : TY.fld P t f = some (off, ft)) (k : AOps P N all rest (st.put d q) Q) (hx : opd st a = some p := by rfl) (hq : p.on off = some q := by rfl) (hd : d < N.n := by decide) :
  AOps P N all (⟨some d, .fieldAddr t a f, ty, pos, af, none⟩ :: rest) st Q := AOps.val (Y.fieldAddr ht hx hq) hd k
end
theorem SubL.c {α : Type} {l l' : List (Nat × α)} {s : Nat} {x : α} (hr : SubL l l') (h : look l s = some x := by rfl) : SubL l ((s, x) :: l') := SubL.cons h hr
theorem Ends.rb {P : Program} {rvs : List ResultVar} {st : St} {b b' : Bool} (h0 : resAll P st rvs = some [.v (.bool b)]) (h : b = b') : Ends P rvs ([] : List Obj).length (fun r o => r = .v (.bool b') ∧ o = []) .ret st := ⟨_, _, h0, rfl, by rw [h]; exact ⟨rfl, rfl⟩⟩
theorem Ends.ri {P : Program} {rvs : List ResultVar} {st : St} {k : IntKind} {b b' : Int} (h0 : resAll P st rvs = some [.v (.int k b)]) (h : b = b') : Ends P rvs ([] : List Obj).length (fun r o => r = .v (.int k b') ∧ o = []) .ret st := ⟨_, _, h0, rfl, by rw [h]; exact ⟨rfl, rfl⟩⟩
end Go.AW
/- Part of the abstract walk: words without signs that are read. -/
namespace Go.AW
open Go
theorem wf_nat_u8 {a : Int} (h : (Lit.int .u8 a).wf = true) : ∃ n : Nat, a = (n : Int) ∧ n < 256 := by
 have h1 := (Lit.wf_int_iff .u8 a).1 h
 simp only [IntKind.min, IntKind.max, IntKind.signed, IntKind.bits] at h1
 exact ⟨a.toNat, by simp at h1; omega, by simp at h1; omega⟩
end Go.AW
/- Part of the abstract walk: structs are compared. -/
namespace Go.AW
open Go

section
variable {P : Program} {N : Frm} {st : St} {dst : Option Nat} {ty : TypeId} {pos : String} {af : Array Edge} {g : Option (Nat × Bool)}
end
end Go.AW
/- Part of the abstract walk: structs that own slices. -/
namespace Go.AW
open Go

section
variable {N : Frm} {st : St} {d : Nat}
end
end Go.AW
/- Part of the abstract walk: strings are joined. -/
namespace Go.AW
open Go

section
variable {P : Program} {N : Frm} {st : St} {dst : Option Nat} {ty : TypeId} {pos : String} {af : Array Edge} {g : Option (Nat × Bool)}
end
end Go.AW
/- Part of the abstract walk: a slice that a variable holds is written no more. -/
namespace Go.AW
open Go

theorem RO.setAt {E : Env} {cs : Array Value} {x y : X} {u : Value} (hf : x.free = true) : ∀ {xs : List X} {off k : Nat} {R : List Nat}, RO E xs cs off R → xs[k]? = some x → cs[off + k]? = some u → RX E y u [] → RO E (xs.set k y) cs off R
 | [], _, _, _, _, h, _, _ => by simp at h
 | z :: r, off, 0, R, h, hy, hu, hxy => by
  simp only [RO] at h
  obtain ⟨u', R₁, R₂, hu', hs, h1, h2, rfl⟩ := h
  simp only [List.getElem?_cons_zero, Option.some.injEq] at hy
  subst hy
  have h0 := RX.free hf h1
  subst h0
  rw [Nat.add_zero, hu'] at hu
  obtain rfl := Option.some.inj hu
  simp only [List.set, RO]
  exact ⟨u', [], R₂, hu', hs, hxy, h2, rfl⟩
 | z :: r, off, k + 1, R, h, hy, hu, hxy => by
  simp only [RO] at h
  obtain ⟨u', R₁, R₂, hu', hs, h1, h2, rfl⟩ := h
  simp only [List.getElem?_cons_succ] at hy
  simp only [List.set, RO]
  exact ⟨u', R₁, R₂, hu', hs, h1, RO.setAt hf h2 hy (by rw [show off + 1 + k = off + (k + 1) by omega]; exact hu) hxy, rfl⟩
section
variable {N : Frm} {G : Ctx} {E : Env} {RR : Own → List Nat} {st : St} {a : Act}
theorem Inv.fzRows (hi : Inv G E RR st a) {o s : Nat} {rs : List (List X)} (ho : look st.objs o = some (.rows s rs)) (hf : Frees rs) (hF : G.fn.F.elem o = false) :
  ∃ E' RR', E'.w = E.w ∧ E'.β = E.β ∧ Inv G E' RR' ((st.kill o).putO o .gone) a ∧ ∀ u n, n = rs.length → RX E (.slc o s 0 n) u [] → RX E' (.fz s rs) u [] := by
 have hob := hi.objs o _ ho
 simp only [ROb] at hob
 obtain ⟨hu, hob⟩ := hob
 have hβ : Moves G E E (fun _ => False) := ⟨rfl, fun _ h => h.elim, fun _ h => h.elim, fun _ _ _ => rfl, Nat.le_refl _, rfl, rfl, rfl⟩
 have hi2 := hi.reobj hβ (o := o) (ob := .gone) (R := []) (fun _ h => h.elim) (fun q _ => rfl) (fun h => rfl) (by simp only [ROb]) List.nodup_nil (fun _ h => by cases h)
 rcases hob with ⟨h1, h2, h3⟩ | ⟨B, cs, ty, R', hB, hw, hφ, hcap, hsz, hRO, hRR⟩
 ·refine ⟨E, _, rfl, rfl, hi2, fun u n hn hx => ?_⟩
  simp only [RX] at hx ⊢
  obtain ⟨_, base, cap, hc, hcase⟩ := hx
  rcases hcase with ⟨_, _, _, h5⟩ | ⟨B, hB, _⟩
  ·subst hn
   exact ⟨trivial, hu, base, cap, hc, .inl ⟨h2, h5⟩⟩
  ·rw [h1] at hB; cases hB
 ·have hR0 := ROr.free hf hRO
  subst hR0
  have hbm : B.b ∈ RR (.obj o) := by rw [hRR]; simp
  have hle : ∀ c i v, E.φ c i = some v → (if c = B.b then cs[i]? else E.φ c i) = some v := by
   intro c i v h
   by_cases hcb : c = B.b
   ·subst hcb; rw [hφ i] at h; cases h
   ·rw [if_neg hcb]; exact h
  have hon : ∀ R : List Nat, B.b ∉ R → E.On { E with φ := fun c i => if c = B.b then cs[i]? else E.φ c i } R := by
   intro R hbR
   refine ⟨hle, fun c hc' => ⟨rfl, fun h i => ?_⟩⟩
   have : c ≠ B.b := fun e => hbR (e ▸ hc')
   show (if c = B.b then cs[i]? else E.φ c i) = none
   rw [if_neg this]; exact h i
  have hnb : ∀ p, B.b ∉ reown st RR o [] p := by
   intro p hp
   cases p with
   | obj q =>
    by_cases hq : q = o
    ·subst hq; simp [reown] at hp
    ·exact hi.apart (.obj q) (.obj o) (by simpa using hq) _ (by simpa [reown, hq] using hp) hbm
   | slot q =>
    rcases reown_slot st RR o [] q with h | h
    ·rw [h] at hp; cases hp
    ·rw [h] at hp; exact hi.apart (.slot q) (.obj o) (by simp) _ hp hbm
  refine ⟨{ E with φ := fun c i => if c = B.b then cs[i]? else E.φ c i }, _, rfl, rfl,
   {hi2 with
    frz := by
     intro c i v h
     change (if c = B.b then cs[i]? else E.φ c i) = some v at h
     by_cases hcb : c = B.b
     ·subst hcb; rw [if_pos rfl] at h
      show E.w.cell? _ = _
      rw [cell_of_heap hw]; exact h
     ·rw [if_neg hcb] at h; exact hi.frz c i v h
    slots := fun q x hx => RX.mono x _ _ (hon _ (hnb _)) (fun _ _ => rfl) (hi2.slots q x hx)
    objs := fun o ob hob => ROb.mono (hon _ (hnb _)) rfl (fun _ _ _ _ => rfl) (hi2.objs o ob hob)
    φ0 := fun c i v h => hle c i v (hi.φ0 c i v h)
    grow := by
     intro c i v h
     change (if c = B.b then cs[i]? else E.φ c i) = some v at h
     by_cases hcb : c = B.b
     ·subst hcb; exact .inr (hi.own _ _ hbm).2
     ·rw [if_neg hcb] at h; exact hi.grow c i v h }, fun u n hn hx => ?_⟩
  simp only [RX] at hx ⊢
  obtain ⟨_, base, cap, hc, hcase⟩ := hx
  subst hn
  rcases hcase with ⟨h1, _⟩ | ⟨B', hB', hlo, hn', hb⟩
  ·rw [hB] at h1; cases h1
  ·rw [hB] at hB'
   obtain rfl := Option.some.inj hB'
   rcases hb with hb | hb
   ·exact ⟨trivial, hu, base, cap, hc, .inl ⟨List.eq_nil_of_length_eq_zero (by omega), hb⟩⟩
   ·refine ⟨trivial, hu, base, cap, hc, .inr ⟨B.b, B.off, by simpa using hb, hn', ?_⟩⟩
    refine ROr.freeze (E := E) (fun i v h => ?_) hle hRO
    show (if B.b = B.b then cs[i]? else E.φ B.b i) = some v
    rw [if_pos rfl]; exact h
theorem Sh.fzObj (p o k : Nat) {s n : Nat} {xs ys : List X} {rs : List (List X)} (hp : look st.objs p = some (.cells xs)) (hk : xs[k]? = some (.slc o s 0 n)) (ho : look st.objs o = some (.rows s rs)) (hl : n = rs.length) (hf : Frees rs) (hF : N.F.elem o = false)
  (hp' : look ((st.kill o).putO o .gone).objs p = some (.cells ys)) (hk' : ys[k]? = some .no) (hfr : X.frees (ys.set k (.fz s rs)) = true) :
  Sh N st (((st.kill o).putO o .gone).putO p (.cells (ys.set k (.fz s rs)))) := by
 intro G hn a w hh
 obtain ⟨E, RR, rfl, hi⟩ := hh
 have hop := hi.objs p _ hp
 simp only [ROb] at hop
 obtain ⟨_, B, cs, ty, hB, hw, hφ, hsz, hro, hR⟩ := hop
 obtain ⟨u, Ry, R1, hcu, hs, hvy, _, _, _⟩ := RO.pick hro hk
 have h0 := RX.free (x := .slc o s 0 n) rfl hvy
 subst h0
 obtain ⟨E', RR', hw', hβ', hi', hfz⟩ := hi.fzRows ho hf (by rw [hn]; exact hF)
 have hop' := hi'.objs p _ hp'
 have hop2 := hop'
 simp only [ROb] at hop2
 obtain ⟨_, B', cs', ty', hB', hw2, hφ', hsz', hro', hR'⟩ := hop2
 rw [hβ', hB] at hB'
 obtain rfl := Option.some.inj hB'
 rw [hw', hw] at hw2
 simp only [Option.some.injEq, Go.Obj.cells.injEq] at hw2
 obtain ⟨rfl, rfl, _⟩ := hw2
 refine ⟨E', _, hw', hi'.putO (R := RR' (.obj p)) ?_ (hi'.nodup _) (fun b hb => ⟨(hi'.own _ _ hb).1, (hi'.own _ _ hb).2, fun q hq h => hi'.apart _ _ hq b h hb⟩)⟩
 simp only [ROb]
 exact ⟨hfr, B, cs, ty, by rw [hβ']; exact hB, by rw [hw']; exact hw, hφ', by rw [List.length_set]; exact hsz', RO.setAt (x := .no) rfl hro' hk' hcu (hfz u n hl hvy), hR'⟩
end
end Go.AW
/- Part of the abstract walk: operations that do not look at memory, for open orders. -/
namespace Go.AW
open Go

section
variable {P : Program} {N : Frm} {st : St} {dst : Option Nat} {ty : TypeId} {pos : String} {af : Array Edge} {g : Option (Nat × Bool)}
theorem Blind.bin {op : BinOp} {t t' : TypeId} {x y : Operand} {u v r : Value} (hx : opd st x = some (.v u)) (hy : opd st y = some (.v v))
  (hr : ∀ w, (do eqGuard op t x y u v; binOp op t u v : Sem Value).run P w = .ok r w) : Blind P N st ⟨dst, .binOp op t x y t', ty, pos, af, g⟩ (.v r) := by
 intro G E RR a _ hi
 refine ⟨r, fun w => ?_, by simp [RX]⟩
 show (do let x ← (do eqGuard op t x y (a.eval x) (a.eval y); binOp op t (a.eval x) (a.eval y) : Sem Value); pure (Next.value x) : Sem Next).run P w = _
 rw [hi.val hx, hi.val hy]
 exact run_v (hr _)

section ints
variable {t t' : TypeId} {x y : Operand} {k : IntKind} {a b r : Int}
theorem Blind.add (hx : opd st x = some (.v (.int k a))) (hy : opd st y = some (.v (.int k b))) (hr : k.wrap (a + b) = r) : Blind P N st ⟨dst, .binOp .add t x y t', ty, pos, af, g⟩ (.v (.int k r)) :=
 Blind.bin hx hy fun w => by subst hr; simp [eqGuard, binOp, Op.intArith]
theorem Blind.sub (hx : opd st x = some (.v (.int k a))) (hy : opd st y = some (.v (.int k b))) (hr : k.wrap (a - b) = r) : Blind P N st ⟨dst, .binOp .sub t x y t', ty, pos, af, g⟩ (.v (.int k r)) :=
 Blind.bin hx hy fun w => by subst hr; simp [eqGuard, binOp, Op.intArith]
theorem Blind.mul (hx : opd st x = some (.v (.int k a))) (hy : opd st y = some (.v (.int k b))) (hr : k.wrap (a * b) = r) : Blind P N st ⟨dst, .binOp .mul t x y t', ty, pos, af, g⟩ (.v (.int k r)) :=
 Blind.bin hx hy fun w => by subst hr; simp [eqGuard, binOp, Op.intArith]
theorem Blind.rem (hx : opd st x = some (.v (.int k a))) (hy : opd st y = some (.v (.int k b))) (h0 : b ≠ 0) (hr : a.tmod b = r) : Blind P N st ⟨dst, .binOp .rem t x y t', ty, pos, af, g⟩ (.v (.int k r)) :=
 Blind.bin hx hy fun w => by subst hr; simp [eqGuard, binOp, Op.intDiv, h0]
theorem Blind.lss (hx : opd st x = some (.v (.int k a))) (hy : opd st y = some (.v (.int k b))) : Blind P N st ⟨dst, .binOp .lss t x y t', ty, pos, af, g⟩ (.v (.bool (decide (a < b)))) :=
 Blind.bin hx hy fun w => by simp [eqGuard, binOp, Op.intCmp]
theorem Blind.leq (hx : opd st x = some (.v (.int k a))) (hy : opd st y = some (.v (.int k b))) : Blind P N st ⟨dst, .binOp .leq t x y t', ty, pos, af, g⟩ (.v (.bool (decide (a ≤ b)))) :=
 Blind.bin hx hy fun w => by simp [eqGuard, binOp, Op.intCmp]
theorem Blind.gtr (hx : opd st x = some (.v (.int k a))) (hy : opd st y = some (.v (.int k b))) : Blind P N st ⟨dst, .binOp .gtr t x y t', ty, pos, af, g⟩ (.v (.bool (decide (b < a)))) :=
 Blind.bin hx hy fun w => by simp [eqGuard, binOp, Op.intCmp]
theorem Blind.geq (hx : opd st x = some (.v (.int k a))) (hy : opd st y = some (.v (.int k b))) : Blind P N st ⟨dst, .binOp .geq t x y t', ty, pos, af, g⟩ (.v (.bool (decide (b ≤ a)))) :=
 Blind.bin hx hy fun w => by simp [eqGuard, binOp, Op.intCmp]
theorem Blind.eql (hx : opd st x = some (.v (.int k a))) (hy : opd st y = some (.v (.int k b))) : Blind P N st ⟨dst, .binOp .eql t x y t', ty, pos, af, g⟩ (.v (.bool (decide (a = b)))) :=
 Blind.bin hx hy fun w => by simp [eqGuard, binOp, Op.intCmp, BEq.beq]
theorem Blind.neq (hx : opd st x = some (.v (.int k a))) (hy : opd st y = some (.v (.int k b))) : Blind P N st ⟨dst, .binOp .neq t x y t', ty, pos, af, g⟩ (.v (.bool (decide (a ≠ b)))) :=
 Blind.bin hx hy fun w => by simp [eqGuard, binOp, Op.intCmp, bne, BEq.beq]
end ints
theorem Blind.un {op : UnOp} {t : TypeId} {x : Operand} {u r : Value} (hx : opd st x = some (.v u)) (hr : ∀ w, (Op.unary op u).run P w = .ok r w) : Blind P N st ⟨dst, .unOp op t x, ty, pos, af, g⟩ (.v r) := by
 intro G E RR a _ hi
 refine ⟨r, fun w => ?_, by simp [RX]⟩
 show (do let x ← Op.unary op (a.eval x); pure (Next.value x) : Sem Next).run P w = _
 rw [hi.val hx]
 exact run_v (hr _)
theorem Blind.not {t : TypeId} {x : Operand} {b : Bool} (hx : opd st x = some (.v (.bool b))) : Blind P N st ⟨dst, .unOp .not t x, ty, pos, af, g⟩ (.v (.bool (!b))) :=
 Blind.un hx fun _ => rfl
theorem Blind.conv {s d : TypeId} {x : Operand} {k k' : IntKind} {n r : Int} (hs : TY.isInt P s = some k') (hd : TY.isInt P d = some k) (hx : opd st x = some (.v (.int k' n))) (hr : k.wrap n = r) :
  Blind P N st ⟨dst, .convert s d x, ty, pos, af, g⟩ (.v (.int k r)) := by
 intro G E RR a _ hi
 refine ⟨.int k r, fun w => ?_, by simp [RX]⟩
 show (do let x ← convert s d (a.eval x); pure (Next.value x) : Sem Next).run P w = _
 rw [hi.val hx]
 refine run_v ?_
 have h1 : P.underlying s = some (.int k') := by unfold TY.isInt at hs; split at hs <;> simp_all
 have h2 : P.underlying d = some (.int k) := by unfold TY.isInt at hd; split at hd <;> simp_all
 simp [convert, run_underlying h1, run_underlying h2, Conv.intToInt, hr]

section
variable {t t' : TypeId} {x y : Operand} {a b : Int}
theorem Blind.addI (hx : opd st x = some (.v (.int .i64 a))) (hy : opd st y = some (.v (.int .i64 b))) (hr : -9223372036854775808 ≤ a + b ∧ a + b ≤ 9223372036854775807) : Blind P N st ⟨dst, .binOp .add t x y t', ty, pos, af, g⟩ (.v (.int .i64 (a + b))) :=
 Blind.add hx hy (IntWalk.i64_in _ hr)
theorem Blind.subI (hx : opd st x = some (.v (.int .i64 a))) (hy : opd st y = some (.v (.int .i64 b))) (hr : -9223372036854775808 ≤ a - b ∧ a - b ≤ 9223372036854775807) : Blind P N st ⟨dst, .binOp .sub t x y t', ty, pos, af, g⟩ (.v (.int .i64 (a - b))) :=
 Blind.sub hx hy (IntWalk.i64_in _ hr)
theorem Blind.remI {k : IntKind} (hx : opd st x = some (.v (.int k a))) (hy : opd st y = some (.v (.int k b))) (hr : 0 ≤ a ∧ 1 ≤ b) : Blind P N st ⟨dst, .binOp .rem t x y t', ty, pos, af, g⟩ (.v (.int k (a % b))) :=
 Blind.rem hx hy (by omega) (IntWalk.rem_in a b hr.1)
end
theorem Blind.convK {s d : TypeId} {x : Operand} {k k' : IntKind} {n : Int} (hs : TY.isInt P s = some k') (hd : TY.isInt P d = some k) (hx : opd st x = some (.v (.int k' n))) (hr : k.wrap n = n) :
  Blind P N st ⟨dst, .convert s d x, ty, pos, af, g⟩ (.v (.int k n)) := Blind.conv hs hd hx hr
theorem Blind.len {t e s by_ : Nat} {x : Operand} {y : X} {n : Nat} (ht : TY.slice P t = some (e, s, by_)) (hx : opd st x = some y) (hn : y.len = some n) :
  Blind P N st ⟨dst, .call ⟨.builtin .len, #[x], #[t]⟩, ty, pos, af, g⟩ (.v (.int .i64 (n : Int))) := by
 intro G E RR a _ hi
 obtain ⟨R, hp⟩ := hi.eval hx
 obtain ⟨base, cap, hc⟩ := hp.len hn
 refine ⟨.int .i64 (n : Int), fun w => run_callB ?_, by simp [RX]⟩
 obtain ⟨hu, _⟩ := TY.slice_spec ht
 simp [builtin, Builtin.len_, hc, run_underlying hu, goInt]

theorem Blind.indexF {t e s by_ : Nat} {x ix : Operand} {rows : List (List X)} {row : List X} {k : IntKind} {n : Int} {m : Nat} (ht : TY.slice P t = some (e, s, by_)) (hx : opd st x = some (.fz s rows))
  (hix : opd st ix = some (.v (.int k n))) (hn : n = (m : Int)) (hr : rows[m]? = some row) : Blind P N st ⟨dst, .indexAddr t x ix, ty, pos, af, g⟩ (.fp row 0) := by
 intro G E RR a _ hi
 obtain ⟨R, hp⟩ := hi.eval hx
 have hm : m < rows.length := by
  rcases Nat.lt_or_ge m rows.length with h' | h'
  ·exact h'
  ·simp [List.getElem?_eq_none h'] at hr
 simp only [RX] at hp
 obtain ⟨_, hu, base, cap, hc, h⟩ := hp
 rcases h with ⟨h, _⟩ | ⟨b, off, rfl, hl, hf⟩
 ·subst h; simp at hr
 ·refine ⟨.pointer (some ⟨b, off + m * s, none⟩), fun w => ?_, ?_⟩
  ·show (do let z ← Instr.indexAt t (a.eval x) (a.eval ix); pure (Next.value z) : Sem Next).run P w = _
   rw [hc, hi.val hix]
   exact run_v (run_indexAt ht hn hm w)
  ·simp only [RX]
   exact ⟨trivial, b, off + m * s, rfl, RFr.get hu hf hr⟩

theorem Blind.indexO {t e s by_ : Nat} {x ix : Operand} {o lo len : Nat} {k : IntKind} {n : Int} {m : Nat} (ht : TY.slice P t = some (e, s, by_)) (hx : opd st x = some (.slc o s lo len))
  (hix : opd st ix = some (.v (.int k n))) (hn : n = (m : Int)) (hm : m < len) : Blind P N st ⟨dst, .indexAddr t x ix, ty, pos, af, g⟩ (.ptr o s (lo + m) 0) := by
 intro G E RR a _ hi
 obtain ⟨R, hp⟩ := hi.eval hx
 simp only [RX] at hp
 obtain ⟨_, base, cap, hc, h⟩ := hp
 rcases h with ⟨_, _, h, _⟩ | ⟨B, hB, _, hl, hb⟩
 ·omega
 ·have hb' : base = some ⟨B.b, B.off + lo * s, none⟩ := hb.resolve_left (by omega)
  subst hb'
  refine ⟨.pointer (some ⟨B.b, B.off + lo * s + m * s, none⟩), fun w => ?_, ?_⟩
  ·show (do let z ← Instr.indexAt t (a.eval x) (a.eval ix); pure (Next.value z) : Sem Next).run P w = _
   rw [hc, hi.val hix]
   exact run_v (run_indexAt ht hn hm w)
  ·simp only [RX]
   exact ⟨trivial, B, hB, by rw [Nat.add_mul]; simp [Nat.add_assoc]⟩

end
end Go.AW
/- Part of the abstract walk: open orders with loads of what nobody writes. -/
namespace Go.AW
open Go

section
variable {P : Program} {N : Frm} {st : St} {ops : Array Oper} {d : Nat} {ty : TypeId} {pos : String} {af : Array Edge} {K : St → Prop}

def SG (G : Ctx) (w : World) : Prop := (∀ b, G.K b → w.heap[b]? = G.w0.heap[b]?) ∧ ∀ b i v, G.φ0 b i = some v → w.cell? ⟨b, i, none⟩ = some v
theorem Holds.sg {G : Ctx} {a : Act} {w : World} (h : Holds G st a w) : SG G w := by
  obtain ⟨E, RR, rfl, hi⟩ := h
  exact ⟨hi.keep, fun b i v hv => hi.frz b i v (hi.φ0 b i v hv)⟩
def ctxH (G : Ctx) (E : Env) (L : List Nat) (T : Nat → List Nat) (F' : List Nat) : Ctx := ⟨fun b => G.K b ∨ ∃ o, o ∈ L ∧ b ∈ T o, E.w, E.φ, E.β, ⟨G.fn.n, F'⟩⟩

def AHeld (P : Program) (N : Frm) (ops : Array Oper) (n : Nat) (listed : Array Bool) (st : St) (K : St → Prop) : Prop :=
  ∀ G : Ctx, G.fn = N → ∀ a w, Holds G st a w → wpAnyH P .any ops (fun e a w => e = .normal ∧ ∃ st', K st' ∧ Holds G st' a w) (SG G) n listed a w
def AFirst (P : Program) (N : Frm) (L F' : List Nat) (ops : Array Oper) (n : Nat) (listed : Array Bool) (st : St) (K : St → Prop) : Prop :=
  ∀ G : Ctx, G.fn = N → ∀ E RR a (T : Nat → List Nat), (∀ o ∈ L, RR (.obj o) = T o) → Inv G E RR st a →
    wpAnyH P .any ops (fun e a w => e = .normal ∧ ∃ st', K st' ∧ Holds G st' a w) (SG (ctxH G E L T F')) n listed a E.w

theorem Inv.sgH {G : Ctx} {E : Env} {RR : Own → List Nat} {a : Act} (hi : Inv G E RR st a) (L : List Nat) (T : Nat → List Nat) (F' : List Nat) : SG (ctxH G E L T F') E.w := ⟨fun _ _ => rfl, hi.frz⟩
theorem AFirst.blind {L F' : List Nat} {n : Nat} {listed : Array Bool} (i : Nat) {op : Op} {x : X} (ho : ops[i]? = some ⟨some d, op, ty, pos, af, none⟩)
    (hB : (Region.noSelect ops && Region.free .any ops listed i && (Region.ready .any ops listed).contains i) = true) (hy : Blind P N st ⟨some d, op, ty, pos, af, none⟩ x) (hd : d < N.n)
    (k : AFirst P N L F' ops n (listed.setIfInBounds i true) (st.put d x) K) : AFirst P N L F' ops (n + 1) listed st K := by
  intro G hn E RR a T hT hi
  obtain ⟨u, hr, hx⟩ := hy G E RR a hn hi
  simp only [Bool.and_eq_true] at hB
  refine wpAnyH_take (v := u) ho hB.1.1 hB.1.2 hB.2 ?_ (.inl ⟨by simp [Region.wanted], fun w _ => hr w⟩) (hi.sgH L T F') (k G hn E _ _ T ?_ (hi.put0 (hn ▸ hd) hx))
  · intro c a w h
    cases h.1
  · intro o ho
    have := hT o ho
    simpa [upd] using this
def heldX (L : List Nat) : X → Bool
  | .fp .. => true
  | .ptr o .. => L.elem o
  | _ => false
theorem Inv.held {G : Ctx} {E : Env} {RR : Own → List Nat} {a : Act} {L F' : List Nat} {T : Nat → List Nat} (hi : Inv G E RR st a) (hT : ∀ o ∈ L, RR (.obj o) = T o) {p : X} {c : Value} {R : List Nat} {row : List X}
    (hp : RX E p c R) (hr : rowAt st p = some row) (hL : heldX L p = true) :
    ∃ b off, c = .pointer (some ⟨b, off + kAt p, none⟩) ∧ ∀ w, SG (ctxH G E L T F') w → ∀ j, j < row.length → w.cell? ⟨b, off + j, none⟩ = E.w.cell? ⟨b, off + j, none⟩ := by
  cases p with
  | fp row' k' =>
    simp only [rowAt, Option.some.injEq] at hr
    subst hr
    simp only [RX] at hp
    obtain ⟨_, b, off, hc, hf⟩ := hp
    refine ⟨b, off, hc, fun w hw j hj => ?_⟩
    obtain ⟨vs, hl, hv, hx⟩ := RF.cells hf
    obtain ⟨v, hvj⟩ : ∃ v, vs[j]? = some v := ⟨vs[j]'(by omega), List.getElem?_eq_getElem (by omega)⟩
    have h1 := hv j v hvj
    rw [hi.frz _ _ _ h1]
    exact hw.2 _ _ _ h1
  | ptr o s i k' =>
    simp only [RX] at hp
    obtain ⟨_, B, hB, hc⟩ := hp
    have hoL : o ∈ L := List.elem_iff.1 hL
    have hTo := hT o hoL
    have hb : B.b ∈ T o := by
      simp only [rowAt] at hr
      split at hr
      · rename_i xs ho
        have h0 := hi.objs o _ ho
        simp only [ROb] at h0
        obtain ⟨_, B', cs, ty, hB', hw, _, _, hRO, hR⟩ := h0
        rw [hB] at hB'
        obtain rfl := Option.some.inj hB'
        rw [← hTo, hR]; simp
      · rename_i s' rs ho
        have h0 := hi.objs o _ ho
        simp only [ROb] at h0
        obtain ⟨hu, h0⟩ := h0
        rcases h0 with ⟨h0, _⟩ | ⟨B', cs, ty, R', hB', hw, _, _, _, _, hR⟩
        · rw [hB] at h0; cases h0
        · rw [hB] at hB'
          obtain rfl := Option.some.inj hB'
          rw [← hTo, hR]; simp
      · cases hr
    refine ⟨B.b, B.off + i * s, by rw [hc]; simp [kAt, Nat.add_assoc], fun w hw j _ => ?_⟩
    have := hw.1 B.b (.inr ⟨o, hoL, hb⟩)
    unfold World.cell?
    simp only [ctxH] at this
    rw [this]
  | _ => cases hL
theorem ptr_inj {b b' o o' k : Nat} (h : Value.pointer (some ⟨b, o + k, none⟩) = Value.pointer (some ⟨b', o' + k, none⟩)) : b = b' ∧ o = o' := by
  simp only [Value.pointer.injEq, Option.some.injEq, Addr.mk.injEq] at h
  omega
theorem AFirst.load {L F' : List Nat} {n : Nat} {listed : Array Bool} (i : Nat) {t : TypeId} {x : Operand} {p y : X} {row : List X} (ho : ops[i]? = some ⟨some d, .load t x, ty, pos, af, none⟩)
    (hB : (Region.noSelect ops && Region.free .any ops listed i && (Region.ready .any ops listed).contains i) = true) (ht : TY.shape P t = some none) (hx : opd st x = some p) (hL : heldX L p = true) (hr : rowAt st p = some row)
    (hy : row[kAt p]? = some y) (hf : y.free = true) (hd : d < N.n)
    (k : AFirst P N L F' ops n (listed.setIfInBounds i true) (st.put d y) K) : AFirst P N L F' ops (n + 1) listed st K := by
  intro G hn E RR a T hT hi
  obtain ⟨R, hp⟩ := hi.eval hx
  obtain ⟨b, off, hc, hcells⟩ := hi.behind hp hr
  obtain ⟨b', off', hc', hsame⟩ := hi.held (F' := F') hT hp hr hL
  obtain ⟨rfl, rfl⟩ := ptr_inj (hc.symm.trans hc')
  have hk : kAt p < row.length := by
    rcases Nat.lt_or_ge (kAt p) row.length with h' | h'
    · exact h'
    · simp [List.getElem?_eq_none h'] at hy
  obtain ⟨vs, R', hl, hv, hxs⟩ := hcells (kAt p) 1 (by omega)
  rw [getElem?_drop_take_one hy] at hxs
  simp only [RXs] at hxs
  obtain ⟨c, cs', R₁, R₂, hvs, _, h1, ⟨rfl, rfl⟩, rfl⟩ := hxs
  subst hvs
  have h0 := RX.free hf h1
  subst h0
  simp only [Bool.and_eq_true] at hB
  refine wpAnyH_take (v := c) ho hB.1.1 hB.1.2 hB.2 ?_ (.inl ⟨by simp [Region.wanted], fun w hw => ?_⟩) (hi.sgH L T F') (k G hn E _ _ T ?_ (hi.put0 (hn ▸ hd) h1))
  · intro c a w h
    cases h.1
  · show (do let z ← Instr.loadAt t (a.eval x); pure (Next.value z) : Sem Next).run P w = _
    rw [hc]
    refine run_v ?_
    have hcell := hv 0 c rfl
    simp only [Instr.loadAt, Instr.sureAddr, loadVar, Sem.run_bind, Sem.run_pure, Result.andThen_ok, (TY.shape_none ht w).1]
    simp only [Nat.add_zero] at hcell
    rw [← hsame w hw _ hk] at hcell
    simp [hcell]
  · intro o ho
    have := hT o ho
    simpa [upd] using this
theorem AFirst.loadA {L F' : List Nat} {n : Nat} {listed : Array Bool} (i : Nat) {t : TypeId} {x : Operand} {p : X} {row : List X} {m : Nat} {ys : List X} (ho : ops[i]? = some ⟨some d, .load t x, ty, pos, af, none⟩)
    (hB : (Region.noSelect ops && Region.free .any ops listed i && (Region.ready .any ops listed).contains i) = true) (ht : TY.shape P t = some (some m)) (hx : opd st x = some p) (hL : heldX L p = true) (hr : rowAt st p = some row)
    (hm : kAt p + m ≤ row.length) (hys : (row.drop (kAt p)).take m = ys) (hf : X.frees ys = true) (hd : d < N.n)
    (k : AFirst P N L F' ops n (listed.setIfInBounds i true) (st.put d (.agg ys)) K) : AFirst P N L F' ops (n + 1) listed st K := by
  intro G hn E RR a T hT hi
  obtain ⟨R, hp⟩ := hi.eval hx
  obtain ⟨b, off, hc, hcells⟩ := hi.behind hp hr
  obtain ⟨b', off', hc', hsame⟩ := hi.held (F' := F') hT hp hr hL
  obtain ⟨rfl, rfl⟩ := ptr_inj (hc.symm.trans hc')
  obtain ⟨vs, R', hl, hv, hxs⟩ := hcells (kAt p) m hm
  rw [hys] at hxs
  have h0 := RXs.free hf hxs
  subst h0
  simp only [Bool.and_eq_true] at hB
  refine wpAnyH_take (v := .agg vs.toArray) ho hB.1.1 hB.1.2 hB.2 ?_ (.inl ⟨by simp [Region.wanted], fun w hw => ?_⟩) (hi.sgH L T F') (k G hn E _ _ T ?_ (hi.put0 (hn ▸ hd) (by simp only [RX]; exact ⟨_, rfl, hxs⟩)))
  · intro c a w h
    cases h.1
  · show (do let z ← Instr.loadAt t (a.eval x); pure (Next.value z) : Sem Next).run P w = _
    rw [hc]
    refine run_v ?_
    obtain ⟨h1, h2⟩ := TY.shape_some ht w
    have h3 : (loadCells ⟨b, off + kAt p, none⟩ m).run P w = .ok vs.toArray w := by
      rw [← hl]
      refine run_loadCells_list (w := w) _ vs fun j v hj => ?_
      have hjl : j < vs.length := (List.getElem?_eq_some_iff.1 hj).1
      rw [add_mk, Nat.add_assoc, hsame w hw _ (by omega)]; exact hv j v hj
    simp only [Instr.loadAt, Instr.sureAddr, loadVar, Sem.run_bind, Sem.run_pure, Result.andThen_ok, h1, if_true, h2, h3]
  · intro o ho
    have := hT o ho
    simpa [upd] using this

def St.back (st : St) : List Nat → List (Nat × Obj) → List (Nat × Obj)
  | [], r => r
  | o :: L, r => match look st.objs o with
    | some ob => (o, ob) :: st.back L r
    | none => st.back L r
theorem look_back (st : St) {r : List (Nat × Obj)} {q : Nat} {x : Obj} : ∀ {L : List Nat}, (∀ o ∈ L, ∃ ob, look st.objs o = some ob) → look (st.back L r) q = some x → (q ∈ L ∧ look st.objs q = some x) ∨ (q ∉ L ∧ look r q = some x)
  | [], _, h => .inr ⟨by simp, h⟩
  | o :: L, hL, h => by
    obtain ⟨ob, hob⟩ := hL o (by simp)
    simp only [St.back, hob, look] at h
    cases hb : Nat.beq o q with
    | true =>
      have := Nat.eq_of_beq_eq_true hb
      subst this
      simp only [hb, cond_true, Option.some.injEq] at h
      exact .inl ⟨by simp, by rw [hob, h]⟩
    | false =>
      simp only [hb, cond_false] at h
      have hne : q ≠ o := Ne.symm (Nat.ne_of_beq_eq_false hb)
      rcases look_back st (fun o ho => hL o (List.mem_cons_of_mem _ ho)) h with ⟨h1, h2⟩ | ⟨h1, h2⟩
      · exact .inl ⟨List.mem_cons_of_mem _ h1, h2⟩
      · exact .inr ⟨by simp [hne, h1], h2⟩
def namesIn (st : St) (L F' : List Nat) : Prop := ∀ o ∈ L, ∃ ob, look st.objs o = some ob ∧ ∀ xs, ob = .cells xs → ∀ q, X.ments q xs = true → F'.elem q = true

theorem ctxH.down {G : Ctx} {E : Env} {RR : Own → List Nat} {a : Act} {L F' : List Nat} {T : Nat → List Nat} (hi : Inv G E RR st a) (hT : ∀ o ∈ L, RR (.obj o) = T o) {st1 : St} (hle : Le st st1) (hL1 : ∀ o ∈ L, look st1.objs o = none) :
    Holds (ctxH G E L T F') st1 a E.w := by
  refine ⟨E, fun p => match p with | .obj o => if o ∈ L then [] else RR (.obj o) | p => RR p, rfl, ?_⟩
  have sub : ∀ p b, b ∈ (match p with | .obj o => if o ∈ L then [] else RR (.obj o) | p => RR p : List Nat) → b ∈ RR p ∧ ∀ o, p = .obj o → o ∉ L := by
    intro p b h
    cases p with
    | obj o =>
      by_cases hL : o ∈ L
      · simp [hL] at h
      · simp only [hL, if_false] at h
        exact ⟨h, fun q hq => by cases hq; exact hL⟩
    | slot s => exact ⟨h, fun q hq => by cases hq⟩
  exact {
    frz := hi.frz
    slots := fun s x hx => hi.slots s x (hle.1 s x hx)
    objs := fun o ob ho => by
      by_cases hL : o ∈ L
      · rw [hL1 o hL] at ho; cases ho
      · simp only [hL, if_false]; exact hi.objs o ob (hle.2 o ob ho)
    nodup := fun p => by
      cases p with
      | obj o =>
        by_cases hL : o ∈ L
        · simp [hL]
        · simp only [hL, if_false]; exact hi.nodup _
      | slot s => exact hi.nodup _
    apart := fun p q hpq b hb hb' => hi.apart p q hpq b (sub p b hb).1 (sub q b hb').1
    own := fun p b hb => by
      obtain ⟨h1, h2⟩ := sub p b hb
      refine ⟨(hi.own p b h1).1, fun hb0 => ?_⟩
      rcases (hb0 : G.K b ∨ ∃ o, o ∈ L ∧ b ∈ T o) with h | ⟨o, ho, hbo⟩
      · exact (hi.own p b h1).2 h
      · rw [← hT o ho] at hbo
        have hne : p ≠ .obj o := fun e => h2 o e ho
        exact hi.apart p (.obj o) hne b h1 hbo
    keep := fun _ _ => rfl
    size := Nat.le_refl _
    small := fun b hb0 => by
      rcases (hb0 : G.K b ∨ ∃ o, o ∈ L ∧ b ∈ T o) with h | ⟨o, ho, hbo⟩
      · exact Nat.lt_of_lt_of_le (hi.small b h) hi.size
      · rw [← hT o ho] at hbo
        exact (hi.own _ b hbo).1
    os := rfl
    tape := rfl
    output := rfl
    φ0 := fun _ _ _ h => h
    grow := fun _ _ _ h => .inl h
    fixed := fun _ _ => rfl
    tmps := hi.tmps
    defers := hi.defers }
theorem ctxH.up {G : Ctx} {E : Env} {RR : Own → List Nat} {a : Act} {L F' : List Nat} {T : Nat → List Nat} (hi : Inv G E RR st a) (hT : ∀ o ∈ L, RR (.obj o) = T o) (hF : ∀ o, G.fn.F.elem o = true → F'.elem o = true) (hLF : ∀ o ∈ L, F'.elem o = true)
    (hob : namesIn st L F') {st' : St} {a' : Act} {w' : World} (h : Holds (ctxH G E L T F') st' a' w') : Holds G ⟨st'.slots, st.back L st'.objs⟩ a' w' := by
  obtain ⟨E', RR', rfl, hj⟩ := h
  have hTb : ∀ {o b}, o ∈ L → b ∈ RR (.obj o) → (ctxH G E L T F').K b := fun ho hb => .inr ⟨_, ho, by rw [← hT _ ho]; exact hb⟩
  have sub : ∀ p b, b ∈ (match p with | .obj o => if o ∈ L then RR (.obj o) else RR' (.obj o) | p => RR' p : List Nat) → (∃ o, o ∈ L ∧ p = .obj o ∧ b ∈ RR p) ∨ ((∀ o, p = .obj o → o ∉ L) ∧ b ∈ RR' p) := by
    intro p b h
    cases p with
    | obj o =>
      by_cases hL : o ∈ L
      · simp only [hL, if_true] at h
        exact .inl ⟨o, hL, rfl, h⟩
      · simp only [hL, if_false] at h
        exact .inr ⟨fun q hq => by cases hq; exact hL, h⟩
    | slot s => exact .inr ⟨fun q hq => (by cases hq), h⟩
  refine ⟨E', fun p => match p with | .obj o => if o ∈ L then RR (.obj o) else RR' (.obj o) | p => RR' p, rfl, ?_⟩
  exact {
    frz := hj.frz
    slots := fun s x hx => hj.slots s x hx
    objs := fun o ob ho => by
      rcases look_back st (fun o ho => (hob o ho).imp fun _ h => h.1) ho with ⟨h1, h2⟩ | ⟨h1, h2⟩
      · simp only [h1, if_true]
        obtain ⟨ob', hob1, hob2⟩ := hob o h1
        rw [h2] at hob1
        obtain rfl := Option.some.inj hob1
        refine ROb.mono ⟨hj.φ0, fun b hb => ⟨hj.keep b (hTb h1 hb), fun hn i => ?_⟩⟩ (hj.fixed o (hLF o h1)) (fun xs hxs q hq => hj.fixed q (hob2 xs hxs q hq)) (hi.objs o ob h2)
        cases hφ : E'.φ b i with
        | none => rfl
        | some v =>
          rcases hj.grow b i v hφ with h3 | h3
          · have h4 := hn i
            change E.φ b i = some v at h3
            rw [h4] at h3; cases h3
          · exact absurd (hTb h1 hb) h3
      · simp only [h1, if_false]; exact hj.objs o ob h2
    nodup := fun p => by
      cases p with
      | obj o =>
        by_cases hL : o ∈ L
        · simp only [hL, if_true]; exact hi.nodup _
        · simp only [hL, if_false]; exact hj.nodup _
      | slot s => exact hj.nodup _
    apart := fun p q hpq b hb hb' => by
      rcases sub p b hb with ⟨o, ho, rfl, h1⟩ | ⟨_, h1⟩ <;> rcases sub q b hb' with ⟨o', ho', rfl, h2⟩ | ⟨_, h2⟩
      · exact hi.apart _ _ hpq b h1 h2
      · exact (hj.own _ b h2).2 (hTb ho h1)
      · exact (hj.own _ b h1).2 (hTb ho' h2)
      · exact hj.apart _ _ hpq b h1 h2
    own := fun p b hb => by
      rcases sub p b hb with ⟨o, ho, rfl, h1⟩ | ⟨_, h1⟩
      · exact ⟨Nat.lt_of_lt_of_le (hi.own _ b h1).1 hj.size, (hi.own _ b h1).2⟩
      · exact ⟨(hj.own _ b h1).1, fun hk => (hj.own _ b h1).2 (.inl hk)⟩
    keep := fun b hb => (hj.keep b (.inl hb)).trans (hi.keep b hb)
    size := Nat.le_trans hi.size hj.size
    small := hi.small
    os := hj.os.trans hi.os
    tape := hj.tape.trans hi.tape
    output := hj.output.trans hi.output
    φ0 := fun b i v h => hj.φ0 b i v (hi.φ0 b i v h)
    grow := fun b i v h => by
      rcases hj.grow b i v h with h1 | h1
      · exact hi.grow b i v h1
      · exact .inr fun hk => h1 (.inl hk)
    fixed := fun o ho => (hj.fixed o (hF o ho)).trans (hi.fixed o ho)
    tmps := hj.tmps
    defers := hj.defers }

theorem wpOp_monoQ {Q1 Q2 : Exit → Act → World → Prop} {K1 K2 : Act → World → Prop} {j : Nat} {a : Act} {w : World} (hQ : ∀ e a w, e ≠ .normal → Q1 e a w → False) (hK : ∀ a w, K1 a w → K2 a w) (h : wpOp P ops Q1 j K1 a w) : wpOp P ops Q2 j K2 a w := by
  unfold wpOp at *
  cases ho : ops[j]? with
  | none => simp only [ho] at h ⊢; first | exact hK _ _ h | exact h
  | some o =>
    simp only [ho] at *
    split
    · rename_i hw
      simp only [hw, if_true] at h
      rcases h with h | ⟨_, hl⟩
      · refine .inl ?_
        unfold Oper.wp at *
        generalize (execOp a.eval o).run P w = r at *
        cases r with
        | ok nx w' =>
          cases nx <;> simp only [Oper.upon] at h ⊢ <;> first
            | exact hK _ _ h
            | exact Calls.mono h (fun e w'' he => by
                cases e with
                | returned u => exact hK _ _ he
                | panicked c => exact (hQ _ _ _ (by simp) he).elim
                | outgrown => exact (let ⟨_, _, h'⟩ := he; hQ _ _ _ (by simp) h').elim)
            | exact Rows.mono h (fun _ _ he => hK _ _ he)
        | halt x w' => cases x <;> simp only [Oper.upon] at h ⊢ <;> first | exact (hQ _ _ _ (by simp) h).elim | exact (let ⟨_, _, h'⟩ := h; hQ _ _ _ (by simp) h').elim | exact h
      · obtain ⟨_, _, h'⟩ := hl
        exact (hQ _ _ _ (by simp) h').elim
    · rename_i hw
      simp only [hw] at h
      exact hK _ _ h
theorem wpAnyH_mono {md : Region.Mode} {S : World → Prop} {Q1 Q2 : Exit → Act → World → Prop} (hQ : ∀ e a w, e ≠ .normal → Q1 e a w → False) (hN : ∀ a w, Q1 .normal a w → Q2 .normal a w) :
    ∀ (n : Nat) (listed : Array Bool) (a : Act) (w : World), wpAnyH P md ops Q1 S n listed a w → wpAnyH P md ops Q2 S n listed a w
  | 0, _, _, _, h => ⟨h.1, hN _ _ h.2⟩
  | n + 1, _, _, _, h => ⟨fun h0 => hN _ _ (h.1 h0), fun i hi => wpOp_monoQ hQ (fun a w h' => ⟨h'.1, wpAnyH_mono hQ hN n _ a w h'.2⟩) (h.2 i hi)⟩

theorem AFirst.go {L F' : List Nat} {n : Nat} {listed : Array Bool} (st1 : St) (hle : Le st st1) (hL1 : ∀ o ∈ L, look st1.objs o = none) (hF : ∀ o, N.F.elem o = true → F'.elem o = true) (hLF : ∀ o ∈ L, F'.elem o = true)
    (hob : namesIn st L F') (k : AHeld P ⟨N.n, F'⟩ ops n listed st1 (fun st' => K ⟨st'.slots, st.back L st'.objs⟩)) : AFirst P N L F' ops n listed st K := by
  intro G hn E RR a T hT hi
  refine wpAnyH_mono (fun e a w he h => he h.1) ?_ n listed a E.w (k (ctxH G E L T F') (by simp [ctxH, hn]) a E.w (ctxH.down hi hT hle hL1))
  rintro a' w' ⟨_, st', hk, hh⟩
  exact ⟨rfl, _, hk, ctxH.up hi hT (by rw [hn]; exact hF) hLF hob hh⟩

theorem AHeld.step {n : Nat} {listed : Array Bool} (j : Nat) {o : Oper} (ho : ops[j]? = some o)
    (k : AOps P N ops [o] st (fun e st' => e = .normal ∧ AHeld P N ops n (listed.setIfInBounds j true) st' K)) (G : Ctx) (hn : G.fn = N) (a : Act) (w : World) (hh : Holds G st a w) :
    wpOp P ops (fun e a w => e = .normal ∧ ∃ st', K st' ∧ Holds G st' a w) j (fun a' w' => SG G w' ∧ wpAnyH P .any ops (fun e a w => e = .normal ∧ ∃ st', K st' ∧ Holds G st' a w) (SG G) n (listed.setIfInBounds j true) a' w') a w := by
  have hk := k G hn a w hh
  have key : wpOp P ops (fun e a w => Post G (fun e st' => e = .normal ∧ AHeld P N ops n (listed.setIfInBounds j true) st' K) e a w) j
      (fun a w => Post G (fun e st' => e = .normal ∧ AHeld P N ops n (listed.setIfInBounds j true) st' K) .normal a w) a w := by
    unfold wpOp; simp only [ho]; exact hk
  refine wpOp_monoQ ?_ ?_ key
  · rintro e a w he ⟨st', _, h, _⟩
    exact he h
  · rintro a w ⟨st', hh', _, hk'⟩
    exact ⟨hh'.sg, hk' G hn a w hh'⟩
theorem AHeld.one {n : Nat} {listed : Array Bool} (i : Nat) {o : Oper} (ho : ops[i]? = some o) (hr : (Region.ready .any ops listed == [i]) = true)
    (k : AOps P N ops [o] st (fun e st' => e = .normal ∧ AHeld P N ops n (listed.setIfInBounds i true) st' K)) : AHeld P N ops (n + 1) listed st K := by
  intro G hn a w hh
  refine wpAnyH_all (rs := [i]) (by simpa using hr) (by simp) ?_
  intro j hj
  have : j = i := by simpa using hj
  subst this
  exact AHeld.step j ho k G hn a w hh
theorem AHeld.two {n : Nat} {listed : Array Bool} (i i' : Nat) {o o' : Oper} (ho : ops[i]? = some o) (ho' : ops[i']? = some o') (hr : (Region.ready .any ops listed == [i, i']) = true)
    (k : AOps P N ops [o] st (fun e st' => e = .normal ∧ AHeld P N ops n (listed.setIfInBounds i true) st' K))
    (k' : AOps P N ops [o'] st (fun e st' => e = .normal ∧ AHeld P N ops n (listed.setIfInBounds i' true) st' K)) : AHeld P N ops (n + 1) listed st K := by
  intro G hn a w hh
  refine wpAnyH_all (rs := [i, i']) (by simpa using hr) (by simp) ?_
  intro j hj
  simp only [List.mem_cons, List.not_mem_nil, or_false] at hj
  rcases hj with rfl | rfl
  · exact AHeld.step j ho k G hn a w hh
  · exact AHeld.step j ho' k' G hn a w hh
theorem AHeld.blind {n : Nat} {listed : Array Bool} (i : Nat) {op : Op} {x : X} (ho : ops[i]? = some ⟨some d, op, ty, pos, af, none⟩)
    (hB : (Region.noSelect ops && Region.free .any ops listed i && (Region.ready .any ops listed).contains i) = true) (hy : Blind P N st ⟨some d, op, ty, pos, af, none⟩ x) (hd : d < N.n)
    (k : AHeld P N ops n (listed.setIfInBounds i true) (st.put d x) K) : AHeld P N ops (n + 1) listed st K := by
  intro G hn a w hh
  have hS := hh.sg
  obtain ⟨E, RR, rfl, hi⟩ := hh
  obtain ⟨u, hr, hx⟩ := hy G E RR a hn hi
  simp only [Bool.and_eq_true] at hB
  refine wpAnyH_take (v := u) ho hB.1.1 hB.1.2 hB.2 ?_ (.inl ⟨by simp [Region.wanted], fun w _ => hr w⟩) hS (k G hn _ _ ⟨E, _, rfl, hi.put0 (hn ▸ hd) hx⟩)
  intro c a w h
  cases h.1
theorem AHeld.done {n : Nat} {listed : Array Bool} (hr : (Region.ready .any ops listed).isEmpty = true) (h : K st) : AHeld P N ops n listed st K :=
  fun _ _ _ _ hh => wpAnyH_done (by simpa using hr) ⟨rfl, st, h, hh⟩ n

theorem Le.objs {st : St} {l : List (Nat × Obj)} (h : SubL st.objs l) : Le st ⟨st.slots, l⟩ := ⟨fun _ _ h => h, h⟩
theorem namesIn.nil {F' : List Nat} : namesIn st [] F' := fun _ h => by cases h
def ownNames : List X → List Nat
  | [] => []
  | .ptr o .. :: r | .slc o .. :: r | .mref o :: r => o :: ownNames r
  | .v _ :: r | .fz .. :: r | .no :: r | .fp .. :: r | .uni .. :: r => ownNames r
  | _ :: r => ownNames r
def flatX : List X → Bool
  | [] => true
  | .agg _ :: _ | .tup _ :: _ | .clo .. :: _ => false
  | _ :: r => flatX r
theorem ownNames_spec {q : Nat} : ∀ {xs : List X}, flatX xs = true → X.ments q xs = true → q ∈ ownNames xs
  | [], _, h => by simp [X.ments] at h
  | x :: r, hf, h => by
    simp only [X.ments, Bool.or_eq_true] at h
    cases x <;> simp only [flatX, Bool.false_eq_true] at hf <;> simp only [ownNames, X.ment, Bool.false_eq_true, false_or, beq_iff_eq, List.mem_cons] at h ⊢ <;>
      first
        | exact ownNames_spec hf h
        | (rcases h with h | h
           · first | exact .inl h.symm | exact .inl h | exact .inl (Nat.eq_of_beq_eq_true h).symm | exact .inl (Nat.eq_of_beq_eq_true h)
           · exact .inr (ownNames_spec hf h))
theorem namesIn.cells {F' L : List Nat} {o : Nat} {xs : List X} (ho : look st.objs o = some (.cells xs)) (hf : flatX xs = true) (hn : (ownNames xs).all (fun q => F'.elem q) = true) (hL : namesIn st L F') : namesIn st (o :: L) F' := by
  intro p hp
  rcases List.mem_cons.1 hp with rfl | hp
  · exact ⟨_, ho, fun ys hys q hq => by cases hys; exact List.all_eq_true.1 hn q (ownNames_spec hf hq)⟩
  · exact hL p hp
theorem AFirst.go0 {n : Nat} {listed : Array Bool} (k : AHeld P N ops n listed st K) : AFirst P N [] N.F ops n listed st K :=
  AFirst.go st (Le.refl st) (fun _ h => by cases h) (fun _ h => h) (fun _ h => by cases h) namesIn.nil k
end
end Go.AW
/- Part of the abstract walk: results that are structs with slices of their own. -/
namespace Go.AW
open Go
section
variable {P : Program}
theorem Sh.then {N : Frm} {a b c : St} (h1 : Sh N a b) (h2 : Sh N b c) : Sh N a c := fun G hn x w hh => h2 G hn x w (h1 G hn x w hh)
end
end Go.AW
/- Part of the abstract walk: structs that own slices, among several results. -/
namespace Go.AW
open Go
section
variable {N : Frm} {st : St} {d : Nat}
end
theorem AWp.regionHeldJ {P : Program} {N : Frm} {st : St} {ops : Array Oper} (L F' : List Nat) (J : St) {Q : Exit → St → Prop} {id : Nat} (hm : P.follows .mixedOrders = true) (h : AFirst P N L F' ops ops.size (Array.replicate ops.size false) st (fun st' => Le st' J)) (k : Q .normal J) : AWp P N (.region id ops true) st Q := by
 intro G hn a w hh
 obtain ⟨E, RR, hw, hi⟩ := hh.drew
 refine wp_mono (wp_region_held (S := SG (ctxH G E L (fun o => RR (.obj o)) F')) hm (hw ▸ h G hn E RR a _ (fun _ _ => rfl) hi)) ?_
 rintro e a w ⟨rfl, st', hk, hh'⟩
 exact ⟨J, hk.holds hh', k⟩
theorem AWp.regionHeldJ0 {P : Program} {N : Frm} {st : St} {ops : Array Oper} (J : St) {Q : Exit → St → Prop} {id : Nat} (hm : P.follows .mixedOrders = true) (h : AFirst P N [] N.F ops ops.size (Array.replicate ops.size false) st (fun st' => Le st' J)) (k : Q .normal J) : AWp P N (.region id ops true) st Q := AWp.regionHeldJ [] N.F J hm h k
end Go.AW
