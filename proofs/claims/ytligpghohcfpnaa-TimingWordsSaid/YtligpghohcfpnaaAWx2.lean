/- Part of the abstract walk: words of 64 bits as natural numbers. -/
import Derived.Test.YtligpghohcfpnaaAWx1
import Derived.Lib.AppendZeros
import Derived.Lib.SliceRun
import Derived.KernelRfl
import Derived.DataShut
import Derived.Laws.StructEq
import Derived.OrdersHeld
import Derived.RangeFuncLeaves
import Derived.RangeFuncSeq
import Derived.RangeFuncCalls
import Derived.TacticsIn
import Derived.OrdersIn
set_option linter.unusedSimpArgs false
set_option linter.unusedVariables false
set_option linter.unusedSectionVars false
namespace Go.AW
open Go

theorem u64_wrapN (n : Nat) : IntKind.u64.wrap (n : Int) = ((n % 18446744073709551616 : Nat) : Int) := by
 simp [IntKind.wrap, IntKind.bits, IntKind.signed]
theorem u64_fitN (n : Nat) (h : n < 18446744073709551616) : IntKind.u64.wrap (n : Int) = (n : Int) := by rw [u64_wrapN, Nat.mod_eq_of_lt h]
theorem u64_toNat (n : Int) (h : 0 ≤ n ∧ n ≤ 18446744073709551615) : IntKind.u64.wrap n = ((n.toNat : Nat) : Int) := by rw [IntWalk.u64_in n h]; omega
theorem bv_ofNat (n w : Nat) : BitVec.ofInt w (n : Int) = BitVec.ofNat w n := by
 apply BitVec.eq_of_toNat_eq
 simp [BitVec.toNat_ofInt, BitVec.toNat_ofNat]
section
variable {P : Program} {N : Frm} {st : St} {dst : Option Nat} {ty : TypeId} {pos : String} {af : Array Edge} {g : Option (Nat × Bool)} {t t' : TypeId} {x y : Operand} {a b : Nat}
theorem Y.addN (hx : opd st x = some (.v (.int .u64 (a : Int)))) (hy : opd st y = some (.v (.int .u64 (b : Int)))) : Yields P N st ⟨dst, .binOp .add t x y t', ty, pos, af, g⟩ (.v (.int .u64 (((a + b) % 18446744073709551616 : Nat) : Int))) :=
 Y.add hx hy (by rw [← u64_wrapN]; congr 1)
theorem Y.mulN (hx : opd st x = some (.v (.int .u64 (a : Int)))) (hy : opd st y = some (.v (.int .u64 (b : Int)))) : Yields P N st ⟨dst, .binOp .mul t x y t', ty, pos, af, g⟩ (.v (.int .u64 (((a * b) % 18446744073709551616 : Nat) : Int))) :=
 Y.mul hx hy (by rw [← u64_wrapN]; congr 1)
theorem Y.quoN (hx : opd st x = some (.v (.int .u64 (a : Int)))) (hy : opd st y = some (.v (.int .u64 (b : Int)))) (hr : a < 18446744073709551616 ∧ 1 ≤ b) : Yields P N st ⟨dst, .binOp .quo t x y t', ty, pos, af, g⟩ (.v (.int .u64 ((a / b : Nat) : Int))) :=
 Y.quo hx hy om (by
  rw [Int.tdiv_eq_ediv_of_nonneg om, ← Int.natCast_ediv]
  exact u64_fitN _ (Nat.lt_of_le_of_lt (Nat.div_le_self a b) hr.1))
theorem Y.remN {k : IntKind} (hx : opd st x = some (.v (.int k (a : Int)))) (hy : opd st y = some (.v (.int k (b : Int)))) (hr : 1 ≤ b) : Yields P N st ⟨dst, .binOp .rem t x y t', ty, pos, af, g⟩ (.v (.int k ((a % b : Nat) : Int))) :=
 Y.rem hx hy om (by rw [Int.tmod_eq_emod_of_nonneg om]; exact (Int.natCast_emod a b).symm)
theorem Y.andN (hx : opd st x = some (.v (.int .u64 (a : Int)))) (hy : opd st y = some (.v (.int .u64 (b : Int)))) (hr : a < 18446744073709551616 ∧ b < 18446744073709551616) : Yields P N st ⟨dst, .binOp .and t x y t', ty, pos, af, g⟩ (.v (.int .u64 ((a &&& b : Nat) : Int))) :=
 Y.and hx hy (by
  rw [bv_ofNat, bv_ofNat, BitVec.toNat_and, BitVec.toNat_ofNat, BitVec.toNat_ofNat, show 2 ^ IntKind.u64.bits = 18446744073709551616 from rfl, Nat.mod_eq_of_lt hr.1, Nat.mod_eq_of_lt hr.2]
  exact u64_fitN _ (Nat.lt_of_le_of_lt Nat.and_le_left hr.1))
theorem pow_min64 (a b : Nat) (h : a < 18446744073709551616) : a / 2 ^ (min b 64) = a / 2 ^ b := by
 rcases Nat.le_total b 64 with hb | hb
 ·rw [Nat.min_eq_left hb]
 ·rw [Nat.min_eq_right hb, Nat.div_eq_of_lt h]
  exact (Nat.div_eq_of_lt (Nat.lt_of_lt_of_le h (Nat.pow_le_pow_right (show 0 < 2 by decide) hb))).symm
theorem Y.shrN {k' : IntKind} {i : Int} (b : Nat) (hx : opd st x = some (.v (.int .u64 (a : Int)))) (hy : opd st y = some (.v (.int k' i))) (hi : i = (b : Int)) (hr : a < 18446744073709551616) : Yields P N st ⟨dst, .binOp .shr t x y t', ty, pos, af, g⟩ (.v (.int .u64 ((a / 2 ^ b : Nat) : Int))) :=
 Y.shr hx hy om (by
  subst hi
  show (a : Int).fdiv (2 ^ (Min.min b 64)) = _
  have h2 : (0 : Int) ≤ 2 ^ (Min.min b 64) := Int.le_of_lt (Int.pow_pos (show (0 : Int) < 2 by decide))
  rw [← pow_min64 a b hr, Int.fdiv_eq_ediv_of_nonneg _ h2]
  norm_cast)
end
end Go.AW
/- Part of the abstract walk: guarded operations that look at no memory, in open orders. -/
namespace Go.AW
open Go

section
variable {P : Program} {N : Frm} {ops : Array Oper} {st : St} {d : Nat} {ty : TypeId} {pos : String} {af : Array Edge} {K : St → Prop}
theorem AAny.skipOp {n : Nat} {listed : Array Bool} (i : Nat) {op : Op} {j dj : Nat} {want : Bool} {u : Value} (ho : ops[i]? = some ⟨some d, op, ty, pos, af, some (j, want)⟩)
  (hB : (Region.noSelect ops && Region.free .any ops listed i && (Region.ready .any ops listed).contains i) = true)
  (hj : (ops[j]?).bind (·.dst) = some dj) (hdj : dj < N.n) (hd : d < N.n) (hx : look st.slots dj = some (.v u)) (hne : notB want u = true)
  (k : AAny P N ops n (listed.setIfInBounds i true) (st.put d (.v undef)) K) : AAny P N ops (n + 1) listed st K := by
 intro G hn a w hh
 obtain ⟨E, RR, rfl, hi⟩ := hh
 simp only [Bool.and_eq_true] at hB
 have hw := unwanted (all := ops) (dst := some d) (op := op) (ty := ty) (pos := pos) (af := af) hi hj (hn ▸ hdj) hx hne
 refine wpAny_take (v := undef) ho hB.1.1 hB.1.2 hB.2 ?_ (.inr ⟨hw, rfl⟩) (k G hn _ _ ⟨E, _, rfl, hi.put0 (hn ▸ hd) (by simp [RX])⟩)
 intro c a w h
 cases h.1
theorem AAny.blindRun {n : Nat} {listed : Array Bool} (i : Nat) {op : Op} {x : X} {j dj : Nat} {want : Bool} (ho : ops[i]? = some ⟨some d, op, ty, pos, af, some (j, want)⟩)
  (hB : (Region.noSelect ops && Region.free .any ops listed i && (Region.ready .any ops listed).contains i) = true)
  (hj : (ops[j]?).bind (·.dst) = some dj) (hdj : dj < N.n) (hx : look st.slots dj = some (.v (.bool want))) (hy : Blind P N st ⟨some d, op, ty, pos, af, some (j, want)⟩ x) (hd : d < N.n)
  (k : AAny P N ops n (listed.setIfInBounds i true) (st.put d x) K) : AAny P N ops (n + 1) listed st K := by
 intro G hn a w hh
 obtain ⟨E, RR, rfl, hi⟩ := hh
 obtain ⟨u, hr, hx'⟩ := hy G E RR a hn hi
 simp only [Bool.and_eq_true] at hB
 have hs := hi.slots dj _ hx
 simp only [RX] at hs
 have hsz : dj < a.tmps.size := by rw [hi.tmps, hn]; exact hdj
 have hv : a.tmps[dj]? = some (.bool want) := by
  have := hs.1
  simp only [Array.getD, hsz, dif_pos] at this
  rw [Array.getElem?_eq_getElem hsz]
  exact congrArg some this
 have hw : Region.wanted ⟨some d, op, ty, pos, af, some (j, want)⟩ (yielded ops a.tmps) = true := by
  simp [Region.wanted, yielded, hj, hv]
 refine wpAny_take (v := u) ho hB.1.1 hB.1.2 hB.2 ?_ (.inl ⟨hw, hr⟩) (k G hn _ _ ⟨E, _, rfl, hi.put0 (hn ▸ hd) hx'⟩)
 intro c a w h
 cases h.1
end
end Go.AW
/- Part of the abstract walk: slices.Grow of no slice. -/
namespace Go.AW
open Go

section
variable {P : Program} {N : Frm} {G : Ctx} {E : Env} {RR : Own → List Nat} {st : St} {a : Act} {Q : Exit → St → Prop} {all : Array Oper} {rest : List Oper} {d : Nat} {dst : Option Nat} {ty : TypeId} {pos : String} {af : Array Edge} {g : Option (Nat × Bool)}
theorem Y.capNil {t e s by_ : Nat} {x : Operand} (ht : TY.slice P t = some (e, s, by_)) (hx : opd st x = some (.v (.slice none 0 0))) :
  Yields P N st ⟨dst, .call ⟨.builtin .cap, #[x], #[t]⟩, ty, pos, af, g⟩ (.v (.int .i64 0)) := by
 intro G E RR a _ hi
 refine ⟨.int .i64 0, run_callB ?_, by simp [RX]⟩
 obtain ⟨hu, _⟩ := TY.slice_spec ht
 have hc := hi.val hx
 simp [builtin, Builtin.cap_, hc, run_underlying hu, goInt]
theorem Y.sliceNil {t e s by_ : Nat} {x : Operand} {lo hi' : Option Operand} (ht : TY.slice P t = some (e, s, by_)) (hx : opd st x = some (.v (.slice none 0 0))) (hl : Bd st lo 0 0) (hh : Bd st hi' 0 0) :
  Yields P N st ⟨dst, .slice t x lo hi' none, ty, pos, af, g⟩ (.v (.slice none 0 0)) := by
 intro G E RR a _ hi
 obtain ⟨hun, i, hinf, hsz, _⟩ := TY.slice_spec ht
 have hc := hi.val hx
 refine ⟨.slice none 0 0, ?_, by simp [RX]⟩
 show (do let z ← Instr.sliceAt t (a.eval x) (lo.map a.eval) (hi'.map a.eval) none; pure (Next.value z) : Sem Next).run P E.w = _
 rw [hc]
 refine run_v ?_
 simp only [Instr.sliceAt, Sem.run_bind, run_underlying hun, Result.andThen_ok, Instr.slice, run_sliceBounds hi hl hh (Nat.le_refl 0) (Nat.le_refl 0), run_sizeOf hinf, hsz]
 rfl
theorem AOps.appendMake {t tn e s by_ n : Nat} {x y : Operand} {z : List Value} {k kn : IntKind} (ht : TY.slice P t = some (e, s, by_)) (hz : TY.zero P e = some z) (hzl : z.length = s) (h1 : X.ones (z.map X.v) = true) (htn : TY.isInt P tn = some kn)
  (hx : opd st x = some (.v (.slice none 0 0))) (hy : opd st y = some (.v (.int k (n : Int)))) (h0 : 0 < n) (hs0 : 0 < s) (hb : n * by_ ≤ 281474976710656) (h63 : n ≤ 9223372036854775807) (hd : d < N.n)
  (kk : AOps P N all rest (st.put d (.uni s (List.replicate n (z.map X.v)))) Q) : AOps P N all (⟨some d, .call ⟨.builtin .append, #[x, y], #[t, tn]⟩, ty, pos, af, none⟩ :: rest) st Q := by
 refine AOps.eff (fun G E RR a hn hi => ?_) kk
 obtain ⟨hu, i, hinf, hs, hby⟩ := TY.slice_spec ht
 obtain ⟨i', z0, hi0, hz0, hzz⟩ := TY.zero_spec hz
 rw [hinf] at hi0
 obtain rfl := Option.some.inj hi0
 have hzz' : z0.cells = z.toArray := by rw [← hzz]
 have hrun := Lib.run_append_nil_zeros (P := P) E.w t tn ty e i z0 k kn hu (by unfold TY.isInt at htn; split at htn <;> simp_all : P.underlying tn = some (.int kn)) hinf hz0 n h0 (by rw [hs]; exact hs0) om (by rw [hby]; exact hb)
 rw [hzz'] at hrun
 have hU : Uniform s (List.replicate n (z.map X.v)) := by
  intro r hr
  rw [(List.mem_replicate.1 hr).2]; simpa using hzl
 have hi2 := hi.moves (Moves.drew G E) rfl
 have hcap := grownCap_ge E.w n 0 e
 have hsz : (Builtin.zeroCells z.toArray n ++ Builtin.zeroCells z.toArray (grownCap E.w n 0 e - n)).size = grownCap E.w n 0 e * s := by
  rw [Array.size_append, size_zeroCells, size_zeroCells, ← Nat.add_mul]
  simp only [List.size_toArray, hzl]
  congr 1; omega
 obtain ⟨RR', hi'⟩ := hi2.newRow (cs := Builtin.zeroCells z.toArray n ++ Builtin.zeroCells z.toArray (grownCap E.w n 0 e - n)) (e := e) (s := s) (cap := grownCap E.w n 0 e) (d := d) hU (by rw [List.length_replicate]; exact hcap) (by rw [hsz]; exact Nat.le_refl _) (by
  refine ROr.of_all hU fun j row hr => ?_
  have hj : j < n := by
   rcases Nat.lt_or_ge j n with h' | h'
   ·exact h'
   ·rw [List.getElem?_eq_none (by rw [List.length_replicate]; exact h')] at hr; cases hr
  have : row = z.map X.v := by
   have := List.mem_of_getElem? hr
   exact (List.mem_replicate.1 this).2
  subst this
  refine ⟨nrs_v z, RXs.toRO (RXs_v h1) fun q hq => ?_⟩
  have hq' : q < s := by simpa [hzl] using hq
  have hlt : j * s + q < n * s := by
   have : (j + 1) * s ≤ n * s := Nat.mul_le_mul_right s hj
   rw [Nat.add_mul] at this; omega
  have hqz : q < z.length := by omega
  rw [Array.getElem?_append_left (by rw [size_zeroCells]; simp only [List.size_toArray, hzl]; omega)]
  simp only [Nat.zero_add, Builtin.zeroCells]
  rw [Array.getElem?_map, Array.getElem?_range, if_pos (by simpa [hzl] using hlt)]
  simp only [Option.map_some, List.size_toArray, hzl, mod_of hq']
  rw [List.getElem?_eq_getElem hqz]
  simp [hqz]) (by rw [hn]; exact hd)
 simp only [List.length_replicate] at hi'
 refine ⟨_, _, _, ?_, hi'⟩
 refine run_callB (g := none) ?_
 have e' : (#[x, y] : Array Operand).map a.eval = #[.slice none 0 0, .int k (n : Int)] := by simp [hi.val hx, hi.val hy]
 rw [e']
 exact run_v hrun
theorem Sh.trimE {d o s lo n : Nat} {rs : List (List X)} (rs' : List (List X)) (hx : look st.slots d = some (.slc o s lo n)) (ho : look st.objs o = some (.rows s rs)) (hln : lo + n ≤ rs.length) (he : (rs.drop lo).take n = rs') (hF : N.F.elem o = false) :
  Sh N st (((st.kill o).putO o (.rows s rs')).put d (.slc o s 0 n)) := by subst he; exact Sh.trim hx ho hln hF
end
end Go.AW
/- Part of the abstract walk: a slice of one's own is taken out of the slice that holds it. -/
namespace Go.AW
open Go

theorem X.nrs_set : ∀ {xs : List X} (k : Nat), X.nrs xs = true → X.nrs (xs.set k .no) = true
 | [], _, _ => rfl
 | x :: r, 0, h => by
  simp only [X.nrs, Bool.and_eq_true] at h
  simp [List.set, X.nrs, X.nr, h.2]
 | x :: r, k + 1, h => by
  simp only [X.nrs, Bool.and_eq_true] at h
  simp [List.set, X.nrs, h.1, X.nrs_set k h.2]
theorem RO.pick {E : Env} {cs : Array Value} {y : X} : ∀ {xs : List X} {off k : Nat} {R : List Nat}, RO E xs cs off R → xs[k]? = some y →
  ∃ u Ry R1, cs[off + k]? = some u ∧ Single u ∧ RX E y u Ry ∧ RO E (xs.set k .no) cs off R1 ∧ (R.Nodup → (Ry ++ R1).Nodup) ∧ ∀ b ∈ Ry ++ R1, b ∈ R
 | [], _, _, _, _, h => by simp at h
 | x :: r, off, 0, R, h, hy => by
  simp only [RO] at h
  obtain ⟨u, R₁, R₂, hu, hs, h1, h2, rfl⟩ := h
  simp only [List.getElem?_cons_zero, Option.some.injEq] at hy
  subst hy
  refine ⟨u, R₁, R₂, hu, hs, h1, ?_, fun h => h, fun b hb => hb⟩
  simp only [List.set, RO]
  exact ⟨u, [], R₂, hu, hs, by simp [RX], h2, rfl⟩
 | x :: r, off, k + 1, R, h, hy => by
  simp only [RO] at h
  obtain ⟨u, R₁, R₂, hu, hs, h1, h2, rfl⟩ := h
  simp only [List.getElem?_cons_succ] at hy
  obtain ⟨v, Ry, R', hv, hsv, hvy, hro, hnd, hsub⟩ := RO.pick h2 hy
  refine ⟨v, Ry, R₁ ++ R', by rw [show off + (k + 1) = off + 1 + k by omega]; exact hv, hsv, hvy, ?_, fun hn => ?_, fun b hb => ?_⟩
  ·simp only [List.set, RO]
   exact ⟨u, R₁, R', hu, hs, h1, hro, rfl⟩
  ·obtain ⟨n1, n2, n3⟩ := List.nodup_append.1 hn
   have h3 := hnd n2
   rw [← List.append_assoc, List.nodup_append]
   obtain ⟨m1, m2, m3⟩ := List.nodup_append.1 h3
   refine ⟨?_, m2, fun a ha b hb => ?_⟩
   ·rw [List.nodup_append]
    exact ⟨m1, n1, fun a ha b hb e => n3 b hb a (hsub a (List.mem_append.2 (.inl ha))) e.symm⟩
   ·rcases List.mem_append.1 ha with h | h
    ·exact m3 a h b hb
    ·exact n3 a h b (hsub b (List.mem_append.2 (.inr hb)))
  ·rcases List.mem_append.1 hb with h | h
   ·exact List.mem_append.2 (.inr (hsub b (List.mem_append.2 (.inl h))))
   ·rcases List.mem_append.1 h with h | h
    ·exact List.mem_append.2 (.inl h)
    ·exact List.mem_append.2 (.inr (hsub b (List.mem_append.2 (.inr h))))
theorem ROr.pick {E : Env} {cs : Array Value} {y : X} {s : Nat} : ∀ {rs : List (List X)} {row : List X} {off i k : Nat} {R : List Nat}, Uniform s rs → ROr E rs cs off R → rs[i]? = some row → row[k]? = some y →
  ∃ u Ry R1, cs[off + (i * s + k)]? = some u ∧ Single u ∧ RX E y u Ry ∧ ROr E (rs.set i (row.set k .no)) cs off R1 ∧ (R.Nodup → (Ry ++ R1).Nodup) ∧ ∀ b ∈ Ry ++ R1, b ∈ R
 | [], _, _, _, _, _, _, _, h, _ => by simp at h
 | r :: rs, row, off, 0, k, R, _, h, hr, hy => by
  simp only [ROr] at h
  obtain ⟨R₁, R₂, hn, h1, h2, rfl⟩ := h
  simp only [List.getElem?_cons_zero, Option.some.injEq] at hr
  subst hr
  obtain ⟨u, Ry, R', hu, hs, hvy, hro, hnd, hsub⟩ := RO.pick h1 hy
  refine ⟨u, Ry, R' ++ R₂, by rw [Nat.zero_mul, Nat.zero_add]; exact hu, hs, hvy, ?_, fun hn' => ?_, fun b hb => ?_⟩
  ·simp only [List.set, ROr, List.length_set]
   exact ⟨R', R₂, X.nrs_set k hn, hro, h2, rfl⟩
  ·obtain ⟨n1, n2, n3⟩ := List.nodup_append.1 hn'
   rw [← List.append_assoc, List.nodup_append]
   exact ⟨hnd n1, n2, fun a ha b hb => n3 a (hsub a ha) b hb⟩
  ·rw [← List.append_assoc] at hb
   rcases List.mem_append.1 hb with h | h
   ·exact List.mem_append.2 (.inl (hsub b h))
   ·exact List.mem_append.2 (.inr h)
 | r :: rs, row, off, i + 1, k, R, hU, h, hr, hy => by
  simp only [ROr] at h
  obtain ⟨R₁, R₂, hn, h1, h2, rfl⟩ := h
  simp only [List.getElem?_cons_succ] at hr
  have hl : r.length = s := hU r (List.mem_cons_self ..)
  obtain ⟨u, Ry, R', hu, hs, hvy, hro, hnd, hsub⟩ := ROr.pick (fun x hx => hU x (List.mem_cons_of_mem _ hx)) h2 hr hy
  refine ⟨u, Ry, R₁ ++ R', by rw [show off + ((i + 1) * s + k) = off + r.length + (i * s + k) by rw [Nat.add_mul, hl]; omega]; exact hu, hs, hvy, ?_, fun hn' => ?_, fun b hb => ?_⟩
  ·simp only [List.set, ROr]
   exact ⟨R₁, R', hn, h1, hro, rfl⟩
  ·obtain ⟨n1, n2, n3⟩ := List.nodup_append.1 hn'
   have h3 := hnd n2
   rw [← List.append_assoc, List.nodup_append]
   obtain ⟨m1, m2, m3⟩ := List.nodup_append.1 h3
   refine ⟨?_, m2, fun a ha b hb => ?_⟩
   ·rw [List.nodup_append]
    exact ⟨m1, n1, fun a ha b hb e => n3 b hb a (hsub a (List.mem_append.2 (.inl ha))) e.symm⟩
   ·rcases List.mem_append.1 ha with h | h
    ·exact m3 a h b hb
    ·exact n3 a h b (hsub b (List.mem_append.2 (.inr hb)))
  ·rcases List.mem_append.1 hb with h | h
   ·exact List.mem_append.2 (.inr (hsub b (List.mem_append.2 (.inl h))))
   ·rcases List.mem_append.1 h with h | h
    ·exact List.mem_append.2 (.inl h)
    ·exact List.mem_append.2 (.inr (hsub b (List.mem_append.2 (.inr h))))
section
variable {P : Program} {N : Frm} {st : St} {Q : Exit → St → Prop} {all : Array Oper} {rest : List Oper} {d : Nat} {ty : TypeId} {pos : String} {af : Array Edge}
theorem AOps.loadU {t : TypeId} {x : Operand} {o s i k : Nat} {y : X} {row : List X} {rs : List (List X)} (rs' : List (List X)) (ht : TY.shape P t = some none) (hx : opd st x = some (.ptr o s i k)) (ho : look st.objs o = some (.rows s rs)) (hr : rs[i]? = some row) (hy : row[k]? = some y)
  (he : rs.set i (row.set k .no) = rs') (hd : d < N.n) (kk : AOps P N all rest ((st.putO o (.rows s rs')).put d y) Q) :
  AOps P N all (⟨some d, .load t x, ty, pos, af, none⟩ :: rest) st Q := by
 subst he
 refine AOps.eff (fun G E RR a hn hi => ?_) kk
 obtain ⟨R, hp⟩ := hi.eval hx
 simp only [RX] at hp
 obtain ⟨_, B, hB, hc⟩ := hp
 have hob := hi.objs o _ ho
 have hnd := hi.nodup (.obj o)
 simp only [ROb] at hob
 obtain ⟨hu, hob⟩ := hob
 rcases hob with ⟨_, h, _⟩ | ⟨B', cs, tb, R', hB', hw, hφ, hcap, hlen, hRO, hRR⟩
 ·subst h; simp at hr
 rw [hB] at hB'
 obtain rfl := Option.some.inj hB'
 obtain ⟨u, Ry, R1, hcu, hs, hvy, hro, hnod, hsub⟩ := ROr.pick hu hRO hr hy
 rw [hRR] at hnd
 obtain ⟨hnin, hnd'⟩ := List.nodup_cons.1 hnd
 have hn2 := hnod hnd'
 obtain ⟨m1, m2, m3⟩ := List.nodup_append.1 hn2
 have hsubo : ∀ b ∈ Ry ++ R1, b ∈ RR (.obj o) := fun b hb => by rw [hRR]; exact List.mem_cons.2 (.inr (hsub b hb))
 have hi2 : Inv G E (upd RR (.obj o) (B.b :: R1)) (st.putO o (.rows s (rs.set i (row.set k .no)))) a := by
  refine hi.putO ?_ ?_ ?_
  ·simp only [ROb]
   refine ⟨hu.set (by rw [List.length_set]; exact hu row (List.mem_of_getElem? hr)), .inr ⟨B, cs, tb, R1, hB, hw, hφ, by simpa using hcap, hlen, hro, rfl⟩⟩
  ·exact List.nodup_cons.2 ⟨fun h => hnin (hsub _ (List.mem_append.2 (.inr h))), m2⟩
  ·intro b hb
   have hbm : b ∈ RR (.obj o) := by
    rcases List.mem_cons.1 hb with h | h
    ·rw [hRR, h]; simp
    ·exact hsubo b (List.mem_append.2 (.inr h))
   exact ⟨(hi.own _ _ hbm).1, (hi.own _ _ hbm).2, fun p hp h => hi.apart _ _ hp b h hbm⟩
 refine ⟨u, E, _, ?_, hi2.put (by rw [hn]; exact hd) hvy m1 fun b hb => ?_⟩
 ·show (do let z ← Instr.loadAt t (a.eval x); pure (Next.value z) : Sem Next).run P E.w = _
  rw [hc]
  refine run_v ?_
  have hcell : E.w.cell? ⟨B.b, B.off + (i * s + k), none⟩ = some u := by rw [cell_of_heap hw]; exact hcu
  simp only [Instr.loadAt, Instr.sureAddr, loadVar, Sem.run_bind, Sem.run_pure, Result.andThen_ok, (TY.shape_none ht E.w).1]
  simp [hcell]
 ·have hbm := hsubo b (List.mem_append.2 (.inl hb))
  refine ⟨(hi.own _ _ hbm).1, (hi.own _ _ hbm).2, fun p hp h => ?_⟩
  unfold upd at h
  split at h
  ·rename_i hpo
   rcases List.mem_cons.1 h with h' | h'
   ·exact hnin (h' ▸ hsub b (List.mem_append.2 (.inl hb)))
   ·exact m3 b hb b h' rfl
  ·rename_i hpo
   exact hi.apart _ _ hpo b h hbm
theorem AOps.storeUE {t : TypeId} {x : Operand} {o s i k ys' tv : Nat} {rows : List (List X)} {rw' : List X} {rs : List (List X)} (rs' : List (List X)) (ht : TY.size P t = some 1) (hx : opd st x = some (.ptr o s i k)) (hy : look st.slots tv = some (.uni ys' rows))
  (ho : look st.objs o = some (.rows s rs)) (hr : rs[i]? = some rw') (hk : k + 1 ≤ rw'.length) (he : rs.set i (putL rw' k [.uni ys' rows]) = rs') (kk : AOps P N all rest ((st.put tv .no).putO o (.rows s rs')) Q) :
  AOps P N all (⟨none, .store t x (.tmp tv), ty, pos, af, none⟩ :: rest) st Q := by
 subst he; exact AOps.storeU ht hx hy (row := []) rfl ho hr hk kk
end
end Go.AW
/- Part of the abstract walk: slices of slices of one's own. -/
namespace Go.AW
open Go

theorem RO.nilu {E : Env} {cs : Array Value} {e off : Nat} {R : List Nat} (h : RO E [.v (.slice none 0 0)] cs off R) : RO E [.uni e []] cs off R := by
 simp only [RO] at h ⊢
 obtain ⟨u, R₁, R₂, hu, hs, h1, h2, h3⟩ := h
 simp only [RX] at h1
 refine ⟨u, R₁, R₂, hu, hs, ?_, h2, h3⟩
 simp only [RX]
 exact ⟨fun _ h => (by cases h), none, 0, h1.1, .inl ⟨by trivial, by trivial, h1.2⟩⟩
theorem ROr.nilu {E : Env} {cs : Array Value} {e : Nat} : ∀ {n off : Nat} {R : List Nat}, ROr E (List.replicate n [.v (.slice none 0 0)]) cs off R → ROr E (List.replicate n [.uni e []]) cs off R
 | 0, _, _, h => by simpa [ROr] using h
 | n + 1, off, R, h => by
  simp only [List.replicate_succ, ROr] at h ⊢
  obtain ⟨R₁, R₂, _, h1, h2, h3⟩ := h
  exact ⟨R₁, R₂, rfl, h1.nilu, ROr.nilu h2, h3⟩
section
variable {N : Frm} {st : St} {d : Nat}
theorem Sh.nilRows (e : Nat) {n : Nat} (hx : look st.slots d = some (.uni 1 (List.replicate n [.v (.slice none 0 0)]))) : Sh N st (st.put d (.uni 1 (List.replicate n [.uni e []]))) := by
 intro G hn a w hh
 obtain ⟨E, RR, rfl, hi⟩ := hh
 have hv := hi.slots d _ hx
 refine ⟨E, _, rfl, hi.relabel (d := d) (R := RR (.slot d)) ?_ (hi.nodup _) (fun b hb => ⟨(hi.own _ _ hb).1, (hi.own _ _ hb).2, fun p hp h => hi.apart _ _ hp b h hb⟩)⟩
 simp only [RX] at hv ⊢
 obtain ⟨_, base, cap, hc, h⟩ := hv
 refine ⟨fun r hr => by rw [(List.mem_replicate.1 hr).2]; rfl, base, cap, by simpa using hc, ?_⟩
 rcases h with ⟨h1, h2, h3⟩ | ⟨b, off, cs, ty, R', h1, h2, h3, h4, h5, h6, h7⟩
 ·refine .inl ⟨?_, h2, h3⟩
  have : n = 0 := by simpa using congrArg List.length h1
  subst this; rfl
 ·exact .inr ⟨b, off, cs, ty, R', h1, h2, by simpa using h3, h4, h5, h6.nilu, h7⟩
end
theorem out_get {α : Type} {l : List α} {f : α → List X} {m : Nat} {r : List X} (h : m < l.length) : ((l.map f).set (0 + m) r)[0 + m]? = some r := by
 rw [Nat.zero_add, List.getElem?_set_self (by simpa using h)]
theorem out_back {α : Type} {l : List α} {f : α → List X} {m : Nat} {r q : List X} {v : α} (h : q = f v) : ((l.map f).set (0 + m) r).set (0 + m) q = (l.set m v).map f := by
 rw [Nat.zero_add, List.set_set, h, List.map_set]
theorem trim_drop {α : Type} {l : List α} {f : α → List X} {m n : Nat} (h : n = l.length - m) : ((l.map f).drop (0 + m)).take n = (l.drop m).map f := by
 rw [Nat.zero_add, ← List.map_drop, List.take_of_length_le (by simp; omega)]
theorem X.ffzr_map {α : Type} {f g : α → List X} (h : ∀ a, X.ffzs (f a) = g a) : ∀ l : List α, X.ffzr (l.map f) = l.map g
 | [] => rfl
 | a :: r => by simp only [List.map_cons, X.ffzr, h, X.ffzr_map h r]
theorem Sh.freezeNest {α : Type} {f g : α → List X} {N : Frm} {st : St} {d s : Nat} {l : List α} (h : ∀ a, X.ffzs (f a) = g a) (hx : look st.slots d = some (.uni s (l.map f))) : Sh N st (st.put d (.fz s (l.map g))) :=
 Sh.freezeX hx (by simp only [X.ffz, X.ffzr_map h])
end Go.AW
/- Part of the abstract walk: is a frozen slice nil; a nil slice in a variable gets a name. -/
namespace Go.AW
open Go

section
variable {P : Program} {N : Frm} {st : St} {Q : Exit → St → Prop} {all : Array Oper} {rest : List Oper} {d : Nat} {ty : TypeId} {pos : String} {af : Array Edge}
theorem RO.recell {E : Env} {cs : Array Value} {x y : X} (hxy : ∀ c, RX E x c [] → RX E y c []) (hf : x.free = true) : ∀ {xs : List X} {off k : Nat} {R : List Nat}, RO E xs cs off R → xs[k]? = some x → RO E (xs.set k y) cs off R
 | [], _, _, _, _, h => by simp at h
 | z :: r, off, 0, R, h, hy => by
  simp only [RO] at h
  obtain ⟨u, R₁, R₂, hu, hs, h1, h2, rfl⟩ := h
  simp only [List.getElem?_cons_zero, Option.some.injEq] at hy
  subst hy
  have h0 := RX.free hf h1
  subst h0
  simp only [List.set, RO]
  exact ⟨u, [], R₂, hu, hs, hxy u h1, h2, rfl⟩
 | z :: r, off, k + 1, R, h, hy => by
  simp only [RO] at h
  obtain ⟨u, R₁, R₂, hu, hs, h1, h2, rfl⟩ := h
  simp only [List.getElem?_cons_succ] at hy
  simp only [List.set, RO]
  exact ⟨u, R₁, R₂, hu, hs, h1, RO.recell hxy hf h2 hy, rfl⟩
theorem Sh.nilCell (o q s k : Nat) {xs : List X} (ho : look (st.kill q).objs o = some (.cells xs)) (hk : xs[k]? = some (.v (.slice none 0 0))) (hfr : X.frees (xs.set k (.slc q s 0 0)) = true) (hoq : Nat.beq q o = false) (hF : N.F.elem q = false) :
  Sh N st (((st.kill q).putO q (.rows s [])).putO o (.cells (xs.set k (.slc q s 0 0)))) := by
 intro G hn a w hh
 obtain ⟨E, RR, rfl, hi⟩ := hh
 obtain ⟨E', RR', hw, h1, h2⟩ := hi.nil q s (by rw [hn]; exact hF)
 have hob := h1.objs o (.cells xs) (by simp only [St.putO, look, hoq, cond_false]; exact ho)
 have hob2 := hob
 simp only [ROb] at hob2
 obtain ⟨_, B, cs, ty, hB, hw', hφ, hsz, hro, hR⟩ := hob2
 refine ⟨E', _, hw, h1.putO (R := RR' (.obj o)) ?_ (h1.nodup _) (fun b hb => ⟨(h1.own _ _ hb).1, (h1.own _ _ hb).2, fun p hp h => h1.apart _ _ hp b h hb⟩)⟩
 simp only [ROb]
 refine ⟨hfr, B, cs, ty, hB, hw', hφ, by rw [List.length_set]; exact hsz, RO.recell (x := .v (.slice none 0 0)) (fun c hc => ?_) rfl hro hk, hR⟩
 simp only [RX] at hc
 rw [hc.1]; exact h2
theorem RXs.recell {E : Env} {x y : X} (hxy : ∀ c, RX E x c [] → RX E y c []) (hf : x.free = true) : ∀ {xs : List X} {k : Nat} {cs : List Value} {R : List Nat}, RXs E xs cs R → xs[k]? = some x → RXs E (xs.set k y) cs R
 | [], _, _, _, _, h => by simp at h
 | z :: r, 0, cs, R, h, hy => by
  simp only [RXs] at h
  obtain ⟨c, cs', R₁, R₂, hcs, hs, h1, h2, rfl⟩ := h
  simp only [List.getElem?_cons_zero, Option.some.injEq] at hy
  subst hy
  have h0 := RX.free hf h1
  subst h0
  simp only [List.set, RXs]
  exact ⟨c, cs', [], R₂, hcs, hs, hxy c h1, h2, rfl⟩
 | z :: r, k + 1, cs, R, h, hy => by
  simp only [RXs] at h
  obtain ⟨c, cs', R₁, R₂, hcs, hs, h1, h2, rfl⟩ := h
  simp only [List.getElem?_cons_succ] at hy
  simp only [List.set, RXs]
  exact ⟨c, cs', R₁, R₂, hcs, hs, h1, RXs.recell hxy hf h2 hy, rfl⟩
theorem Sh.fzA (s k : Nat) {d : Nat} {xs : List X} (hx : look st.slots d = some (.agg xs)) (hk : xs[k]? = some (.v (.slice none 0 0))) : Sh N st (st.put d (.agg (xs.set k (.fz s [])))) := by
 intro G hn a w hh
 obtain ⟨E, RR, rfl, hi⟩ := hh
 have hv := hi.slots d _ hx
 refine ⟨E, _, rfl, hi.relabel (d := d) (R := RR (.slot d)) ?_ (hi.nodup _) (fun b hb => ⟨(hi.own _ _ hb).1, (hi.own _ _ hb).2, fun p hp h => hi.apart _ _ hp b h hb⟩)⟩
 simp only [RX] at hv ⊢
 obtain ⟨cs, hc, h⟩ := hv
 refine ⟨cs, hc, RXs.recell (x := .v (.slice none 0 0)) (fun c hc => ?_) rfl h hk⟩
 simp only [RX] at hc ⊢
 exact ⟨trivial, fun _ h => (by cases h), none, 0, hc.1, .inl ⟨by trivial, by trivial⟩⟩
end
end Go.AW
/- Part of the abstract walk: the rules that are used most, under short names. -/
namespace Go.AW
open Go

section
variable {P : Program} {N : Frm} {st : St} {Q : Exit → St → Prop} {all : Array Oper} {rest : List Oper} {d dd j : Nat} {want : Bool} {op : Op} {ty : TypeId} {pos : String} {af : Array Edge} {x : X} {u : Value}
theorem AOps.vl (hy : Yields P N st ⟨some d, op, ty, pos, af, none⟩ x) (k : AOps P N all rest (st.put d x) Q) (hd : d < N.n := by decide) : AOps P N all (⟨some d, op, ty, pos, af, none⟩ :: rest) st Q := AOps.val hy hd k
theorem AOps.gs (d : Nat) (hj : (all[j]?).bind (·.dst) = some d) (hx : look st.slots d = some (.v u)) (hne : notB want u = true) (k : AOps P N all rest (st.put dd (.v undef)) Q) (hd : d < N.n := by decide) (hdd : dd < N.n := by decide) :
  AOps P N all (⟨some dd, op, ty, pos, af, some (j, want)⟩ :: rest) st Q := AOps.guardSkipV hj hd hdd hx hne k
theorem AWp.sr {id : Nat} {l : List Oper} {y : Code} (h : AOps P N l.toArray l st (Then (fun st' => AWp P N y st' Q) Q)) : AWp P N (.seq (.region id l.toArray false) y) st Q := AWp.seq (AWp.region h)
variable {ops : Array Oper} {l0 rs l : List Nat} {t i dj : Nat} {listed : Array Bool} {K : Array Bool → St → Prop}
theorem AQ.cn (i : Nat) (ho : ops[i]? = some ⟨some d, op, ty, pos, af, none⟩) (hy : Yields P N st ⟨some d, op, ty, pos, af, none⟩ x) (k : AQ P N ops l0 rs t l (listed.setIfInBounds i true) (st.put d x) K)
  (hB : (Region.noSelect ops && Region.free .any ops listed i && (Region.ready .any ops listed).contains i) = true := by kernel_rfl) (hd : d < N.n := by decide) : AQ P N ops l0 rs t (i :: l) listed st K := AQ.cons ho hB hy hd k
theorem AQ.sk (i : Nat) (ho : ops[i]? = some ⟨some d, op, ty, pos, af, some (j, want)⟩) (hj : (ops[j]?).bind (·.dst) = some dj) (hx : look st.slots dj = some (.v u)) (hne : notB want u = true) (k : AQ P N ops l0 rs t l (listed.setIfInBounds i true) (st.put d (.v undef)) K)
  (hB : (Region.noSelect ops && Region.free .any ops listed i && (Region.ready .any ops listed).contains i) = true := by kernel_rfl) (hdj : dj < N.n := by decide) (hd : d < N.n := by decide) : AQ P N ops l0 rs t (i :: l) listed st K := AQ.skip ho hB hj hdj hd hx hne k
theorem AQ.rn (i : Nat) (ho : ops[i]? = some ⟨some d, op, ty, pos, af, some (j, want)⟩) (hj : (ops[j]?).bind (·.dst) = some dj) (hx : look st.slots dj = some (.v (.bool want))) (hy : Yields P N st ⟨some d, op, ty, pos, af, some (j, want)⟩ x) (k : AQ P N ops l0 rs t l (listed.setIfInBounds i true) (st.put d x) K)
  (hB : (Region.noSelect ops && Region.free .any ops listed i && (Region.ready .any ops listed).contains i) = true := by kernel_rfl) (hdj : dj < N.n := by decide) (hd : d < N.n := by decide) : AQ P N ops l0 rs t (i :: l) listed st K := AQ.run ho hB hj hdj hx hy hd k
end
section
variable {P : Program} {N : Frm} {st : St} {Q : Exit → St → Prop} {all : Array Oper} {rest : List Oper} {d : Nat} {ty : TypeId} {pos : String} {af : Array Edge} {y p : X}
theorem AOps.mv {x : Operand} (k : AOps P N all rest (st.put d y) Q) (hx : opd st x = some y := by rfl) (hf : y.free = true := by rfl) (hd : d < N.n := by decide) : AOps P N all (⟨some d, .move x, ty, pos, af, none⟩ :: rest) st Q := AOps.val (Y.move hx hf) hd k
theorem AOps.an {x : Operand} (k : AOps P N all rest (st.put d y) Q) (hx : opd st x = some y := by rfl) (hf : y.free = true := by rfl) (hd : d < N.n := by decide) : AOps P N all (⟨some d, .assign x, ty, pos, af, none⟩ :: rest) st Q := AOps.val (Y.assign hx hf) hd k
theorem AOps.ld {t : TypeId} {x : Operand} {row : List X} (ht : TY.shape P t = some none) (k : AOps P N all rest (st.put d y) Q) (hx : opd st x = some p := by rfl) (hr : rowAt st p = some row := by rfl) (hy : row[kAt p]? = some y := by rfl) (hf : y.free = true := by rfl) (hd : d < N.n := by decide) :
  AOps P N all (⟨some d, .load t x, ty, pos, af, none⟩ :: rest) st Q := AOps.val (Y.load ht hx hr hy hf) hd k
end
section
variable {P : Program} {N : Frm} {st : St} {Q : Exit → St → Prop} {all : Array Oper} {rest : List Oper} {d dd j : Nat} {want : Bool} {op : Op} {ty : TypeId} {pos : String} {af : Array Edge} {x y p q : X} {u : Value}
theorem AOps.gw (d : Nat) (hy : Yields P N st ⟨some dd, op, ty, pos, af, some (j, want)⟩ x) (k : AOps P N all rest (st.put dd x) Q) (hj : (all[j]?).bind (·.dst) = some d := by rfl) (hx : look st.slots d = some (.v (.bool want)) := by rfl) (hd : d < N.n := by decide) (hdd : dd < N.n := by decide) :
  AOps P N all (⟨some dd, op, ty, pos, af, some (j, want)⟩ :: rest) st Q := AOps.guardRun hj hd hx (AOps.val hy hdd k)
theorem AOps.gz (d : Nat) (k : AOps P N all rest (st.put dd (.v undef)) Q) (hj : (all[j]?).bind (·.dst) = some d := by rfl) (hx : look st.slots d = some (.v u) := by rfl) (hne : notB want u = true := by rfl) (hd : d < N.n := by decide) (hdd : dd < N.n := by decide) :
  AOps P N all (⟨some dd, op, ty, pos, af, some (j, want)⟩ :: rest) st Q := AOps.guardSkipV hj hd hdd hx hne k
theorem AOps.pk {c a b : Operand} {v : Bool} (k : AOps P N all rest (st.put d y) Q) (hc : opd st c = some (.v (.bool v)) := by rfl) (hz : opd st (if v then a else b) = some y := by rfl) (hf : y.free = true := by rfl) (hd : d < N.n := by decide) :
  AOps P N all (⟨some d, .pick c a b, ty, pos, af, none⟩ :: rest) st Q := AOps.val (Y.pick hc hz hf) hd k
theorem AOps.fa {t : TypeId} {a : Operand} {f off : Nat} {ft : TypeId} (ht : TY.fld P t f = some (off, ft)) (k : AOps P N all rest (st.put d q) Q) (hx : opd st a = some p := by rfl) (hq : p.on off = some q := by rfl) (hd : d < N.n := by decide) :
  AOps P N all (⟨some d, .fieldAddr t a f, ty, pos, af, none⟩ :: rest) st Q := AOps.val (Y.fieldAddr ht hx hq) hd k
end
theorem SubL.c {α : Type} {l l' : List (Nat × α)} {s : Nat} {x : α} (hr : SubL l l') (h : look l s = some x := by rfl) : SubL l ((s, x) :: l') := SubL.cons h hr
theorem Ends.rb {P : Program} {rvs : List ResultVar} {st : St} {b b' : Bool} (h0 : resAll P st rvs = some [.v (.bool b)]) (h : b = b') : Ends P rvs ([] : List Obj).length (fun r o => r = .v (.bool b') ∧ o = []) .ret st := ⟨_, _, h0, rfl, by rw [h]; exact ⟨rfl, rfl⟩⟩
theorem Ends.ri {P : Program} {rvs : List ResultVar} {st : St} {k : IntKind} {b b' : Int} (h0 : resAll P st rvs = some [.v (.int k b)]) (h : b = b') : Ends P rvs ([] : List Obj).length (fun r o => r = .v (.int k b') ∧ o = []) .ret st := ⟨_, _, h0, rfl, by rw [h]; exact ⟨rfl, rfl⟩⟩
end Go.AW
/- Part of the abstract walk: words without signs that are read. -/
namespace Go.AW
open Go
end Go.AW
/- Part of the abstract walk: structs are compared. -/
namespace Go.AW
open Go

section
variable {P : Program} {N : Frm} {st : St} {dst : Option Nat} {ty : TypeId} {pos : String} {af : Array Edge} {g : Option (Nat × Bool)}
end
end Go.AW
/- Part of the abstract walk: operations that do not look at memory, for open orders. -/
namespace Go.AW
open Go

section
variable {P : Program} {N : Frm} {st : St} {dst : Option Nat} {ty : TypeId} {pos : String} {af : Array Edge} {g : Option (Nat × Bool)}
theorem Blind.bin {op : BinOp} {t t' : TypeId} {x y : Operand} {u v r : Value} (hx : opd st x = some (.v u)) (hy : opd st y = some (.v v))
  (hr : ∀ w, (do eqGuard op t x y u v; binOp op t u v : Sem Value).run P w = .ok r w) : Blind P N st ⟨dst, .binOp op t x y t', ty, pos, af, g⟩ (.v r) := by
 intro G E RR a _ hi
 refine ⟨r, fun w => ?_, by simp [RX]⟩
 show (do let x ← (do eqGuard op t x y (a.eval x) (a.eval y); binOp op t (a.eval x) (a.eval y) : Sem Value); pure (Next.value x) : Sem Next).run P w = _
 rw [hi.val hx, hi.val hy]
 exact run_v (hr _)

section ints
variable {t t' : TypeId} {x y : Operand} {k : IntKind} {a b r : Int}
theorem Blind.add (hx : opd st x = some (.v (.int k a))) (hy : opd st y = some (.v (.int k b))) (hr : k.wrap (a + b) = r) : Blind P N st ⟨dst, .binOp .add t x y t', ty, pos, af, g⟩ (.v (.int k r)) :=
 Blind.bin hx hy fun w => by subst hr; simp [eqGuard, binOp, Op.intArith]
theorem Blind.sub (hx : opd st x = some (.v (.int k a))) (hy : opd st y = some (.v (.int k b))) (hr : k.wrap (a - b) = r) : Blind P N st ⟨dst, .binOp .sub t x y t', ty, pos, af, g⟩ (.v (.int k r)) :=
 Blind.bin hx hy fun w => by subst hr; simp [eqGuard, binOp, Op.intArith]
theorem Blind.mul (hx : opd st x = some (.v (.int k a))) (hy : opd st y = some (.v (.int k b))) (hr : k.wrap (a * b) = r) : Blind P N st ⟨dst, .binOp .mul t x y t', ty, pos, af, g⟩ (.v (.int k r)) :=
 Blind.bin hx hy fun w => by subst hr; simp [eqGuard, binOp, Op.intArith]
theorem Blind.rem (hx : opd st x = some (.v (.int k a))) (hy : opd st y = some (.v (.int k b))) (h0 : b ≠ 0) (hr : a.tmod b = r) : Blind P N st ⟨dst, .binOp .rem t x y t', ty, pos, af, g⟩ (.v (.int k r)) :=
 Blind.bin hx hy fun w => by subst hr; simp [eqGuard, binOp, Op.intDiv, h0]
theorem Blind.lss (hx : opd st x = some (.v (.int k a))) (hy : opd st y = some (.v (.int k b))) : Blind P N st ⟨dst, .binOp .lss t x y t', ty, pos, af, g⟩ (.v (.bool (decide (a < b)))) :=
 Blind.bin hx hy fun w => by simp [eqGuard, binOp, Op.intCmp]
theorem Blind.leq (hx : opd st x = some (.v (.int k a))) (hy : opd st y = some (.v (.int k b))) : Blind P N st ⟨dst, .binOp .leq t x y t', ty, pos, af, g⟩ (.v (.bool (decide (a ≤ b)))) :=
 Blind.bin hx hy fun w => by simp [eqGuard, binOp, Op.intCmp]
theorem Blind.gtr (hx : opd st x = some (.v (.int k a))) (hy : opd st y = some (.v (.int k b))) : Blind P N st ⟨dst, .binOp .gtr t x y t', ty, pos, af, g⟩ (.v (.bool (decide (b < a)))) :=
 Blind.bin hx hy fun w => by simp [eqGuard, binOp, Op.intCmp]
theorem Blind.geq (hx : opd st x = some (.v (.int k a))) (hy : opd st y = some (.v (.int k b))) : Blind P N st ⟨dst, .binOp .geq t x y t', ty, pos, af, g⟩ (.v (.bool (decide (b ≤ a)))) :=
 Blind.bin hx hy fun w => by simp [eqGuard, binOp, Op.intCmp]
theorem Blind.eql (hx : opd st x = some (.v (.int k a))) (hy : opd st y = some (.v (.int k b))) : Blind P N st ⟨dst, .binOp .eql t x y t', ty, pos, af, g⟩ (.v (.bool (decide (a = b)))) :=
 Blind.bin hx hy fun w => by simp [eqGuard, binOp, Op.intCmp, BEq.beq]
theorem Blind.neq (hx : opd st x = some (.v (.int k a))) (hy : opd st y = some (.v (.int k b))) : Blind P N st ⟨dst, .binOp .neq t x y t', ty, pos, af, g⟩ (.v (.bool (decide (a ≠ b)))) :=
 Blind.bin hx hy fun w => by simp [eqGuard, binOp, Op.intCmp, bne, BEq.beq]
end ints
theorem Blind.un {op : UnOp} {t : TypeId} {x : Operand} {u r : Value} (hx : opd st x = some (.v u)) (hr : ∀ w, (Op.unary op u).run P w = .ok r w) : Blind P N st ⟨dst, .unOp op t x, ty, pos, af, g⟩ (.v r) := by
 intro G E RR a _ hi
 refine ⟨r, fun w => ?_, by simp [RX]⟩
 show (do let x ← Op.unary op (a.eval x); pure (Next.value x) : Sem Next).run P w = _
 rw [hi.val hx]
 exact run_v (hr _)
theorem Blind.not {t : TypeId} {x : Operand} {b : Bool} (hx : opd st x = some (.v (.bool b))) : Blind P N st ⟨dst, .unOp .not t x, ty, pos, af, g⟩ (.v (.bool (!b))) :=
 Blind.un hx fun _ => rfl
theorem Blind.conv {s d : TypeId} {x : Operand} {k k' : IntKind} {n r : Int} (hs : TY.isInt P s = some k') (hd : TY.isInt P d = some k) (hx : opd st x = some (.v (.int k' n))) (hr : k.wrap n = r) :
  Blind P N st ⟨dst, .convert s d x, ty, pos, af, g⟩ (.v (.int k r)) := by
 intro G E RR a _ hi
 refine ⟨.int k r, fun w => ?_, by simp [RX]⟩
 show (do let x ← convert s d (a.eval x); pure (Next.value x) : Sem Next).run P w = _
 rw [hi.val hx]
 refine run_v ?_
 have h1 : P.underlying s = some (.int k') := by unfold TY.isInt at hs; split at hs <;> simp_all
 have h2 : P.underlying d = some (.int k) := by unfold TY.isInt at hd; split at hd <;> simp_all
 simp [convert, run_underlying h1, run_underlying h2, Conv.intToInt, hr]

section
variable {t t' : TypeId} {x y : Operand} {a b : Int}
theorem Blind.addI (hx : opd st x = some (.v (.int .i64 a))) (hy : opd st y = some (.v (.int .i64 b))) (hr : -9223372036854775808 ≤ a + b ∧ a + b ≤ 9223372036854775807) : Blind P N st ⟨dst, .binOp .add t x y t', ty, pos, af, g⟩ (.v (.int .i64 (a + b))) :=
 Blind.add hx hy (IntWalk.i64_in _ hr)
theorem Blind.subI (hx : opd st x = some (.v (.int .i64 a))) (hy : opd st y = some (.v (.int .i64 b))) (hr : -9223372036854775808 ≤ a - b ∧ a - b ≤ 9223372036854775807) : Blind P N st ⟨dst, .binOp .sub t x y t', ty, pos, af, g⟩ (.v (.int .i64 (a - b))) :=
 Blind.sub hx hy (IntWalk.i64_in _ hr)
theorem Blind.mulI (hx : opd st x = some (.v (.int .i64 a))) (hy : opd st y = some (.v (.int .i64 b))) (hr : -9223372036854775808 ≤ a * b ∧ a * b ≤ 9223372036854775807) : Blind P N st ⟨dst, .binOp .mul t x y t', ty, pos, af, g⟩ (.v (.int .i64 (a * b))) :=
 Blind.mul hx hy (IntWalk.i64_in _ hr)
theorem Blind.remI {k : IntKind} (hx : opd st x = some (.v (.int k a))) (hy : opd st y = some (.v (.int k b))) (hr : 0 ≤ a ∧ 1 ≤ b) : Blind P N st ⟨dst, .binOp .rem t x y t', ty, pos, af, g⟩ (.v (.int k (a % b))) :=
 Blind.rem hx hy om (IntWalk.rem_in a b hr.1)
end
theorem Blind.convK {s d : TypeId} {x : Operand} {k k' : IntKind} {n : Int} (hs : TY.isInt P s = some k') (hd : TY.isInt P d = some k) (hx : opd st x = some (.v (.int k' n))) (hr : k.wrap n = n) :
  Blind P N st ⟨dst, .convert s d x, ty, pos, af, g⟩ (.v (.int k n)) := Blind.conv hs hd hx hr
theorem Blind.len {t e s by_ : Nat} {x : Operand} {y : X} {n : Nat} (ht : TY.slice P t = some (e, s, by_)) (hx : opd st x = some y) (hn : y.len = some n) :
  Blind P N st ⟨dst, .call ⟨.builtin .len, #[x], #[t]⟩, ty, pos, af, g⟩ (.v (.int .i64 (n : Int))) := by
 intro G E RR a _ hi
 obtain ⟨R, hp⟩ := hi.eval hx
 obtain ⟨base, cap, hc⟩ := hp.len hn
 refine ⟨.int .i64 (n : Int), fun w => run_callB ?_, by simp [RX]⟩
 obtain ⟨hu, _⟩ := TY.slice_spec ht
 simp [builtin, Builtin.len_, hc, run_underlying hu, goInt]

theorem Blind.indexF {t e s by_ : Nat} {x ix : Operand} {rows : List (List X)} {row : List X} {k : IntKind} {n : Int} {m : Nat} (ht : TY.slice P t = some (e, s, by_)) (hx : opd st x = some (.fz s rows))
  (hix : opd st ix = some (.v (.int k n))) (hn : n = (m : Int)) (hr : rows[m]? = some row) : Blind P N st ⟨dst, .indexAddr t x ix, ty, pos, af, g⟩ (.fp row 0) := by
 intro G E RR a _ hi
 obtain ⟨R, hp⟩ := hi.eval hx
 have hm : m < rows.length := by
  rcases Nat.lt_or_ge m rows.length with h' | h'
  ·exact h'
  ·simp [List.getElem?_eq_none h'] at hr
 simp only [RX] at hp
 obtain ⟨_, hu, base, cap, hc, h⟩ := hp
 rcases h with ⟨h, _⟩ | ⟨b, off, rfl, hl, hf⟩
 ·subst h; simp at hr
 ·refine ⟨.pointer (some ⟨b, off + m * s, none⟩), fun w => ?_, ?_⟩
  ·show (do let z ← Instr.indexAt t (a.eval x) (a.eval ix); pure (Next.value z) : Sem Next).run P w = _
   rw [hc, hi.val hix]
   exact run_v (run_indexAt ht hn hm w)
  ·simp only [RX]
   exact ⟨trivial, b, off + m * s, rfl, RFr.get hu hf hr⟩

theorem Blind.indexO {t e s by_ : Nat} {x ix : Operand} {o lo len : Nat} {k : IntKind} {n : Int} {m : Nat} (ht : TY.slice P t = some (e, s, by_)) (hx : opd st x = some (.slc o s lo len))
  (hix : opd st ix = some (.v (.int k n))) (hn : n = (m : Int)) (hm : m < len) : Blind P N st ⟨dst, .indexAddr t x ix, ty, pos, af, g⟩ (.ptr o s (lo + m) 0) := by
 intro G E RR a _ hi
 obtain ⟨R, hp⟩ := hi.eval hx
 simp only [RX] at hp
 obtain ⟨_, base, cap, hc, h⟩ := hp
 rcases h with ⟨_, _, h, _⟩ | ⟨B, hB, _, hl, hb⟩
 ·omega
 ·have hb' : base = some ⟨B.b, B.off + lo * s, none⟩ := hb.resolve_left om
  subst hb'
  refine ⟨.pointer (some ⟨B.b, B.off + lo * s + m * s, none⟩), fun w => ?_, ?_⟩
  ·show (do let z ← Instr.indexAt t (a.eval x) (a.eval ix); pure (Next.value z) : Sem Next).run P w = _
   rw [hc, hi.val hix]
   exact run_v (run_indexAt ht hn hm w)
  ·simp only [RX]
   exact ⟨trivial, B, hB, by rw [Nat.add_mul]; simp [Nat.add_assoc]⟩

theorem Blind.indexP {t len e s : Nat} {x ix : Operand} {p q : X} {k : IntKind} {n : Int} {m : Nat} (ht : TY.array P t = some (len, e, s)) (hx : opd st x = some p)
  (hix : opd st ix = some (.v (.int k n))) (hn : n = (m : Int)) (hm : m < len) (hq : p.on (m * s) = some q) : Blind P N st ⟨dst, .indexAddr t x ix, ty, pos, af, g⟩ q := by
 intro G E RR a _ hi
 obtain ⟨R, hp⟩ := hi.eval hx
 obtain ⟨b, o, hc, h⟩ := hp.on hq
 refine ⟨_, fun w => ?_, h⟩
 show (do let z ← Instr.indexAt t (a.eval x) (a.eval ix); pure (Next.value z) : Sem Next).run P w = _
 rw [hc, hi.val hix]
 refine run_v ?_
 obtain ⟨hu, i, hinf, hs⟩ := TY.array_spec ht
 subst hn
 simp [Instr.indexAt, Instr.sureAddr, asIntOf, run_underlying hu, hm, run_sizeOf hinf, hs, add_mk]

end
end Go.AW
/- Part of the abstract walk: open orders with loads of what nobody writes. -/
namespace Go.AW
open Go

section
variable {P : Program} {N : Frm} {st : St} {ops : Array Oper} {d : Nat} {ty : TypeId} {pos : String} {af : Array Edge} {K : St → Prop}

def SG (G : Ctx) (w : World) : Prop := (∀ b, G.K b → w.heap[b]? = G.w0.heap[b]?) ∧ ∀ b i v, G.φ0 b i = some v → w.cell? ⟨b, i, none⟩ = some v
theorem Holds.sg {G : Ctx} {a : Act} {w : World} (h : Holds G st a w) : SG G w := by
  obtain ⟨E, RR, rfl, hi⟩ := h
  exact ⟨hi.keep, fun b i v hv => hi.frz b i v (hi.φ0 b i v hv)⟩
def ctxH (G : Ctx) (E : Env) (L : List Nat) (T : Nat → List Nat) (F' : List Nat) : Ctx := ⟨fun b => G.K b ∨ ∃ o, o ∈ L ∧ b ∈ T o, E.w, E.φ, E.β, ⟨G.fn.n, F'⟩, G.ds⟩

def AHeld (P : Program) (N : Frm) (ops : Array Oper) (n : Nat) (listed : Array Bool) (st : St) (K : St → Prop) : Prop :=
  ∀ G : Ctx, G.fn = N → ∀ a w, Holds G st a w → wpAnyH P .any ops (fun e a w => e = .normal ∧ ∃ st', K st' ∧ Holds G st' a w) (SG G) n listed a w
def AFirst (P : Program) (N : Frm) (L F' : List Nat) (ops : Array Oper) (n : Nat) (listed : Array Bool) (st : St) (K : St → Prop) : Prop :=
  ∀ G : Ctx, G.fn = N → ∀ E RR a (T : Nat → List Nat), (∀ o ∈ L, RR (.obj o) = T o) → Inv G E RR st a →
    wpAnyH P .any ops (fun e a w => e = .normal ∧ ∃ st', K st' ∧ Holds G st' a w) (SG (ctxH G E L T F')) n listed a E.w

theorem Inv.sgH {G : Ctx} {E : Env} {RR : Own → List Nat} {a : Act} (hi : Inv G E RR st a) (L : List Nat) (T : Nat → List Nat) (F' : List Nat) : SG (ctxH G E L T F') E.w := ⟨fun _ _ => rfl, hi.frz⟩
theorem AFirst.blind {L F' : List Nat} {n : Nat} {listed : Array Bool} (i : Nat) {op : Op} {x : X} (ho : ops[i]? = some ⟨some d, op, ty, pos, af, none⟩)
    (hB : (Region.noSelect ops && Region.free .any ops listed i && (Region.ready .any ops listed).contains i) = true) (hy : Blind P N st ⟨some d, op, ty, pos, af, none⟩ x) (hd : d < N.n)
    (k : AFirst P N L F' ops n (listed.setIfInBounds i true) (st.put d x) K) : AFirst P N L F' ops (n + 1) listed st K := by
  intro G hn E RR a T hT hi
  obtain ⟨u, hr, hx⟩ := hy G E RR a hn hi
  simp only [Bool.and_eq_true] at hB
  refine wpAnyH_take (v := u) ho hB.1.1 hB.1.2 hB.2 ?_ (.inl ⟨by simp [Region.wanted], fun w _ => hr w⟩) (hi.sgH L T F') (k G hn E _ _ T ?_ (hi.put0 (hn ▸ hd) hx))
  · intro c a w h
    cases h.1
  · intro o ho
    have := hT o ho
    simpa [upd] using this
def heldX (L : List Nat) : X → Bool
  | .fp .. => true
  | .ptr o .. => L.elem o
  | _ => false
theorem Inv.held {G : Ctx} {E : Env} {RR : Own → List Nat} {a : Act} {L F' : List Nat} {T : Nat → List Nat} (hi : Inv G E RR st a) (hT : ∀ o ∈ L, RR (.obj o) = T o) {p : X} {c : Value} {R : List Nat} {row : List X}
    (hp : RX E p c R) (hr : rowAt st p = some row) (hL : heldX L p = true) :
    ∃ b off, c = .pointer (some ⟨b, off + kAt p, none⟩) ∧ ∀ w, SG (ctxH G E L T F') w → ∀ j, j < row.length → w.cell? ⟨b, off + j, none⟩ = E.w.cell? ⟨b, off + j, none⟩ := by
  cases p with
  | fp row' k' =>
    simp only [rowAt, Option.some.injEq] at hr
    subst hr
    simp only [RX] at hp
    obtain ⟨_, b, off, hc, hf⟩ := hp
    refine ⟨b, off, hc, fun w hw j hj => ?_⟩
    obtain ⟨vs, hl, hv, hx⟩ := RF.cells hf
    obtain ⟨v, hvj⟩ : ∃ v, vs[j]? = some v := ⟨vs[j]'om, List.getElem?_eq_getElem om⟩
    have h1 := hv j v hvj
    rw [hi.frz _ _ _ h1]
    exact hw.2 _ _ _ h1
  | ptr o s i k' =>
    simp only [RX] at hp
    obtain ⟨_, B, hB, hc⟩ := hp
    have hoL : o ∈ L := List.elem_iff.1 hL
    have hTo := hT o hoL
    have hb : B.b ∈ T o := by
      simp only [rowAt] at hr
      split at hr
      · rename_i xs ho
        have h0 := hi.objs o _ ho
        simp only [ROb] at h0
        obtain ⟨_, B', cs, ty, hB', hw, _, _, hRO, hR⟩ := h0
        rw [hB] at hB'
        obtain rfl := Option.some.inj hB'
        rw [← hTo, hR]; simp
      · rename_i s' rs ho
        have h0 := hi.objs o _ ho
        simp only [ROb] at h0
        obtain ⟨hu, h0⟩ := h0
        rcases h0 with ⟨h0, _⟩ | ⟨B', cs, ty, R', hB', hw, _, _, _, _, hR⟩
        · rw [hB] at h0; cases h0
        · rw [hB] at hB'
          obtain rfl := Option.some.inj hB'
          rw [← hTo, hR]; simp
      · cases hr
    refine ⟨B.b, B.off + i * s, by rw [hc]; simp [kAt, Nat.add_assoc], fun w hw j _ => ?_⟩
    have := hw.1 B.b (.inr ⟨o, hoL, hb⟩)
    unfold World.cell?
    simp only [ctxH] at this
    rw [this]
  | _ => cases hL
theorem ptr_inj {b b' o o' k : Nat} (h : Value.pointer (some ⟨b, o + k, none⟩) = Value.pointer (some ⟨b', o' + k, none⟩)) : b = b' ∧ o = o' := by
  simp only [Value.pointer.injEq, Option.some.injEq, Addr.mk.injEq] at h
  omega
theorem AFirst.load {L F' : List Nat} {n : Nat} {listed : Array Bool} (i : Nat) {t : TypeId} {x : Operand} {p y : X} {row : List X} (ho : ops[i]? = some ⟨some d, .load t x, ty, pos, af, none⟩)
    (hB : (Region.noSelect ops && Region.free .any ops listed i && (Region.ready .any ops listed).contains i) = true) (ht : TY.shape P t = some none) (hx : opd st x = some p) (hL : heldX L p = true) (hr : rowAt st p = some row)
    (hy : row[kAt p]? = some y) (hf : y.free = true) (hd : d < N.n)
    (k : AFirst P N L F' ops n (listed.setIfInBounds i true) (st.put d y) K) : AFirst P N L F' ops (n + 1) listed st K := by
  intro G hn E RR a T hT hi
  obtain ⟨R, hp⟩ := hi.eval hx
  obtain ⟨b, off, hc, hcells⟩ := hi.behind hp hr
  obtain ⟨b', off', hc', hsame⟩ := hi.held (F' := F') hT hp hr hL
  obtain ⟨rfl, rfl⟩ := ptr_inj (hc.symm.trans hc')
  have hk : kAt p < row.length := by
    rcases Nat.lt_or_ge (kAt p) row.length with h' | h'
    · exact h'
    · simp [List.getElem?_eq_none h'] at hy
  obtain ⟨vs, R', hl, hv, hxs⟩ := hcells (kAt p) 1 om
  rw [getElem?_drop_take_one hy] at hxs
  simp only [RXs] at hxs
  obtain ⟨c, cs', R₁, R₂, hvs, _, h1, ⟨rfl, rfl⟩, rfl⟩ := hxs
  subst hvs
  have h0 := RX.free hf h1
  subst h0
  simp only [Bool.and_eq_true] at hB
  refine wpAnyH_take (v := c) ho hB.1.1 hB.1.2 hB.2 ?_ (.inl ⟨by simp [Region.wanted], fun w hw => ?_⟩) (hi.sgH L T F') (k G hn E _ _ T ?_ (hi.put0 (hn ▸ hd) h1))
  · intro c a w h
    cases h.1
  · show (do let z ← Instr.loadAt t (a.eval x); pure (Next.value z) : Sem Next).run P w = _
    rw [hc]
    refine run_v ?_
    have hcell := hv 0 c rfl
    simp only [Instr.loadAt, Instr.sureAddr, loadVar, Sem.run_bind, Sem.run_pure, Result.andThen_ok, (TY.shape_none ht w).1]
    simp only [Nat.add_zero] at hcell
    rw [← hsame w hw _ hk] at hcell
    simp [hcell]
  · intro o ho
    have := hT o ho
    simpa [upd] using this
theorem AFirst.loadA {L F' : List Nat} {n : Nat} {listed : Array Bool} (i : Nat) {t : TypeId} {x : Operand} {p : X} {row : List X} {m : Nat} {ys : List X} (ho : ops[i]? = some ⟨some d, .load t x, ty, pos, af, none⟩)
    (hB : (Region.noSelect ops && Region.free .any ops listed i && (Region.ready .any ops listed).contains i) = true) (ht : TY.shape P t = some (some m)) (hx : opd st x = some p) (hL : heldX L p = true) (hr : rowAt st p = some row)
    (hm : kAt p + m ≤ row.length) (hys : (row.drop (kAt p)).take m = ys) (hf : X.frees ys = true) (hd : d < N.n)
    (k : AFirst P N L F' ops n (listed.setIfInBounds i true) (st.put d (.agg ys)) K) : AFirst P N L F' ops (n + 1) listed st K := by
  intro G hn E RR a T hT hi
  obtain ⟨R, hp⟩ := hi.eval hx
  obtain ⟨b, off, hc, hcells⟩ := hi.behind hp hr
  obtain ⟨b', off', hc', hsame⟩ := hi.held (F' := F') hT hp hr hL
  obtain ⟨rfl, rfl⟩ := ptr_inj (hc.symm.trans hc')
  obtain ⟨vs, R', hl, hv, hxs⟩ := hcells (kAt p) m hm
  rw [hys] at hxs
  have h0 := RXs.free hf hxs
  subst h0
  simp only [Bool.and_eq_true] at hB
  refine wpAnyH_take (v := .agg vs.toArray) ho hB.1.1 hB.1.2 hB.2 ?_ (.inl ⟨by simp [Region.wanted], fun w hw => ?_⟩) (hi.sgH L T F') (k G hn E _ _ T ?_ (hi.put0 (hn ▸ hd) (by simp only [RX]; exact ⟨_, rfl, hxs⟩)))
  · intro c a w h
    cases h.1
  · show (do let z ← Instr.loadAt t (a.eval x); pure (Next.value z) : Sem Next).run P w = _
    rw [hc]
    refine run_v ?_
    obtain ⟨h1, h2⟩ := TY.shape_some ht w
    have h3 : (loadCells ⟨b, off + kAt p, none⟩ m).run P w = .ok vs.toArray w := by
      rw [← hl]
      refine run_loadCells_list (w := w) _ vs fun j v hj => ?_
      have hjl : j < vs.length := (List.getElem?_eq_some_iff.1 hj).1
      rw [add_mk, Nat.add_assoc, hsame w hw _ om]; exact hv j v hj
    simp only [Instr.loadAt, Instr.sureAddr, loadVar, Sem.run_bind, Sem.run_pure, Result.andThen_ok, h1, if_true, h2, h3]
  · intro o ho
    have := hT o ho
    simpa [upd] using this

def St.back (st : St) : List Nat → List (Nat × Obj) → List (Nat × Obj)
  | [], r => r
  | o :: L, r => match look st.objs o with
    | some ob => (o, ob) :: st.back L r
    | none => st.back L r
theorem look_back (st : St) {r : List (Nat × Obj)} {q : Nat} {x : Obj} : ∀ {L : List Nat}, (∀ o ∈ L, ∃ ob, look st.objs o = some ob) → look (st.back L r) q = some x → (q ∈ L ∧ look st.objs q = some x) ∨ (q ∉ L ∧ look r q = some x)
  | [], _, h => .inr ⟨by simp, h⟩
  | o :: L, hL, h => by
    obtain ⟨ob, hob⟩ := hL o (by simp)
    simp only [St.back, hob, look] at h
    cases hb : Nat.beq o q with
    | true =>
      have := Nat.eq_of_beq_eq_true hb
      subst this
      simp only [hb, cond_true, Option.some.injEq] at h
      exact .inl ⟨by simp, by rw [hob, h]⟩
    | false =>
      simp only [hb, cond_false] at h
      have hne : q ≠ o := Ne.symm (Nat.ne_of_beq_eq_false hb)
      rcases look_back st (fun o ho => hL o (List.mem_cons_of_mem _ ho)) h with ⟨h1, h2⟩ | ⟨h1, h2⟩
      · exact .inl ⟨List.mem_cons_of_mem _ h1, h2⟩
      · exact .inr ⟨by simp [hne, h1], h2⟩
def namesIn (st : St) (L F' : List Nat) : Prop := ∀ o ∈ L, ∃ ob, look st.objs o = some ob ∧ ∀ xs, ob = .cells xs → ∀ q, X.ments q xs = true → F'.elem q = true

theorem ctxH.down {G : Ctx} {E : Env} {RR : Own → List Nat} {a : Act} {L F' : List Nat} {T : Nat → List Nat} (hi : Inv G E RR st a) (hT : ∀ o ∈ L, RR (.obj o) = T o) {st1 : St} (hle : Le st st1) (hL1 : ∀ o ∈ L, look st1.objs o = none) :
    Holds (ctxH G E L T F') st1 a E.w := by
  refine ⟨E, fun p => match p with | .obj o => if o ∈ L then [] else RR (.obj o) | p => RR p, rfl, ?_⟩
  have sub : ∀ p b, b ∈ (match p with | .obj o => if o ∈ L then [] else RR (.obj o) | p => RR p : List Nat) → b ∈ RR p ∧ ∀ o, p = .obj o → o ∉ L := by
    intro p b h
    cases p with
    | obj o =>
      by_cases hL : o ∈ L
      · simp [hL] at h
      · simp only [hL, if_false] at h
        exact ⟨h, fun q hq => by cases hq; exact hL⟩
    | slot s => exact ⟨h, fun q hq => by cases hq⟩
  exact {
    frz := hi.frz
    slots := fun s x hx => hi.slots s x (hle.1 s x hx)
    objs := fun o ob ho => by
      by_cases hL : o ∈ L
      · rw [hL1 o hL] at ho; cases ho
      · simp only [hL, if_false]; exact hi.objs o ob (hle.2 o ob ho)
    nodup := fun p => by
      cases p with
      | obj o =>
        by_cases hL : o ∈ L
        · simp [hL]
        · simp only [hL, if_false]; exact hi.nodup _
      | slot s => exact hi.nodup _
    apart := fun p q hpq b hb hb' => hi.apart p q hpq b (sub p b hb).1 (sub q b hb').1
    own := fun p b hb => by
      obtain ⟨h1, h2⟩ := sub p b hb
      refine ⟨(hi.own p b h1).1, fun hb0 => ?_⟩
      rcases (hb0 : G.K b ∨ ∃ o, o ∈ L ∧ b ∈ T o) with h | ⟨o, ho, hbo⟩
      · exact (hi.own p b h1).2 h
      · rw [← hT o ho] at hbo
        have hne : p ≠ .obj o := fun e => h2 o e ho
        exact hi.apart p (.obj o) hne b h1 hbo
    keep := fun _ _ => rfl
    size := Nat.le_refl _
    small := fun b hb0 => by
      rcases (hb0 : G.K b ∨ ∃ o, o ∈ L ∧ b ∈ T o) with h | ⟨o, ho, hbo⟩
      · exact Nat.lt_of_lt_of_le (hi.small b h) hi.size
      · rw [← hT o ho] at hbo
        exact (hi.own _ b hbo).1
    os := rfl
    tape := rfl
    output := rfl
    φ0 := fun _ _ _ h => h
    grow := fun _ _ _ h => .inl h
    fixed := fun _ _ => rfl
    tmps := hi.tmps
    defers := hi.defers }
theorem ctxH.up {G : Ctx} {E : Env} {RR : Own → List Nat} {a : Act} {L F' : List Nat} {T : Nat → List Nat} (hi : Inv G E RR st a) (hT : ∀ o ∈ L, RR (.obj o) = T o) (hF : ∀ o, G.fn.F.elem o = true → F'.elem o = true) (hLF : ∀ o ∈ L, F'.elem o = true)
    (hob : namesIn st L F') {st' : St} {a' : Act} {w' : World} (h : Holds (ctxH G E L T F') st' a' w') : Holds G ⟨st'.slots, st.back L st'.objs⟩ a' w' := by
  obtain ⟨E', RR', rfl, hj⟩ := h
  have hTb : ∀ {o b}, o ∈ L → b ∈ RR (.obj o) → (ctxH G E L T F').K b := fun ho hb => .inr ⟨_, ho, by rw [← hT _ ho]; exact hb⟩
  have sub : ∀ p b, b ∈ (match p with | .obj o => if o ∈ L then RR (.obj o) else RR' (.obj o) | p => RR' p : List Nat) → (∃ o, o ∈ L ∧ p = .obj o ∧ b ∈ RR p) ∨ ((∀ o, p = .obj o → o ∉ L) ∧ b ∈ RR' p) := by
    intro p b h
    cases p with
    | obj o =>
      by_cases hL : o ∈ L
      · simp only [hL, if_true] at h
        exact .inl ⟨o, hL, rfl, h⟩
      · simp only [hL, if_false] at h
        exact .inr ⟨fun q hq => by cases hq; exact hL, h⟩
    | slot s => exact .inr ⟨fun q hq => (by cases hq), h⟩
  refine ⟨E', fun p => match p with | .obj o => if o ∈ L then RR (.obj o) else RR' (.obj o) | p => RR' p, rfl, ?_⟩
  exact {
    frz := hj.frz
    slots := fun s x hx => hj.slots s x hx
    objs := fun o ob ho => by
      rcases look_back st (fun o ho => (hob o ho).imp fun _ h => h.1) ho with ⟨h1, h2⟩ | ⟨h1, h2⟩
      · simp only [h1, if_true]
        obtain ⟨ob', hob1, hob2⟩ := hob o h1
        rw [h2] at hob1
        obtain rfl := Option.some.inj hob1
        refine ROb.mono ⟨hj.φ0, fun b hb => ⟨hj.keep b (hTb h1 hb), fun hn i => ?_⟩⟩ (hj.fixed o (hLF o h1)) (fun xs hxs q hq => hj.fixed q (hob2 xs hxs q hq)) (hi.objs o ob h2)
        cases hφ : E'.φ b i with
        | none => rfl
        | some v =>
          rcases hj.grow b i v hφ with h3 | h3
          · have h4 := hn i
            change E.φ b i = some v at h3
            rw [h4] at h3; cases h3
          · exact absurd (hTb h1 hb) h3
      · simp only [h1, if_false]; exact hj.objs o ob h2
    nodup := fun p => by
      cases p with
      | obj o =>
        by_cases hL : o ∈ L
        · simp only [hL, if_true]; exact hi.nodup _
        · simp only [hL, if_false]; exact hj.nodup _
      | slot s => exact hj.nodup _
    apart := fun p q hpq b hb hb' => by
      rcases sub p b hb with ⟨o, ho, rfl, h1⟩ | ⟨_, h1⟩ <;> rcases sub q b hb' with ⟨o', ho', rfl, h2⟩ | ⟨_, h2⟩
      · exact hi.apart _ _ hpq b h1 h2
      · exact (hj.own _ b h2).2 (hTb ho h1)
      · exact (hj.own _ b h1).2 (hTb ho' h2)
      · exact hj.apart _ _ hpq b h1 h2
    own := fun p b hb => by
      rcases sub p b hb with ⟨o, ho, rfl, h1⟩ | ⟨_, h1⟩
      · exact ⟨Nat.lt_of_lt_of_le (hi.own _ b h1).1 hj.size, (hi.own _ b h1).2⟩
      · exact ⟨(hj.own _ b h1).1, fun hk => (hj.own _ b h1).2 (.inl hk)⟩
    keep := fun b hb => (hj.keep b (.inl hb)).trans (hi.keep b hb)
    size := Nat.le_trans hi.size hj.size
    small := hi.small
    os := hj.os.trans hi.os
    tape := hj.tape.trans hi.tape
    output := hj.output.trans hi.output
    φ0 := fun b i v h => hj.φ0 b i v (hi.φ0 b i v h)
    grow := fun b i v h => by
      rcases hj.grow b i v h with h1 | h1
      · exact hi.grow b i v h1
      · exact .inr fun hk => h1 (.inl hk)
    fixed := fun o ho => (hj.fixed o (hF o ho)).trans (hi.fixed o ho)
    tmps := hj.tmps
    defers := hj.defers }

theorem wpOp_monoQ {Q1 Q2 : Exit → Act → World → Prop} {K1 K2 : Act → World → Prop} {j : Nat} {a : Act} {w : World} (hQ : ∀ e a w, e ≠ .normal → Q1 e a w → False) (hK : ∀ a w, K1 a w → K2 a w) (h : wpOp P ops Q1 j K1 a w) : wpOp P ops Q2 j K2 a w := by
  unfold wpOp at *
  cases ho : ops[j]? with
  | none => simp only [ho] at h ⊢; first | exact hK _ _ h | exact h
  | some o =>
    simp only [ho] at *
    split
    · rename_i hw
      simp only [hw, if_true] at h
      rcases h with h | ⟨_, hl⟩
      · refine .inl ?_
        unfold Oper.wp at *
        generalize (execOp a.eval o).run P w = r at *
        cases r with
        | ok nx w' =>
          cases nx <;> simp only [Oper.upon] at h ⊢ <;> first
            | exact hK _ _ h
            | exact Calls.mono h (fun e w'' he => by
                cases e with
                | returned u => exact hK _ _ he
                | panicked c => exact (hQ _ _ _ (by simp) he).elim
                | outgrown => exact (let ⟨_, _, h'⟩ := he; hQ _ _ _ (by simp) h').elim)
            | exact Rows.mono h (fun _ _ he => hK _ _ he)
        | halt x w' => cases x <;> simp only [Oper.upon] at h ⊢ <;> first | exact (hQ _ _ _ (by simp) h).elim | exact (let ⟨_, _, h'⟩ := h; hQ _ _ _ (by simp) h').elim | exact h
      · obtain ⟨_, _, h'⟩ := hl
        exact (hQ _ _ _ (by simp) h').elim
    · rename_i hw
      simp only [hw] at h
      exact hK _ _ h
theorem wpAnyH_mono {md : Region.Mode} {S : World → Prop} {Q1 Q2 : Exit → Act → World → Prop} (hQ : ∀ e a w, e ≠ .normal → Q1 e a w → False) (hN : ∀ a w, Q1 .normal a w → Q2 .normal a w) :
    ∀ (n : Nat) (listed : Array Bool) (a : Act) (w : World), wpAnyH P md ops Q1 S n listed a w → wpAnyH P md ops Q2 S n listed a w
  | 0, _, _, _, h => ⟨h.1, hN _ _ h.2⟩
  | n + 1, _, _, _, h => ⟨fun h0 => hN _ _ (h.1 h0), fun i hi => wpOp_monoQ hQ (fun a w h' => ⟨h'.1, wpAnyH_mono hQ hN n _ a w h'.2⟩) (h.2 i hi)⟩

theorem AFirst.go {L F' : List Nat} {n : Nat} {listed : Array Bool} (st1 : St) (hle : Le st st1) (hL1 : ∀ o ∈ L, look st1.objs o = none) (hF : ∀ o, N.F.elem o = true → F'.elem o = true) (hLF : ∀ o ∈ L, F'.elem o = true)
    (hob : namesIn st L F') (k : AHeld P ⟨N.n, F'⟩ ops n listed st1 (fun st' => K ⟨st'.slots, st.back L st'.objs⟩)) : AFirst P N L F' ops n listed st K := by
  intro G hn E RR a T hT hi
  refine wpAnyH_mono (fun e a w he h => he h.1) ?_ n listed a E.w (k (ctxH G E L T F') (by simp [ctxH, hn]) a E.w (ctxH.down hi hT hle hL1))
  rintro a' w' ⟨_, st', hk, hh⟩
  exact ⟨rfl, _, hk, ctxH.up hi hT (by rw [hn]; exact hF) hLF hob hh⟩

theorem AHeld.step {n : Nat} {listed : Array Bool} (j : Nat) {o : Oper} (ho : ops[j]? = some o)
    (k : AOps P N ops [o] st (fun e st' => e = .normal ∧ AHeld P N ops n (listed.setIfInBounds j true) st' K)) (G : Ctx) (hn : G.fn = N) (a : Act) (w : World) (hh : Holds G st a w) :
    wpOp P ops (fun e a w => e = .normal ∧ ∃ st', K st' ∧ Holds G st' a w) j (fun a' w' => SG G w' ∧ wpAnyH P .any ops (fun e a w => e = .normal ∧ ∃ st', K st' ∧ Holds G st' a w) (SG G) n (listed.setIfInBounds j true) a' w') a w := by
  have hk := k G hn a w hh
  have key : wpOp P ops (fun e a w => Post G (fun e st' => e = .normal ∧ AHeld P N ops n (listed.setIfInBounds j true) st' K) e a w) j
      (fun a w => Post G (fun e st' => e = .normal ∧ AHeld P N ops n (listed.setIfInBounds j true) st' K) .normal a w) a w := by
    unfold wpOp; simp only [ho]; exact hk
  refine wpOp_monoQ ?_ ?_ key
  · rintro e a w he ⟨st', _, h, _⟩
    exact he h
  · rintro a w ⟨st', hh', _, hk'⟩
    exact ⟨hh'.sg, hk' G hn a w hh'⟩
theorem AHeld.one {n : Nat} {listed : Array Bool} (i : Nat) {o : Oper} (ho : ops[i]? = some o) (hr : (Region.ready .any ops listed == [i]) = true)
    (k : AOps P N ops [o] st (fun e st' => e = .normal ∧ AHeld P N ops n (listed.setIfInBounds i true) st' K)) : AHeld P N ops (n + 1) listed st K := by
  intro G hn a w hh
  refine wpAnyH_all (rs := [i]) (by simpa using hr) (by simp) ?_
  intro j hj
  have : j = i := by simpa using hj
  subst this
  exact AHeld.step j ho k G hn a w hh
theorem AHeld.two {n : Nat} {listed : Array Bool} (i i' : Nat) {o o' : Oper} (ho : ops[i]? = some o) (ho' : ops[i']? = some o') (hr : (Region.ready .any ops listed == [i, i']) = true)
    (k : AOps P N ops [o] st (fun e st' => e = .normal ∧ AHeld P N ops n (listed.setIfInBounds i true) st' K))
    (k' : AOps P N ops [o'] st (fun e st' => e = .normal ∧ AHeld P N ops n (listed.setIfInBounds i' true) st' K)) : AHeld P N ops (n + 1) listed st K := by
  intro G hn a w hh
  refine wpAnyH_all (rs := [i, i']) (by simpa using hr) (by simp) ?_
  intro j hj
  simp only [List.mem_cons, List.not_mem_nil, or_false] at hj
  rcases hj with rfl | rfl
  · exact AHeld.step j ho k G hn a w hh
  · exact AHeld.step j ho' k' G hn a w hh
theorem AHeld.blind {n : Nat} {listed : Array Bool} (i : Nat) {op : Op} {x : X} (ho : ops[i]? = some ⟨some d, op, ty, pos, af, none⟩)
    (hB : (Region.noSelect ops && Region.free .any ops listed i && (Region.ready .any ops listed).contains i) = true) (hy : Blind P N st ⟨some d, op, ty, pos, af, none⟩ x) (hd : d < N.n)
    (k : AHeld P N ops n (listed.setIfInBounds i true) (st.put d x) K) : AHeld P N ops (n + 1) listed st K := by
  intro G hn a w hh
  have hS := hh.sg
  obtain ⟨E, RR, rfl, hi⟩ := hh
  obtain ⟨u, hr, hx⟩ := hy G E RR a hn hi
  simp only [Bool.and_eq_true] at hB
  refine wpAnyH_take (v := u) ho hB.1.1 hB.1.2 hB.2 ?_ (.inl ⟨by simp [Region.wanted], fun w _ => hr w⟩) hS (k G hn _ _ ⟨E, _, rfl, hi.put0 (hn ▸ hd) hx⟩)
  intro c a w h
  cases h.1
theorem AHeld.done {n : Nat} {listed : Array Bool} (hr : (Region.ready .any ops listed).isEmpty = true) (h : K st) : AHeld P N ops n listed st K :=
  fun _ _ _ _ hh => wpAnyH_done (by simpa using hr) ⟨rfl, st, h, hh⟩ n

theorem AWp.regionHeld (L F' : List Nat) {Q : Exit → St → Prop} {id : Nat} (hm : P.follows .mixedOrders = true) (h : AFirst P N L F' ops ops.size (Array.replicate ops.size false) st (fun st' => Q .normal st')) : AWp P N (.region id ops true) st Q := by
  intro G hn a w hh
  obtain ⟨E, RR, hw, hi⟩ := hh.drew
  refine wp_mono (wp_region_held (S := SG (ctxH G E L (fun o => RR (.obj o)) F')) hm (hw ▸ h G hn E RR a _ (fun _ _ => rfl) hi)) ?_
  rintro e a w ⟨rfl, st', hk, hh'⟩
  exact ⟨st', hh', hk⟩
theorem look_filter {L : List Nat} {q : Nat} {x : Obj} : ∀ {l : List (Nat × Obj)}, look (l.filter fun p => !L.elem p.1) q = some x → look l q = some x ∧ q ∉ L
  | [], h => by simp [look] at h
  | (o, ob) :: r, h => by
    rw [List.filter_cons] at h
    cases hL : L.elem o with
    | true =>
      simp only [hL, Bool.not_true, Bool.false_eq_true, if_false] at h
      obtain ⟨h1, h2⟩ := look_filter h
      refine ⟨?_, h2⟩
      have hne : Nat.beq o q = false := by
        cases hb : Nat.beq o q with
        | false => rfl
        | true =>
          have := Nat.eq_of_beq_eq_true hb
          subst this
          exact absurd (List.elem_iff.1 hL) h2
      simp only [look, hne, cond_false]; exact h1
    | false =>
      simp only [hL, Bool.not_false, if_true, look] at h ⊢
      cases hb : Nat.beq o q with
      | true =>
        have := Nat.eq_of_beq_eq_true hb
        subst this
        simp only [hb, cond_true] at h ⊢
        exact ⟨h, fun hm => by rw [List.elem_iff.2 hm] at hL; cases hL⟩
      | false =>
        simp only [hb, cond_false] at h ⊢
        exact look_filter h
theorem AWp.regionHeld0 {Q : Exit → St → Prop} {id : Nat} (hm : P.follows .mixedOrders = true) (h : AFirst P N [] N.F ops ops.size (Array.replicate ops.size false) st (fun st' => Q .normal st')) : AWp P N (.region id ops true) st Q := AWp.regionHeld [] N.F hm h
theorem Le.objs {st : St} {l : List (Nat × Obj)} (h : SubL st.objs l) : Le st ⟨st.slots, l⟩ := ⟨fun _ _ h => h, h⟩
theorem namesIn.nil {F' : List Nat} : namesIn st [] F' := fun _ h => by cases h
def ownNames : List X → List Nat
  | [] => []
  | .ptr o .. :: r | .slc o .. :: r | .mref o :: r => o :: ownNames r
  | .v _ :: r | .fz .. :: r | .no :: r | .fp .. :: r | .uni .. :: r => ownNames r
  | _ :: r => ownNames r
def flatX : List X → Bool
  | [] => true
  | .agg _ :: _ | .tup _ :: _ | .clo .. :: _ => false
  | _ :: r => flatX r
theorem ownNames_spec {q : Nat} : ∀ {xs : List X}, flatX xs = true → X.ments q xs = true → q ∈ ownNames xs
  | [], _, h => by simp [X.ments] at h
  | x :: r, hf, h => by
    simp only [X.ments, Bool.or_eq_true] at h
    cases x <;> simp only [flatX, Bool.false_eq_true] at hf <;> simp only [ownNames, X.ment, Bool.false_eq_true, false_or, beq_iff_eq, List.mem_cons] at h ⊢ <;>
      first
        | exact ownNames_spec hf h
        | (rcases h with h | h
           · first | exact .inl h.symm | exact .inl h | exact .inl (Nat.eq_of_beq_eq_true h).symm | exact .inl (Nat.eq_of_beq_eq_true h)
           · exact .inr (ownNames_spec hf h))
theorem namesIn.cells {F' L : List Nat} {o : Nat} {xs : List X} (ho : look st.objs o = some (.cells xs)) (hf : flatX xs = true) (hn : (ownNames xs).all (fun q => F'.elem q) = true) (hL : namesIn st L F') : namesIn st (o :: L) F' := by
  intro p hp
  rcases List.mem_cons.1 hp with rfl | hp
  · exact ⟨_, ho, fun ys hys q hq => by cases hys; exact List.all_eq_true.1 hn q (ownNames_spec hf hq)⟩
  · exact hL p hp
theorem AFirst.goL {L F' : List Nat} {n : Nat} {listed : Array Bool} (hF : N.F.all (fun o => F'.elem o) = true) (hLF : L.all (fun o => F'.elem o) = true)
    (hob : namesIn st L F') (k : AHeld P ⟨N.n, F'⟩ ops n listed ⟨st.slots, st.objs.filter fun p => !L.elem p.1⟩ (fun st' => K ⟨st'.slots, st.back L st'.objs⟩)) : AFirst P N L F' ops n listed st K :=
  AFirst.go ⟨st.slots, st.objs.filter fun p => !L.elem p.1⟩ ⟨fun _ _ h => h, fun _ _ h => (look_filter h).1⟩ (fun o ho => by
    have key : ∀ x, look (st.objs.filter fun p => !L.elem p.1) o ≠ some x := fun x h => absurd ho (look_filter h).2
    show look (st.objs.filter fun p => !L.elem p.1) o = none
    generalize look (st.objs.filter fun p => !L.elem p.1) o = z at key
    cases z with
    | none => rfl
    | some x => exact absurd rfl (key x)) (fun o ho => List.all_eq_true.1 hF o (List.elem_iff.1 ho)) (fun o ho => List.all_eq_true.1 hLF o ho) hob k
theorem AFirst.go0 {n : Nat} {listed : Array Bool} (k : AHeld P N ops n listed st K) : AFirst P N [] N.F ops n listed st K :=
  AFirst.go st (Le.refl st) (fun _ h => by cases h) (fun _ h => h) (fun _ h => by cases h) namesIn.nil k
end
end Go.AW
/- Part of the abstract walk: structs that own slices. -/
namespace Go.AW
open Go

theorem RXs.swapO {E E' : Env} {x y : X} {o : Nat} (hβ : ∀ q, q ≠ o → E'.β q = E.β q) (hf : x.free = true) : ∀ {xs : List X} {cs : List Value} {R : List Nat} {k : Nat}, RXs E xs cs R → xs[k]? = some x → E.On E' R → X.ments o (xs.set k .no) = false →
  ∃ c Ra Rb, R = Ra ++ Rb ∧ RX E x c [] ∧ ∀ R1, RX E' y c R1 → RXs E' (xs.set k y) cs (Ra ++ (R1 ++ Rb))
 | [], _, _, _, _, h, _, _ => by simp at h
 | z :: r, cs, R, 0, h, hy, hE, hm => by
  simp only [RXs] at h
  obtain ⟨c, cs', R₁, R₂, rfl, hs, h1, h2, rfl⟩ := h
  simp only [List.getElem?_cons_zero, Option.some.injEq] at hy
  subst hy
  have h0 := RX.free hf h1
  subst h0
  simp only [List.set, X.ments, Bool.or_eq_false_iff] at hm
  refine ⟨c, [], R₂, rfl, h1, fun R1 h3 => ?_⟩
  simp only [List.set, RXs, List.nil_append]
  exact ⟨c, cs', R1, R₂, rfl, hs, h3, RXs.mono _ _ _ hE (fun q hq => hβ q (fun e => by rw [e, hm.2] at hq; cases hq)) h2, rfl⟩
 | z :: r, cs, R, k + 1, h, hy, hE, hm => by
  simp only [RXs] at h
  obtain ⟨c0, cs', R₁, R₂, rfl, hs, h1, h2, rfl⟩ := h
  simp only [List.getElem?_cons_succ] at hy
  simp only [List.set, X.ments, Bool.or_eq_false_iff] at hm
  obtain ⟨c, Ra, Rb, rfl, hc, hk⟩ := RXs.swapO hβ hf h2 hy (hE.sub (fun _ h => List.mem_append.2 (.inr h))) hm.2
  refine ⟨c, R₁ ++ Ra, Rb, by rw [List.append_assoc], hc, fun R1 h3 => ?_⟩
  simp only [List.set, RXs]
  exact ⟨c0, cs', R₁, Ra ++ (R1 ++ Rb), rfl, hs, RX.mono _ _ _ (hE.sub (fun _ h => List.mem_append.2 (.inl h))) (fun q hq => hβ q (fun e => by rw [e, hm.1] at hq; cases hq)) h1, hk R1 h3, by rw [List.append_assoc]⟩
theorem RXs.swapU {E : Env} {x y : X} {o : Nat} : ∀ {xs : List X} {cs : List Value} {R : List Nat} {k : Nat}, RXs E xs cs R → xs[k]? = some x → X.ments o (xs.set k .no) = false →
  ∃ c Ra R0 Rb, R = Ra ++ (R0 ++ Rb) ∧ RX E x c R0 ∧ ∀ (E' : Env), (∀ q, q ≠ o → E'.β q = E.β q) → E.On E' R → ∀ R1, RX E' y c R1 → RXs E' (xs.set k y) cs (Ra ++ (R1 ++ Rb))
 | [], _, _, _, _, h, _ => by simp at h
 | z :: r, cs, R, 0, h, hy, hm => by
  simp only [RXs] at h
  obtain ⟨c, cs', R₁, R₂, rfl, hs, h1, h2, rfl⟩ := h
  simp only [List.getElem?_cons_zero, Option.some.injEq] at hy
  subst hy
  simp only [List.set, X.ments, Bool.or_eq_false_iff] at hm
  refine ⟨c, [], R₁, R₂, rfl, h1, fun E' hβ hE R1 h3 => ?_⟩
  simp only [List.set, RXs, List.nil_append]
  exact ⟨c, cs', R1, R₂, rfl, hs, h3, RXs.mono _ _ _ (hE.sub (fun _ h => List.mem_append.2 (.inr h))) (fun q hq => hβ q (fun e => by rw [e, hm.2] at hq; cases hq)) h2, rfl⟩
 | z :: r, cs, R, k + 1, h, hy, hm => by
  simp only [RXs] at h
  obtain ⟨c0, cs', R₁, R₂, rfl, hs, h1, h2, rfl⟩ := h
  simp only [List.getElem?_cons_succ] at hy
  simp only [List.set, X.ments, Bool.or_eq_false_iff] at hm
  obtain ⟨c, Ra, R0, Rb, rfl, hc, hk⟩ := RXs.swapU (y := y) h2 hy hm.2
  refine ⟨c, R₁ ++ Ra, R0, Rb, by rw [List.append_assoc], hc, fun E' hβ hE R1 h3 => ?_⟩
  simp only [List.set, RXs]
  exact ⟨c0, cs', R₁, Ra ++ (R1 ++ Rb), rfl, hs, RX.mono _ _ _ (hE.sub (fun _ h => List.mem_append.2 (.inl h))) (fun q hq => hβ q (fun e => by rw [e, hm.1] at hq; cases hq)) h1, hk E' hβ (hE.sub (fun _ h => List.mem_append.2 (.inr h))) R1 h3, by rw [List.append_assoc]⟩
section
variable {N : Frm} {st : St} {d : Nat}
theorem Sh.ownA (k o : Nat) {s n : Nat} {xs : List X} {rows : List (List X)} (hx : look st.slots d = some (.agg xs)) (hk : xs[k]? = some (.slc o s 0 n)) (ho : look st.objs o = some (.rows s rows)) (hl : n = rows.length) (hm : X.ments o (xs.set k .no) = false) (hF : N.F.elem o = false) :
  Sh N st (((st.kill o).putO o (.rows 0 [])).put d (.agg (xs.set k (.uni s rows)))) := by
 intro G hn a w hh
 obtain ⟨E, RR, rfl, hi⟩ := hh
 subst hl
 have hv := hi.slots d _ hx
 have hob := hi.objs o _ ho
 have hnd := hi.nodup (.obj o)
 have hnd2 := hi.nodup (.slot d)
 simp only [RX] at hv
 obtain ⟨cs, hcs, hxs⟩ := hv
 simp only [ROb] at hob
 obtain ⟨hu, hob⟩ := hob
 have hβ : Moves G E { E with β := fun q => if q = o then none else E.β q } (fun _ => False) :=
  ⟨rfl, fun _ h => h.elim, fun _ h => h.elim, fun _ _ _ => rfl, Nat.le_refl _, rfl, rfl, rfl⟩
 have h4 := hi.reobj hβ (o := o) (ob := .rows 0 []) (R := []) (fun _ h => h.elim) (fun q hq => by simp [hq]) (fun h => by rw [hn, hF] at h; cases h)
  (by simp only [ROb]; exact ⟨fun _ h => (by cases h), .inl ⟨by simp, trivial, trivial⟩⟩) List.nodup_nil (fun _ h => by cases h)
 have hon : ∀ R', E.On { E with β := fun q => if q = o then none else E.β q } R' := fun R' => ⟨fun _ _ _ h => h, fun _ _ => ⟨rfl, fun h => h⟩⟩
 obtain ⟨c, Ra, Rb, hRab, hxc, hset⟩ := RXs.swapO (E' := { E with β := fun q => if q = o then none else E.β q }) (y := .uni s rows) (o := o) (fun q hq => by simp [hq]) rfl hxs hk (hon _) hm
 simp only [RX] at hxc
 obtain ⟨_, base, cap, hc, hcase⟩ := hxc
 have hRX : ∃ R, RX { E with β := fun q => if q = o then none else E.β q } (.uni s rows) c R ∧ R.Nodup ∧ ∀ b ∈ R, b ∈ RR (.obj o) := by
  simp only [RX]
  rcases hob with ⟨h1, h2, h3⟩ | ⟨B, cs, ty, R', hB, hw, hφ, hcap, hsz, hRO, hRR⟩
  ·rcases hcase with ⟨_, _, _, h5⟩ | ⟨B, hB, _⟩
   ·exact ⟨[], ⟨hu, base, cap, hc, .inl ⟨h2, h5, rfl⟩⟩, List.nodup_nil, fun _ h => by cases h⟩
   ·rw [h1] at hB; cases hB
  ·rcases hcase with ⟨h1, _⟩ | ⟨B', hB', hlo, hn', hb⟩
   ·rw [hB] at h1; cases h1
   ·rw [hB] at hB'
    obtain rfl := Option.some.inj hB'
    rcases hb with hb | hb
    ·refine ⟨[], ⟨hu, base, cap, hc, .inl ⟨List.eq_nil_of_length_eq_zero om, hb, rfl⟩⟩, List.nodup_nil, fun _ h => by cases h⟩
    ·refine ⟨RR (.obj o), ⟨hu, base, cap, hc, .inr ⟨B.b, B.off, cs, ty, R', by simpa using hb, hw, om, by rw [show cap = B.cap by omega]; exact hsz, hφ, ROr.mono _ _ _ _ (hon R') hRO, hRR⟩⟩, hnd, fun _ h => h⟩
 obtain ⟨R, hR1, hR2, hR3⟩ := hRX
 have hmem : ∀ b ∈ Ra ++ (R ++ Rb), b ∈ RR (.slot d) ∨ b ∈ RR (.obj o) := by
  intro b hb
  rcases List.mem_append.1 hb with h | h
  ·exact .inl (by rw [hRab]; exact List.mem_append.2 (.inl h))
  ·rcases List.mem_append.1 h with h | h
   ·exact .inr (hR3 b h)
   ·exact .inl (by rw [hRab]; exact List.mem_append.2 (.inr h))
 have hap : ∀ b ∈ RR (.slot d), b ∉ RR (.obj o) := fun b hb => hi.apart (.slot d) (.obj o) (by simp) b hb
 rw [hRab] at hnd2 hap
 obtain ⟨m1, m2, m3⟩ := List.nodup_append.1 hnd2
 refine ⟨{ E with β := fun q => if q = o then none else E.β q }, _, rfl, h4.relabel (d := d) (R := Ra ++ (R ++ Rb)) ?_ ?_ (fun c hc => ?_)⟩
 ·simp only [RX]
  exact ⟨cs, hcs, hset R hR1⟩
 ·rw [List.nodup_append, List.nodup_append]
  refine ⟨m1, ⟨hR2, m2, fun x hx y hy e => hap y (List.mem_append.2 (.inr hy)) (by rw [← e]; exact hR3 x hx)⟩, fun x hx y hy e => ?_⟩
  rcases List.mem_append.1 hy with h | h
  ·exact hap x (List.mem_append.2 (.inl hx)) (by rw [e]; exact hR3 y h)
  ·exact m3 x hx y h e
 ·have hown : c < E.w.heap.size ∧ ¬ G.K c := by rcases hmem c hc with h | h <;> exact hi.own _ _ h
  refine ⟨hown.1, hown.2, fun p hp hcp => ?_⟩
  have key : ∀ q, q ≠ .slot d → q ≠ .obj o → c ∉ RR q := by
   intro q h1 h2 h3
   rcases hmem c hc with h | h
   ·exact hi.apart q (.slot d) h1 c h3 h
   ·exact hi.apart q (.obj o) h2 c h3 h
  cases p with
  | obj q =>
   by_cases hq : q = o
   ·subst hq; simp [reown] at hcp
   ·have : c ∈ RR (.obj q) := by simpa [reown, hq] using hcp
    exact key (.obj q) (by simp) (by simpa using hq) this
  | slot q =>
   rcases reown_slot st RR o [] q with h | h
   ·rw [h] at hcp; cases hcp
   ·rw [h] at hcp; exact key (.slot q) hp (by simp) hcp
theorem Sh.nameA (k o : Nat) {s : Nat} {xs : List X} {rows : List (List X)} (hx : look st.slots d = some (.agg xs)) (hk : xs[k]? = some (.uni s rows)) (hm : X.ments o (xs.set k .no) = false) (hF : N.F.elem o = false) :
  Sh N st (((st.kill o).putO o (.rows s rows)).put d (.agg (xs.set k (.slc o s 0 rows.length)))) := by
 intro G hn a w hh
 obtain ⟨E, RR, rfl, hi⟩ := hh
 have hv := hi.slots d _ hx
 have hnd := hi.nodup (.slot d)
 simp only [RX] at hv
 obtain ⟨cs0, hcs, hxs⟩ := hv
 have hi2 := hi.no d
 have hsl : ∀ b ∈ RR (.slot d), b < E.w.heap.size ∧ ¬ G.K b ∧ ∀ p, b ∉ upd RR (.slot d) [] p := by
  intro b hb
  refine ⟨(hi.own _ _ hb).1, (hi.own _ _ hb).2, fun p hp => ?_⟩
  unfold upd at hp
  split at hp
  ·cases hp
  ·rename_i h; exact hi.apart _ _ h b hp hb
 have hon : ∀ (bk : Option Blk) R', E.On { E with β := fun q => if q = o then bk else E.β q } R' := fun _ R' => ⟨fun _ _ _ h => h, fun _ _ => ⟨rfl, fun h => h⟩⟩
 have hβ : ∀ (bk : Option Blk), Moves G E { E with β := fun q => if q = o then bk else E.β q } (fun _ => False) := fun _ =>
  ⟨rfl, fun _ h => h.elim, fun _ h => h.elim, fun _ _ _ => rfl, Nat.le_refl _, rfl, rfl, rfl⟩
 have fin : ∀ (bk : Option Blk) (Ra R0 Rb : List Nat), RR (.slot d) = Ra ++ (R0 ++ Rb) → ROb { E with β := fun q => if q = o then bk else E.β q } o (.rows s rows) R0 → RXs { E with β := fun q => if q = o then bk else E.β q } (xs.set k (.slc o s 0 rows.length)) cs0.toList (Ra ++ ([] ++ Rb)) →
   Holds G (((st.kill o).putO o (.rows s rows)).put d (.agg (xs.set k (.slc o s 0 rows.length)))) a E.w := by
  intro bk Ra R0 Rb hR hob hnew
  rw [hR] at hnd
  obtain ⟨m1, m2, m3⟩ := List.nodup_append.1 hnd
  obtain ⟨m4, m5, m6⟩ := List.nodup_append.1 m2
  have h4 := hi2.reobj (hβ bk) (o := o) (ob := .rows s rows) (R := R0) (fun _ h => h.elim) (fun q hq => by simp [hq]) (fun h => by rw [hn, hF] at h; cases h) hob m4
   (fun c hc => by
    obtain ⟨a1, a2, a3⟩ := hsl c (by rw [hR]; simp [hc])
    exact ⟨a1, a2, fun p _ => a3 p⟩)
  have h5 := h4.relabel (d := d) (x := .agg (xs.set k (.slc o s 0 rows.length))) (R := Ra ++ ([] ++ Rb)) (by simp only [RX]; exact ⟨cs0, hcs, hnew⟩)
   (by
    rw [List.nil_append, List.nodup_append]
    exact ⟨m1, m5, fun x hx y hy => m3 x hx y (List.mem_append.2 (.inr hy))⟩)
   (fun c hc => by
    have hcd : c ∈ RR (.slot d) := by
     rw [hR]
     rcases List.mem_append.1 hc with h | h
     ·exact List.mem_append.2 (.inl h)
     ·exact List.mem_append.2 (.inr (List.mem_append.2 (.inr (by simpa using h))))
    have hc0 : c ∉ R0 := by
     intro h0
     rcases List.mem_append.1 hc with h | h
     ·exact m3 c h c (List.mem_append.2 (.inl h0)) rfl
     ·exact m6 c h0 c (by simpa using h) rfl
    obtain ⟨a1, a2, a3⟩ := hsl c hcd
    refine ⟨a1, a2, fun p hp hcp => ?_⟩
    cases p with
    | obj q =>
     by_cases hq : q = o
     ·subst hq; exact hc0 (by simpa [reown] using hcp)
     ·exact a3 (.obj q) (by simpa [reown, hq] using hcp)
    | slot q =>
     rcases reown_slot (st.put d .no) (upd RR (.slot d) []) o R0 q with h | h
     ·rw [h] at hcp; cases hcp
     ·rw [h] at hcp; exact a3 _ hcp)
  refine ⟨{ E with β := fun q => if q = o then bk else E.β q }, _, rfl, { h5 with slots := fun q y hy => h5.slots q y ?_, objs := fun q y hy => h5.objs q y hy }⟩
  simp only [St.put, St.putO, St.kill, killXs, List.map_cons, look] at hy ⊢
  cases hb : Nat.beq d q with
  | true => rw [hb] at hy; simpa using hy
  | false => rw [hb] at hy; simpa using hy
 obtain ⟨c0, Ra, R0, Rb, hR, hc0, hset⟩ := RXs.swapU (y := .slc o s 0 rows.length) (o := o) hxs hk hm
 simp only [RX] at hc0
 obtain ⟨hu, base, cap, hc, hcase⟩ := hc0
 rcases hcase with ⟨h1, h2, h3⟩ | ⟨b, off, cs, ty, R', hb, hw, hl, ho, hφ, hRO, hRR⟩
 ·refine fin none Ra R0 Rb hR ?_ (hset _ (fun q hq => by simp [hq]) (hon none _) [] ?_)
  ·simp only [ROb]; exact ⟨hu, .inl ⟨by simp, h1, h3⟩⟩
  ·simp only [RX]; exact ⟨trivial, base, cap, hc, .inl ⟨by simp, trivial, by simp [h1], h2⟩⟩
 ·refine fin (some ⟨b, off, cap⟩) Ra R0 Rb hR ?_ (hset _ (fun q hq => by simp [hq]) (hon _ _) [] ?_)
  ·simp only [ROb]; exact ⟨hu, .inr ⟨⟨b, off, cap⟩, cs, ty, R', by simp, hw, hφ, hl, ho, ROr.mono _ _ _ _ (hon _ _) hRO, hRR⟩⟩
  ·simp only [RX]; exact ⟨trivial, base, cap, hc, .inr ⟨⟨b, off, cap⟩, by simp, by simp, hl, .inr (by simpa using hb)⟩⟩
end
end Go.AW
/- Part of the abstract walk: results that are structs with slices of their own. -/
namespace Go.AW
open Go
section
variable {P : Program}
def EndsS (P : Program) (rvs : List ResultVar) (F : List Nat) (k : Nat) (Q : X → List Obj → Prop) : Exit → St → Prop
 | .normal, st | .ret, st => ∃ xs, resAll P st rvs = some xs ∧ ∃ st2 r objs', Sh ⟨1, F⟩ ⟨[(0, resX xs)], st.objs⟩ st2 ∧ look st2.slots 0 = some r ∧ outObjs st2.objs 0 k = some objs' ∧ Q r objs'
 | _, _ => False
theorem ACalls.ofS {f : FuncId} {fn : Func} {c : Code} {args : List X} {objs : List Obj} {F : List Nat} {Q : X → List Obj → Prop} {n : Nat} {rvs : List ResultVar} (hf : P.funcs[f]? = some fn) (hb : fn.body = some c) (hn : fn.ntmps = n) (hr : fn.results.toList = rvs)
  (hnd : (resSlots rvs).Nodup) (hle : args.length ≤ n) (h : AWp P ⟨n, F⟩ c ⟨enumF 0 args, enumF 0 objs⟩ (EndsS P rvs F objs.length Q)) : ACalls P f args objs F Q := by
 intro K E RR cargs hi
 refine calls_of_wp hf hb ?_
 have hcs : cargs.size = args.length := hi.tmps
 have hi' : Inv (ctx0 K E ⟨n, F⟩) E RR ⟨enumF 0 args, enumF 0 objs⟩ ⟨cargs ++ Array.replicate (fn.ntmps - cargs.size) undef, []⟩ := by
  refine { hi with slots := ?_, tmps := ?_, defers := rfl }
  ·intro s x hx
   have h0 := hi.slots s x hx
   have hs : s < cargs.size := by
    rw [hcs]
    have hx' : look (enumF 0 args) s = some x := hx
    rw [look_enum] at hx'
    rcases Nat.lt_or_ge s args.length with h' | h'
    ·exact h'
    ·simp [List.getElem?_eq_none h'] at hx'
   have : (cargs ++ Array.replicate (fn.ntmps - cargs.size) undef).getD s undef = cargs.getD s undef := by
    simp only [Array.getD_eq_getD_getElem?, Array.getElem?_append_left hs]
   show RX E x ((cargs ++ Array.replicate (fn.ntmps - cargs.size) undef).getD s undef) (RR (.slot s))
   rw [this]; exact h0
  ·show (cargs ++ Array.replicate (fn.ntmps - cargs.size) undef).size = n
   simp; omega
 refine wp_mono (h (ctx0 K E ⟨n, F⟩) rfl _ _ ⟨E, RR, rfl, hi'⟩) ?_
 rintro e a w ⟨st, ⟨E', RR', rfl, h1⟩, hq⟩
 have key : (∃ xs, resAll P st rvs = some xs ∧ ∃ st2 r objs', Sh ⟨1, F⟩ ⟨[(0, resX xs)], st.objs⟩ st2 ∧ look st2.slots 0 = some r ∧ outObjs st2.objs 0 objs.length = some objs' ∧ Q r objs') → a.defers = [] ∧ ∃ v, (results fn a.tmps).run P E'.w = .ok v E'.w ∧
   ∃ v' r objs', Ending.returned v = .returned v' ∧ Q r objs' ∧ objs'.length = objs.length ∧ ∃ E'' RR'', E''.w = E'.w ∧ Inv (ctx0 K E ⟨1, F⟩) E'' RR'' ⟨[(0, r)], enumF 0 objs'⟩ ⟨#[v'], []⟩ := by
  rintro ⟨xs, hres, st2, r2, objs', hsh, hr2, hout, hQ⟩
  obtain ⟨hlen, hobj0⟩ := outObjs_spec hout
  have hobj : ∀ j, j < objs.length → look st2.objs j = objs'[j]? := fun j hj => by have := hobj0 j hj; rwa [Nat.zero_add] at this
  refine ⟨h1.defers, ?_⟩
  obtain ⟨cs, R, hrun, hx, hRn, hRs⟩ := res_all h1 hres hnd
  have hresults : (results fn a.tmps).run P E'.w = .ok (if h : cs.toArray.size = 1 then cs.toArray[0] else .tuple cs.toArray) E'.w := by
   have e : results fn a.tmps = (do let vs ← fn.results.mapM (resSem a.tmps); Pure.pure (if h : vs.size = 1 then vs[0] else .tuple vs) : Sem Value) := rfl
   rw [e, show fn.results = rvs.toArray by rw [← hr]]
   refine run_then (u := cs.toArray) ?_ rfl
   rw [List.mapM_toArray]
   simp only [Sem.run_map, hrun]
   rfl
  refine ⟨_, hresults, _, r2, objs', rfl, hQ, hlen, ?_⟩
  have hrx : RX E' (resX xs) (if h : cs.toArray.size = 1 then cs.toArray[0] else .tuple cs.toArray) R := by
   cases xs with
   | nil =>
    simp only [RXt] at hx
    obtain ⟨rfl, rfl⟩ := hx
    simp only [resX, RX]
    exact ⟨#[], by simp, by simp [RXt]⟩
   | cons x xs =>
    cases xs with
    | nil =>
     simp only [RXt] at hx
     obtain ⟨c, cs', R₁, R₂, rfl, h1, ⟨rfl, rfl⟩, rfl⟩ := hx
     simpa [resX] using h1
    | cons y ys =>
     have hx' := hx
     simp only [RXt] at hx
     obtain ⟨c, cs', R₁, R₂, rfl, _, ⟨c', cs'', R₃, R₄, rfl, _⟩, _⟩ := hx
     simp only [resX, RX]
     exact ⟨(c :: c' :: cs'').toArray, by simp, by simpa using hx'⟩
  let RR2 : Own → List Nat := fun p => match p with
   | .slot s => if s = 0 then R else []
   | .obj o => RR' (.obj o)
  have hin : ∀ p b, b ∈ RR2 p → ∃ q, b ∈ RR' q ∧ ((∃ o, p = .obj o ∧ q = .obj o) ∨ (p = .slot 0 ∧ ∃ t, q = .slot t)) := by
   intro p b hb
   cases p with
   | slot s =>
    by_cases hs : s = 0
    ·subst hs
     simp only [RR2, if_true] at hb
     obtain ⟨t, _, ht⟩ := hRs b hb
     exact ⟨.slot t, ht, .inr ⟨rfl, t, rfl⟩⟩
    ·simp [RR2, hs] at hb
   | obj o => exact ⟨.obj o, hb, .inl ⟨o, rfl, rfl⟩⟩
  have h3 : Holds (ctx0 K E ⟨1, F⟩) ⟨[(0, resX xs)], st.objs⟩ ⟨#[if h : cs.toArray.size = 1 then cs.toArray[0] else .tuple cs.toArray], []⟩ E'.w := by
   refine ⟨E', RR2, rfl, { h1 with slots := ?_, objs := ?_, nodup := ?_, apart := ?_, own := ?_, tmps := ?_, defers := rfl }⟩
   ·intro s x hx'
    simp only [look] at hx'
    cases hb0 : Nat.beq 0 s with
    | false => simp [hb0] at hx'
    | true =>
     have := Nat.eq_of_beq_eq_true hb0
     subst this
     simp only [hb0, cond_true, Option.some.injEq] at hx'
     subst hx'
     simpa [RR2] using hrx
   ·intro o ob ho
    exact h1.objs o ob ho
   ·intro p
    cases p with
    | slot s => by_cases hs : s = 0 <;> simp [RR2, hs, hRn]
    | obj o => exact h1.nodup _
   ·intro p q hpq b hb hb'
    obtain ⟨p', hp', hpc⟩ := hin p b hb
    obtain ⟨q', hq', hqc⟩ := hin q b hb'
    have hne : p' ≠ q' := by
     rcases hpc with ⟨o, rfl, rfl⟩ | ⟨rfl, t, rfl⟩
     ·rcases hqc with ⟨o', rfl, rfl⟩ | ⟨rfl, t', rfl⟩
      ·exact hpq
      ·simp
     ·rcases hqc with ⟨o', rfl, rfl⟩ | ⟨rfl, t', rfl⟩
      ·simp
      ·exact absurd rfl hpq
    exact h1.apart p' q' hne b hp' hq'
   ·intro p b hb
    obtain ⟨q, hq', _⟩ := hin p b hb
    exact h1.own q b hq'
   ·rfl
  obtain ⟨E2, RR3, hw2, h2⟩ := hsh _ rfl _ _ h3
  refine ⟨E2, RR3, hw2, { h2 with slots := ?_, objs := ?_ }⟩
  ·intro s x hx'
   simp only [look] at hx'
   cases hb0 : Nat.beq 0 s with
   | false => simp [hb0] at hx'
   | true =>
    have := Nat.eq_of_beq_eq_true hb0
    subst this
    simp only [hb0, cond_true, Option.some.injEq] at hx'
    subst hx'
    exact h2.slots 0 _ hr2
  ·intro o ob ho
   have ho' : look (enumF 0 objs') o = some ob := ho
   rw [look_enum] at ho'
   have hlt : o < objs.length := by
    rcases Nat.lt_or_ge o objs.length with h' | h'
    ·exact h'
    ·rw [List.getElem?_eq_none om] at ho'; cases ho'
   exact h2.objs o ob (by rw [hobj o hlt]; exact ho')
 cases e with
 | normal => exact key hq
 | ret => exact key hq
 | _ => exact hq.elim

theorem Sh.then {N : Frm} {a b c : St} (h1 : Sh N a b) (h2 : Sh N b c) : Sh N a c := fun G hn x w hh => h2 G hn x w (h1 G hn x w hh)
end
end Go.AW
/- Part of the abstract walk: structs that own slices, among several results. -/
namespace Go.AW
open Go
section
variable {N : Frm} {st : St} {d : Nat}
theorem Sh.ownT (k o : Nat) {s n : Nat} {xs zs : List X} {rows : List (List X)} (hx : look st.slots d = some (.tup (.agg xs :: zs))) (hz : X.ments o zs = false) (hk : xs[k]? = some (.slc o s 0 n)) (ho : look st.objs o = some (.rows s rows)) (hl : n = rows.length) (hm : X.ments o (xs.set k .no) = false) (hF : N.F.elem o = false) :
  Sh N st (((st.kill o).putO o (.rows 0 [])).put d (.tup (.agg (xs.set k (.uni s rows)) :: zs))) := by
 intro G hn a w hh
 obtain ⟨E, RR, rfl, hi⟩ := hh
 subst hl
 have hv := hi.slots d _ hx
 have hob := hi.objs o _ ho
 have hnd := hi.nodup (.obj o)
 have hnd2 := hi.nodup (.slot d)
 simp only [RX, RXt] at hv
 obtain ⟨ts, hts, c1, cs1, R1, R2, htl, ⟨cs, rfl, hxs⟩, hzs, hR12⟩ := hv
 simp only [ROb] at hob
 obtain ⟨hu, hob⟩ := hob
 have hβ : Moves G E { E with β := fun q => if q = o then none else E.β q } (fun _ => False) :=
  ⟨rfl, fun _ h => h.elim, fun _ h => h.elim, fun _ _ _ => rfl, Nat.le_refl _, rfl, rfl, rfl⟩
 have h4 := hi.reobj hβ (o := o) (ob := .rows 0 []) (R := []) (fun _ h => h.elim) (fun q hq => by simp [hq]) (fun h => by rw [hn, hF] at h; cases h)
  (by simp only [ROb]; exact ⟨fun _ h => (by cases h), .inl ⟨by simp, trivial, trivial⟩⟩) List.nodup_nil (fun _ h => by cases h)
 have hon : ∀ R', E.On { E with β := fun q => if q = o then none else E.β q } R' := fun R' => ⟨fun _ _ _ h => h, fun _ _ => ⟨rfl, fun h => h⟩⟩
 obtain ⟨c, Ra, Rb0, hRab0, hxc, hset0⟩ := RXs.swapO (E' := { E with β := fun q => if q = o then none else E.β q }) (y := .uni s rows) (o := o) (fun q hq => by simp [hq]) rfl hxs hk (hon _) hm
 have hRab : RR (.slot d) = Ra ++ (Rb0 ++ R2) := by rw [hR12, hRab0, List.append_assoc]
 have hset : ∀ R', RX { E with β := fun q => if q = o then none else E.β q } (.uni s rows) c R' → RX { E with β := fun q => if q = o then none else E.β q } (.tup (.agg (xs.set k (.uni s rows)) :: zs)) (a.tmps.getD d undef) (Ra ++ (R' ++ (Rb0 ++ R2))) := by
  intro R' h'
  rw [hts]
  simp only [RX, RXt]
  exact ⟨ts, rfl, .agg cs, cs1, Ra ++ (R' ++ Rb0), R2, htl, ⟨cs, rfl, hset0 R' h'⟩, RXt.mono _ _ _ (hon _) (fun q hq => by
   have hne : q ≠ o := fun e => by rw [e, hz] at hq; cases hq
   simp [hne]) hzs, by simp only [List.append_assoc]⟩
 generalize Rb0 ++ R2 = Rb at hRab hset
 simp only [RX] at hxc
 obtain ⟨_, base, cap, hc, hcase⟩ := hxc
 have hRX : ∃ R, RX { E with β := fun q => if q = o then none else E.β q } (.uni s rows) c R ∧ R.Nodup ∧ ∀ b ∈ R, b ∈ RR (.obj o) := by
  simp only [RX]
  rcases hob with ⟨h1, h2, h3⟩ | ⟨B, cs, ty, R', hB, hw, hφ, hcap, hsz, hRO, hRR⟩
  ·rcases hcase with ⟨_, _, _, h5⟩ | ⟨B, hB, _⟩
   ·exact ⟨[], ⟨hu, base, cap, hc, .inl ⟨h2, h5, rfl⟩⟩, List.nodup_nil, fun _ h => by cases h⟩
   ·rw [h1] at hB; cases hB
  ·rcases hcase with ⟨h1, _⟩ | ⟨B', hB', hlo, hn', hb⟩
   ·rw [hB] at h1; cases h1
   ·rw [hB] at hB'
    obtain rfl := Option.some.inj hB'
    rcases hb with hb | hb
    ·refine ⟨[], ⟨hu, base, cap, hc, .inl ⟨List.eq_nil_of_length_eq_zero om, hb, rfl⟩⟩, List.nodup_nil, fun _ h => by cases h⟩
    ·refine ⟨RR (.obj o), ⟨hu, base, cap, hc, .inr ⟨B.b, B.off, cs, ty, R', by simpa using hb, hw, om, by rw [show cap = B.cap by omega]; exact hsz, hφ, ROr.mono _ _ _ _ (hon R') hRO, hRR⟩⟩, hnd, fun _ h => h⟩
 obtain ⟨R, hR1, hR2, hR3⟩ := hRX
 have hmem : ∀ b ∈ Ra ++ (R ++ Rb), b ∈ RR (.slot d) ∨ b ∈ RR (.obj o) := by
  intro b hb
  rcases List.mem_append.1 hb with h | h
  ·exact .inl (by rw [hRab]; exact List.mem_append.2 (.inl h))
  ·rcases List.mem_append.1 h with h | h
   ·exact .inr (hR3 b h)
   ·exact .inl (by rw [hRab]; exact List.mem_append.2 (.inr h))
 have hap : ∀ b ∈ RR (.slot d), b ∉ RR (.obj o) := fun b hb => hi.apart (.slot d) (.obj o) (by simp) b hb
 rw [hRab] at hnd2 hap
 obtain ⟨m1, m2, m3⟩ := List.nodup_append.1 hnd2
 refine ⟨{ E with β := fun q => if q = o then none else E.β q }, _, rfl, h4.relabel (d := d) (R := Ra ++ (R ++ Rb)) ?_ ?_ (fun c hc => ?_)⟩
 ·exact hset R hR1
 ·rw [List.nodup_append, List.nodup_append]
  refine ⟨m1, ⟨hR2, m2, fun x hx y hy e => hap y (List.mem_append.2 (.inr hy)) (by rw [← e]; exact hR3 x hx)⟩, fun x hx y hy e => ?_⟩
  rcases List.mem_append.1 hy with h | h
  ·exact hap x (List.mem_append.2 (.inl hx)) (by rw [e]; exact hR3 y h)
  ·exact m3 x hx y h e
 ·have hown : c < E.w.heap.size ∧ ¬ G.K c := by rcases hmem c hc with h | h <;> exact hi.own _ _ h
  refine ⟨hown.1, hown.2, fun p hp hcp => ?_⟩
  have key : ∀ q, q ≠ .slot d → q ≠ .obj o → c ∉ RR q := by
   intro q h1 h2 h3
   rcases hmem c hc with h | h
   ·exact hi.apart q (.slot d) h1 c h3 h
   ·exact hi.apart q (.obj o) h2 c h3 h
  cases p with
  | obj q =>
   by_cases hq : q = o
   ·subst hq; simp [reown] at hcp
   ·have : c ∈ RR (.obj q) := by simpa [reown, hq] using hcp
    exact key (.obj q) (by simp) (by simpa using hq) this
  | slot q =>
   rcases reown_slot st RR o [] q with h | h
   ·rw [h] at hcp; cases hcp
   ·rw [h] at hcp; exact key (.slot q) hp (by simp) hcp
end
theorem Sh.nameN {N : Frm} {st : St} {d : Nat} (k o n : Nat) {s : Nat} {xs : List X} {rows : List (List X)} (hx : look st.slots d = some (.agg xs)) (hk : xs[k]? = some (.uni s rows)) (hm : X.ments o (xs.set k .no) = false) (hF : N.F.elem o = false) (hn : n = rows.length) :
  Sh N st (((st.kill o).putO o (.rows s rows)).put d (.agg (xs.set k (.slc o s 0 n)))) := by subst hn; exact Sh.nameA k o hx hk hm hF
theorem AWp.regionHeldJ {P : Program} {N : Frm} {st : St} {ops : Array Oper} (L F' : List Nat) (J : St) {Q : Exit → St → Prop} {id : Nat} (hm : P.follows .mixedOrders = true) (h : AFirst P N L F' ops ops.size (Array.replicate ops.size false) st (fun st' => Le st' J)) (k : Q .normal J) : AWp P N (.region id ops true) st Q := by
 intro G hn a w hh
 obtain ⟨E, RR, hw, hi⟩ := hh.drew
 refine wp_mono (wp_region_held (S := SG (ctxH G E L (fun o => RR (.obj o)) F')) hm (hw ▸ h G hn E RR a _ (fun _ _ => rfl) hi)) ?_
 rintro e a w ⟨rfl, st', hk, hh'⟩
 exact ⟨J, hk.holds hh', k⟩
theorem AWp.regionHeldJ0 {P : Program} {N : Frm} {st : St} {ops : Array Oper} (J : St) {Q : Exit → St → Prop} {id : Nat} (hm : P.follows .mixedOrders = true) (h : AFirst P N [] N.F ops ops.size (Array.replicate ops.size false) st (fun st' => Le st' J)) (k : Q .normal J) : AWp P N (.region id ops true) st Q := AWp.regionHeldJ [] N.F J hm h k
theorem wrap_u8_nat (x : Nat) : IntKind.u8.wrap (x : Int) = ((x % 256 : Nat) : Int) := by
 unfold IntKind.wrap
 simp only [IntKind.signed, IntKind.bits]
 simp
end Go.AW
/- Part of the abstract walk: open orders in which a variable is loaded first and written last. -/
namespace Go.AW
open Go

section
variable {P : Program} {ops : Array Oper} {Q : Exit → Act → World → Prop} {md : Region.Mode} {S : World → Prop}
def wpAnyL (P : Program) (md : Region.Mode) (ops : Array Oper) (Q : Exit → Act → World → Prop) (S : World → Prop) (LT : List Nat) : Nat → Array Bool → Act → World → Prop
 | 0, listed, a, w => Region.ready md ops listed = [] ∧ Q .normal a w
 | n + 1, listed, a, w => (Region.ready md ops listed = [] → Q .normal a w) ∧
   ∀ i ∈ Region.ready md ops listed, wpOp P ops Q i (fun a' w' => (i ∈ LT ∨ S w') ∧ wpAnyL P md ops Q S LT n (listed.setIfInBounds i true) a' w') a w
theorem wpAnyL_of {LT : List Nat} : ∀ (n : Nat) (listed : Array Bool) (a : Act) (w : World), (∀ j, listed.getD j true = false → j ∈ LT) → wpAny P md ops Q n listed a w → wpAnyL P md ops Q S LT n listed a w
 | 0, _, _, _, _, h => h
 | n + 1, listed, _, _, hl, h => ⟨h.1, fun i hi => wpOp_mono (fun a' w' h' => ⟨.inl (hl i (mem_ready.1 hi).1), wpAnyL_of n _ a' w' (fun j hj => by
   refine hl j ?_
   by_cases hij : i = j
   ·subst hij; exact (mem_ready.1 hi).1
   ·rw [getD_set_ne true hij] at hj; exact hj) h'⟩) (h.2 i hi)⟩
theorem wpAnyL_first {LT : List Nat} {i : Nat} {oi : Oper} {v : Value} (hi : ops[i]? = some oi) (hsel : ∀ (j : Nat) (o : Oper) cs b, ops[j]? = some o → o.op ≠ .select cs b)
  (hQ : ∀ c a w, Q (.panic c) (a.put oi.dst v) w → Q (.panic c) a w) (hlt : ∀ j ∈ LT, ∀ oj, ops[j]? = some oj → ∃ e ∈ oj.after, Region.binds md e = true ∧ e.on = i) :
  ∀ (n : Nat) (listed : Array Bool) (a : Act) (w : World), (∀ j oj, ops[j]? = some oj → j ≠ i → listed.getD j true = false → (∀ e ∈ oj.after, Region.binds md e = true → e.on ≠ i) → oi.apart ops oj = true) →
   i ∈ Region.ready md ops listed → YieldsIf P ops S oi v a → S w → wpAnyL P md ops Q S LT n (listed.setIfInBounds i true) (a.put oi.dst v) w → wpAnyL P md ops Q S LT (n + 1) listed a w := by
 intro n
 induction n with
 | zero =>
  intro listed a w _ hr hy hS H
  refine ⟨fun h => (by rw [h] at hr; cases hr), fun j hj => ?_⟩
  by_cases hji : j = i
  ·subst hji; exact hy.wpOp hi hS ⟨.inr hS, H⟩
  ·have := ready_mono hj hji
   rw [H.1] at this
   cases this
 | succ n ih =>
  intro listed a w hfree hr hy hS H
  refine ⟨fun h => (by rw [h] at hr; cases hr), fun j hj => ?_⟩
  by_cases hji : j = i
  ·subst hji; exact hy.wpOp hi hS ⟨.inr hS, H⟩
  ·have h1 := H.2 j (ready_mono hj hji)
   obtain ⟨hjun, oj, hoj, hall⟩ := mem_ready.1 hj
   have hnot : ∀ e ∈ oj.after, Region.binds md e = true → e.on ≠ i := by
    intro e he hb heq
    have h3 := hall e he hb
    have h4 := (mem_ready.1 hr).1
    rw [heq] at h3
    rcases Nat.lt_or_ge i listed.size with h' | h'
    ·simp [h'] at h3 h4; rw [h3] at h4; cases h4
    ·simp [Array.getElem?_eq_none h'] at h3
   have hjl : j ∉ LT := fun hm => by
    obtain ⟨e, he, hb, ho⟩ := hlt j hm oj hoj
    exact hnot e he hb ho
   have h2 := wpOp_putIf hoj (hfree j oj hoj hji hjun hnot) (fun cs b => hsel i oi cs b hi) (fun cs b => hsel j oj cs b hoj) hQ hy h1
   refine wpOp_mono (fun a' w' h3 => ⟨h3.2.1, ih (listed.setIfInBounds j true) a' w' ?_ (ready_mono hr (Ne.symm hji)) h3.1 (h3.2.1.resolve_left hjl) ?_⟩) h2
   ·intro k ok hk hki hku hno
    refine hfree k ok hk hki ?_ hno
    by_cases hjk : j = k
    ·subst hjk; exact hjun
    ·rw [getD_set_ne true hjk] at hku; exact hku
   ·rw [Array.setIfInBounds_comm _ _ hji]; exact h3.2.2
end
end Go.AW
/- Part of the abstract walk: open orders in which variables are loaded first, and written last. -/
namespace Go.AW
open Go

section
variable {P : Program} {N : Frm} {st : St} {ops : Array Oper} {d : Nat} {ty : TypeId} {pos : String} {af : Array Edge} {K : St → Prop}
def lateB (ops : Array Oper) (LT : List Nat) (i : Nat) : Bool := LT.all fun j => match ops[j]? with
 | some oj => oj.after.toList.any fun e => Region.binds .any e && e.on == i
 | none => true
theorem wpAnyL_take {Q : Exit → Act → World → Prop} {S : World → Prop} {LT : List Nat} {i : Nat} {oi : Oper} {v : Value} {n : Nat} {listed : Array Bool} {a : Act} {w : World} (hi : ops[i]? = some oi)
  (hs : Region.noSelect ops = true) (hf : Region.free .any ops listed i = true) (hr : (Region.ready .any ops listed).contains i = true) (hlt : lateB ops LT i = true)
  (hQ : ∀ c a w, Q (.panic c) (a.put oi.dst v) w → Q (.panic c) a w) (hy : YieldsIf P ops S oi v a) (hS : S w)
  (h : wpAnyL P .any ops Q S LT n (listed.setIfInBounds i true) (a.put oi.dst v) w) : wpAnyL P .any ops Q S LT (n + 1) listed a w :=
 wpAnyL_first hi (Region.noSelect_spec hs) hQ (fun j hj oj hoj => by
  have h1 := List.all_eq_true.1 hlt j hj
  simp only [hoj, List.any_eq_true, Bool.and_eq_true, beq_iff_eq, Array.mem_toList_iff] at h1
  exact h1) n listed a w (Region.free_spec hi hf) (by simpa using hr) hy hS h
theorem wpAnyL_all {Q : Exit → Act → World → Prop} {S : World → Prop} {LT rs : List Nat} {n : Nat} {listed : Array Bool} {a : Act} {w : World} (hr : Region.ready .any ops listed = rs) (hne : rs ≠ [])
  (h : ∀ i ∈ rs, wpOp P ops Q i (fun a' w' => S w' ∧ wpAnyL P .any ops Q S LT n (listed.setIfInBounds i true) a' w') a w) : wpAnyL P .any ops Q S LT (n + 1) listed a w :=
 ⟨fun h0 => absurd (hr ▸ h0) hne, fun i hi => wpOp_mono (fun _ _ h' => ⟨.inr h'.1, h'.2⟩) (h i (hr ▸ hi))⟩

def AHeldL (P : Program) (N : Frm) (LT : List Nat) (ops : Array Oper) (R : Nat → Array Bool → St → Prop) (n : Nat) (listed : Array Bool) (st : St) : Prop :=
 ∀ G : Ctx, G.fn = N → ∀ Q : Exit → Act → World → Prop, (∀ c a w, Q (.panic c) a w → False) →
  (∀ n' l' st' a' w', R n' l' st' → Holds G st' a' w' → wpAnyL P .any ops Q (SG G) LT n' l' a' w') → ∀ a w, Holds G st a w → wpAnyL P .any ops Q (SG G) LT n listed a w
def AFirstL (P : Program) (N : Frm) (LT L F' : List Nat) (ops : Array Oper) (n : Nat) (listed : Array Bool) (st : St) (K : St → Prop) : Prop :=
 ∀ G : Ctx, G.fn = N → ∀ E RR a (T : Nat → List Nat), (∀ o ∈ L, RR (.obj o) = T o) → Inv G E RR st a →
  wpAnyL P .any ops (fun e a w => e = .normal ∧ ∃ st', K st' ∧ Holds G st' a w) (SG (ctxH G E L T F')) LT n listed a E.w
theorem AFirstL.blind {LT L F' : List Nat} {n : Nat} {listed : Array Bool} (i : Nat) {op : Op} {x : X} (ho : ops[i]? = some ⟨some d, op, ty, pos, af, none⟩)
  (hB : (Region.noSelect ops && Region.free .any ops listed i && (Region.ready .any ops listed).contains i) = true) (hlt : lateB ops LT i = true) (hy : Blind P N st ⟨some d, op, ty, pos, af, none⟩ x) (hd : d < N.n)
  (k : AFirstL P N LT L F' ops n (listed.setIfInBounds i true) (st.put d x) K) : AFirstL P N LT L F' ops (n + 1) listed st K := by
 intro G hn E RR a T hT hi
 obtain ⟨u, hr, hx⟩ := hy G E RR a hn hi
 simp only [Bool.and_eq_true] at hB
 refine wpAnyL_take (v := u) ho hB.1.1 hB.1.2 hB.2 hlt ?_ (.inl ⟨by simp [Region.wanted], fun w _ => hr w⟩) (hi.sgH L T F') (k G hn E _ _ T ?_ (hi.put0 (hn ▸ hd) hx))
 ·intro c a w h
  cases h.1
 ·intro o ho
  have := hT o ho
  simpa [upd] using this
theorem AFirstL.load {LT L F' : List Nat} {n : Nat} {listed : Array Bool} (i : Nat) {t : TypeId} {x : Operand} {p y : X} {row : List X} (ho : ops[i]? = some ⟨some d, .load t x, ty, pos, af, none⟩)
  (hB : (Region.noSelect ops && Region.free .any ops listed i && (Region.ready .any ops listed).contains i) = true) (hlt : lateB ops LT i = true) (ht : TY.shape P t = some none) (hx : opd st x = some p) (hL : heldX L p = true) (hr : rowAt st p = some row)
  (hy : row[kAt p]? = some y) (hf : y.free = true) (hd : d < N.n)
  (k : AFirstL P N LT L F' ops n (listed.setIfInBounds i true) (st.put d y) K) : AFirstL P N LT L F' ops (n + 1) listed st K := by
 intro G hn E RR a T hT hi
 obtain ⟨R, hp⟩ := hi.eval hx
 obtain ⟨b, off, hc, hcells⟩ := hi.behind hp hr
 obtain ⟨b', off', hc', hsame⟩ := hi.held (F' := F') hT hp hr hL
 obtain ⟨rfl, rfl⟩ := ptr_inj (hc.symm.trans hc')
 have hk : kAt p < row.length := by
  rcases Nat.lt_or_ge (kAt p) row.length with h' | h'
  ·exact h'
  ·simp [List.getElem?_eq_none h'] at hy
 obtain ⟨vs, R', hl, hv, hxs⟩ := hcells (kAt p) 1 om
 rw [getElem?_drop_take_one hy] at hxs
 simp only [RXs] at hxs
 obtain ⟨c, cs', R₁, R₂, hvs, _, h1, ⟨rfl, rfl⟩, rfl⟩ := hxs
 subst hvs
 have h0 := RX.free hf h1
 subst h0
 simp only [Bool.and_eq_true] at hB
 refine wpAnyL_take (v := c) ho hB.1.1 hB.1.2 hB.2 hlt ?_ (.inl ⟨by simp [Region.wanted], fun w hw => ?_⟩) (hi.sgH L T F') (k G hn E _ _ T ?_ (hi.put0 (hn ▸ hd) h1))
 ·intro c a w h
  cases h.1
 ·show (do let z ← Instr.loadAt t (a.eval x); pure (Next.value z) : Sem Next).run P w = _
  rw [hc]
  refine run_v ?_
  have hcell := hv 0 c rfl
  simp only [Instr.loadAt, Instr.sureAddr, loadVar, Sem.run_bind, Sem.run_pure, Result.andThen_ok, (TY.shape_none ht w).1]
  simp only [Nat.add_zero] at hcell
  rw [← hsame w hw _ hk] at hcell
  simp [hcell]
 ·intro o ho
  have := hT o ho
  simpa [upd] using this
theorem AFirstL.loadA {LT L F' : List Nat} {n : Nat} {listed : Array Bool} (i : Nat) {t : TypeId} {x : Operand} {p : X} {row : List X} {m : Nat} {ys : List X} (ho : ops[i]? = some ⟨some d, .load t x, ty, pos, af, none⟩)
  (hB : (Region.noSelect ops && Region.free .any ops listed i && (Region.ready .any ops listed).contains i) = true) (hlt : lateB ops LT i = true) (ht : TY.shape P t = some (some m)) (hx : opd st x = some p) (hL : heldX L p = true) (hr : rowAt st p = some row)
  (hm : kAt p + m ≤ row.length) (hys : (row.drop (kAt p)).take m = ys) (hf : X.frees ys = true) (hd : d < N.n)
  (k : AFirstL P N LT L F' ops n (listed.setIfInBounds i true) (st.put d (.agg ys)) K) : AFirstL P N LT L F' ops (n + 1) listed st K := by
 intro G hn E RR a T hT hi
 obtain ⟨R, hp⟩ := hi.eval hx
 obtain ⟨b, off, hc, hcells⟩ := hi.behind hp hr
 obtain ⟨b', off', hc', hsame⟩ := hi.held (F' := F') hT hp hr hL
 obtain ⟨rfl, rfl⟩ := ptr_inj (hc.symm.trans hc')
 obtain ⟨vs, R', hl, hv, hxs⟩ := hcells (kAt p) m hm
 rw [hys] at hxs
 have h0 := RXs.free hf hxs
 subst h0
 simp only [Bool.and_eq_true] at hB
 refine wpAnyL_take (v := .agg vs.toArray) ho hB.1.1 hB.1.2 hB.2 hlt ?_ (.inl ⟨by simp [Region.wanted], fun w hw => ?_⟩) (hi.sgH L T F') (k G hn E _ _ T ?_ (hi.put0 (hn ▸ hd) (by simp only [RX]; exact ⟨_, rfl, hxs⟩)))
 ·intro c a w h
  cases h.1
 ·show (do let z ← Instr.loadAt t (a.eval x); pure (Next.value z) : Sem Next).run P w = _
  rw [hc]
  refine run_v ?_
  obtain ⟨h1, h2⟩ := TY.shape_some ht w
  have h3 : (loadCells ⟨b, off + kAt p, none⟩ m).run P w = .ok vs.toArray w := by
   rw [← hl]
   refine run_loadCells_list (w := w) _ vs fun j v hj => ?_
   have hjl : j < vs.length := (List.getElem?_eq_some_iff.1 hj).1
   rw [add_mk, Nat.add_assoc, hsame w hw _ om]; exact hv j v hj
  simp only [Instr.loadAt, Instr.sureAddr, loadVar, Sem.run_bind, Sem.run_pure, Result.andThen_ok, h1, if_true, h2, h3]
 ·intro o ho
  have := hT o ho
  simpa [upd] using this

def LateK (P : Program) (N : Frm) (LT L : List Nat) (ops : Array Oper) (st : St) (K : St → Prop) (n' : Nat) (l' : Array Bool) (st' : St) : Prop :=
 ((List.range l'.size).all fun j => l'.getD j true || LT.elem j) = true ∧ AAny P N ops n' l' ⟨st'.slots, st.back L st'.objs⟩ K
theorem AFirstL.goL {LT L F' : List Nat} {n : Nat} {listed : Array Bool} (hF : N.F.all (fun o => F'.elem o) = true) (hLF : L.all (fun o => F'.elem o) = true)
  (hob : namesIn st L F') (k : AHeldL P ⟨N.n, F'⟩ LT ops (LateK P N LT L ops st K) n listed ⟨st.slots, st.objs.filter fun p => !L.elem p.1⟩) : AFirstL P N LT L F' ops n listed st K := by
 intro G hn E RR a T hT hi
 refine k (ctxH G E L T F') (by simp [ctxH, hn]) _ (fun c a w h => by cases h.1) ?_ a E.w (ctxH.down hi hT ⟨fun _ _ h => h, fun _ _ h => (look_filter h).1⟩ ?_)
 ·rintro n' l' st' a' w' ⟨hl, hk⟩ hh
  refine wpAnyL_of n' l' a' w' (fun j hj => ?_) (hk G hn a' w' (ctxH.up hi hT (fun o ho => List.all_eq_true.1 hF o (List.elem_iff.1 (hn ▸ ho))) (fun o ho => List.all_eq_true.1 hLF o ho) hob hh))
  rcases Nat.lt_or_ge j l'.size with h' | h'
  ·have h1 := List.all_eq_true.1 hl j (List.mem_range.2 h')
   rw [hj, Bool.false_or] at h1
   exact List.elem_iff.1 h1
  ·simp [Array.getD, Nat.not_lt.2 h'] at hj
 ·intro o ho
  have key : ∀ x, look (st.objs.filter fun p => !L.elem p.1) o ≠ some x := fun x h => absurd ho (look_filter h).2
  show look (st.objs.filter fun p => !L.elem p.1) o = none
  generalize look (st.objs.filter fun p => !L.elem p.1) o = z at key
  cases z with
  | none => rfl
  | some x => exact absurd rfl (key x)
section
variable {LT : List Nat} {R : Nat → Array Bool → St → Prop}
theorem AHeldL.back {n : Nat} {listed : Array Bool} (h : R n listed st) : AHeldL P N LT ops R n listed st := fun _ _ _ _ hR _ _ hh => hR _ _ _ _ _ h hh
theorem AHeldL.late {N0 : Frm} {L : List Nat} {st0 : St} {n : Nat} {listed : Array Bool} (h : ((List.range listed.size).all fun j => listed.getD j true || LT.elem j) = true)
  (k : AAny P N0 ops n listed ⟨st.slots, st0.back L st.objs⟩ K) : AHeldL P N LT ops (LateK P N0 LT L ops st0 K) n listed st := AHeldL.back ⟨h, k⟩
theorem AHeldL.step {n : Nat} {listed : Array Bool} (j : Nat) {o : Oper} (ho : ops[j]? = some o)
  (k : AOps P N ops [o] st (fun e st' => e = .normal ∧ AHeldL P N LT ops R n (listed.setIfInBounds j true) st')) (G : Ctx) (hn : G.fn = N) (Q : Exit → Act → World → Prop) (hQ : ∀ c a w, Q (.panic c) a w → False)
  (hR : ∀ n' l' st' a' w', R n' l' st' → Holds G st' a' w' → wpAnyL P .any ops Q (SG G) LT n' l' a' w') (a : Act) (w : World) (hh : Holds G st a w) :
  wpOp P ops Q j (fun a' w' => SG G w' ∧ wpAnyL P .any ops Q (SG G) LT n (listed.setIfInBounds j true) a' w') a w := by
 have hk := k G hn a w hh
 have key : wpOp P ops (fun e a w => Post G (fun e st' => e = .normal ∧ AHeldL P N LT ops R n (listed.setIfInBounds j true) st') e a w) j
   (fun a w => Post G (fun e st' => e = .normal ∧ AHeldL P N LT ops R n (listed.setIfInBounds j true) st') .normal a w) a w := by
  unfold wpOp; simp only [ho]; exact hk
 refine wpOp_monoQ ?_ ?_ key
 ·rintro e a w he ⟨st', _, h, _⟩
  exact he h
 ·rintro a w ⟨st', hh', _, hk'⟩
  exact ⟨hh'.sg, hk' G hn Q hQ hR a w hh'⟩
theorem AHeldL.one {n : Nat} {listed : Array Bool} (i : Nat) {o : Oper} (ho : ops[i]? = some o) (hr : (Region.ready .any ops listed == [i]) = true)
  (k : AOps P N ops [o] st (fun e st' => e = .normal ∧ AHeldL P N LT ops R n (listed.setIfInBounds i true) st')) : AHeldL P N LT ops R (n + 1) listed st := by
 intro G hn Q hQ hR a w hh
 refine wpAnyL_all (rs := [i]) (by simpa using hr) (by simp) ?_
 intro j hj
 have : j = i := by simpa using hj
 subst this
 exact AHeldL.step j ho k G hn Q hQ hR a w hh
theorem AHeldL.blind {n : Nat} {listed : Array Bool} (i : Nat) {op : Op} {x : X} (ho : ops[i]? = some ⟨some d, op, ty, pos, af, none⟩)
  (hB : (Region.noSelect ops && Region.free .any ops listed i && (Region.ready .any ops listed).contains i) = true) (hlt : lateB ops LT i = true) (hy : Blind P N st ⟨some d, op, ty, pos, af, none⟩ x) (hd : d < N.n)
  (k : AHeldL P N LT ops R n (listed.setIfInBounds i true) (st.put d x)) : AHeldL P N LT ops R (n + 1) listed st := by
 intro G hn Q hQ hR a w hh
 have hS := hh.sg
 obtain ⟨E, RR, rfl, hi⟩ := hh
 obtain ⟨u, hr, hx⟩ := hy G E RR a hn hi
 simp only [Bool.and_eq_true] at hB
 refine wpAnyL_take (v := u) ho hB.1.1 hB.1.2 hB.2 hlt ?_ (.inl ⟨by simp [Region.wanted], fun w _ => hr w⟩) hS (k G hn Q hQ hR _ _ ⟨E, _, rfl, hi.put0 (hn ▸ hd) hx⟩)
 intro c a w h
 exact (hQ _ _ _ h).elim
end
end
end Go.AW
/- Part of the abstract walk: guards in open orders with loads of what nobody writes. -/
namespace Go.AW
open Go

section
variable {P : Program} {N : Frm} {st : St} {ops : Array Oper} {d : Nat} {ty : TypeId} {pos : String} {af : Array Edge} {K : St → Prop} {L F' : List Nat} {n : Nat} {listed : Array Bool}
theorem Inv.le {G : Ctx} {E : Env} {RR : Own → List Nat} {a : Act} {st' : St} (hi : Inv G E RR st a) (h : Le st st') : Inv G E RR st' a :=
 {hi with slots := fun s x hx => hi.slots s x (h.1 s x hx), objs := fun o x hx => hi.objs o x (h.2 o x hx) }
theorem AFirst.le {st' : St} (hl : Le st st') (h : AFirst P N L F' ops n listed st' K) : AFirst P N L F' ops n listed st K := fun G hn E RR a T hT hi => h G hn E RR a T hT (hi.le hl)
theorem AFirst.split {b : Bool} (hx : look st.slots d = some (.v (.bool b))) (ht : b = true → AFirst P N L F' ops n listed (st.put d (.v (.bool true))) K) (hf : b = false → AFirst P N L F' ops n listed (st.put d (.v (.bool false))) K) : AFirst P N L F' ops n listed st K := by
 have : Le st (st.put d (.v (.bool b))) := ⟨SubL.cons hx (fun _ _ h => h), fun _ _ h => h⟩
 cases b
 ·exact (hf rfl).le this
 ·exact (ht rfl).le this
theorem AFirst.splitD {p : Prop} {inst : Decidable p} (hx : look st.slots d = some (.v (.bool (decide p)))) (ht : p → AFirst P N L F' ops n listed (st.put d (.v (.bool true))) K) (hf : ¬ p → AFirst P N L F' ops n listed (st.put d (.v (.bool false))) K) : AFirst P N L F' ops n listed st K :=
 AFirst.split hx (fun h => ht (of_decide_eq_true h)) (fun h => hf (of_decide_eq_false h))
theorem Inv.wanted {G : Ctx} {E : Env} {RR : Own → List Nat} {a : Act} {j dj : Nat} {want : Bool} {dst : Option Nat} {op : Op} (hi : Inv G E RR st a) (hj : (ops[j]?).bind (·.dst) = some dj) (hdj : dj < G.fn.n) (hx : look st.slots dj = some (.v (.bool want))) :
  Region.wanted ⟨dst, op, ty, pos, af, some (j, want)⟩ (yielded ops a.tmps) = true := by
 have hs := hi.slots dj _ hx
 simp only [RX] at hs
 have hsz : dj < a.tmps.size := by rw [hi.tmps]; exact hdj
 have hv : a.tmps[dj]? = some (.bool want) := by
  have := hs.1
  simp only [Array.getD, hsz, dif_pos] at this
  rw [Array.getElem?_eq_getElem hsz]
  exact congrArg some this
 simp [Region.wanted, yielded, hj, hv]
theorem AFirst.skipOp (i : Nat) {op : Op} {j dj : Nat} {want : Bool} {u : Value} (ho : ops[i]? = some ⟨some d, op, ty, pos, af, some (j, want)⟩)
  (hB : (Region.noSelect ops && Region.free .any ops listed i && (Region.ready .any ops listed).contains i) = true)
  (hj : (ops[j]?).bind (·.dst) = some dj) (hdj : dj < N.n) (hd : d < N.n) (hx : look st.slots dj = some (.v u)) (hne : notB want u = true)
  (k : AFirst P N L F' ops n (listed.setIfInBounds i true) (st.put d (.v undef)) K) : AFirst P N L F' ops (n + 1) listed st K := by
 intro G hn E RR a T hT hi
 simp only [Bool.and_eq_true] at hB
 have hw := unwanted (all := ops) (dst := some d) (op := op) (ty := ty) (pos := pos) (af := af) hi hj (hn ▸ hdj) hx hne
 refine wpAnyH_take (v := undef) ho hB.1.1 hB.1.2 hB.2 ?_ (.inr ⟨hw, rfl⟩) (hi.sgH L T F') (k G hn E _ _ T ?_ (hi.put0 (hn ▸ hd) (by simp [RX])))
 ·intro c a w h
  cases h.1
 ·intro o ho
  have := hT o ho
  simpa [upd] using this
theorem AFirst.blindRun (i : Nat) {op : Op} {x : X} {j dj : Nat} {want : Bool} (ho : ops[i]? = some ⟨some d, op, ty, pos, af, some (j, want)⟩)
  (hB : (Region.noSelect ops && Region.free .any ops listed i && (Region.ready .any ops listed).contains i) = true)
  (hj : (ops[j]?).bind (·.dst) = some dj) (hdj : dj < N.n) (hx : look st.slots dj = some (.v (.bool want))) (hy : Blind P N st ⟨some d, op, ty, pos, af, some (j, want)⟩ x) (hd : d < N.n)
  (k : AFirst P N L F' ops n (listed.setIfInBounds i true) (st.put d x) K) : AFirst P N L F' ops (n + 1) listed st K := by
 intro G hn E RR a T hT hi
 obtain ⟨u, hr, hx'⟩ := hy G E RR a hn hi
 simp only [Bool.and_eq_true] at hB
 refine wpAnyH_take (v := u) ho hB.1.1 hB.1.2 hB.2 ?_ (.inl ⟨hi.wanted hj (hn ▸ hdj) hx, fun w _ => hr w⟩) (hi.sgH L T F') (k G hn E _ _ T ?_ (hi.put0 (hn ▸ hd) hx'))
 ·intro c a w h
  cases h.1
 ·intro o ho
  have := hT o ho
  simpa [upd] using this
theorem AFirst.loadRun (i : Nat) {t : TypeId} {x : Operand} {p y : X} {row : List X} {j dj : Nat} {want : Bool} (ho : ops[i]? = some ⟨some d, .load t x, ty, pos, af, some (j, want)⟩)
  (hB : (Region.noSelect ops && Region.free .any ops listed i && (Region.ready .any ops listed).contains i) = true)
  (hj : (ops[j]?).bind (·.dst) = some dj) (hdj : dj < N.n) (hg : look st.slots dj = some (.v (.bool want))) (ht : TY.shape P t = some none) (hx : opd st x = some p) (hL : heldX L p = true) (hr : rowAt st p = some row)
  (hy : row[kAt p]? = some y) (hf : y.free = true) (hd : d < N.n)
  (k : AFirst P N L F' ops n (listed.setIfInBounds i true) (st.put d y) K) : AFirst P N L F' ops (n + 1) listed st K := by
 intro G hn E RR a T hT hi
 have hwant := hi.wanted (ops := ops) (dst := some d) (op := .load t x) (ty := ty) (pos := pos) (af := af) hj (hn ▸ hdj) hg
 obtain ⟨R, hp⟩ := hi.eval hx
 obtain ⟨b, off, hc, hcells⟩ := hi.behind hp hr
 obtain ⟨b', off', hc', hsame⟩ := hi.held (F' := F') hT hp hr hL
 obtain ⟨rfl, rfl⟩ := ptr_inj (hc.symm.trans hc')
 have hk : kAt p < row.length := by
  rcases Nat.lt_or_ge (kAt p) row.length with h' | h'
  ·exact h'
  ·simp [List.getElem?_eq_none h'] at hy
 obtain ⟨vs, R', hl, hv, hxs⟩ := hcells (kAt p) 1 om
 rw [getElem?_drop_take_one hy] at hxs
 simp only [RXs] at hxs
 obtain ⟨c, cs', R₁, R₂, hvs, _, h1, ⟨rfl, rfl⟩, rfl⟩ := hxs
 subst hvs
 have h0 := RX.free hf h1
 subst h0
 simp only [Bool.and_eq_true] at hB
 refine wpAnyH_take (v := c) ho hB.1.1 hB.1.2 hB.2 ?_ (.inl ⟨hwant, fun w hw => ?_⟩) (hi.sgH L T F') (k G hn E _ _ T ?_ (hi.put0 (hn ▸ hd) h1))
 ·intro c a w h
  cases h.1
 ·show (do let z ← Instr.loadAt t (a.eval x); pure (Next.value z) : Sem Next).run P w = _
  rw [hc]
  refine run_v ?_
  have hcell := hv 0 c rfl
  simp only [Instr.loadAt, Instr.sureAddr, loadVar, Sem.run_bind, Sem.run_pure, Result.andThen_ok, (TY.shape_none ht w).1]
  simp only [Nat.add_zero] at hcell
  rw [← hsame w hw _ hk] at hcell
  simp [hcell]
 ·intro o ho
  have := hT o ho
  simpa [upd] using this
theorem AFirst.loadARun (i : Nat) {t : TypeId} {x : Operand} {p : X} {row : List X} {m : Nat} {ys : List X} {j dj : Nat} {want : Bool} (ho : ops[i]? = some ⟨some d, .load t x, ty, pos, af, some (j, want)⟩)
  (hB : (Region.noSelect ops && Region.free .any ops listed i && (Region.ready .any ops listed).contains i) = true)
  (hj : (ops[j]?).bind (·.dst) = some dj) (hdj : dj < N.n) (hg : look st.slots dj = some (.v (.bool want))) (ht : TY.shape P t = some (some m)) (hx : opd st x = some p) (hL : heldX L p = true) (hr : rowAt st p = some row)
  (hm : kAt p + m ≤ row.length) (hys : (row.drop (kAt p)).take m = ys) (hf : X.frees ys = true) (hd : d < N.n)
  (k : AFirst P N L F' ops n (listed.setIfInBounds i true) (st.put d (.agg ys)) K) : AFirst P N L F' ops (n + 1) listed st K := by
 intro G hn E RR a T hT hi
 have hwant := hi.wanted (ops := ops) (dst := some d) (op := .load t x) (ty := ty) (pos := pos) (af := af) hj (hn ▸ hdj) hg
 obtain ⟨R, hp⟩ := hi.eval hx
 obtain ⟨b, off, hc, hcells⟩ := hi.behind hp hr
 obtain ⟨b', off', hc', hsame⟩ := hi.held (F' := F') hT hp hr hL
 obtain ⟨rfl, rfl⟩ := ptr_inj (hc.symm.trans hc')
 obtain ⟨vs, R', hl, hv, hxs⟩ := hcells (kAt p) m hm
 rw [hys] at hxs
 have h0 := RXs.free hf hxs
 subst h0
 simp only [Bool.and_eq_true] at hB
 refine wpAnyH_take (v := .agg vs.toArray) ho hB.1.1 hB.1.2 hB.2 ?_ (.inl ⟨hwant, fun w hw => ?_⟩) (hi.sgH L T F') (k G hn E _ _ T ?_ (hi.put0 (hn ▸ hd) (by simp only [RX]; exact ⟨_, rfl, hxs⟩)))
 ·intro c a w h
  cases h.1
 ·show (do let z ← Instr.loadAt t (a.eval x); pure (Next.value z) : Sem Next).run P w = _
  rw [hc]
  refine run_v ?_
  obtain ⟨h1, h2⟩ := TY.shape_some ht w
  have h3 : (loadCells ⟨b, off + kAt p, none⟩ m).run P w = .ok vs.toArray w := by
   rw [← hl]
   refine run_loadCells_list (w := w) _ vs fun j v hj => ?_
   have hjl : j < vs.length := (List.getElem?_eq_some_iff.1 hj).1
   rw [add_mk, Nat.add_assoc, hsame w hw _ om]; exact hv j v hj
  simp only [Instr.loadAt, Instr.sureAddr, loadVar, Sem.run_bind, Sem.run_pure, Result.andThen_ok, h1, if_true, h2, h3]
 ·intro o ho
  have := hT o ho
  simpa [upd] using this
theorem Blind.pick {c x y : Operand} {b : Bool} {z : X} {dst : Option Nat} {g : Option (Nat × Bool)} (hc : opd st c = some (.v (.bool b))) (hz : opd st (if b then x else y) = some z) (hf : z.free = true) : Blind P N st ⟨dst, .pick c x y, ty, pos, af, g⟩ z := by
 intro G E RR a _ hi
 obtain ⟨R, h⟩ := hi.eval hz
 have := RX.free hf h
 subst this
 refine ⟨a.eval (if b then x else y), fun w => ?_, h⟩
 have hc' := hi.val hc
 simp only [execOp, hc']
 cases b <;> rfl
theorem AHeld.le {st' : St} (hl : Le st st') (h : AHeld P N ops n listed st' K) : AHeld P N ops n listed st K := fun G hn a w hh => h G hn a w (hl.holds hh)
theorem AHeld.split {b : Bool} (hx : look st.slots d = some (.v (.bool b))) (ht : b = true → AHeld P N ops n listed (st.put d (.v (.bool true))) K) (hf : b = false → AHeld P N ops n listed (st.put d (.v (.bool false))) K) : AHeld P N ops n listed st K := by
 have : Le st (st.put d (.v (.bool b))) := ⟨SubL.cons hx (fun _ _ h => h), fun _ _ h => h⟩
 cases b
 ·exact (hf rfl).le this
 ·exact (ht rfl).le this
theorem AHeld.splitD {p : Prop} {inst : Decidable p} (hx : look st.slots d = some (.v (.bool (decide p)))) (ht : p → AHeld P N ops n listed (st.put d (.v (.bool true))) K) (hf : ¬ p → AHeld P N ops n listed (st.put d (.v (.bool false))) K) : AHeld P N ops n listed st K :=
 AHeld.split hx (fun h => ht (of_decide_eq_true h)) (fun h => hf (of_decide_eq_false h))
theorem AHeld.skipOp (i : Nat) {op : Op} {j dj : Nat} {want : Bool} {u : Value} (ho : ops[i]? = some ⟨some d, op, ty, pos, af, some (j, want)⟩)
  (hB : (Region.noSelect ops && Region.free .any ops listed i && (Region.ready .any ops listed).contains i) = true)
  (hj : (ops[j]?).bind (·.dst) = some dj) (hdj : dj < N.n) (hd : d < N.n) (hx : look st.slots dj = some (.v u)) (hne : notB want u = true)
  (k : AHeld P N ops n (listed.setIfInBounds i true) (st.put d (.v undef)) K) : AHeld P N ops (n + 1) listed st K := by
 intro G hn a w hh
 have hS := hh.sg
 obtain ⟨E, RR, rfl, hi⟩ := hh
 simp only [Bool.and_eq_true] at hB
 have hw := unwanted (all := ops) (dst := some d) (op := op) (ty := ty) (pos := pos) (af := af) hi hj (hn ▸ hdj) hx hne
 refine wpAnyH_take (v := undef) ho hB.1.1 hB.1.2 hB.2 ?_ (.inr ⟨hw, rfl⟩) hS (k G hn _ _ ⟨E, _, rfl, hi.put0 (hn ▸ hd) (by simp [RX])⟩)
 intro c a w h
 cases h.1
theorem AHeld.blindRun (i : Nat) {op : Op} {x : X} {j dj : Nat} {want : Bool} (ho : ops[i]? = some ⟨some d, op, ty, pos, af, some (j, want)⟩)
  (hB : (Region.noSelect ops && Region.free .any ops listed i && (Region.ready .any ops listed).contains i) = true)
  (hj : (ops[j]?).bind (·.dst) = some dj) (hdj : dj < N.n) (hx : look st.slots dj = some (.v (.bool want))) (hy : Blind P N st ⟨some d, op, ty, pos, af, some (j, want)⟩ x) (hd : d < N.n)
  (k : AHeld P N ops n (listed.setIfInBounds i true) (st.put d x) K) : AHeld P N ops (n + 1) listed st K := by
 intro G hn a w hh
 have hS := hh.sg
 obtain ⟨E, RR, rfl, hi⟩ := hh
 obtain ⟨u, hr, hx'⟩ := hy G E RR a hn hi
 simp only [Bool.and_eq_true] at hB
 refine wpAnyH_take (v := u) ho hB.1.1 hB.1.2 hB.2 ?_ (.inl ⟨hi.wanted hj (hn ▸ hdj) hx, fun w _ => hr w⟩) hS (k G hn _ _ ⟨E, _, rfl, hi.put0 (hn ▸ hd) hx'⟩)
 intro c a w h
 cases h.1
end
end Go.AW
/- Part of the abstract walk: what is carried out everywhere is carried out in a round of a range over a function too. -/
namespace Go.AW
open Go

def FR (ro : Option Nat) : Fence := { Fence.wide with round := ro }
def noDef (o : Oper) : Bool := match o.op with | .defer _ => false | _ => true
theorem noDef_spec {o : Oper} (h : noDef o = true) : ∀ c, o.op ≠ .defer c := fun c e => by simp [noDef, e] at h
section
variable {P : Program} {Q : Exit → Act → World → Prop} {a : Act} {w : World} {ro : Option Nat} {o : Oper} {next : Act → World → Prop}
theorem calls_FR {f : FuncId} {args : Array Value} {R : Ending → World → Prop} {n : Nat} (h : Calls P f args w R) : CallsIn (FR ro) n P f args w R := (callsIn_wide (n := n)).2 h
theorem rows_FR {row : String} {args : Array Value} {R : Value → World → Prop} {n : Nat} (h : Rows P row args w R) : RowsIn (FR ro) n P row args w R :=
 fun c cs _ => let ⟨v, w', r, s⟩ := h c cs; ⟨v, w', r, stepsIn_wide.2 s⟩
theorem upon_FR {r : Result Next} (h : o.upon P a next Q r) : o.uponIn (FR ro) 0 P a next Q r := by
 cases r with
 | ok x w' =>
  cases x
  case value v => exact h
  case skip => exact h
  case defer d => exact h
  case enter f args => exact ⟨fun h => by simp [FR, Fence.wide] at h, calls_FR h⟩
  case row row args => exact ⟨fun h => by simp [FR, Fence.wide] at h, rows_FR h⟩
  all_goals exact (show False from h).elim
 | halt x w' =>
  cases x
  case panic v => exact h
  all_goals exact (show False from h).elim
theorem wp_FR (hd : noDef o = true) (h : o.wp P a w next Q) : o.wpIn (FR ro) 0 P a w next Q := by
 refine ⟨fun _ _ => trivial, ?_⟩
 rw [Oper.semAt_eq _ _ _ (noDef_spec hd)]
 exact upon_FR h
theorem wpList_FR {ops : Array Oper} (hQ : ¬ LetsOut Q) : ∀ {l : List Oper} {a : Act} {w : World}, l.all noDef = true → wpList P ops Q l a w → wpListIn (FR ro) 0 P ops Q l a w
 | [], _, _, _, h => h
 | o :: rest, a, w, hd, h => by
  simp only [List.all_cons, Bool.and_eq_true] at hd
  unfold wpList at h
  unfold wpListIn
  split at h
  ·rename_i hw
   rw [if_pos hw]
   rcases h with h | h
   ·exact Oper.wpIn_mono (fun _ _ h => wpList_FR hQ hd.2 h) (wp_FR hd.1 h)
   ·exact absurd h.2 hQ
  ·rename_i hw
   rw [if_neg hw]
   exact ⟨fun _ _ => trivial, wpList_FR hQ hd.2 h⟩
theorem wpOps_FR {ops : Array Oper} (hQ : ¬ LetsOut Q) (hd : ops.toList.all noDef = true) : ∀ {l : List Nat} {a : Act} {w : World}, wpOps P ops Q l a w → wpOpsIn (FR ro) 0 P ops Q l a w
 | [], _, _, h => h
 | i :: rest, a, w, h => by
  unfold wpOps at h
  unfold wpOpsIn
  cases ho : ops[i]? with
  | none => rw [ho] at h; exact wpOps_FR hQ hd h
  | some o =>
   rw [ho] at h
   simp only at h ⊢
   have hd1 : noDef o = true := List.all_eq_true.1 hd o (Array.mem_toList_iff.2 (Array.mem_of_getElem? ho))
   split at h
   ·rename_i hw
    rw [if_pos hw]
    rcases h with h | h
    ·exact Oper.wpIn_mono (fun _ _ h => wpOps_FR hQ hd h) (wp_FR hd1 h)
    ·exact absurd h.2 hQ
   ·rename_i hw
    rw [if_neg hw]
    exact ⟨fun _ _ => trivial, wpOps_FR hQ hd h⟩
theorem region_FR {id : Nat} {l : List Oper} (hQ : ¬ LetsOut Q) (hd : l.all noDef = true) (h : wpList P l.toArray Q l a w) : (Code.region id l.toArray false).wpIn (FR ro) 0 P Q a w :=
 wpIn_region_lit (wpList_FR hQ hd h)
theorem region_draw_FR {id : Nat} {ops : Array Oper} (hm : P.follows .mixedOrders = true) (hQ : ¬ LetsOut Q) (hd : ops.toList.all noDef = true) (h : wpAny P .any ops Q ops.size (Array.replicate ops.size false) a { w with drawn := w.drawn + 1 }) :
  (Code.region id ops true).wpIn (FR ro) 0 P Q a w :=
 wpIn_region_draw fun t => by
  simp only [Region.schedule, hm, Bool.true_or, if_true]
  exact wpOps_FR hQ hd (wpAny_sound ops.size t _ a _ h)
theorem wp_wide {c : Code} : c.wpIn (FR none) 0 P Q a w ↔ c.wp P Q a w := wpIn_wide
end

def Only (K : St → Prop) : Exit → St → Prop
 | .normal, st => K st
 | _, _ => False
def Ctx.to (G : Ctx) (w : World) : Ctx := { G with w0 := w }
theorem Holds.rebase {G : Ctx} {st : St} {a : Act} {w w' : World} {S : Nat → Prop} (h : Holds G st a w) (hS : ∀ b, S b → G.K b ∧ ∀ i, G.φ0 b i = none) (hsz : w.heap.size ≤ w'.heap.size)
  (hw : ∀ b, b < w.heap.size → ¬ S b → w'.heap[b]? = w.heap[b]?) : Holds (G.to w') st a w' := by
 obtain ⟨E, RR, rfl, hi⟩ := h
 have hφS : ∀ b i, S b → E.φ b i = none := fun b i hb => by
  cases he : E.φ b i with
  | none => rfl
  | some v =>
   rcases hi.grow b i v he with h1 | h1
   ·rw [(hS b hb).2 i] at h1; cases h1
   ·exact absurd (hS b hb).1 h1
 have hcell : ∀ b i v, E.φ b i = some v → w'.cell? ⟨b, i, none⟩ = some v := fun b i v hv => by
  have h1 := hi.frz b i v hv
  have hb : b < E.w.heap.size := by
   rcases Nat.lt_or_ge b E.w.heap.size with h2 | h2
   ·exact h2
   ·unfold World.cell? at h1
    rw [Array.getElem?_eq_none h2] at h1; cases h1
  unfold World.cell? at h1 ⊢
  rw [hw b hb (fun h2 => by rw [hφS b i h2] at hv; cases hv)]; exact h1
 have hown : ∀ p b, b ∈ RR p → w'.heap[b]? = E.w.heap[b]? := fun p b hb => hw b (hi.own p b hb).1 (fun h2 => (hi.own p b hb).2 (hS b h2).1)
 have hon : ∀ p, E.On { E with w := w' } (RR p) := fun p => ⟨fun _ _ _ h => h, fun c hc => ⟨hown p c hc, fun h i => h i⟩⟩
 refine ⟨{ E with w := w' }, RR, rfl, ?_⟩
 constructor
 case frz => exact hcell
 case slots => exact fun s x hx => RX.mono x _ _ (hon _) (fun _ _ => rfl) (hi.slots s x hx)
 case objs => exact fun o ob hob => ROb.mono (hon _) rfl (fun _ _ _ _ => rfl) (hi.objs o ob hob)
 case nodup => exact hi.nodup
 case apart => exact hi.apart
 case own => exact fun p b hb => ⟨Nat.lt_of_lt_of_le (hi.own p b hb).1 hsz, (hi.own p b hb).2⟩
 case keep => exact fun _ _ => rfl
 case size => exact Nat.le_refl _
 case small => exact fun b hb => Nat.lt_of_lt_of_le (Nat.lt_of_lt_of_le (hi.small b hb) hi.size) hsz
 case os => rfl
 case tape => rfl
 case output => rfl
 case φ0 => exact hi.φ0
 case grow => exact hi.grow
 case fixed => exact hi.fixed
 case tmps => exact hi.tmps
 case defers => exact hi.defers
end Go.AW
/- Part of the abstract walk: iterators. A function that calls yield for the elements of a list, one by one; what the rounds do is the caller's affair. -/
namespace Go.AW
open Go

abbrev Idx := List (Int × Int)
abbrev StI := Idx × St
structure Kp (S : Nat → Prop) (W W' : World) : Prop where
 size : W.heap.size ≤ W'.heap.size
 same : ∀ b, b < W.heap.size → ¬ S b → W'.heap[b]? = W.heap[b]?
 os : W'.os = W.os
 tape : W'.tape = W.tape
 output : W'.output = W.output
theorem Kp.refl (S : Nat → Prop) (W : World) : Kp S W W := ⟨Nat.le_refl _, fun _ _ _ => rfl, rfl, rfl, rfl⟩
theorem Kp.trans {S : Nat → Prop} {A B C : World} (h : Kp S A B) (k : Kp S B C) : Kp S A C :=
 ⟨Nat.le_trans h.size k.size, fun b hb hs => (k.same b (Nat.lt_of_lt_of_le hb h.size) hs).trans (h.same b hb hs), k.os.trans h.os, k.tape.trans h.tape, k.output.trans h.output⟩
structure YCtx (P : Program) where
 l : Nat
 n1 : Nat
 S : Nat → Prop
 J : Idx → World → Prop
 Good : Int × Int → Prop
 abides : ∀ i W W', J i W → W.heap.size ≤ W'.heap.size → (∀ b, b < n1 → W'.heap[b]? = W.heap[b]?) → J i W'
 yield : ∀ i x W, J i W → Good x → n1 ≤ W.heap.size → YieldAt (FR none) 0 P l #[.int .i64 x.1, .int .i64 x.2] W (fun e W' => e = .returned (.bool true) ∧ J (i ++ [x]) W' ∧ Kp S W W')
 lt : ∀ b, S b → b < n1
abbrev YCtx.v {P : Program} (Y : YCtx P) : X := .v (.func (.yield Y.l) #[] #[])
def ItCalls (P : Program) (f : FuncId) (args : List X) (g : Idx) : Prop :=
 ∀ (Y : YCtx P) (i : Idx) (E : Env) (cargs : List Value), Y.J i E.w → Y.n1 ≤ E.w.heap.size → (∀ x ∈ g, Y.Good x) → RXt E args cargs [] → (∀ b k v, E.φ b k = some v → E.w.cell? ⟨b, k, none⟩ = some v) → (∀ b k, Y.S b → E.φ b k = none) →
  Calls P f (#[.func (.yield Y.l) #[] #[]] ++ cargs.toArray) E.w (fun e W' => ∃ v, e = .returned v ∧ Y.J (i ++ g) W' ∧ Kp Y.S E.w W')

structure GOK {P : Program} (Y : YCtx P) (G : Ctx) : Prop where
 old : ∀ b, b < G.w0.heap.size → G.K b
 n1 : Y.n1 ≤ G.w0.heap.size
 φ : ∀ b i, Y.S b → G.φ0 b i = none
structure HI {P : Program} (Y : YCtx P) (G : Ctx) (s : StI) (a : Act) (w : World) : Prop where
 j : Y.J s.1 w
 h : Holds (G.to w) s.2 a w
 kp : Kp Y.S G.w0 w
def AWpI (P : Program) (Y : YCtx P) (N : Frm) (c : Code) (s : StI) (Q : Exit → StI → Prop) : Prop :=
 ∀ G : Ctx, G.fn = N → GOK Y G → ∀ a w, HI Y G s a w → c.wp P (fun e a w => ∃ s', HI Y G s' a w ∧ Q e s') a w
def AOpsI (P : Program) (Y : YCtx P) (N : Frm) (all : Array Oper) (rest : List Oper) (s : StI) (Q : Exit → StI → Prop) : Prop :=
 ∀ G : Ctx, G.fn = N → GOK Y G → ∀ a w, HI Y G s a w → wpListIn (FR none) 0 P all (fun e a w => ∃ s', HI Y G s' a w ∧ Q e s') rest a w
def ThenI (K : StI → Prop) (Q : Exit → StI → Prop) : Exit → StI → Prop
 | .normal, st => K st
 | e, st => Q e st
def InBlockI (id : Nat) (Q : Exit → StI → Prop) : Exit → StI → Prop
 | .exit id', st => bif Nat.beq id' id then Q .normal st else Q (.exit id') st
 | e, st => Q e st
def LeI (s s' : StI) : Prop := s.1 = s'.1 ∧ Le s.2 s'.2

section
variable {P : Program} {Y : YCtx P} {N : Frm} {s : StI} {Q Q' : Exit → StI → Prop} {i : Idx} {st st' : St} {id : Nat} {x y c : Code}
theorem HI.le {G : Ctx} {s s' : StI} {a : Act} {w : World} (hl : LeI s s') (h : HI Y G s a w) : HI Y G s' a w := ⟨hl.1 ▸ h.j, hl.2.holds h.h, h.kp⟩
theorem HI.step {G : Ctx} (hG : GOK Y G) {a a' : Act} {w w' : World} (h : HI Y G (i, st) a w) (h' : Holds (G.to w) st' a' w') : HI Y G (i, st') a' w' := by
 have hr : Holds (G.to w') st' a' w' := Holds.rebase (G := G.to w) (S := fun _ => False) h' (fun _ h => h.elim) (Nat.le_refl _) (fun _ _ _ => rfl)
 obtain ⟨E, RR, rfl, hi⟩ := h'
 have hsz : w.heap.size ≤ E.w.heap.size := hi.size
 have hold : ∀ b, b < G.w0.heap.size → E.w.heap[b]? = w.heap[b]? := fun b hb => hi.keep b (hG.old b hb)
 exact ⟨Y.abides i w E.w h.j hsz (fun b hb => hold b (Nat.lt_of_lt_of_le hb hG.n1)), hr, Nat.le_trans h.kp.size hsz, fun b hb hs => (hold b hb).trans (h.kp.same b hb hs), hi.os.trans h.kp.os, hi.tape.trans h.kp.tape, hi.output.trans h.kp.output⟩
theorem HI.turn {G : Ctx} (hG : GOK Y G) {a : Act} {w w' : World} {i' : Idx} (h : HI Y G (i, st) a w) (hj : Y.J i' w') (hk : Kp Y.S w w') : HI Y G (i', st) a w' :=
 ⟨hj, Holds.rebase (G := G.to w) (S := Y.S) h.h (fun b hb => ⟨hG.old b (Nat.lt_of_lt_of_le (Y.lt b hb) hG.n1), fun k => hG.φ b k hb⟩) hk.size hk.same,
  Nat.le_trans h.kp.size hk.size, fun b hb hs => (hk.same b (Nat.lt_of_lt_of_le hb h.kp.size) hs).trans (h.kp.same b hb hs), hk.os.trans h.kp.os, hk.tape.trans h.kp.tape, hk.output.trans h.kp.output⟩
theorem HI.n1 {G : Ctx} (hG : GOK Y G) {a : Act} {w : World} (h : HI Y G s a w) : Y.n1 ≤ w.heap.size := Nat.le_trans hG.n1 h.kp.size

theorem AWpI.of (h : AWp P N c st (fun e st' => Q e (i, st'))) : AWpI P Y N c (i, st) Q := by
 intro G hn hG a w hh
 refine wp_mono (h (G.to w) hn a w hh.h) ?_
 rintro e a' w' ⟨st', h', hq⟩
 exact ⟨_, hh.step hG h', hq⟩
theorem AWpI.le {s' : StI} (hl : LeI s s') (h : AWpI P Y N c s' Q) : AWpI P Y N c s Q := fun G hn hG a w hh => h G hn hG a w (hh.le hl)
theorem AWpI.sh (h : Sh N st st') (k : AWpI P Y N c (i, st') Q) : AWpI P Y N c (i, st) Q := fun G hn hG a w hh => k G hn hG a w ⟨hh.j, h (G.to w) hn a w hh.h, hh.kp⟩
theorem AWpI.mono (h : AWpI P Y N c s Q) (hq : ∀ e s, Q e s → Q' e s) : AWpI P Y N c s Q' := fun G hn hG a w hh => wp_mono (h G hn hG a w hh) fun _ _ _ ⟨s', h', hq'⟩ => ⟨s', h', hq _ _ hq'⟩
theorem AWpI.skip (h : Q .normal s) : AWpI P Y N .skip s Q := fun _ _ _ _ _ hh => wp_skip ⟨s, hh, h⟩
theorem AWpI.exit (h : Q (.exit id) s) : AWpI P Y N (.exit id) s Q := fun _ _ _ _ _ hh => wp_exit ⟨s, hh, h⟩
theorem AWpI.ret (h : Q .ret s) : AWpI P Y N .ret s Q := fun _ _ _ _ _ hh => wp_ret ⟨s, hh, h⟩
theorem AWpI.seq (h : AWpI P Y N x s (ThenI (fun s' => AWpI P Y N y s' Q) Q)) : AWpI P Y N (.seq x y) s Q := by
 intro G hn hG a w hh
 refine wp_seq (wp_mono (h G hn hG a w hh) ?_)
 rintro e a' w' ⟨s', hh', hq⟩
 cases e <;> first | exact hq G hn hG a' w' hh' | exact ⟨s', hh', hq⟩
theorem AWpI.block (h : AWpI P Y N c s (InBlockI id Q)) : AWpI P Y N (.block id c) s Q := by
 intro G hn hG a w hh
 refine wp_block (wp_mono (h G hn hG a w hh) ?_)
 rintro e a' w' ⟨s', hh', hq⟩
 cases e with
 | exit id' =>
  simp only [InBlockI] at hq
  simp only [Exit.inBlock]
  cases hb : Nat.beq id' id with
  | true =>
   rw [hb] at hq
   rw [if_pos (Nat.eq_of_beq_eq_true hb)]
   exact ⟨s', hh', hq⟩
  | false =>
   rw [hb] at hq
   rw [if_neg (Nat.ne_of_beq_eq_false hb)]
   exact ⟨s', hh', hq⟩
 | _ => exact ⟨s', hh', hq⟩
theorem AWpI.cond {o : Operand} {b : Bool} (hc : opd s.2 o = some (.v (.bool b))) (ht : b = true → AWpI P Y N x s Q) (hf : b = false → AWpI P Y N y s Q) : AWpI P Y N (.cond o x y) s Q := by
 intro G hn hG a w hh
 obtain ⟨E, RR, rfl, hi⟩ := hh.h
 exact wp_cond_split (hi.val hc) (fun h => ht h G hn hG a E.w hh) (fun h => hf h G hn hG a E.w hh)
theorem AWpI.condD {o : Operand} {p : Prop} {inst : Decidable p} (hc : opd s.2 o = some (.v (.bool (decide p)))) (ht : p → AWpI P Y N x s Q) (hf : ¬ p → AWpI P Y N y s Q) : AWpI P Y N (.cond o x y) s Q :=
 AWpI.cond hc (fun h => ht (of_decide_eq_true h)) (fun h => hf (of_decide_eq_false h))
theorem AWpI.condT {o : Operand} (hc : opd s.2 o = some (.v (.bool true))) (h : AWpI P Y N x s Q) : AWpI P Y N (.cond o x y) s Q := AWpI.cond hc (fun _ => h) (fun h => by cases h)
theorem AWpI.condF {o : Operand} (hc : opd s.2 o = some (.v (.bool false))) (h : AWpI P Y N y s Q) : AWpI P Y N (.cond o x y) s Q := AWpI.cond hc (fun h => by cases h) (fun _ => h)
theorem AWpI.condK {d : Nat} {b : Bool} (hc : look st.slots d = some (.v (.bool b))) (ht : b = true → AWpI P Y N x (i, st.put d (.v (.bool true))) Q) (hf : b = false → AWpI P Y N y (i, st.put d (.v (.bool false))) Q) : AWpI P Y N (.cond (.tmp d) x y) (i, st) Q := by
 refine AWpI.cond (s := (i, st)) (b := b) hc (fun h => ?_) (fun h => ?_)
 ·subst h; exact AWpI.le (s := (i, st)) (s' := (i, st.put d (.v (.bool true)))) ⟨rfl, Le.test hc⟩ (ht rfl)
 ·subst h; exact AWpI.le (s := (i, st)) (s' := (i, st.put d (.v (.bool false)))) ⟨rfl, Le.test hc⟩ (hf rfl)
theorem AWpI.condKD {d : Nat} {p : Prop} {inst : Decidable p} (hc : look st.slots d = some (.v (.bool (decide p)))) (ht : p → AWpI P Y N x (i, st.put d (.v (.bool true))) Q) (hf : ¬ p → AWpI P Y N y (i, st.put d (.v (.bool false))) Q) : AWpI P Y N (.cond (.tmp d) x y) (i, st) Q :=
 AWpI.condK hc (fun h => ht (of_decide_eq_true h)) (fun h => hf (of_decide_eq_false h))
theorem AWpI.loop {ι : Type} (S : ι → StI) (I : ι → Prop) (μ : ι → Nat) (i0 : ι) (hi : I i0) (hs : LeI s (S i0)) (round : ∀ i, I i → AWpI P Y N c (S i) (ThenI (fun s' => ∃ j, I j ∧ μ j < μ i ∧ LeI s' (S j)) Q)) : AWpI P Y N (.loop c) s Q := by
 intro G hn hG a w hh
 refine wp_loop_ix (fun i a w => I i ∧ HI Y G (S i) a w) μ ?_ ⟨hi, hh.le hs⟩
 rintro i a w ⟨hI, hh⟩
 refine wp_mono (round i hI G hn hG a w hh) ?_
 rintro e a' w' ⟨s', hh', hq⟩
 cases e with
 | normal => obtain ⟨j, hj, hlt, hle⟩ := hq; exact ⟨j, ⟨hj, hh'.le hle⟩, hlt⟩
 | _ => exact ⟨s', hh', hq⟩
theorem AWpI.join {ι : Type} (J : ι → StI) (I : ι → Prop) (hx : AWpI P Y N x s (ThenI (fun st' => ∃ i, I i ∧ LeI st' (J i)) Q)) (hy : ∀ i, I i → AWpI P Y N y (J i) Q) : AWpI P Y N (.seq x y) s Q := by
 refine AWpI.seq (hx.mono ?_)
 intro e st1 h
 cases e with
 | normal => obtain ⟨i, hI, hle⟩ := h; exact (hy i hI).le hle
 | _ => exact h
theorem AWpI.region {l : List Oper} (h : AOps P N l.toArray l st (Then (fun st' => Q .normal (i, st')) (fun e st' => Q e (i, st')))) : AWpI P Y N (.region id l.toArray false) (i, st) Q :=
 AWpI.of ((AWp.region h).mono fun e st h => by cases e <;> exact h)
theorem AWpI.sr {l : List Oper} (h : AOps P N l.toArray l st (Then (fun st' => AWpI P Y N y (i, st') Q) (fun e st' => Q e (i, st')))) : AWpI P Y N (.seq (.region id l.toArray false) y) (i, st) Q :=
 AWpI.seq (AWpI.of ((AWp.region h).mono fun e st h => by cases e <;> exact h))
theorem AWpI.regionY {l : List Oper} (h : AOpsI P Y N l.toArray l s Q) : AWpI P Y N (.region id l.toArray false) s Q := fun G hn hG a w hh => wp_wide.1 (wpIn_region_lit (h G hn hG a w hh))
end
end Go.AW
/- Part of the abstract walk: iterators: calls of yield, helpers, contracts. -/
namespace Go.AW
open Go

theorem wp_monoQ {P : Program} {o : Oper} {Q1 Q2 : Exit → Act → World → Prop} {K1 K2 : Act → World → Prop} {a : Act} {w : World} (hQ : ∀ e a w, e ≠ .normal → Q1 e a w → False) (hK : ∀ a w, K1 a w → K2 a w) (h : o.wp P a w K1 Q1) : o.wp P a w K2 Q2 := by
 unfold Oper.wp at *
 generalize (execOp a.eval o).run P w = r at *
 cases r with
 | ok nx w' =>
  cases nx <;> simp only [Oper.upon] at h ⊢ <;> first
   | exact hK _ _ h
   | exact Calls.mono h (fun e w'' he => by
     cases e with
     | returned u => exact hK _ _ he
     | panicked c => exact (hQ _ _ _ (by simp) he).elim
     | outgrown => exact (let ⟨_, _, h'⟩ := he; hQ _ _ _ (by simp) h').elim)
   | exact Rows.mono h (fun _ _ he => hK _ _ he)
 | halt x w' => cases x <;> simp only [Oper.upon] at h ⊢ <;> first | exact (hQ _ _ _ (by simp) h).elim | exact (let ⟨_, _, h'⟩ := h; hQ _ _ _ (by simp) h').elim | exact h

theorem X.frees_get : ∀ {xs : List X} {k : Nat} {x : X}, X.frees xs = true → xs[k]? = some x → x.free = true
 | [], _, _, _, h => by simp at h
 | y :: r, 0, x, hf, h => by
  simp only [X.frees, Bool.and_eq_true] at hf
  simp only [List.getElem?_cons_zero, Option.some.injEq] at h
  subst h; exact hf.1
 | y :: r, k + 1, x, hf, h => by
  simp only [X.frees, Bool.and_eq_true] at hf
  simp only [List.getElem?_cons_succ] at h
  exact X.frees_get hf.2 h
section
variable {P : Program} {Y : YCtx P} {N : Frm} {s : StI} {Q : Exit → StI → Prop} {i : Idx} {st : St} {all : Array Oper} {rest : List Oper} {o : Oper} {d : Nat} {ty : TypeId} {pos : String} {af : Array Edge}
theorem AOpsI.nil (h : Q .normal s) : AOpsI P Y N all [] s Q := fun _ _ _ _ _ hh => ⟨s, hh, h⟩
theorem AOpsI.op (h : AOps P N all [o] st (Only (fun st' => AOpsI P Y N all rest (i, st') Q))) (hd : noDef o = true := by rfl) : AOpsI P Y N all (o :: rest) (i, st) Q := by
 intro G hn hG a w hh
 have h1 := h (G.to w) hn a w hh.h
 have hk : ∀ a' w', Post (G.to w) (Only (fun st' => AOpsI P Y N all rest (i, st') Q)) .normal a' w' → wpListIn (FR none) 0 P all (fun e a w => ∃ s', HI Y G s' a w ∧ Q e s') rest a' w' := by
  rintro a' w' ⟨st', h', hq⟩
  exact hq G hn hG a' w' (hh.step hG h')
 have hnQ : ∀ e a' w', e ≠ .normal → Post (G.to w) (Only (fun st' => AOpsI P Y N all rest (i, st') Q)) e a' w' → False := by
  rintro e a' w' he ⟨st', _, hq⟩
  cases e <;> first | exact he rfl | exact hq
 unfold wpList at h1
 unfold wpListIn
 split at h1
 ·rename_i hw
  rw [if_pos hw]
  rcases h1 with h1 | ⟨_, _, _, h2⟩
  ·exact wp_FR hd (wp_monoQ hnQ hk h1)
  ·exact (hnQ _ _ _ (by simp) h2).elim
 ·rename_i hw
  rw [if_neg hw]
  exact ⟨fun _ _ => trivial, hk _ _ h1⟩
theorem AOpsI.le {s' : StI} (hl : LeI s s') (h : AOpsI P Y N all rest s' Q) : AOpsI P Y N all rest s Q := fun G hn hG a w hh => h G hn hG a w (hh.le hl)
theorem AOpsI.split {b : Bool} (hx : look st.slots d = some (.v (.bool b))) (ht : b = true → AOpsI P Y N all rest (i, st.put d (.v (.bool true))) Q) (hf : b = false → AOpsI P Y N all rest (i, st.put d (.v (.bool false))) Q) : AOpsI P Y N all rest (i, st) Q := by
 cases b
 ·exact AOpsI.le (s := (i, st)) (s' := (i, st.put d (.v (.bool false)))) ⟨rfl, Le.test hx⟩ (hf rfl)
 ·exact AOpsI.le (s := (i, st)) (s' := (i, st.put d (.v (.bool true)))) ⟨rfl, Le.test hx⟩ (ht rfl)
theorem AOpsI.splitD {p : Prop} {inst : Decidable p} (hx : look st.slots d = some (.v (.bool (decide p)))) (ht : p → AOpsI P Y N all rest (i, st.put d (.v (.bool true))) Q) (hf : ¬ p → AOpsI P Y N all rest (i, st.put d (.v (.bool false))) Q) : AOpsI P Y N all rest (i, st) Q :=
 AOpsI.split hx (fun h => ht (of_decide_eq_true h)) (fun h => hf (of_decide_eq_false h))
theorem AOpsI.guardRun {dst : Option Nat} {op : Op} {j : Nat} {want : Bool} (hj : (all[j]?).bind (·.dst) = some d) (hd : d < N.n) (hx : look st.slots d = some (.v (.bool want)))
  (k : AOpsI P Y N all (⟨dst, op, ty, pos, af, none⟩ :: rest) (i, st) Q) : AOpsI P Y N all (⟨dst, op, ty, pos, af, some (j, want)⟩ :: rest) (i, st) Q := by
 intro G hn hG a w hh
 have hk := k G hn hG a w hh
 obtain ⟨E, RR, rfl, hi⟩ := hh.h
 have hw := hi.wanted (ops := all) (dst := dst) (op := op) (ty := ty) (pos := pos) (af := af) hj (by show d < (G.to E.w).fn.n; rw [show (G.to E.w).fn = N from hn]; exact hd) hx
 unfold wpListIn at hk ⊢
 rw [if_pos hw]
 rw [if_pos (by simp [Region.wanted])] at hk
 exact hk
theorem run_value {x : Operand} {fargs : Array Operand} {ats : Array TypeId} {a : Act} {w : World} {f : Fn} {cc : Array Value} {dst : Option Nat} {g : Option (Nat × Bool)} (hx : a.eval x = .func f #[] cc) :
  (execOp a.eval ⟨dst, .call ⟨.value x, fargs, ats⟩, ty, pos, af, g⟩).run P w = (invoke (.fn f cc) (#[] ++ fargs.map a.eval)).run P w := by
 have e : (execOp a.eval ⟨dst, .call ⟨.value x, fargs, ats⟩, ty, pos, af, g⟩).run P w = (do let d ← Deferred.ofValue (a.eval x) (fargs.map a.eval); invoke d.target d.args : Sem Next).run P w := rfl
 rw [e, hx]; rfl
theorem AOpsI.yield {x : Operand} {fargs : Array Operand} {ats : Array TypeId} {p q : Int} (hx : opd st x = some Y.v) (hxs : opds st fargs.toList = some [.v (.int .i64 p), .v (.int .i64 q)]) (hg : Y.Good (p, q)) (hd : d < N.n)
  (k : AOpsI P Y N all rest (i ++ [(p, q)], st.put d (.v (.bool true))) Q) : AOpsI P Y N all (⟨some d, .call ⟨.value x, fargs, ats⟩, ty, pos, af, none⟩ :: rest) (i, st) Q := by
 intro G hn hG a w hh
 have hn1 := hh.n1 hG
 obtain ⟨E, RR, rfl, hi⟩ := hh.h
 have hv := hi.val hx
 obtain ⟨hxl, hxg⟩ := opds_get hi hxs
 have hargs : fargs.map a.eval = #[.int .i64 p, .int .i64 q] := by
  obtain ⟨o1, ho1, R1, hR1⟩ := hxg 0 _ rfl
  obtain ⟨o2, ho2, R2, hR2⟩ := hxg 1 _ rfl
  simp only [RX] at hR1 hR2
  have hl : fargs.toList.length = 2 := hxl.symm
  apply Array.ext'
  rw [Array.toList_map]
  match hm : fargs.toList, hl with
  | [u1, u2], _ =>
   rw [hm] at ho1 ho2
   simp only [List.getElem?_cons_zero, List.getElem?_cons_succ, Option.some.injEq] at ho1 ho2
   subst ho1; subst ho2
   simp [hR1.1, hR2.1]
 obtain ⟨fn, tmps, assign, body, hy, hR⟩ := Y.yield i (p, q) E.w hh.j hg hn1
 have hrun : (execOp a.eval ⟨some d, .call ⟨.value x, fargs, ats⟩, ty, pos, af, none⟩).run P E.w = .ok (.round Y.l fn tmps assign body) E.w := by
  rw [run_value hv, hargs]; exact hy
 refine wpListIn_plain rfl fun K hK => ?_
 refine ⟨fun _ _ => trivial, ?_⟩
 rw [show (FR none).round = none from rfl, Oper.semAt_none, hrun]
 refine ⟨fun h => by simp [FR, Fence.wide] at h, hR.mono ?_⟩
 rintro e W' ⟨rfl, hj, hk⟩
 refine hK _ _ (k G hn hG _ _ ?_)
 have ht := HI.turn hG hh hj hk
 obtain ⟨E', RR', rfl, hi'⟩ := ht.h
 exact ⟨ht.j, ⟨E', _, rfl, hi'.put0 (by show d < (G.to E'.w).fn.n; rw [show (G.to E'.w).fn = N from hn]; exact hd) (by simp [RX])⟩, ht.kp⟩
theorem AOpsI.callIt {f : FuncId} {g : Idx} {x y : Operand} {ats : Array TypeId} {caps : List X} (hx : opd st x = some (.clo (.func f) [] caps)) (hok : callOK P f = true) (hspec : ItCalls P f caps g) (hy : opd st y = some Y.v) (hg : ∀ e ∈ g, Y.Good e) (hd : d < N.n)
  (k : AOpsI P Y N all rest (i ++ g, st.put d .no) Q) : AOpsI P Y N all (⟨some d, .call ⟨.value x, #[y], ats⟩, ty, pos, af, none⟩ :: rest) (i, st) Q := by
 intro G hn hG a w hh
 have hn1 := hh.n1 hG
 obtain ⟨E, RR, rfl, hi⟩ := hh.h
 have hv := hi.val hy
 obtain ⟨Rx, hfx⟩ := hi.eval hx
 simp only [RX] at hfx
 obtain ⟨_, ff, cc, hfc, hff, hcc⟩ := hfx
 simp only [RXt] at hff
 have hff0 : ff = #[] := by
  have := hff.1
  cases ff; simp_all
 subst hff0
 have hφ : ∀ b k, Y.S b → E.φ b k = none := fun b k hb => by
  cases he : E.φ b k with
  | none => rfl
  | some v =>
   rcases hi.grow b k v he with h1 | h1
   ·rw [show (G.to E.w).φ0 b k = G.φ0 b k from rfl, hG.φ b k hb] at h1; cases h1
   ·exact absurd (hG.old b (Nat.lt_of_lt_of_le (Y.lt b hb) hG.n1)) h1
 have hc := hspec Y i E cc.toList hh.j hn1 hg hcc hi.frz hφ
 have hrun : (execOp a.eval ⟨some d, .call ⟨.value x, #[y], ats⟩, ty, pos, af, none⟩).run P E.w = .ok (.enter f (#[.func (.yield Y.l) #[] #[]] ++ cc.toList.toArray)) E.w := by
  rw [run_value hfc]
  show (callFunc f ((#[] ++ #[y].map a.eval) ++ cc)).run P E.w = _
  rw [callOK_run hok]
  congr 2
  apply Array.ext'
  simp [hv]
 refine wpListIn_plain rfl fun K hK => ?_
 refine ⟨fun _ _ => trivial, ?_⟩
 rw [show (FR none).round = none from rfl, Oper.semAt_none, hrun]
 refine ⟨fun h => by simp [FR, Fence.wide] at h, calls_FR (hc.mono ?_)⟩
 rintro e W' ⟨v, rfl, hj, hk⟩
 refine hK _ _ (k G hn hG _ _ ?_)
 have ht := HI.turn hG hh hj hk
 obtain ⟨E', RR', rfl, hi'⟩ := ht.h
 exact ⟨ht.j, ⟨E', _, rfl, hi'.put0 (by show d < (G.to E'.w).fn.n; rw [show (G.to E'.w).fn = N from hn]; exact hd) (by simp [RX])⟩, ht.kp⟩

theorem ItCalls.of {f : FuncId} {fn : Func} {c : Code} {args : List X} {g : Idx} {n : Nat} (hf : P.funcs[f]? = some fn) (hb : fn.body = some c) (hn : fn.ntmps = n) (hr : fn.results = #[]) (hle : args.length + 1 ≤ n)
  (h : ∀ (Y : YCtx P) (i : Idx), (∀ x ∈ g, Y.Good x) → AWpI P Y ⟨n, []⟩ c (i, ⟨enumF 0 (Y.v :: args), []⟩) (fun e s => (e = .normal ∨ e = .ret) ∧ s.1 = i ++ g)) (hfr : X.frees args = true) : ItCalls P f args g := by
 intro Y i E cargs hJ hn1 hg hargs hfz hφ
 refine calls_of_wp hf hb ?_
 let G : Ctx := ⟨fun b => b < E.w.heap.size, E.w, E.φ, E.β, ⟨n, []⟩, []⟩
 have hG : GOK Y G := ⟨fun _ h => h, hn1, hφ⟩
 have hlen : ∀ {l : List X} {c : List Value} {R : List Nat}, RXt E l c R → l.length = c.length := by
  intro l
  induction l with
  | nil => intro c R h; simp only [RXt] at h; rw [h.1]; rfl
  | cons y r ih =>
   intro c R h
   simp only [RXt] at h
   obtain ⟨_, c', _, _, rfl, _, h2, _⟩ := h
   simp [ih h2]
 have hl := hlen hargs
 have hH : HI Y G (i, ⟨enumF 0 (Y.v :: args), []⟩) ⟨(#[.func (.yield Y.l) #[] #[]] ++ cargs.toArray) ++ Array.replicate (fn.ntmps - (#[Value.func (.yield Y.l) #[] #[]] ++ cargs.toArray).size) undef, []⟩ E.w := by
  refine ⟨hJ, ⟨E, fun _ => [], rfl, ?_⟩, Kp.refl _ _⟩
  constructor
  case frz => exact hfz
  case slots =>
   intro s x hx
   have hx' : look (enumF 0 (Y.v :: args)) s = some x := hx
   rw [look_enum] at hx'
   have hs : s < args.length + 1 := by
    rcases Nat.lt_or_ge s (args.length + 1) with h' | h'
    ·exact h'
    ·rw [List.getElem?_eq_none (by simpa using h')] at hx'; cases hx'
   have e1 : ((#[Value.func (.yield Y.l) #[] #[]] ++ cargs.toArray) ++ Array.replicate (fn.ntmps - (#[Value.func (.yield Y.l) #[] #[]] ++ cargs.toArray).size) undef).getD s undef = (Value.func (.yield Y.l) #[] #[] :: cargs).getD s undef := by
    rw [Array.getD_eq_getD_getElem?, Array.getElem?_append_left (by simp; omega)]
    simp [List.getD_eq_getElem?_getD]
   show RX E x _ []
   rw [e1]
   cases s with
   | zero =>
    simp only [List.getElem?_cons_zero, Option.some.injEq] at hx'
    subst hx'
    simp [RX]
   | succ s =>
    simp only [List.getElem?_cons_succ] at hx'
    obtain ⟨u, R, hu, hR⟩ := RXt.get hargs hx'
    have h0 := RX.free (X.frees_get hfr hx') hR
    subst h0
    rw [List.getD_cons_succ, List.getD_eq_getElem?_getD, hu]; exact hR
  case objs => intro o ob h; cases h
  case nodup => exact fun _ => List.nodup_nil
  case apart => exact fun _ _ _ _ h => by cases h
  case own => exact fun _ _ h => by cases h
  case keep => exact fun _ _ => rfl
  case size => exact Nat.le_refl _
  case small => exact fun _ h => h
  case os => rfl
  case tape => rfl
  case output => rfl
  case φ0 => exact fun _ _ _ h => h
  case grow => exact fun _ _ _ h => .inl h
  case fixed => exact fun _ _ => rfl
  case tmps => show Array.size _ = n; simp; omega
  case defers => rfl
 refine wp_mono (h Y i hg G rfl hG _ _ hH) ?_
 rintro e a w ⟨s, hs, he, hi⟩
 have hd : a.defers = [] := by obtain ⟨_, _, _, h⟩ := hs.h; exact h.defers
 have hres : (results fn a.tmps).run P w = .ok (.tuple #[]) w := by
  have e : results fn a.tmps = (do let vs ← fn.results.mapM (resSem a.tmps); Pure.pure (if h : vs.size = 1 then vs[0] else .tuple vs) : Sem Value) := rfl
  rw [e, hr]
  refine run_then (u := #[]) (by simp [Sem.run_pure]) rfl
 have hk : a.defers = [] ∧ ∃ v, (results fn a.tmps).run P w = .ok v w ∧ ∃ v', Ending.returned v = .returned v' ∧ Y.J (i ++ g) w ∧ Kp Y.S E.w w := ⟨hd, _, hres, _, rfl, hi ▸ hs.j, hs.kp⟩
 rcases he with rfl | rfl
 ·exact hk
 ·exact hk
end
end Go.AW
/- Part of the abstract walk: code in a round of a range over a function. -/
namespace Go.AW
open Go

def AWpR (P : Program) (l : Nat) (N : Frm) (c : Code) (st : St) (Q : Exit → St → Prop) : Prop :=
 ∀ G : Ctx, G.fn = N → ∀ a w, Holds G st a w → c.wpIn (FR (some l)) 0 P (Post G Q) a w
section
variable {P : Program} {l : Nat} {N : Frm} {st st' : St} {Q Q' : Exit → St → Prop} {id : Nat} {x y c : Code}
theorem AWpR.le (hl : Le st st') (h : AWpR P l N c st' Q) : AWpR P l N c st Q := fun G hn a w hh => h G hn a w (hl.holds hh)
theorem AWpR.mono (h : AWpR P l N c st Q) (hq : ∀ e st, Q e st → Q' e st) : AWpR P l N c st Q' := fun G hn a w hh => wpIn_mono (h G hn a w hh) fun e _ _ hp => Post.mono (hq e) hp
theorem AWpR.sh (h : Sh N st st') (k : AWpR P l N c st' Q) : AWpR P l N c st Q := fun G hn a w hh => k G hn a w (h G hn a w hh)
theorem AWpR.skip (h : Q .normal st) : AWpR P l N .skip st Q := fun _ _ _ _ hh => wpIn_skip ⟨st, hh, h⟩
theorem AWpR.exit (h : Q (.exit id) st) : AWpR P l N (.exit id) st Q := fun _ _ _ _ hh => wpIn_exit ⟨st, hh, h⟩
theorem AWpR.seq (h : AWpR P l N x st (Then (fun st' => AWpR P l N y st' Q) Q)) : AWpR P l N (.seq x y) st Q := by
 intro G hn a w hh
 refine wpIn_seq (wpIn_mono (h G hn a w hh) ?_)
 rintro e a' w' ⟨st', hh', hq⟩
 cases e <;> first | exact hq G hn a' w' hh' | exact ⟨st', hh', hq⟩
theorem AWpR.block (h : AWpR P l N c st (InBlock id Q)) : AWpR P l N (.block id c) st Q := by
 intro G hn a w hh
 refine wpIn_block (wpIn_mono (h G hn a w hh) ?_)
 rintro e a' w' ⟨st', hh', hq⟩
 cases e with
 | exit id' =>
  simp only [InBlock] at hq
  simp only [Exit.inBlock]
  cases hb : Nat.beq id' id with
  | true =>
   rw [hb] at hq
   rw [if_pos (Nat.eq_of_beq_eq_true hb)]
   exact ⟨st', hh', hq⟩
  | false =>
   rw [hb] at hq
   rw [if_neg (Nat.ne_of_beq_eq_false hb)]
   exact ⟨st', hh', hq⟩
 | _ => exact ⟨st', hh', hq⟩
theorem AWpR.cond {o : Operand} {b : Bool} (hc : opd st o = some (.v (.bool b))) (ht : b = true → AWpR P l N x st Q) (hf : b = false → AWpR P l N y st Q) : AWpR P l N (.cond o x y) st Q := by
 intro G hn a w hh
 obtain ⟨E, RR, rfl, hi⟩ := hh
 have hv := hi.val hc
 cases b with
 | true => exact wpIn_cond (t := true) hv (by simpa using ht rfl G hn a E.w ⟨E, RR, rfl, hi⟩)
 | false => exact wpIn_cond (t := false) hv (by simpa using hf rfl G hn a E.w ⟨E, RR, rfl, hi⟩)
theorem AWpR.condD {o : Operand} {p : Prop} {inst : Decidable p} (hc : opd st o = some (.v (.bool (decide p)))) (ht : p → AWpR P l N x st Q) (hf : ¬ p → AWpR P l N y st Q) : AWpR P l N (.cond o x y) st Q :=
 AWpR.cond hc (fun h => ht (of_decide_eq_true h)) (fun h => hf (of_decide_eq_false h))
theorem AWpR.condT {o : Operand} (hc : opd st o = some (.v (.bool true))) (h : AWpR P l N x st Q) : AWpR P l N (.cond o x y) st Q := AWpR.cond hc (fun _ => h) (fun h => by cases h)
theorem AWpR.condF {o : Operand} (hc : opd st o = some (.v (.bool false))) (h : AWpR P l N y st Q) : AWpR P l N (.cond o x y) st Q := AWpR.cond hc (fun h => by cases h) (fun _ => h)
theorem AWpR.join0 {x y : Code} (J : St) (I : Prop) (hx : AWpR P l N x st (Then (fun st' => I ∧ Le st' J) Q)) (hy : I → AWpR P l N y J Q) : AWpR P l N (.seq x y) st Q :=
 AWpR.seq (hx.mono fun e st1 h => by cases e with
  | normal => exact (hy h.1).le h.2
  | _ => exact h)
theorem AWpR.region {ops : List Oper} (h : AOps P N ops.toArray ops st (Only (fun st' => Q .normal st'))) (hd : ops.all noDef = true := by rfl) : AWpR P l N (.region id ops.toArray false) st Q := by
 intro G hn a w hh
 refine wpIn_mono (region_FR (Q := Post G (Only (fun st' => Q .normal st'))) (fun ⟨_, _, _, _, h⟩ => h) hd (h G hn a w hh)) ?_
 rintro e a' w' ⟨st', hh', hq⟩
 cases e <;> first | exact ⟨st', hh', hq⟩ | exact hq.elim
theorem AWpR.sr {ops : List Oper} (h : AOps P N ops.toArray ops st (Only (fun st' => AWpR P l N y st' Q))) (hd : ops.all noDef = true := by rfl) : AWpR P l N (.seq (.region id ops.toArray false) y) st Q :=
 AWpR.seq (AWpR.region (Q := Then (fun st' => AWpR P l N y st' Q) Q) h hd)
theorem AWpR.regionHeld (L F' : List Nat) {ops : Array Oper} (hm : P.follows .mixedOrders = true) (h : AFirst P N L F' ops ops.size (Array.replicate ops.size false) st (fun st' => Q .normal st')) (hd : ops.toList.all noDef = true := by rfl) : AWpR P l N (.region id ops true) st Q := by
 intro G hn a w hh
 obtain ⟨E, RR, hw, hi⟩ := hh.drew
 have h1 := hw ▸ h G hn E RR a _ (fun _ _ => rfl) hi
 refine wpIn_mono (region_draw_FR (Q := fun e a w => e = .normal ∧ ∃ st', Q .normal st' ∧ Holds G st' a w) hm (fun ⟨_, _, h, _⟩ => by cases h) hd (wpAny_of_held _ _ _ _ h1)) ?_
 rintro e a w ⟨rfl, st', hk, hh'⟩
 exact ⟨st', hh', hk⟩
theorem AWpR.regionHeld0 {ops : Array Oper} (hm : P.follows .mixedOrders = true) (h : AFirst P N [] N.F ops ops.size (Array.replicate ops.size false) st (fun st' => Q .normal st')) (hd : ops.toList.all noDef = true := by rfl) : AWpR P l N (.region id ops true) st Q := AWpR.regionHeld [] N.F hm h hd
theorem AWpR.regionAny {ops : Array Oper} (hm : P.follows .mixedOrders = true) (h : AAny P N ops ops.size (Array.replicate ops.size false) st (fun st' => Q .normal st')) (hd : ops.toList.all noDef = true := by rfl) : AWpR P l N (.region id ops true) st Q := by
 intro G hn a w hh
 have h1 := h G hn a _ hh.drew
 refine wpIn_mono (region_draw_FR (Q := fun e a w => e = .normal ∧ ∃ st', Q .normal st' ∧ Holds G st' a w) hm (fun ⟨_, _, h, _⟩ => by cases h) hd h1) ?_
 rintro e a w ⟨rfl, st', hk, hh'⟩
 exact ⟨st', hh', hk⟩
end
end Go.AW
/- Part of the abstract walk: the statement that ranges over a function. -/
namespace Go.AW
open Go

structure Ext (G G' : Ctx) : Prop where
 fn : G'.fn = G.fn
 K : ∀ b, G.K b → G'.K b
 keep : ∀ b, G.K b → G'.w0.heap[b]? = G.w0.heap[b]?
 size : G.w0.heap.size ≤ G'.w0.heap.size
 os : G'.w0.os = G.w0.os
 tape : G'.w0.tape = G.w0.tape
 output : G'.w0.output = G.w0.output
 φ0 : ∀ b i v, G.φ0 b i = some v → G'.φ0 b i = some v
 grow : ∀ b i v, G'.φ0 b i = some v → G.φ0 b i = some v ∨ ¬ G.K b
 fixed : ∀ o, G.fn.F.elem o = true → G'.β0 o = G.β0 o
 marks : ∃ ms : List Nat, G'.ds = ms.map (fun D => { target := .collected D, args := #[] }) ++ G.ds ∧ ms.Nodup ∧ ∀ D ∈ ms, G'.K D ∧ ¬ G.K D ∧ G'.w0.heap[D]? = some (.deferred (some []))
theorem Ext.refl (G : Ctx) : Ext G G := ⟨rfl, fun _ h => h, fun _ _ => rfl, Nat.le_refl _, rfl, rfl, rfl, fun _ _ _ h => h, fun _ _ _ h => .inl h, fun _ _ => rfl, [], rfl, List.nodup_nil, fun _ h => by cases h⟩
theorem Ext.trans {A B C : Ctx} (h : Ext A B) (k : Ext B C) : Ext A C := by
 obtain ⟨ms, h1, h2, h3⟩ := h.marks
 obtain ⟨ns, k1, k2, k3⟩ := k.marks
 refine ⟨k.fn.trans h.fn, fun b hb => k.K b (h.K b hb), fun b hb => (k.keep b (h.K b hb)).trans (h.keep b hb), Nat.le_trans h.size k.size, k.os.trans h.os, k.tape.trans h.tape, k.output.trans h.output, fun b i v hv => k.φ0 b i v (h.φ0 b i v hv), fun b i v hv => ?_,
  fun o ho => (k.fixed o (by rw [h.fn]; exact ho)).trans (h.fixed o ho), ns ++ ms, ?_, ?_, ?_⟩
 ·rcases k.grow b i v hv with h4 | h4
  ·exact h.grow b i v h4
  ·exact .inr (fun hb => h4 (h.K b hb))
 ·rw [k1, h1, List.map_append, List.append_assoc]
 ·refine List.nodup_append.2 ⟨k2, h2, fun a ha b hb e => ?_⟩
  subst e
  exact (k3 a ha).2.1 (h3 a hb).1
 ·intro D hD
  rcases List.mem_append.1 hD with hD | hD
  ·obtain ⟨a, b, c⟩ := k3 D hD
   exact ⟨a, fun hk => b (h.K D hk), c⟩
  ·obtain ⟨a, b, c⟩ := h3 D hD
   exact ⟨k.K D a, b, (k.keep D a).trans c⟩
def PostM (G : Ctx) (Q : Exit → St → Prop) (e : Exit) (a : Act) (w : World) : Prop := ∃ G', Ext G G' ∧ Post G' Q e a w
def AWpM (P : Program) (N : Frm) (c : Code) (st : St) (Q : Exit → St → Prop) : Prop :=
 ∀ G : Ctx, G.fn = N → ∀ a w, Holds G st a w → c.wp P (PostM G Q) a w
section
variable {P : Program} {N : Frm} {st st' : St} {Q Q' : Exit → St → Prop} {id : Nat} {x y c : Code}
theorem AWpM.of (h : AWp P N c st Q) : AWpM P N c st Q := fun G hn a w hh => wp_mono (h G hn a w hh) fun _ _ _ hp => ⟨G, .refl G, hp⟩
theorem AWpM.le (hl : Le st st') (h : AWpM P N c st' Q) : AWpM P N c st Q := fun G hn a w hh => h G hn a w (hl.holds hh)
theorem AWpM.sh (h : Sh N st st') (k : AWpM P N c st' Q) : AWpM P N c st Q := fun G hn a w hh => k G hn a w (h G hn a w hh)
theorem AWpM.seq (h : AWpM P N x st (Then (fun st' => AWpM P N y st' Q) Q)) : AWpM P N (.seq x y) st Q := by
 intro G hn a w hh
 refine wp_seq (wp_mono (h G hn a w hh) ?_)
 rintro e a' w' ⟨G', hx, st', hh', hq⟩
 cases e with
 | normal => exact wp_mono (hq G' (hx.fn.trans hn) a' w' hh') fun _ _ _ ⟨G'', hx', hp⟩ => ⟨G'', hx.trans hx', hp⟩
 | _ => exact ⟨G', hx, st', hh', hq⟩
theorem AWpM.seqP (h : AWp P N x st (Then (fun st' => AWpM P N y st' Q) Q)) : AWpM P N (.seq x y) st Q := AWpM.seq (AWpM.of h)
theorem AWpM.block (h : AWpM P N c st (InBlock id Q)) : AWpM P N (.block id c) st Q := by
 intro G hn a w hh
 refine wp_block (wp_mono (h G hn a w hh) ?_)
 rintro e a' w' ⟨G', hx, st', hh', hq⟩
 cases e with
 | exit id' =>
  simp only [InBlock] at hq
  simp only [Exit.inBlock]
  cases hb : Nat.beq id' id with
  | true =>
   rw [hb] at hq
   rw [if_pos (Nat.eq_of_beq_eq_true hb)]
   exact ⟨G', hx, st', hh', hq⟩
  | false =>
   rw [hb] at hq
   rw [if_neg (Nat.ne_of_beq_eq_false hb)]
   exact ⟨G', hx, st', hh', hq⟩
 | _ => exact ⟨G', hx, st', hh', hq⟩

theorem leaves_marks {fn : Func} {tmps : Array Value} {R : Ending → World → Prop} : ∀ (ms : List Nat) (w : World), ms.Nodup → (∀ D ∈ ms, w.heap[D]? = some (.deferred (some []))) →
  (∀ w' : World, w'.heap.size = w.heap.size → w'.os = w.os → w'.tape = w.tape → w'.output = w.output → (∀ b, b ∉ ms → w'.heap[b]? = w.heap[b]?) → ∃ v, (results fn tmps).run P w' = .ok v w' ∧ R (.returned v) w') →
  LeavesInM (FR none) 0 P fn tmps R (ms.map (fun D => { target := .collected D, args := #[] })) .returning w
 | [], w, _, _, h => h w rfl rfl rfl rfl (fun _ _ => rfl)
 | D :: ms, w, hn, hD, h => by
  refine ⟨by simp, .inl ⟨D, w.putObj D (.deferred none), rfl, run_takeDeferred (hD D (List.mem_cons_self ..)), ?_⟩⟩
  have hn' := List.nodup_cons.1 hn
  refine leaves_marks ms _ hn'.2 (fun D' hD' => ?_) (fun w' h1 h2 h3 h4 h5 => ?_)
  ·rw [World.putObj_heap_other (show D' ≠ D from fun e => hn'.1 (by rw [← e]; exact hD'))]; exact hD D' (List.mem_cons_of_mem _ hD')
  ·refine h w' (by rw [h1]; simp) (h2.trans rfl) (h3.trans rfl) (h4.trans rfl) (fun b hb => ?_)
   rw [h5 b (fun e => hb (List.mem_cons_of_mem _ e)), World.putObj_heap_other (show b ≠ D from fun e => hb (by rw [e]; exact List.mem_cons_self ..))]
theorem ACalls.ofM {f : FuncId} {fn : Func} {c : Code} {args : List X} {objs : List Obj} {F : List Nat} {Q : X → List Obj → Prop} {n : Nat} {rvs : List ResultVar} (hf : P.funcs[f]? = some fn) (hb : fn.body = some c) (hn : fn.ntmps = n) (hr : fn.results.toList = rvs)
  (hnd : (resSlots rvs).Nodup) (hle : args.length ≤ n) (h : AWpM P ⟨n, F⟩ c ⟨enumF 0 args, enumF 0 objs⟩ (Ends P rvs objs.length Q)) : ACalls P f args objs F Q := by
 intro K E RR cargs hi
 refine (callsIn_wide (n := 0)).1 (callsIn_of_wp_marks (F := FR none) hf hb trivial (wp_wide.2 ?_))
 refine wp_mono (h (ctx0 K E ⟨n, F⟩) rfl _ _ ⟨E, RR, rfl, hi.enter hn hle⟩) ?_
 rintro e a w ⟨G', hx, st, ⟨E', RR', rfl, h1⟩, hq⟩
 obtain ⟨ms, hds, hms, hmk⟩ := hx.marks
 have hdf : a.defers = ms.map (fun D => { target := .collected D, args := #[] }) := by rw [h1.defers, hds]; exact List.append_nil _
 have hD : ∀ D ∈ ms, E'.w.heap[D]? = some (.deferred (some [])) := fun D hD => (h1.keep D (hmk D hD).1).trans (hmk D hD).2.2
 have fin : (∃ xs objs', resAll P st rvs = some xs ∧ outObjs st.objs 0 objs.length = some objs' ∧ Q (resX xs) objs') → LeavesInM (FR none) 0 P fn a.tmps
   (fun e w' => ∃ v r objs', e = .returned v ∧ Q r objs' ∧ objs'.length = objs.length ∧ ∃ E' RR', E'.w = w' ∧ Inv (ctx0 K E ⟨1, F⟩) E' RR' ⟨[(0, r)], enumF 0 objs'⟩ ⟨#[v], []⟩) a.defers .returning E'.w := by
  intro hq
  rw [hdf]
  refine leaves_marks ms E'.w hms hD fun w' hsz hos htp hou hw => ?_
  have hnφ : ∀ D ∈ ms, ∀ i v, E'.φ D i = some v → False := fun D hDm i v hv => by
   have h2 := h1.frz D i v hv
   unfold World.cell? at h2
   rw [hD D hDm] at h2; cases h2
  have hnR : ∀ p, ∀ D ∈ ms, D ∉ RR' p := fun p D hDm hb => (h1.own p D hb).2 (hmk D hDm).1
  have hon : ∀ p, E'.On { E' with w := w' } (RR' p) := fun p => ⟨fun _ _ _ h => h, fun b hb => ⟨hw b (fun hm => hnR p b hm hb), fun h i => h i⟩⟩
  have h2 : Inv (ctx0 K E ⟨n, F⟩) { E' with w := w' } RR' st ⟨a.tmps, []⟩ := by
   constructor
   case frz =>
    intro b i v hv
    have h2 := h1.frz b i v hv
    unfold World.cell? at h2 ⊢
    rw [hw b (fun hm => hnφ b hm i v hv)]; exact h2
   case slots => exact fun s x hx => RX.mono x _ _ (hon _) (fun _ _ => rfl) (h1.slots s x hx)
   case objs => exact fun o ob hob => ROb.mono (hon _) rfl (fun _ _ _ _ => rfl) (h1.objs o ob hob)
   case nodup => exact h1.nodup
   case apart => exact h1.apart
   case own => exact fun p b hb => ⟨by have := (h1.own p b hb).1; show b < w'.heap.size; omega, fun hk => (h1.own p b hb).2 (hx.K b hk)⟩
   case keep => exact fun b hb => (hw b (fun hm => (hmk b hm).2.1 hb)).trans ((h1.keep b (hx.K b hb)).trans (hx.keep b hb))
   case size => show E.w.heap.size ≤ w'.heap.size; rw [hsz]; exact Nat.le_trans hx.size h1.size
   case small => exact hi.small
   case os => exact hos.trans (h1.os.trans hx.os)
   case tape => exact htp.trans (h1.tape.trans hx.tape)
   case output => exact hou.trans (h1.output.trans hx.output)
   case φ0 => exact fun b i v hv => h1.φ0 b i v (hx.φ0 b i v hv)
   case grow =>
    intro b i v hv
    rcases h1.grow b i v hv with h3 | h3
    ·exact hx.grow b i v h3
    ·exact .inr (fun hb => h3 (hx.K b hb))
   case fixed => exact fun o ho => (h1.fixed o (by rw [hx.fn]; exact ho)).trans (hx.fixed o ho)
   case tmps => exact h1.tmps.trans (by rw [hx.fn])
   case defers => rfl
  obtain ⟨_, v, hres, v', r, objs', he, hQ, hl, hE⟩ := ends_key (P := P) (objs := objs) (Q := Q) hr hnd h2 hq
  exact ⟨v, hres, v', r, objs', he, hQ, hl, hE⟩
 cases e with
 | normal => exact fin hq
 | ret => exact fin hq
 | _ => exact hq.elim
end
end Go.AW
