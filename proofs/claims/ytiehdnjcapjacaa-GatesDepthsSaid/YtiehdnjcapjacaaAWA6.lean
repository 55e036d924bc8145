/- Part of the abstract walk: loads, addresses, lengths, parts. -/
import Derived.Test.YtiehdnjcapjacaaAWA5
namespace Go.AW
open Go

section
variable {P : Program} {N : Frm} {st : St} {dst : Option Nat} {ty : TypeId} {pos : String} {af : Array Edge} {g : Option (Nat × Bool)}

theorem TY.shape_none {t : TypeId} (h : TY.shape P t = some none) (w : World) : (isAgg t).run P w = .ok false w ∧ ∃ d, P.underlying t = some d := by
  unfold TY.shape at h
  cases hu : P.underlying t with
  | none => simp [hu] at h
  | some d =>
    refine ⟨?_, d, rfl⟩
    rw [hu] at h
    simp only [isAgg, Sem.run_bind, run_underlying hu, Result.andThen_ok]
    cases d <;> first | rfl | (cases hi : P.info? t <;> simp [hi] at h)

theorem TY.shape_some {t : TypeId} {m : Nat} (h : TY.shape P t = some (some m)) (w : World) : (isAgg t).run P w = .ok true w ∧ (sizeOf t).run P w = .ok m w := by
  unfold TY.shape at h
  cases hu : P.underlying t with
  | none => simp [hu] at h
  | some d =>
    cases hi : P.info? t with
    | none => rw [hu, hi] at h; cases d <;> simp at h
    | some i =>
      rw [hu, hi] at h
      have hs : (sizeOf t).run P w = .ok i.size w := by simp [sizeOf, typeInfo, hi]
      have ha : ∀ d', P.underlying t = some d' → (match d' with | .struct _ | .array _ _ => true | _ => false) = true → (isAgg t).run P w = .ok true w := by
        intro d' hd' hm
        simp only [isAgg, Sem.run_bind, run_underlying hd', Result.andThen_ok]
        cases d' <;> simp at hm <;> rfl
      cases d <;> simp at h <;> subst h <;> exact ⟨ha _ hu rfl, hs⟩

theorem getElem?_drop_take_one {α : Type} {l : List α} {k : Nat} {x : α} (h : l[k]? = some x) : (l.drop k).take 1 = [x] := by
  have hk : k < l.length := by
    rcases Nat.lt_or_ge k l.length with h' | h'
    · exact h'
    · simp [List.getElem?_eq_none h'] at h
  rw [List.drop_eq_getElem_cons hk]
  simp only [List.take_succ_cons, List.take_zero]
  rw [List.getElem?_eq_getElem hk] at h
  rw [Option.some.inj h]

/-- A load of one cell. -/
theorem Y.load {t : TypeId} {x : Operand} {p y : X} {row : List X} (ht : TY.shape P t = some none) (hx : opd st x = some p) (hr : rowAt st p = some row) (hy : row[kAt p]? = some y) (hf : y.free = true) :
    Yields P N st ⟨dst, .load t x, ty, pos, af, g⟩ y := by
  intro G E RR a _ hi
  obtain ⟨R, hp⟩ := hi.eval hx
  obtain ⟨b, off, hc, hcells⟩ := hi.behind hp hr
  have hk : kAt p < row.length := by
    rcases Nat.lt_or_ge (kAt p) row.length with h' | h'
    · exact h'
    · simp [List.getElem?_eq_none h'] at hy
  obtain ⟨vs, R', hl, hv, hxs⟩ := hcells (kAt p) 1 (by omega)
  rw [getElem?_drop_take_one hy] at hxs
  simp only [RXs] at hxs
  obtain ⟨c, cs', R₁, R₂, hvs, _, h1, ⟨rfl, rfl⟩, rfl⟩ := hxs
  subst hvs
  have h0 := RX.free hf h1
  subst h0
  refine ⟨c, ?_, h1⟩
  show (do let z ← Instr.loadAt t (a.eval x); pure (Next.value z) : Sem Next).run P E.w = _
  rw [hc]
  refine run_v ?_
  have hcell := hv 0 c rfl
  simp only [Instr.loadAt, Instr.sureAddr, loadVar, Sem.run_bind, Sem.run_pure, Result.andThen_ok, (TY.shape_none ht E.w).1]
  simp only [Nat.add_zero] at hcell
  simp [hcell]

/-- A load of a struct or an array. -/
theorem Y.loadA {t : TypeId} {x : Operand} {p : X} {row : List X} {m : Nat} {ys : List X} (ht : TY.shape P t = some (some m)) (hx : opd st x = some p) (hr : rowAt st p = some row) (hm : kAt p + m ≤ row.length)
    (hys : (row.drop (kAt p)).take m = ys) (hf : X.frees ys = true) : Yields P N st ⟨dst, .load t x, ty, pos, af, g⟩ (.agg ys) := by
  intro G E RR a _ hi
  obtain ⟨R, hp⟩ := hi.eval hx
  obtain ⟨b, off, hc, hcells⟩ := hi.behind hp hr
  obtain ⟨vs, R', hl, hv, hxs⟩ := hcells (kAt p) m hm
  rw [hys] at hxs
  have h0 := RXs.free hf hxs
  subst h0
  refine ⟨.agg vs.toArray, ?_, by simp only [RX]; exact ⟨_, rfl, hxs⟩⟩
  show (do let z ← Instr.loadAt t (a.eval x); pure (Next.value z) : Sem Next).run P E.w = _
  rw [hc]
  refine run_v ?_
  obtain ⟨h1, h2⟩ := TY.shape_some ht E.w
  have h3 : (loadCells ⟨b, off + kAt p, none⟩ m).run P E.w = .ok vs.toArray E.w := by
    rw [← hl]
    exact run_loadCells_list (w := E.w) _ vs fun j v hj => by rw [add_mk, Nat.add_assoc]; exact hv j v hj
  simp only [Instr.loadAt, Instr.sureAddr, loadVar, Sem.run_bind, Sem.run_pure, Result.andThen_ok, h1, if_true, h2, h3]

theorem run_sizeOf {t : TypeId} {i : TypeInfo} (h : P.info? t = some i) (w : World) : (sizeOf t).run P w = .ok i.size w := by simp [sizeOf, typeInfo, h]

theorem TY.fld_run {t : TypeId} {f off : Nat} {ft : TypeId} (h : TY.fld P t f = some (off, ft)) (b o : Nat) (w : World) :
    (Instr.fieldAt t (.pointer (some ⟨b, o, none⟩)) f).run P w = .ok (.pointer (some ⟨b, o + off, none⟩)) w := by
  unfold TY.fld at h
  cases hu : P.underlying t with
  | none => simp [hu] at h
  | some d =>
    rw [hu] at h
    cases d with
    | struct fs =>
      simp only at h
      cases hf : fs[f]? with
      | none => simp [hf] at h
      | some fd =>
        rw [hf] at h
        simp only at h
        cases hi : P.info? fd.type with
        | none => simp [hi] at h
        | some i =>
          rw [hi] at h
          simp only at h
          cases hz : Nat.beq i.size 0 with
          | true => simp [hz] at h
          | false =>
            have hz' : i.size ≠ 0 := Nat.ne_of_beq_eq_false hz
            rw [hz] at h
            simp only [cond_false, Option.some.injEq, Prod.mk.injEq] at h
            simp only [Instr.fieldAt, Sem.run_bind, run_underlying hu, Result.andThen_ok, hf, Instr.sureAddr, Sem.run_pure, fieldPlace, run_sizeOf hi, hz', if_false, add_mk, h.1]
    | _ => simp at h

/-- A pointer, moved on by some cells. -/
def X.on (n : Nat) : X → Option X
  | .fp row k => some (.fp row (k + n))
  | .ptr o s i k => some (.ptr o s i (k + n))
  | _ => none

theorem RX.on {E : Env} {p q : X} {n : Nat} {c : Value} {R : List Nat} (hq : p.on n = some q) (h : RX E p c R) : ∃ b off, c = .pointer (some ⟨b, off, none⟩) ∧ RX E q (.pointer (some ⟨b, off + n, none⟩)) [] := by
  cases p with
  | fp row k =>
    simp only [X.on, Option.some.injEq] at hq
    subst hq
    simp only [RX] at h ⊢
    obtain ⟨_, b, off, hc, hf⟩ := h
    exact ⟨b, _, hc, trivial, b, off, by rw [Nat.add_assoc], hf⟩
  | ptr o s i k =>
    simp only [X.on, Option.some.injEq] at hq
    subst hq
    simp only [RX] at h ⊢
    obtain ⟨_, B, hB, hc⟩ := h
    exact ⟨_, _, hc, trivial, B, hB, by simp only [Nat.add_assoc]⟩
  | _ => simp [X.on] at hq

theorem Y.fieldAddr {t : TypeId} {x : Operand} {p q : X} {f off : Nat} {ft : TypeId} (ht : TY.fld P t f = some (off, ft)) (hx : opd st x = some p) (hq : p.on off = some q) :
    Yields P N st ⟨dst, .fieldAddr t x f, ty, pos, af, g⟩ q := by
  intro G E RR a _ hi
  obtain ⟨R, hp⟩ := hi.eval hx
  obtain ⟨b, o, hc, h⟩ := hp.on hq
  refine ⟨_, ?_, h⟩
  show (do let z ← Instr.fieldAt t (a.eval x) f; pure (Next.value z) : Sem Next).run P E.w = _
  rw [hc]
  exact run_v (TY.fld_run ht b o E.w)

theorem TY.slice_spec {t e s by_ : Nat} (h : TY.slice P t = some (e, s, by_)) : P.underlying t = some (.slice e) ∧ ∃ i, P.info? e = some i ∧ i.size = s ∧ i.bytes = by_ := by
  unfold TY.slice at h
  split at h
  · rename_i e' hu
    cases hi : P.info? e' with
    | none => simp [hi] at h
    | some i =>
      simp only [hi, Option.map_some, Option.some.injEq, Prod.mk.injEq] at h
      obtain ⟨rfl, h2, h3⟩ := h
      exact ⟨hu, i, hi, h2, h3⟩
  · cases h

theorem TY.array_spec {t n e s : Nat} (h : TY.array P t = some (n, e, s)) : P.underlying t = some (.array n e) ∧ ∃ i, P.info? e = some i ∧ i.size = s := by
  unfold TY.array at h
  split at h
  · rename_i n' e' hu
    cases hi : P.info? e' with
    | none => simp [hi] at h
    | some i =>
      simp only [hi, Option.map_some, Option.some.injEq, Prod.mk.injEq] at h
      obtain ⟨rfl, rfl, h3⟩ := h
      exact ⟨hu, i, hi, h3⟩
  · cases h

theorem run_indexAt {t e s by_ : Nat} (ht : TY.slice P t = some (e, s, by_)) {b off len cap m : Nat} {k : IntKind} {n : Int} (hn : n = (m : Int)) (hm : m < len) (w : World) :
    (Instr.indexAt t (.slice (some ⟨b, off, none⟩) len cap) (.int k n)).run P w = .ok (.pointer (some ⟨b, off + m * s, none⟩)) w := by
  obtain ⟨hu, i, hi, hs, _⟩ := TY.slice_spec ht
  subst hn
  simp [Instr.indexAt, asIntOf, run_underlying hu, hm, run_sizeOf hi, hs, add_mk]

/-- An element of a slice that is frozen. -/
theorem Y.indexF {t e s by_ : Nat} {x ix : Operand} {rows : List (List X)} {row : List X} {k : IntKind} {n : Int} {m : Nat} (ht : TY.slice P t = some (e, s, by_)) (hx : opd st x = some (.fz s rows))
    (hix : opd st ix = some (.v (.int k n))) (hn : n = (m : Int)) (hr : rows[m]? = some row) : Yields P N st ⟨dst, .indexAddr t x ix, ty, pos, af, g⟩ (.fp row 0) := by
  intro G E RR a _ hi
  obtain ⟨R, hp⟩ := hi.eval hx
  have hm : m < rows.length := by
    rcases Nat.lt_or_ge m rows.length with h' | h'
    · exact h'
    · simp [List.getElem?_eq_none h'] at hr
  simp only [RX] at hp
  obtain ⟨_, hu, base, cap, hc, h⟩ := hp
  rcases h with ⟨h, _⟩ | ⟨b, off, rfl, hl, hf⟩
  · subst h; simp at hr
  · refine ⟨.pointer (some ⟨b, off + m * s, none⟩), ?_, ?_⟩
    · show (do let z ← Instr.indexAt t (a.eval x) (a.eval ix); pure (Next.value z) : Sem Next).run P E.w = _
      rw [hc, hi.val hix]
      exact run_v (run_indexAt ht hn hm E.w)
    · simp only [RX]
      exact ⟨trivial, b, off + m * s, rfl, RFr.get hu hf hr⟩

/-- An element of a slice over an object. -/
theorem Y.indexO {t e s by_ : Nat} {x ix : Operand} {o lo len : Nat} {k : IntKind} {n : Int} {m : Nat} (ht : TY.slice P t = some (e, s, by_)) (hx : opd st x = some (.slc o s lo len))
    (hix : opd st ix = some (.v (.int k n))) (hn : n = (m : Int)) (hm : m < len) : Yields P N st ⟨dst, .indexAddr t x ix, ty, pos, af, g⟩ (.ptr o s (lo + m) 0) := by
  intro G E RR a _ hi
  obtain ⟨R, hp⟩ := hi.eval hx
  simp only [RX] at hp
  obtain ⟨_, base, cap, hc, h⟩ := hp
  rcases h with ⟨_, _, h, _⟩ | ⟨B, hB, _, hl, hb⟩
  · omega
  · have hb' : base = some ⟨B.b, B.off + lo * s, none⟩ := hb.resolve_left (by omega)
    subst hb'
    refine ⟨.pointer (some ⟨B.b, B.off + lo * s + m * s, none⟩), ?_, ?_⟩
    · show (do let z ← Instr.indexAt t (a.eval x) (a.eval ix); pure (Next.value z) : Sem Next).run P E.w = _
      rw [hc, hi.val hix]
      exact run_v (run_indexAt ht hn hm E.w)
    · simp only [RX]
      exact ⟨trivial, B, hB, by rw [Nat.add_mul]; simp [Nat.add_assoc]⟩

/-- An element of an array behind a pointer. -/
theorem Y.indexP {t len e s : Nat} {x ix : Operand} {p q : X} {k : IntKind} {n : Int} {m : Nat} (ht : TY.array P t = some (len, e, s)) (hx : opd st x = some p)
    (hix : opd st ix = some (.v (.int k n))) (hn : n = (m : Int)) (hm : m < len) (hq : p.on (m * s) = some q) : Yields P N st ⟨dst, .indexAddr t x ix, ty, pos, af, g⟩ q := by
  intro G E RR a _ hi
  obtain ⟨R, hp⟩ := hi.eval hx
  obtain ⟨b, o, hc, h⟩ := hp.on hq
  refine ⟨_, ?_, h⟩
  show (do let z ← Instr.indexAt t (a.eval x) (a.eval ix); pure (Next.value z) : Sem Next).run P E.w = _
  rw [hc, hi.val hix]
  refine run_v ?_
  obtain ⟨hu, i, hinf, hs⟩ := TY.array_spec ht
  subst hn
  simp [Instr.indexAt, Instr.sureAddr, asIntOf, run_underlying hu, hm, run_sizeOf hinf, hs, add_mk]

theorem RXs.get {E : Env} : ∀ {xs : List X} {cs : List Value} {R : List Nat} {k : Nat} {x : X}, RXs E xs cs R → xs[k]? = some x → ∃ u R₁, cs[k]? = some u ∧ Single u ∧ RX E x u R₁
  | [], _, _, _, _, _, h => by simp at h
  | y :: r, cs, R, 0, x, h, hx => by
    simp only [RXs] at h
    simp only [List.getElem?_cons_zero, Option.some.injEq] at hx
    subst hx
    obtain ⟨c, cs', R₁, R₂, rfl, hs, h1, _, _⟩ := h
    exact ⟨c, R₁, rfl, hs, h1⟩
  | y :: r, cs, R, k + 1, x, h, hx => by
    simp only [RXs] at h
    obtain ⟨c, cs', R₁, R₂, rfl, _, _, h2, _⟩ := h
    obtain ⟨u, R₃, hu, hs, h3⟩ := RXs.get (k := k) h2 (by simpa using hx)
    exact ⟨u, R₃, by simpa using hu, hs, h3⟩

theorem RXs.length {E : Env} : ∀ {xs : List X} {cs : List Value} {R : List Nat}, RXs E xs cs R → cs.length = xs.length
  | [], _, _, h => by simp only [RXs] at h; rw [h.1]; rfl
  | x :: r, _, _, h => by
    simp only [RXs] at h
    obtain ⟨c, cs', R₁, R₂, rfl, _, _, h2, _⟩ := h
    simp [RXs.length h2]

theorem RXs.drop {E : Env} : ∀ {xs : List X} {cs : List Value} {R : List Nat} (k : Nat), RXs E xs cs R → ∃ R', RXs E (xs.drop k) (cs.drop k) R'
  | [], cs, R, k, h => by simp only [RXs] at h; exact ⟨[], by simp [RXs, h.1]⟩
  | y :: r, cs, R, 0, h => ⟨R, h⟩
  | y :: r, cs, R, k + 1, h => by
    simp only [RXs] at h
    obtain ⟨c, cs', R₁, R₂, rfl, _, _, h2, _⟩ := h
    simpa using RXs.drop k h2
theorem RXs.take {E : Env} : ∀ {xs : List X} {cs : List Value} {R : List Nat} (k : Nat), RXs E xs cs R → ∃ R', RXs E (xs.take k) (cs.take k) R'
  | [], cs, R, k, h => by simp only [RXs] at h; exact ⟨[], by simp [RXs, h.1]⟩
  | y :: r, cs, R, 0, h => ⟨[], by simp [RXs]⟩
  | y :: r, cs, R, k + 1, h => by
    simp only [RXs] at h
    obtain ⟨c, cs', R₁, R₂, rfl, hs, h1, h2, _⟩ := h
    obtain ⟨R', h'⟩ := RXs.take k h2
    exact ⟨R₁ ++ R', by simp only [List.take_succ_cons, RXs]; exact ⟨c, _, R₁, R', rfl, hs, h1, h', rfl⟩⟩

theorem run_part1 {t : TypeId} {cs : Array Value} {off : Nat} {u : Value} (ht : TY.shape P t = some none) (hu : cs[off]? = some u) (w : World) : (part t cs off).run P w = .ok u w := by
  simp only [part, Sem.run_bind, (TY.shape_none ht w).1, Result.andThen_ok, hu]; rfl
theorem run_partA {t : TypeId} {cs : Array Value} {off m : Nat} (ht : TY.shape P t = some (some m)) (w : World) : (part t cs off).run P w = .ok (.agg (cs.extract off (off + m))) w := by
  obtain ⟨h1, h2⟩ := TY.shape_some ht w
  simp only [part, Sem.run_bind, h1, Result.andThen_ok, if_true, h2]; rfl

theorem TY.fld_spec {t : TypeId} {f off : Nat} {ft : TypeId} (h : TY.fld P t f = some (off, ft)) : ∃ fs fd, P.underlying t = some (.struct fs) ∧ fs[f]? = some fd ∧ fd.offset = off ∧ fd.type = ft := by
  unfold TY.fld at h
  split at h
  · rename_i fs hu
    split at h
    · rename_i fd hf
      split at h
      · rename_i i hi
        cases hz : Nat.beq i.size 0 with
        | true => simp [hz] at h
        | false => rw [hz] at h; simp only [cond_false, Option.some.injEq, Prod.mk.injEq] at h; exact ⟨fs, fd, hu, hf, h.1, h.2⟩
      · cases h
    · cases h
  · cases h

/-- A field of a struct by value, of one cell. -/
theorem Y.field {t : TypeId} {x : Operand} {xs : List X} {y : X} {f off : Nat} {ft : TypeId} (ht : TY.fld P t f = some (off, ft)) (hs : TY.shape P ft = some none) (hx : opd st x = some (.agg xs)) (hy : xs[off]? = some y) (hf : y.free = true) :
    Yields P N st ⟨dst, .field t x f, ty, pos, af, g⟩ y := by
  intro G E RR a _ hi
  obtain ⟨R, hp⟩ := hi.eval hx
  simp only [RX] at hp
  obtain ⟨cs, hc, hxs⟩ := hp
  obtain ⟨u, R₁, hu, _, h1⟩ := RXs.get hxs hy
  have h0 := RX.free hf h1
  subst h0
  refine ⟨u, ?_, h1⟩
  show (do let z ← Instr.field t (a.eval x) f; pure (Next.value z) : Sem Next).run P E.w = _
  rw [hc]
  refine run_v ?_
  obtain ⟨fs, fd, hun, hfd, ho, hty⟩ := TY.fld_spec ht
  have hu' : cs[off]? = some u := by simpa using hu
  simp only [Instr.field, Sem.run_bind, run_underlying hun, Result.andThen_ok, hfd, asAgg, Sem.run_pure, ho, hty]
  exact run_part1 hs hu' E.w

/-- An element of an array by value, of one cell. -/
theorem Y.indexA {t len e : Nat} {x ix : Operand} {xs : List X} {y : X} {k : IntKind} {n : Int} {m : Nat} (ht : TY.array P t = some (len, e, 1)) (hs : TY.shape P e = some none) (hx : opd st x = some (.agg xs))
    (hix : opd st ix = some (.v (.int k n))) (hn : n = (m : Int)) (hm : m < len) (hy : xs[m]? = some y) (hf : y.free = true) : Yields P N st ⟨dst, .index t x ix, ty, pos, af, g⟩ y := by
  intro G E RR a _ hi
  obtain ⟨R, hp⟩ := hi.eval hx
  simp only [RX] at hp
  obtain ⟨cs, hc, hxs⟩ := hp
  obtain ⟨u, R₁, hu, _, h1⟩ := RXs.get hxs hy
  have h0 := RX.free hf h1
  subst h0
  refine ⟨u, ?_, h1⟩
  show (do let z ← Instr.index t (a.eval x) (a.eval ix); pure (Next.value z) : Sem Next).run P E.w = _
  rw [hc, hi.val hix]
  refine run_v ?_
  obtain ⟨hun, i, hinf, hsz⟩ := TY.array_spec ht
  subst hn
  have h1' : (0 : Int) ≤ (m : Int) ∧ (m : Int) < (len : Int) := by omega
  have hu' : cs[m]? = some u := by simpa using hu
  simp only [Instr.index, Sem.run_bind, asIntOf, Sem.run_pure, Result.andThen_ok, run_underlying hun, h1', and_self, if_true, run_sizeOf hinf, hsz, Int.toNat_natCast, Nat.mul_one]
  exact run_part1 hs hu' E.w

theorem Y.indexS {t : TypeId} {x ix : Operand} {b : ByteArray} {k : IntKind} {n : Int} {m : Nat} (ht : P.underlying t = some .string) (hx : opd st x = some (.v (.string b)))
    (hix : opd st ix = some (.v (.int k n))) (hn : n = (m : Int)) (hm : m < b.size) : Yields P N st ⟨dst, .index t x ix, ty, pos, af, g⟩ (.v (.int .u8 (b[m].toNat : Int))) := by
  intro G E RR a _ hi
  refine ⟨.int .u8 (b[m].toNat : Int), ?_, by simp [RX]⟩
  show (do let z ← Instr.index t (a.eval x) (a.eval ix); pure (Next.value z) : Sem Next).run P E.w = _
  rw [hi.val hx, hi.val hix]
  refine run_v ?_
  subst hn
  have h0 : (0 : Int) ≤ (m : Int) := by omega
  simp [Instr.index, asIntOf, run_underlying ht, h0, getElem?_pos b m hm]

end
end Go.AW
