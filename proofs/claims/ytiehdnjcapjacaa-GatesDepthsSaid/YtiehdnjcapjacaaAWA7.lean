/- Part of the abstract walk: lengths, parts of slices, tuples, structs that are built. -/
import Derived.Test.YtiehdnjcapjacaaAWA6
namespace Go.AW
open Go

section
variable {P : Program} {N : Frm} {st : St} {dst : Option Nat} {ty : TypeId} {pos : String} {af : Array Edge} {g : Option (Nat × Bool)}

theorem run_callB {b : Builtin} {args : Array Operand} {ats : Array TypeId} {a : Act} {w w' : World} {r : Next}
    (h : (builtin b ats ty (args.map fun | .const _ => true | _ => false) (args.map a.eval)).run P w = .ok r w') :
    (execOp a.eval ⟨dst, .call ⟨.builtin b, args, ats⟩, ty, pos, af, g⟩).run P w = .ok r w' := h

/-- How long a value is that is a slice or a string. -/
def X.len : X → Option Nat
  | .fz _ rows => some rows.length
  | .uni _ rows => some rows.length
  | .slc _ _ _ n => some n
  | .v (.slice none n _) => some n
  | _ => none

theorem RX.len {E : Env} {x : X} {c : Value} {R : List Nat} {n : Nat} (hn : x.len = some n) (h : RX E x c R) : ∃ base cap, c = .slice base n cap := by
  cases x with
  | fz s rows =>
    simp only [X.len, Option.some.injEq] at hn; subst hn
    simp only [RX] at h
    obtain ⟨_, _, base, cap, hc, _⟩ := h
    exact ⟨base, cap, hc⟩
  | uni s rows =>
    simp only [X.len, Option.some.injEq] at hn; subst hn
    simp only [RX] at h
    obtain ⟨_, base, cap, hc, _⟩ := h
    exact ⟨base, cap, hc⟩
  | slc o s lo m =>
    simp only [X.len, Option.some.injEq] at hn; subst hn
    simp only [RX] at h
    obtain ⟨_, base, cap, hc, _⟩ := h
    exact ⟨base, cap, hc⟩
  | v u =>
    simp only [RX] at h
    cases u with
    | slice b m c' =>
      cases b with
      | none => simp only [X.len, Option.some.injEq] at hn; subst hn; exact ⟨none, c', h.1⟩
      | some b => simp [X.len] at hn
    | _ => simp [X.len] at hn
  | _ => simp [X.len] at hn

theorem Y.len {t e s by_ : Nat} {x : Operand} {y : X} {n : Nat} (ht : TY.slice P t = some (e, s, by_)) (hx : opd st x = some y) (hn : y.len = some n) :
    Yields P N st ⟨dst, .call ⟨.builtin .len, #[x], #[t]⟩, ty, pos, af, g⟩ (.v (.int .i64 (n : Int))) := by
  intro G E RR a _ hi
  obtain ⟨R, hp⟩ := hi.eval hx
  obtain ⟨base, cap, hc⟩ := hp.len hn
  refine ⟨.int .i64 (n : Int), run_callB ?_, by simp [RX]⟩
  obtain ⟨hu, _⟩ := TY.slice_spec ht
  simp [builtin, Builtin.len_, hc, run_underlying hu, goInt]

theorem Y.lenS {t : TypeId} {x : Operand} {b : ByteArray} (ht : P.underlying t = some .string) (hx : opd st x = some (.v (.string b))) :
    Yields P N st ⟨dst, .call ⟨.builtin .len, #[x], #[t]⟩, ty, pos, af, g⟩ (.v (.int .i64 (b.size : Int))) := by
  intro G E RR a _ hi
  refine ⟨.int .i64 (b.size : Int), run_callB ?_, by simp [RX]⟩
  have hc := hi.val hx
  simp [builtin, Builtin.len_, hc, run_underlying ht, goInt]

/-- The length of an array behind a pointer or by value. -/
theorem Y.lenA {t len e s : Nat} {x : Operand} (ht : TY.array P t = some (len, e, s)) :
    Yields P N st ⟨dst, .call ⟨.builtin .len, #[x], #[t]⟩, ty, pos, af, g⟩ (.v (.int .i64 (len : Int))) := by
  intro G E RR a _ hi
  refine ⟨.int .i64 (len : Int), run_callB ?_, by simp [RX]⟩
  obtain ⟨hu, _⟩ := TY.array_spec ht
  simp [builtin, Builtin.len_, run_underlying hu, goInt]

theorem mx_run {k : IntKind} {x y : Int} (w : World) : (builtin .max #[] ty #[false, false] #[.int k x, .int k y]).run P w = (do let v ← Builtin.max_ #[] ty #[.int k x, .int k y]; pure (Next.value v) : Sem Next).run P w := rfl

/-- A bound of a part of a slice. -/
def bound (st : St) (d : Nat) : Option Operand → Option Nat → Prop
  | none, m => m = none ∨ m = some d
  | some x, some m => ∃ k, opd st x = some (.v (.int k (m : Int)))
  | some _, none => False

theorem run_sliceBound {k : IntKind} {m y : Nat} {code : BoundsCode} (h : m ≤ y) (w : World) : (Instr.sliceBound (.int k (m : Int)) y code).run P w = .ok m w := by
  have h1 : (0 : Int) ≤ (m : Int) ∧ (m : Int) ≤ (y : Int) := by omega
  simp only [Instr.sliceBound, asIntOf, Sem.run_bind, Sem.run_pure, Result.andThen_ok, h1, and_self, if_true, Int.toNat_natCast]

inductive Bd (st : St) : Option Operand → Nat → Nat → Prop where
  | none (d : Nat) : Bd st none d d
  | some {x : Operand} {k : IntKind} {m d : Nat} (h : opd st x = some (.v (.int k (m : Int)))) : Bd st (some x) d m

/-- The bounds of a part, as the model takes them. -/
theorem run_sliceBounds {G : Ctx} {E : Env} {RR : Own → List Nat} {a : Act} (hi : Inv G E RR st a) {lo hi' : Option Operand} {len cap l h : Nat}
    (hl : Bd st lo 0 l) (hh : Bd st hi' len h) (h1 : l ≤ h) (h2 : h ≤ cap) (isS : Bool) (w : World) :
    (Instr.sliceBounds isS len cap (lo.map a.eval) (hi'.map a.eval) none).run P w = .ok (l, h, cap) w := by
  cases hl with
  | none =>
    cases hh with
    | none => simp [Instr.sliceBounds]
    | some hx => simp [Instr.sliceBounds, hi.val hx, run_sliceBound h2]
  | some hy =>
    cases hh with
    | none => simp [Instr.sliceBounds, hi.val hy, run_sliceBound h1]
    | some hx => simp [Instr.sliceBounds, hi.val hx, hi.val hy, run_sliceBound h1, run_sliceBound h2]

/-- A part of a frozen slice. -/
theorem Y.sliceF {t e s by_ : Nat} {x : Operand} {lo hi' : Option Operand} {rows : List (List X)} {l h : Nat} {rows' : List (List X)} (ht : TY.slice P t = some (e, s, by_)) (hx : opd st x = some (.fz s rows))
    (hl : Bd st lo 0 l) (hh : Bd st hi' rows.length h) (h1 : l ≤ h) (h2 : h ≤ rows.length) (hr : (rows.take h).drop l = rows') :
    Yields P N st ⟨dst, .slice t x lo hi' none, ty, pos, af, g⟩ (.fz s rows') := by
  intro G E RR a _ hi
  obtain ⟨R, hp⟩ := hi.eval hx
  simp only [RX] at hp
  obtain ⟨_, hu, base, cap, hc, hcase⟩ := hp
  obtain ⟨hun, i, hinf, hsz, _⟩ := TY.slice_spec ht
  subst hr
  have hcap : h ≤ cap := by
    rcases hcase with ⟨h', hcp⟩ | ⟨_, _, _, hl', _⟩
    · subst h'; simp at h2; omega
    · omega
  refine ⟨.slice (if cap = l then base else base.map (·.add (l * s))) (h - l) (cap - l), ?_, ?_⟩
  · show (do let z ← Instr.sliceAt t (a.eval x) (lo.map a.eval) (hi'.map a.eval) none; pure (Next.value z) : Sem Next).run P E.w = _
    rw [hc]
    refine run_v ?_
    simp only [Instr.sliceAt, Sem.run_bind, run_underlying hun, Result.andThen_ok, Instr.slice, run_sliceBounds hi hl hh h1 hcap, run_sizeOf hinf, hsz]
    rfl
  · have hlen : ((rows.take h).drop l).length = h - l := by simp; omega
    simp only [RX, hlen]
    refine ⟨trivial, (hu.take h).drop l, _, _, rfl, ?_⟩
    rcases hcase with ⟨h', hcp⟩ | ⟨b, off, hb, hl', hf⟩
    · exact .inl ⟨by subst h'; simp, by omega⟩
    · refine .inr ?_
      subst hb
      by_cases hcl : cap = l
      · refine ⟨b, off, by rw [if_pos hcl], by omega, ?_⟩
        have : (rows.take h).drop l = [] := by
          apply List.eq_nil_of_length_eq_zero
          rw [hlen]; omega
        rw [this]; simp [RFr]
      · refine ⟨b, off + l * s, by rw [if_neg hcl]; simp [add_mk], by omega, ?_⟩
        exact RFr.drop l (hu.take h) (by simp; omega) (hf.take h)

/-- A part of a slice over an object. -/
theorem Y.sliceO {t e s by_ : Nat} {x : Operand} {lo hi' : Option Operand} {o lo0 n l h : Nat} (ht : TY.slice P t = some (e, s, by_)) (hx : opd st x = some (.slc o s lo0 n))
    (hl : Bd st lo 0 l) (hh : Bd st hi' n h) (h1 : l ≤ h) (h2 : h ≤ n) : Yields P N st ⟨dst, .slice t x lo hi' none, ty, pos, af, g⟩ (.slc o s (lo0 + l) (h - l)) := by
  intro G E RR a _ hi
  obtain ⟨R, hp⟩ := hi.eval hx
  simp only [RX] at hp
  obtain ⟨_, base, cap, hc, hcase⟩ := hp
  obtain ⟨hun, i, hinf, hsz, _⟩ := TY.slice_spec ht
  have hcap : h ≤ cap := by
    rcases hcase with ⟨_, _, h', _⟩ | ⟨_, _, _, h', _⟩ <;> omega
  refine ⟨.slice (if cap = l then base else base.map (·.add (l * s))) (h - l) (cap - l), ?_, ?_⟩
  · show (do let z ← Instr.sliceAt t (a.eval x) (lo.map a.eval) (hi'.map a.eval) none; pure (Next.value z) : Sem Next).run P E.w = _
    rw [hc]
    refine run_v ?_
    simp only [Instr.sliceAt, Sem.run_bind, run_underlying hun, Result.andThen_ok, Instr.slice, run_sliceBounds hi hl hh h1 hcap, run_sizeOf hinf, hsz]
    rfl
  · simp only [RX]
    refine ⟨trivial, _, _, rfl, ?_⟩
    rcases hcase with ⟨hβ, hlo, hn, hcp⟩ | ⟨B, hβ, hlc, hn, hb⟩
    · exact .inl ⟨hβ, by omega, by omega, by omega⟩
    · refine .inr ⟨B, hβ, by omega, by omega, ?_⟩
      by_cases hcl : cap = l
      · left; omega
      · right
        have := hb.resolve_left (by omega)
        rw [if_neg hcl, this]
        simp only [Option.map_some, add_mk, Nat.add_mul, Nat.add_assoc]

theorem Y.sliceS {t : TypeId} {x : Operand} {lo hi' : Option Operand} {b : ByteArray} {l h : Nat} (ht : P.underlying t = some .string) (hx : opd st x = some (.v (.string b)))
    (hl : Bd st lo 0 l) (hh : Bd st hi' b.size h) (h1 : l ≤ h) (h2 : h ≤ b.size) : Yields P N st ⟨dst, .slice t x lo hi' none, ty, pos, af, g⟩ (.v (.string (b.extract l h))) := by
  intro G E RR a _ hi
  refine ⟨.string (b.extract l h), ?_, by simp [RX]⟩
  show (do let z ← Instr.sliceAt t (a.eval x) (lo.map a.eval) (hi'.map a.eval) none; pure (Next.value z) : Sem Next).run P E.w = _
  rw [hi.val hx]
  refine run_v ?_
  simp only [Instr.sliceAt, Sem.run_bind, run_underlying ht, Result.andThen_ok, Instr.slice, Option.isSome_none, Bool.false_eq_true, if_false, Sem.run_pure, run_sliceBounds hi hl hh h1 h2]

theorem RXt.get {E : Env} : ∀ {xs : List X} {cs : List Value} {R : List Nat} {k : Nat} {x : X}, RXt E xs cs R → xs[k]? = some x → ∃ u R₁, cs[k]? = some u ∧ RX E x u R₁
  | [], _, _, _, _, _, h => by simp at h
  | y :: r, cs, R, 0, x, h, hx => by
    simp only [RXt] at h
    simp only [List.getElem?_cons_zero, Option.some.injEq] at hx
    subst hx
    obtain ⟨c, cs', R₁, R₂, rfl, h1, _, _⟩ := h
    exact ⟨c, R₁, rfl, h1⟩
  | y :: r, cs, R, k + 1, x, h, hx => by
    simp only [RXt] at h
    obtain ⟨c, cs', R₁, R₂, rfl, _, h2, _⟩ := h
    obtain ⟨u, R₃, hu, h3⟩ := RXt.get (k := k) h2 (by simpa using hx)
    exact ⟨u, R₃, by simpa using hu, h3⟩

theorem Y.extract {x : Operand} {xs : List X} {y : X} {k : Nat} (hx : opd st x = some (.tup xs)) (hy : xs[k]? = some y) (hf : y.free = true) : Yields P N st ⟨dst, .extract x k, ty, pos, af, g⟩ y := by
  intro G E RR a _ hi
  obtain ⟨R, hp⟩ := hi.eval hx
  simp only [RX] at hp
  obtain ⟨cs, hc, hxs⟩ := hp
  obtain ⟨u, R₁, hu, h1⟩ := RXt.get hxs hy
  have h0 := RX.free hf h1
  subst h0
  refine ⟨u, ?_, h1⟩
  show (do let z ← Instr.extract (a.eval x) k; pure (Next.value z) : Sem Next).run P E.w = _
  rw [hc]
  refine run_v ?_
  have hu' : cs[k]? = some u := by simpa using hu
  simp only [Instr.extract, hu']; rfl

/-- A pointer that is none. -/
theorem Y.nilCheck {x : Operand} {p q : X} (hx : opd st x = some p) (hq : p.on 0 = some q) : Yields P N st ⟨dst, .nilCheck x, ty, pos, af, g⟩ q := by
  intro G E RR a _ hi
  obtain ⟨R, hp⟩ := hi.eval hx
  obtain ⟨b, off, hc, h⟩ := hp.on hq
  refine ⟨_, ?_, h⟩
  simp only [execOp, hc]; rfl

/-- It fills one cell. -/
def X.one : X → Bool
  | .v (.agg _) | .v (.tuple _) => false
  | .v _ | .fz .. | .uni .. | .ptr .. | .slc .. | .mref _ | .fp .. | .clo .. => true
  | .no | .agg _ | .tup _ => false

theorem RX.one {E : Env} {x : X} {c : Value} {R : List Nat} (ho : x.one = true) (h : RX E x c R) : Single c := by
  cases x with
  | v u =>
    simp only [RX] at h
    rw [h.1]
    cases u <;> first | trivial | (simp [X.one] at ho)
  | fz s rows => simp only [RX] at h; obtain ⟨_, _, _, _, rfl, _⟩ := h; trivial
  | uni s rows => simp only [RX] at h; obtain ⟨_, _, _, rfl, _⟩ := h; trivial
  | ptr o s i k => simp only [RX] at h; obtain ⟨_, _, _, rfl⟩ := h; trivial
  | slc o s lo n => simp only [RX] at h; obtain ⟨_, _, _, rfl, _⟩ := h; trivial
  | mref o => simp only [RX] at h; obtain ⟨_, _, _, rfl⟩ := h; trivial
  | fp row k => simp only [RX] at h; obtain ⟨_, _, _, rfl, _⟩ := h; trivial
  | clo fn f c => simp only [RX] at h; obtain ⟨_, _, _, rfl, _⟩ := h; trivial
  | _ => simp [X.one] at ho

/-- The cells of a value. -/
def X.flat : X → Option (List X)
  | .agg xs => some xs
  | x => bif x.one then some [x] else none

theorem cells_single {c : Value} (h : Single c) : c.cells = #[c] := by
  cases c <;> first | rfl | exact h.elim

theorem RX.flat {E : Env} {x : X} {c : Value} {R : List Nat} {ys : List X} (hf : x.flat = some ys) (h : RX E x c R) : RXs E ys c.cells.toList R := by
  by_cases hx : ∃ xs, x = .agg xs
  · obtain ⟨xs, rfl⟩ := hx
    simp only [X.flat, Option.some.injEq] at hf
    subst hf
    simp only [RX] at h
    obtain ⟨cs, rfl, h⟩ := h
    exact h
  · have h1 : x.one = true ∧ ys = [x] := by
      unfold X.flat at hf
      split at hf
      · exact absurd ⟨_, rfl⟩ hx
      · cases ho : x.one with
        | false => simp [ho] at hf
        | true => simp [ho] at hf; exact ⟨rfl, hf.symm⟩
    obtain ⟨ho, rfl⟩ := h1
    have hs := h.one ho
    rw [cells_single hs]
    simp only [RXs]
    exact ⟨c, [], R, [], rfl, hs, h, ⟨rfl, rfl⟩, by simp⟩

end
end Go.AW
