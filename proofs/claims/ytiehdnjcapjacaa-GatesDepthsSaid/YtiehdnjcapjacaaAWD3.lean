/- Part of the abstract walk: the greater and the less of two numbers; more of what does not look at memory; calls in the form that gives a fact on the result. -/
import Derived.Test.YtiehdnjcapjacaaAWD2
namespace Go.AW
open Go

section
variable {P : Program} {N : Frm} {st : St} {Q : Exit → St → Prop} {all : Array Oper} {rest : List Oper} {dst : Option Nat} {d : Nat} {ty : TypeId} {pos : String} {af : Array Edge} {g : Option (Nat × Bool)}

theorem Y.max {t t' : TypeId} {x y : Operand} {k : IntKind} {a b r : Int} (hx : opd st x = some (.v (.int k a))) (hy : opd st y = some (.v (.int k b))) (hr : r = if b > a then b else a) :
    Yields P N st ⟨dst, .call ⟨.builtin .max, #[x, y], #[t, t']⟩, ty, pos, af, g⟩ (.v (.int k r)) := by
  subst hr
  intro G E RR ac _ hi
  refine ⟨.int k (if b > a then b else a), run_callB ?_, by simp [RX]⟩
  have h1 := hi.val hx
  have h2 := hi.val hy
  simp [builtin, Builtin.max_, h1, h2, Builtin.max2]
theorem Y.min {t t' : TypeId} {x y : Operand} {k : IntKind} {a b r : Int} (hx : opd st x = some (.v (.int k a))) (hy : opd st y = some (.v (.int k b))) (hr : r = if b < a then b else a) :
    Yields P N st ⟨dst, .call ⟨.builtin .min, #[x, y], #[t, t']⟩, ty, pos, af, g⟩ (.v (.int k r)) := by
  subst hr
  intro G E RR ac _ hi
  refine ⟨.int k (if b < a then b else a), run_callB ?_, by simp [RX]⟩
  have h1 := hi.val hx
  have h2 := hi.val hy
  simp [builtin, Builtin.min_, h1, h2, Builtin.min2]

theorem Blind.extract {x : Operand} {xs : List X} {y : X} {k : Nat} (hx : opd st x = some (.tup xs)) (hy : xs[k]? = some y) (hf : y.free = true) : Blind P N st ⟨dst, .extract x k, ty, pos, af, g⟩ y := by
  intro G E RR a _ hi
  obtain ⟨R, hp⟩ := hi.eval hx
  simp only [RX] at hp
  obtain ⟨cs, hc, hxs⟩ := hp
  obtain ⟨u, R₁, hu, h1⟩ := RXt.get hxs hy
  have h0 := RX.free hf h1
  subst h0
  refine ⟨u, fun w => ?_, h1⟩
  show (do let z ← Instr.extract (a.eval x) k; pure (Next.value z) : Sem Next).run P w = _
  rw [hc]
  refine run_v ?_
  have hu' : cs[k]? = some u := by simpa using hu
  simp only [Instr.extract, hu']; rfl

theorem Y.addE {t t' : TypeId} {x y : Operand} {a b r : Int} (hx : opd st x = some (.v (.int .i64 a))) (hy : opd st y = some (.v (.int .i64 b))) (he : a + b = r) (hr : -9223372036854775808 ≤ r ∧ r ≤ 9223372036854775807) : Yields P N st ⟨dst, .binOp .add t x y t', ty, pos, af, g⟩ (.v (.int .i64 r)) := by
  subst he; exact Y.addI hx hy hr
theorem Y.subE {t t' : TypeId} {x y : Operand} {a b r : Int} (hx : opd st x = some (.v (.int .i64 a))) (hy : opd st y = some (.v (.int .i64 b))) (he : a - b = r) (hr : -9223372036854775808 ≤ r ∧ r ≤ 9223372036854775807) : Yields P N st ⟨dst, .binOp .sub t x y t', ty, pos, af, g⟩ (.v (.int .i64 r)) := by
  subst he; exact Y.subI hx hy hr
/-- An append of a slice that is written no more. -/
theorem AOps.appendFE {t e s by_ : Nat} {z : List Value} {x y : Operand} {o lo n : Nat} {rs new : List (List X)} (rs' : List (List X)) (n' : Nat) (ht : TY.slice P t = some (e, s, by_)) (hz : TY.zero P e = some z) (hzl : Nat.beq z.length s = true)
    (hy : opd st y = some (.fz s new)) (hx : opd st x = some (.slc o s lo n)) (ho : look st.objs o = some (.rows s rs)) (hln : lo + n ≤ rs.length)
    (he : ((rs.drop lo).take n) ++ new = rs') (hn' : n + new.length = n') (hb46 : n' * by_ ≤ 70368744177664) (h62 : n' ≤ 4611686018427387904) (hF : N.F.elem o = false) (hd : d < N.n)
    (k : AOps P N all rest ((((st.kill o).putO o (.rows s rs'))).put d (.slc o s 0 n')) Q) :
    AOps P N all (⟨some d, .call ⟨.builtin .append, #[x, y], #[t, t]⟩, ty, pos, af, none⟩ :: rest) st Q := by
  subst he hn'
  exact AOps.appendF ht hz hzl hy hx ho hln hb46 h62 hF hd k
theorem uni_ffz {α : Type} {f : α → List X} (h : ∀ a, X.frees (f a) = true) (s : Nat) (l : List α) : (X.uni s (l.map f)).ffz = .fz s (l.map f) := by
  simp only [X.ffz]
  rw [X.ffzr_frees (Frees.map h)]
theorem rtrue {p : Prop} [Decidable p] (h : p) : X.v (.bool (decide p)) = X.v (.bool true) := by rw [decide_eq_true h]

theorem wf_u8 {z : Int} (h : (Lit.int .u8 z).wf = true) : 0 ≤ z ∧ z ≤ 255 := by
  simp only [Lit.wf, IntKind.min, IntKind.max, IntKind.signed, IntKind.bits] at h
  simpa using h
theorem wf_u16 {z : Int} (h : (Lit.int .u16 z).wf = true) : 0 ≤ z ∧ z ≤ 65535 := by
  simp only [Lit.wf, IntKind.min, IntKind.max, IntKind.signed, IntKind.bits] at h
  simpa using h
theorem wf_i64 {z : Int} (h : (Lit.int .i64 z).wf = true) : -9223372036854775808 ≤ z ∧ z ≤ 9223372036854775807 := by
  simp only [Lit.wf, IntKind.min, IntKind.max, IntKind.signed, IntKind.bits] at h
  simpa using h
end
end Go.AW
