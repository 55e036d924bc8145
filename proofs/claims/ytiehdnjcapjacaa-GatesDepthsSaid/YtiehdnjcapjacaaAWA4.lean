/- Part of the abstract walk: the values of operations that leave memory as it is. -/
import Derived.Test.YtiehdnjcapjacaaAWA3
namespace Go.AW
open Go

section
variable {P : Program} {N : Frm} {st : St} {dst : Option Nat} {ty : TypeId} {pos : String} {af : Array Edge} {g : Option (Nat × Bool)}

theorem run_then {α β : Type} {s : Sem α} {f : α → Sem β} {w w' : World} {u : α} {r : Result β} (h : s.run P w = .ok u w') (h' : (f u).run P w' = r) : (s.bind f).run P w = r := by
  rw [show (s.bind f) = (s >>= f) from rfl, Sem.run_bind, h]; exact h'

theorem run_v {s : Sem Value} {w w' : World} {u : Value} (h : s.run P w = .ok u w') : (do let x ← s; pure (Next.value x) : Sem Next).run P w = .ok (.value u) w' :=
  run_then h rfl

theorem run_u {s : Sem Unit} {w w' : World} (h : s.run P w = .ok () w') : (do s; pure Next.skip : Sem Next).run P w = .ok .skip w' :=
  run_then h rfl

theorem Y.move {x : Operand} {y : X} (hx : opd st x = some y) (hf : y.free = true) : Yields P N st ⟨dst, .move x, ty, pos, af, g⟩ y := by
  intro G E RR a _ hi
  obtain ⟨R, h⟩ := hi.eval hx
  have := RX.free hf h
  subst this
  exact ⟨_, rfl, h⟩
theorem Y.assign {x : Operand} {y : X} (hx : opd st x = some y) (hf : y.free = true) : Yields P N st ⟨dst, .assign x, ty, pos, af, g⟩ y := by
  intro G E RR a _ hi
  obtain ⟨R, h⟩ := hi.eval hx
  have := RX.free hf h
  subst this
  exact ⟨_, rfl, h⟩

theorem Y.pick {c x y : Operand} {b : Bool} {z : X} (hc : opd st c = some (.v (.bool b))) (hz : opd st (if b then x else y) = some z) (hf : z.free = true) :
    Yields P N st ⟨dst, .pick c x y, ty, pos, af, g⟩ z := by
  intro G E RR a _ hi
  obtain ⟨R, h⟩ := hi.eval hz
  have := RX.free hf h
  subst this
  refine ⟨a.eval (if b then x else y), ?_, h⟩
  have hc' := hi.val hc
  simp only [execOp, hc']
  cases b <;> rfl

/-- A binary operator on two plain values. -/
theorem Y.bin {op : BinOp} {t t' : TypeId} {x y : Operand} {u v r : Value} (hx : opd st x = some (.v u)) (hy : opd st y = some (.v v))
    (hr : ∀ w, (do eqGuard op t x y u v; binOp op t u v : Sem Value).run P w = .ok r w) : Yields P N st ⟨dst, .binOp op t x y t', ty, pos, af, g⟩ (.v r) := by
  intro G E RR a _ hi
  refine ⟨r, ?_, by simp [RX]⟩
  show (do let x ← (do eqGuard op t x y (a.eval x) (a.eval y); binOp op t (a.eval x) (a.eval y) : Sem Value); pure (Next.value x) : Sem Next).run P E.w = _
  rw [hi.val hx, hi.val hy]
  exact run_v (hr _)

section ints
variable {t t' : TypeId} {x y : Operand} {k : IntKind} {a b r : Int}
theorem Y.add (hx : opd st x = some (.v (.int k a))) (hy : opd st y = some (.v (.int k b))) (hr : k.wrap (a + b) = r) : Yields P N st ⟨dst, .binOp .add t x y t', ty, pos, af, g⟩ (.v (.int k r)) :=
  Y.bin hx hy fun w => by subst hr; simp [eqGuard, binOp, Op.intArith]
theorem Y.sub (hx : opd st x = some (.v (.int k a))) (hy : opd st y = some (.v (.int k b))) (hr : k.wrap (a - b) = r) : Yields P N st ⟨dst, .binOp .sub t x y t', ty, pos, af, g⟩ (.v (.int k r)) :=
  Y.bin hx hy fun w => by subst hr; simp [eqGuard, binOp, Op.intArith]
theorem Y.mul (hx : opd st x = some (.v (.int k a))) (hy : opd st y = some (.v (.int k b))) (hr : k.wrap (a * b) = r) : Yields P N st ⟨dst, .binOp .mul t x y t', ty, pos, af, g⟩ (.v (.int k r)) :=
  Y.bin hx hy fun w => by subst hr; simp [eqGuard, binOp, Op.intArith]
theorem Y.quo (hx : opd st x = some (.v (.int k a))) (hy : opd st y = some (.v (.int k b))) (h0 : b ≠ 0) (hr : k.wrap (a.tdiv b) = r) : Yields P N st ⟨dst, .binOp .quo t x y t', ty, pos, af, g⟩ (.v (.int k r)) :=
  Y.bin hx hy fun w => by subst hr; simp [eqGuard, binOp, Op.intDiv, h0]
theorem Y.rem (hx : opd st x = some (.v (.int k a))) (hy : opd st y = some (.v (.int k b))) (h0 : b ≠ 0) (hr : a.tmod b = r) : Yields P N st ⟨dst, .binOp .rem t x y t', ty, pos, af, g⟩ (.v (.int k r)) :=
  Y.bin hx hy fun w => by subst hr; simp [eqGuard, binOp, Op.intDiv, h0]
theorem Y.and (hx : opd st x = some (.v (.int k a))) (hy : opd st y = some (.v (.int k b))) (hr : k.wrap (BitVec.ofInt k.bits a &&& BitVec.ofInt k.bits b).toNat = r) : Yields P N st ⟨dst, .binOp .and t x y t', ty, pos, af, g⟩ (.v (.int k r)) :=
  Y.bin hx hy fun w => by subst hr; simp [eqGuard, binOp, Op.intBits]
theorem Y.or (hx : opd st x = some (.v (.int k a))) (hy : opd st y = some (.v (.int k b))) (hr : k.wrap (BitVec.ofInt k.bits a ||| BitVec.ofInt k.bits b).toNat = r) : Yields P N st ⟨dst, .binOp .or t x y t', ty, pos, af, g⟩ (.v (.int k r)) :=
  Y.bin hx hy fun w => by subst hr; simp [eqGuard, binOp, Op.intBits]
theorem Y.xor (hx : opd st x = some (.v (.int k a))) (hy : opd st y = some (.v (.int k b))) (hr : k.wrap (BitVec.ofInt k.bits a ^^^ BitVec.ofInt k.bits b).toNat = r) : Yields P N st ⟨dst, .binOp .xor t x y t', ty, pos, af, g⟩ (.v (.int k r)) :=
  Y.bin hx hy fun w => by subst hr; simp [eqGuard, binOp, Op.intBits]
theorem Y.shl {k' : IntKind} (hx : opd st x = some (.v (.int k a))) (hy : opd st y = some (.v (.int k' b))) (h0 : 0 ≤ b) (hr : k.wrap (a * 2 ^ (min b.toNat k.bits)) = r) : Yields P N st ⟨dst, .binOp .shl t x y t', ty, pos, af, g⟩ (.v (.int k r)) :=
  Y.bin hx hy fun w => by subst hr; simp [eqGuard, binOp, Op.shift, Int.not_lt.2 h0]
theorem Y.shr {k' : IntKind} (hx : opd st x = some (.v (.int k a))) (hy : opd st y = some (.v (.int k' b))) (h0 : 0 ≤ b) (hr : a.fdiv (2 ^ (min b.toNat k.bits)) = r) : Yields P N st ⟨dst, .binOp .shr t x y t', ty, pos, af, g⟩ (.v (.int k r)) :=
  Y.bin hx hy fun w => by subst hr; simp [eqGuard, binOp, Op.shift, Int.not_lt.2 h0]
theorem Y.lss (hx : opd st x = some (.v (.int k a))) (hy : opd st y = some (.v (.int k b))) : Yields P N st ⟨dst, .binOp .lss t x y t', ty, pos, af, g⟩ (.v (.bool (decide (a < b)))) :=
  Y.bin hx hy fun w => by simp [eqGuard, binOp, Op.intCmp]
theorem Y.leq (hx : opd st x = some (.v (.int k a))) (hy : opd st y = some (.v (.int k b))) : Yields P N st ⟨dst, .binOp .leq t x y t', ty, pos, af, g⟩ (.v (.bool (decide (a ≤ b)))) :=
  Y.bin hx hy fun w => by simp [eqGuard, binOp, Op.intCmp]
theorem Y.gtr (hx : opd st x = some (.v (.int k a))) (hy : opd st y = some (.v (.int k b))) : Yields P N st ⟨dst, .binOp .gtr t x y t', ty, pos, af, g⟩ (.v (.bool (decide (b < a)))) :=
  Y.bin hx hy fun w => by simp [eqGuard, binOp, Op.intCmp]
theorem Y.geq (hx : opd st x = some (.v (.int k a))) (hy : opd st y = some (.v (.int k b))) : Yields P N st ⟨dst, .binOp .geq t x y t', ty, pos, af, g⟩ (.v (.bool (decide (b ≤ a)))) :=
  Y.bin hx hy fun w => by simp [eqGuard, binOp, Op.intCmp]
theorem Y.eql (hx : opd st x = some (.v (.int k a))) (hy : opd st y = some (.v (.int k b))) : Yields P N st ⟨dst, .binOp .eql t x y t', ty, pos, af, g⟩ (.v (.bool (decide (a = b)))) :=
  Y.bin hx hy fun w => by simp [eqGuard, binOp, Op.intCmp, BEq.beq]
theorem Y.neq (hx : opd st x = some (.v (.int k a))) (hy : opd st y = some (.v (.int k b))) : Yields P N st ⟨dst, .binOp .neq t x y t', ty, pos, af, g⟩ (.v (.bool (decide (a ≠ b)))) :=
  Y.bin hx hy fun w => by simp [eqGuard, binOp, Op.intCmp, bne, BEq.beq]
end ints

theorem run_equal_bool {t : TypeId} {a b : Bool} (ht : P.underlying t = some .bool) (w : World) : (Op.equal t (.bool a) (.bool b)).run P w = .ok (a == b) w := by
  show (Op.equalIn (9999 + 1) t (.bool a) (.bool b)).run P w = _
  generalize 9999 = d
  simp [Op.equalIn, run_underlying ht]

theorem Y.eqlB {t t' : TypeId} {x y : Operand} {a b : Bool} (ht : P.underlying t = some .bool) (hx : opd st x = some (.v (.bool a))) (hy : opd st y = some (.v (.bool b))) :
    Yields P N st ⟨dst, .binOp .eql t x y t', ty, pos, af, g⟩ (.v (.bool (a == b))) :=
  Y.bin hx hy fun w => by
    show (do let z ← Op.equal t (.bool a) (.bool b); pure (Value.bool z) : Sem Value).run P w = _
    exact run_then (run_equal_bool ht w) rfl
theorem Y.neqB {t t' : TypeId} {x y : Operand} {a b : Bool} (ht : P.underlying t = some .bool) (hx : opd st x = some (.v (.bool a))) (hy : opd st y = some (.v (.bool b))) :
    Yields P N st ⟨dst, .binOp .neq t x y t', ty, pos, af, g⟩ (.v (.bool (a != b))) :=
  Y.bin hx hy fun w => by
    show (do let z ← Op.equal t (.bool a) (.bool b); pure (Value.bool (!z)) : Sem Value).run P w = _
    exact run_then (run_equal_bool ht w) rfl
theorem Y.eqlS {t t' : TypeId} {x y : Operand} {a b : ByteArray} (hx : opd st x = some (.v (.string a))) (hy : opd st y = some (.v (.string b))) :
    Yields P N st ⟨dst, .binOp .eql t x y t', ty, pos, af, g⟩ (.v (.bool (a.toList == b.toList))) :=
  Y.bin hx hy fun _ => rfl
theorem Y.neqS {t t' : TypeId} {x y : Operand} {a b : ByteArray} (hx : opd st x = some (.v (.string a))) (hy : opd st y = some (.v (.string b))) :
    Yields P N st ⟨dst, .binOp .neq t x y t', ty, pos, af, g⟩ (.v (.bool (!(a.toList == b.toList)))) :=
  Y.bin hx hy fun _ => rfl

/-- A unary operator. -/
theorem Y.un {op : UnOp} {t : TypeId} {x : Operand} {u r : Value} (hx : opd st x = some (.v u)) (hr : ∀ w, (Op.unary op u).run P w = .ok r w) : Yields P N st ⟨dst, .unOp op t x, ty, pos, af, g⟩ (.v r) := by
  intro G E RR a _ hi
  refine ⟨r, ?_, by simp [RX]⟩
  show (do let x ← Op.unary op (a.eval x); pure (Next.value x) : Sem Next).run P E.w = _
  rw [hi.val hx]
  exact run_v (hr _)
theorem Y.not {t : TypeId} {x : Operand} {b : Bool} (hx : opd st x = some (.v (.bool b))) : Yields P N st ⟨dst, .unOp .not t x, ty, pos, af, g⟩ (.v (.bool (!b))) :=
  Y.un hx fun _ => rfl
theorem Y.neg {t : TypeId} {x : Operand} {k : IntKind} {n r : Int} (hx : opd st x = some (.v (.int k n))) (hr : k.wrap (0 - n) = r) : Yields P N st ⟨dst, .unOp .neg t x, ty, pos, af, g⟩ (.v (.int k r)) :=
  Y.un hx fun _ => by subst hr; rfl

theorem Y.conv {s d : TypeId} {x : Operand} {k k' : IntKind} {n r : Int} (hs : TY.isInt P s = some k') (hd : TY.isInt P d = some k) (hx : opd st x = some (.v (.int k' n))) (hr : k.wrap n = r) :
    Yields P N st ⟨dst, .convert s d x, ty, pos, af, g⟩ (.v (.int k r)) := by
  intro G E RR a _ hi
  refine ⟨.int k r, ?_, by simp [RX]⟩
  show (do let x ← convert s d (a.eval x); pure (Next.value x) : Sem Next).run P E.w = _
  rw [hi.val hx]
  refine run_v ?_
  have h1 : P.underlying s = some (.int k') := by unfold TY.isInt at hs; split at hs <;> simp_all
  have h2 : P.underlying d = some (.int k) := by unfold TY.isInt at hd; split at hd <;> simp_all
  simp [convert, run_underlying h1, run_underlying h2, Conv.intToInt, hr]

end
end Go.AW
