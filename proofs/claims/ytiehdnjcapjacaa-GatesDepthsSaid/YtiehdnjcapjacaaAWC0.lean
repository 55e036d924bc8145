/- Part of the abstract walk: the rules in the forms that proofs use. -/
import Derived.Test.YtiehdnjcapjacaaAWB9
namespace Go.AW
open Go

section
variable {P : Program} {N : Frm} {st : St} {Q : Exit → St → Prop} {all : Array Oper} {rest : List Oper} {d : Nat} {ty : TypeId} {pos : String} {af : Array Edge}

theorem AWp.condT {c : Operand} {x y : Code} (hc : opd st c = some (.v (.bool true))) (h : AWp P N x st Q) : AWp P N (.cond c x y) st Q := AWp.cond hc (fun _ => h) (fun h => by cases h)
theorem AWp.condF {c : Operand} {x y : Code} (hc : opd st c = some (.v (.bool false))) (h : AWp P N y st Q) : AWp P N (.cond c x y) st Q := AWp.cond hc (fun h => by cases h) (fun _ => h)

section ints
variable {dst : Option Nat} {g : Option (Nat × Bool)} {t t' : TypeId} {x y : Operand} {a b : Int}
/-- Sums that stay in range. -/
theorem Y.addI (hx : opd st x = some (.v (.int .i64 a))) (hy : opd st y = some (.v (.int .i64 b))) (hr : -9223372036854775808 ≤ a + b ∧ a + b ≤ 9223372036854775807) : Yields P N st ⟨dst, .binOp .add t x y t', ty, pos, af, g⟩ (.v (.int .i64 (a + b))) :=
  Y.add hx hy (IntWalk.i64_in _ hr)
theorem Y.subI (hx : opd st x = some (.v (.int .i64 a))) (hy : opd st y = some (.v (.int .i64 b))) (hr : -9223372036854775808 ≤ a - b ∧ a - b ≤ 9223372036854775807) : Yields P N st ⟨dst, .binOp .sub t x y t', ty, pos, af, g⟩ (.v (.int .i64 (a - b))) :=
  Y.sub hx hy (IntWalk.i64_in _ hr)
theorem Y.mulI (hx : opd st x = some (.v (.int .i64 a))) (hy : opd st y = some (.v (.int .i64 b))) (hr : -9223372036854775808 ≤ a * b ∧ a * b ≤ 9223372036854775807) : Yields P N st ⟨dst, .binOp .mul t x y t', ty, pos, af, g⟩ (.v (.int .i64 (a * b))) :=
  Y.mul hx hy (IntWalk.i64_in _ hr)
theorem Y.quoI (hx : opd st x = some (.v (.int .i64 a))) (hy : opd st y = some (.v (.int .i64 b))) (hr : 0 ≤ a ∧ a ≤ 9223372036854775807 ∧ 1 ≤ b) : Yields P N st ⟨dst, .binOp .quo t x y t', ty, pos, af, g⟩ (.v (.int .i64 (a / b))) :=
  Y.quo hx hy (by omega) (IntWalk.i64_quo a b hr)
theorem Y.remI {k : IntKind} (hx : opd st x = some (.v (.int k a))) (hy : opd st y = some (.v (.int k b))) (hr : 0 ≤ a ∧ 1 ≤ b) : Yields P N st ⟨dst, .binOp .rem t x y t', ty, pos, af, g⟩ (.v (.int k (a % b))) :=
  Y.rem hx hy (by omega) (IntWalk.rem_in a b hr.1)
theorem Y.convI {s d : TypeId} {k' : IntKind} {n : Int} (hs : TY.isInt P s = some k') (hd : TY.isInt P d = some .i64) (hx : opd st x = some (.v (.int k' n))) (hr : -9223372036854775808 ≤ n ∧ n ≤ 9223372036854775807) :
    Yields P N st ⟨dst, .convert s d x, ty, pos, af, g⟩ (.v (.int .i64 n)) := Y.conv hs hd hx (IntWalk.i64_in _ hr)
end ints

theorem killM_nil (x : X) : killM [] x = x := rfl
theorem callSt_nil (st : St) : callSt st [] [] [] = st := by
  have h1 : ∀ (l : List (Nat × X)), l.map (fun p => (p.1, AW.killM [] p.2)) = l := by
    intro l
    induction l with
    | nil => rfl
    | cons p r ih => simp [killM_nil]
  have h2 : ∀ ob : Obj, ob.killM [] = ob := by
    intro ob
    cases ob with
    | cells xs =>
      have : xs.map (AW.killM []) = xs := by
        induction xs with
        | nil => rfl
        | cons x r ih => simp [ih, killM_nil]
      simp [Obj.killM, this]
    | rows => rfl
    | gone => rfl
  have h3 : ∀ (l : List (Nat × Obj)), l.map (fun p => (p.1, p.2.killM [])) = l := by
    intro l
    induction l with
    | nil => rfl
    | cons p r ih => simp [h2]
  cases st
  simp [callSt, St.killM, loose, enumF, h1, h3]

def ObjsAt (st : St) (ν : Nat → Nat) : Nat → List Obj → Prop
  | _, [] => True
  | j, ob :: r => look st.objs (ν j) = some (ob.ren ν) ∧ ObjsAt st ν (j + 1) r

theorem ObjsAt.get {ν : Nat → Nat} : ∀ {objs : List Obj} {i : Nat}, ObjsAt st ν i objs → ∀ j ob, objs[j]? = some ob → look st.objs (ν (i + j)) = some (ob.ren ν)
  | [], _, _, _, _, h => by simp at h
  | o :: r, i, h, j, ob, hj => by
    simp only [ObjsAt] at h
    cases j with
    | zero => simp at hj; subst hj; simpa using h.1
    | succ j =>
      have := ObjsAt.get h.2 j ob (by simpa using hj)
      rw [show i + (j + 1) = i + 1 + j by omega]; exact this

/-- A call that gets values alone. -/
theorem AOps.callV {f : FuncId} {fargs : Array Operand} {ats : Array TypeId} {xs args : List X} {Q' : X → List Obj → Prop} (hok : callOK P f = true) (hspec : ACalls P f args [] [] Q')
    (hxs : opds st fargs.toList = some xs) (hargs : LentL st [] (nameF []) xs args) (hd : d < N.n)
    (k : ∀ r, Q' r [] → r.lt 0 = true ∧ AOps P N all rest (st.put d (r.ren (nameF []))) Q) :
    AOps P N all (⟨some d, .call ⟨.value (.func f), fargs, ats⟩, ty, pos, af, none⟩ :: rest) st Q := by
  refine AOps.call [] [] hok hspec hxs hargs (fun j ob h => by simp at h) rfl List.nodup_nil (fun _ h => by cases h) (fun _ h => by cases h) (fun _ h => by cases h) hd ?_
  intro r objs' hq hl
  have : objs' = [] := List.eq_nil_of_length_eq_zero hl
  subst this
  obtain ⟨h1, h2⟩ := k r hq
  refine ⟨⟨h1, fun _ h => (by cases h), .inl rfl⟩, ?_⟩
  rw [callSt_nil]; exact h2

/-- .. and gives one. -/
theorem AOps.callR {f : FuncId} {fargs : Array Operand} {ats : Array TypeId} {xs args : List X} {R R' : X} (hok : callOK P f = true) (hspec : ACalls P f args [] [] (fun r o => r = R ∧ o = []))
    (hxs : opds st fargs.toList = some xs) (hargs : LentL st [] (nameF []) xs args) (hd : d < N.n) (hlt : R.lt 0 = true) (hR : R.ren (nameF []) = R')
    (k : AOps P N all rest (st.put d R') Q) : AOps P N all (⟨some d, .call ⟨.value (.func f), fargs, ats⟩, ty, pos, af, none⟩ :: rest) st Q := by
  refine AOps.callV hok hspec hxs hargs hd ?_
  rintro r ⟨rfl, _⟩
  rw [hR]; exact ⟨hlt, k⟩

/-- A call that sees some slices of the caller's as they stand. -/
theorem AOps.callL {f : FuncId} {fargs : Array Operand} {ats : Array TypeId} {xs args : List X} {R R' : X} (L : List Nat) (hok : callOK P f = true) (hspec : ACalls P f args [] [] (fun r o => r = R ∧ o = []))
    (hxs : opds st fargs.toList = some xs) (hargs : LentL st L (nameF []) xs args) (h0 : ∀ o ∈ L, ∃ ob, look st.objs o = some ob ∧ Owns0 ob) (hd : d < N.n) (hlt : R.lt 0 = true) (hR : R.ren (nameF []) = R') (hp : R.plain)
    (k : AOps P N all rest (st.put d R') Q) : AOps P N all (⟨some d, .call ⟨.value (.func f), fargs, ats⟩, ty, pos, af, none⟩ :: rest) st Q := by
  refine AOps.call [] L hok hspec hxs hargs (fun j ob h => by simp at h) rfl List.nodup_nil (fun _ _ h => by cases h) h0 (fun _ h => by cases h) hd ?_
  rintro r objs' ⟨rfl, rfl⟩ hl
  refine ⟨⟨hlt, fun _ h => (by cases h), .inr ⟨hp, fun _ h => (by cases h)⟩⟩, ?_⟩
  rw [callSt_nil, hR]; exact k

/-- A call with objects of the caller's: ν are their names. -/
theorem AOps.callO {f : FuncId} {fargs : Array Operand} {ats : Array TypeId} {xs args : List X} {objs : List Obj} {F : List Nat} {Q' : X → List Obj → Prop} (ν L : List Nat) (hok : callOK P f = true) (hspec : ACalls P f args objs F Q')
    (hxs : opds st fargs.toList = some xs) (hargs : LentL st L (nameF ν) xs args) (hobjs : ObjsAt st (nameF ν) 0 objs) (hlen : ν.length = objs.length) (hνn : ν.Nodup) (hLν : ∀ o ∈ L, o ∉ ν)
    (h0 : ∀ o ∈ L, ∃ ob, look st.objs o = some ob ∧ Owns0 ob) (hNF : ∀ o ∈ loose ν F, N.F.elem o = false) (hd : d < N.n)
    (k : ∀ r objs', Q' r objs' → objs'.length = objs.length → (r.lt objs.length = true ∧ (∀ ob ∈ objs', ob.lt objs.length = true) ∧ (L = [] ∨ (r.plain ∧ ∀ ob ∈ objs', ob.plain))) ∧ AOps P N all rest ((callSt st ν F objs').put d (r.ren (nameF ν))) Q) :
    AOps P N all (⟨some d, .call ⟨.value (.func f), fargs, ats⟩, ty, pos, af, none⟩ :: rest) st Q :=
  AOps.call ν L hok hspec hxs hargs (fun j ob h => by have := hobjs.get j ob h; rwa [Nat.zero_add] at this) hlen hνn hLν h0 hNF hd k

theorem getElem?_map' {α β : Type} {f : α → β} {l : List α} {m : Nat} {x : α} (h : l[m]? = some x) : (l.map f)[m]? = some (f x) := by simp [h]
theorem get_map {α β : Type} {f : α → β} {l : List α} {m : Nat} (h : m < l.length) : (l.map f)[m]? = some (f l[m]) := by simp [h]

theorem owns_map {α : Type} {s : Nat} {f : α → List X} {l : List α} (h : ∀ a, X.frees (f a) = true) : Owns0 (.rows s (l.map f)) := by
  intro r hr
  obtain ⟨a, _, rfl⟩ := List.mem_map.1 hr
  exact h a

end
end Go.AW
