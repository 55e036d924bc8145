/- Part of the abstract walk: more of what does not look at memory. -/
import Derived.Test.YtiehdnjcapjacaaAWx1
namespace Go.AW
open Go

section
variable {P : Program} {N : Frm} {st : St} {ty : TypeId} {pos : String} {af : Array Edge} {dst : Option Nat} {g : Option (Nat × Bool)}
theorem Blind.nilCheck {x : Operand} {p q : X} (hx : opd st x = some p) (hq : p.on 0 = some q) : Blind P N st ⟨dst, .nilCheck x, ty, pos, af, g⟩ q := by
  intro G E RR a _ hi
  obtain ⟨R, hp⟩ := hi.eval hx
  obtain ⟨b, off, hc, h⟩ := hp.on hq
  refine ⟨_, fun w => ?_, h⟩
  simp only [execOp, hc]; rfl
theorem Blind.fieldAddr {t : TypeId} {x : Operand} {p q : X} {f off : Nat} {ft : TypeId} (ht : TY.fld P t f = some (off, ft)) (hx : opd st x = some p) (hq : p.on off = some q) :
    Blind P N st ⟨dst, .fieldAddr t x f, ty, pos, af, g⟩ q := by
  intro G E RR a _ hi
  obtain ⟨R, hp⟩ := hi.eval hx
  obtain ⟨b, o, hc, h⟩ := hp.on hq
  refine ⟨_, fun w => ?_, h⟩
  show (do let z ← Instr.fieldAt t (a.eval x) f; pure (Next.value z) : Sem Next).run P w = _
  rw [hc]
  exact run_v (TY.fld_run ht b o w)
end
end Go.AW
/- Part of the abstract walk: nil slices inside structs; lent pointers under other names. -/
namespace Go.AW
open Go

section
variable {P : Program} {N : Frm} {st : St} {d : Nat}

theorem RXs.swap {E E' : Env} {x y : X} {post : List X} (hE : E.On E' []) (hxy : ∀ c, RX E x c [] → RX E' y c []) : ∀ {pre : List X} {cs : List Value}, (∀ q, X.ments q (pre ++ x :: post) = true → E'.β q = E.β q) →
    X.frees (pre ++ x :: post) = true → RXs E (pre ++ x :: post) cs [] → RXs E' (pre ++ y :: post) cs []
  | [], cs, hβ, hf, h => by
    simp only [List.nil_append, RXs] at h ⊢
    obtain ⟨c, cs', R₁, R₂, hc, hs, h1, h2, hR⟩ := h
    obtain ⟨rfl, rfl⟩ := List.append_eq_nil_iff.1 hR.symm
    exact ⟨c, cs', [], [], hc, hs, hxy c h1, RXs.mono post cs' [] hE (fun q hq => hβ q (by simp [X.ments, hq])) h2, rfl⟩
  | p :: pre, cs, hβ, hf, h => by
    simp only [List.cons_append, RXs] at h ⊢
    obtain ⟨c, cs', R₁, R₂, hc, hs, h1, h2, hR⟩ := h
    obtain ⟨rfl, rfl⟩ := List.append_eq_nil_iff.1 hR.symm
    simp only [List.cons_append, X.frees, Bool.and_eq_true] at hf
    exact ⟨c, cs', [], [], hc, hs, RX.mono p c [] hE (fun q hq => hβ q (by simp [X.ments, hq])) h1,
      RXs.swap hE hxy (pre := pre) (fun q hq => hβ q (by simp [X.ments, hq])) hf.2 h2, rfl⟩

/-- A nil slice in a struct by value, as a slice over an empty object. -/
theorem Sh.nilA (o s : Nat) (pre post : List X) (hx : look st.slots d = some (.agg (pre ++ .v (.slice none 0 0) :: post))) (hf : X.frees (pre ++ .v (.slice none 0 0) :: post) = true)
    (hm : X.ments o (pre ++ .v (.slice none 0 0) :: post) = false) (hF : N.F.elem o = false) : Sh N st (((st.kill o).putO o (.rows s [])).put d (.agg (pre ++ .slc o s 0 0 :: post))) := by
  intro G hn a w hh
  obtain ⟨E, RR, rfl, hi⟩ := hh
  have hv := hi.slots d _ hx
  have h0 : RR (.slot d) = [] := RX.free (x := .agg (pre ++ .v (.slice none 0 0) :: post)) hf hv
  rw [h0] at hv
  simp only [RX] at hv
  obtain ⟨cs, hc, hs⟩ := hv
  have hβ : Moves G E { E with β := fun q => if q = o then none else E.β q } (fun _ => False) :=
    ⟨rfl, fun _ h => h.elim, fun _ h => h.elim, fun _ _ _ => rfl, Nat.le_refl _, rfl, rfl, rfl⟩
  have h1 := hi.reobj hβ (o := o) (ob := .rows s []) (R := []) (fun _ h => h.elim) (fun q hq => by simp [hq]) (fun h => by rw [hn, hF] at h; cases h)
    (by simp only [ROb]; exact ⟨fun _ h => (by cases h), .inl ⟨by simp, trivial, trivial⟩⟩) List.nodup_nil (fun _ h => by cases h)
  have h2 : RX { E with β := fun q => if q = o then none else E.β q } (.agg (pre ++ .slc o s 0 0 :: post)) (a.tmps.getD d undef) [] := by
    simp only [RX]
    refine ⟨cs, hc, RXs.swap (E := E) (E' := { E with β := fun q => if q = o then none else E.β q }) ⟨fun _ _ _ h => h, fun _ h => by cases h⟩ (fun c hcx => ?_) (fun q hq => ?_) hf hs⟩
    · simp only [RX] at hcx ⊢
      exact ⟨trivial, none, 0, hcx.1, .inl ⟨by simp, by trivial, by trivial, by trivial⟩⟩
    · have : q ≠ o := fun e => by subst e; rw [hm] at hq; cases hq
      simp [this]
  exact ⟨{ E with β := fun q => if q = o then none else E.β q }, _, rfl, h1.relabel h2 List.nodup_nil (fun _ h => by cases h)⟩

/-- An argument whose names the callee knows under others. -/
theorem LentL.named {L : List Nat} {ν : Nat → Nat} {x y : X} {xs ys : List X} (h : x.free = true) (he : x.ren ν = y) (hs : LentL st L ν xs ys) : LentL st L ν (y :: xs) (x :: ys) := by
  subst he
  exact .cons (.same h) hs
end
end Go.AW
/- Part of the abstract walk: loops and joins over several variables; lists in the forms that the second generator uses. -/
namespace Go.AW
open Go

section
variable {P : Program} {N : Frm} {st : St} {Q : Exit → St → Prop}
/-- A join without variables. -/
theorem AWp.join0 {x y : Code} (J : St) (I : Prop) (hx : AWp P N x st (Then (fun st' => I ∧ Le st' J) Q)) (hy : I → AWp P N y J Q) : AWp P N (.seq x y) st Q :=
  AWp.join (fun _ : Unit => J) (fun _ => I) (hx.mono fun e _ h => by cases e <;> first | exact ⟨(), h⟩ | exact h) (fun _ h => hy h)
theorem AWp.loop0 {c : Code} (S : St) (I : Prop) (hi : I) (hs : Le st S) (round : I → AWp P N c S (Then (fun _ => False) Q)) : AWp P N (.loop c) st Q :=
  AWp.loop (fun _ : Unit => S) (fun _ => I) (fun _ => 0) () hi hs (fun _ h => (round h).mono fun e _ h => by cases e <;> first | exact h.elim | exact h)
theorem AWp.loop1 {α0 : Type} {c : Code} (S : α0 → St) (I : α0 → Prop) (μ : α0 → Nat) (i0 : α0) (hi : I i0) (hs : Le st (S i0))
    (round : ∀ a0, I a0 → AWp P N c (S a0) (Then (fun st' => ∃ b0, I b0 ∧ μ b0 < μ a0 ∧ Le st' (S b0)) Q)) : AWp P N (.loop c) st Q :=
  AWp.loop (ι := α0) (fun u => S u) (fun u => I u) (fun u => μ u) i0 hi hs (fun u h => (round u h).mono fun e _ h => by
    cases e <;> first | exact h | (obtain ⟨b0, h⟩ := h; exact ⟨b0, h⟩))
theorem AWp.join1 {α0 : Type} {x y : Code} (J : α0 → St) (I : α0 → Prop) (hx : AWp P N x st (Then (fun st' => ∃ b0, I b0 ∧ Le st' (J b0)) Q)) (hy : ∀ a0, I a0 → AWp P N y (J a0) Q) : AWp P N (.seq x y) st Q :=
  AWp.join (ι := α0) (fun u => J u) (fun u => I u) (hx.mono fun e _ h => by cases e <;> first | exact h | (obtain ⟨b0, h⟩ := h; exact ⟨b0, h⟩)) (fun u h => hy u h)
theorem AWp.loop2 {α0 α1 : Type} {c : Code} (S : α0 → α1 → St) (I : α0 → α1 → Prop) (μ : α0 → α1 → Nat) (i0 : α0) (i1 : α1) (hi : I i0 i1) (hs : Le st (S i0 i1))
    (round : ∀ a0 a1, I a0 a1 → AWp P N c (S a0 a1) (Then (fun st' => ∃ b0 b1, I b0 b1 ∧ μ b0 b1 < μ a0 a1 ∧ Le st' (S b0 b1)) Q)) : AWp P N (.loop c) st Q :=
  AWp.loop (ι := α0 × α1) (fun u => S u.1 u.2) (fun u => I u.1 u.2) (fun u => μ u.1 u.2) (i0, i1) hi hs (fun u h => (round u.1 u.2 h).mono fun e _ h => by
    cases e <;> first | exact h | (obtain ⟨b0, b1, h⟩ := h; exact ⟨(b0, b1), h⟩))
theorem AWp.join2 {α0 α1 : Type} {x y : Code} (J : α0 → α1 → St) (I : α0 → α1 → Prop) (hx : AWp P N x st (Then (fun st' => ∃ b0 b1, I b0 b1 ∧ Le st' (J b0 b1)) Q)) (hy : ∀ a0 a1, I a0 a1 → AWp P N y (J a0 a1) Q) : AWp P N (.seq x y) st Q :=
  AWp.join (ι := α0 × α1) (fun u => J u.1 u.2) (fun u => I u.1 u.2) (hx.mono fun e _ h => by cases e <;> first | exact h | (obtain ⟨b0, b1, h⟩ := h; exact ⟨(b0, b1), h⟩)) (fun u h => hy u.1 u.2 h)
theorem AWp.loop3 {α0 α1 α2 : Type} {c : Code} (S : α0 → α1 → α2 → St) (I : α0 → α1 → α2 → Prop) (μ : α0 → α1 → α2 → Nat) (i0 : α0) (i1 : α1) (i2 : α2) (hi : I i0 i1 i2) (hs : Le st (S i0 i1 i2))
    (round : ∀ a0 a1 a2, I a0 a1 a2 → AWp P N c (S a0 a1 a2) (Then (fun st' => ∃ b0 b1 b2, I b0 b1 b2 ∧ μ b0 b1 b2 < μ a0 a1 a2 ∧ Le st' (S b0 b1 b2)) Q)) : AWp P N (.loop c) st Q :=
  AWp.loop (ι := α0 × α1 × α2) (fun u => S u.1 u.2.1 u.2.2) (fun u => I u.1 u.2.1 u.2.2) (fun u => μ u.1 u.2.1 u.2.2) (i0, i1, i2) hi hs (fun u h => (round u.1 u.2.1 u.2.2 h).mono fun e _ h => by
    cases e <;> first | exact h | (obtain ⟨b0, b1, b2, h⟩ := h; exact ⟨(b0, b1, b2), h⟩))
theorem AWp.join3 {α0 α1 α2 : Type} {x y : Code} (J : α0 → α1 → α2 → St) (I : α0 → α1 → α2 → Prop) (hx : AWp P N x st (Then (fun st' => ∃ b0 b1 b2, I b0 b1 b2 ∧ Le st' (J b0 b1 b2)) Q)) (hy : ∀ a0 a1 a2, I a0 a1 a2 → AWp P N y (J a0 a1 a2) Q) : AWp P N (.seq x y) st Q :=
  AWp.join (ι := α0 × α1 × α2) (fun u => J u.1 u.2.1 u.2.2) (fun u => I u.1 u.2.1 u.2.2) (hx.mono fun e _ h => by cases e <;> first | exact h | (obtain ⟨b0, b1, b2, h⟩ := h; exact ⟨(b0, b1, b2), h⟩)) (fun u h => hy u.1 u.2.1 u.2.2 h)
theorem AWp.loop4 {α0 α1 α2 α3 : Type} {c : Code} (S : α0 → α1 → α2 → α3 → St) (I : α0 → α1 → α2 → α3 → Prop) (μ : α0 → α1 → α2 → α3 → Nat) (i0 : α0) (i1 : α1) (i2 : α2) (i3 : α3) (hi : I i0 i1 i2 i3) (hs : Le st (S i0 i1 i2 i3))
    (round : ∀ a0 a1 a2 a3, I a0 a1 a2 a3 → AWp P N c (S a0 a1 a2 a3) (Then (fun st' => ∃ b0 b1 b2 b3, I b0 b1 b2 b3 ∧ μ b0 b1 b2 b3 < μ a0 a1 a2 a3 ∧ Le st' (S b0 b1 b2 b3)) Q)) : AWp P N (.loop c) st Q :=
  AWp.loop (ι := α0 × α1 × α2 × α3) (fun u => S u.1 u.2.1 u.2.2.1 u.2.2.2) (fun u => I u.1 u.2.1 u.2.2.1 u.2.2.2) (fun u => μ u.1 u.2.1 u.2.2.1 u.2.2.2) (i0, i1, i2, i3) hi hs (fun u h => (round u.1 u.2.1 u.2.2.1 u.2.2.2 h).mono fun e _ h => by
    cases e <;> first | exact h | (obtain ⟨b0, b1, b2, b3, h⟩ := h; exact ⟨(b0, b1, b2, b3), h⟩))
theorem AWp.join4 {α0 α1 α2 α3 : Type} {x y : Code} (J : α0 → α1 → α2 → α3 → St) (I : α0 → α1 → α2 → α3 → Prop) (hx : AWp P N x st (Then (fun st' => ∃ b0 b1 b2 b3, I b0 b1 b2 b3 ∧ Le st' (J b0 b1 b2 b3)) Q)) (hy : ∀ a0 a1 a2 a3, I a0 a1 a2 a3 → AWp P N y (J a0 a1 a2 a3) Q) : AWp P N (.seq x y) st Q :=
  AWp.join (ι := α0 × α1 × α2 × α3) (fun u => J u.1 u.2.1 u.2.2.1 u.2.2.2) (fun u => I u.1 u.2.1 u.2.2.1 u.2.2.2) (hx.mono fun e _ h => by cases e <;> first | exact h | (obtain ⟨b0, b1, b2, b3, h⟩ := h; exact ⟨(b0, b1, b2, b3), h⟩)) (fun u h => hy u.1 u.2.1 u.2.2.1 u.2.2.2 h)
theorem AWp.loop5 {α0 α1 α2 α3 α4 : Type} {c : Code} (S : α0 → α1 → α2 → α3 → α4 → St) (I : α0 → α1 → α2 → α3 → α4 → Prop) (μ : α0 → α1 → α2 → α3 → α4 → Nat) (i0 : α0) (i1 : α1) (i2 : α2) (i3 : α3) (i4 : α4) (hi : I i0 i1 i2 i3 i4) (hs : Le st (S i0 i1 i2 i3 i4))
    (round : ∀ a0 a1 a2 a3 a4, I a0 a1 a2 a3 a4 → AWp P N c (S a0 a1 a2 a3 a4) (Then (fun st' => ∃ b0 b1 b2 b3 b4, I b0 b1 b2 b3 b4 ∧ μ b0 b1 b2 b3 b4 < μ a0 a1 a2 a3 a4 ∧ Le st' (S b0 b1 b2 b3 b4)) Q)) : AWp P N (.loop c) st Q :=
  AWp.loop (ι := α0 × α1 × α2 × α3 × α4) (fun u => S u.1 u.2.1 u.2.2.1 u.2.2.2.1 u.2.2.2.2) (fun u => I u.1 u.2.1 u.2.2.1 u.2.2.2.1 u.2.2.2.2) (fun u => μ u.1 u.2.1 u.2.2.1 u.2.2.2.1 u.2.2.2.2) (i0, i1, i2, i3, i4) hi hs (fun u h => (round u.1 u.2.1 u.2.2.1 u.2.2.2.1 u.2.2.2.2 h).mono fun e _ h => by
    cases e <;> first | exact h | (obtain ⟨b0, b1, b2, b3, b4, h⟩ := h; exact ⟨(b0, b1, b2, b3, b4), h⟩))
theorem AWp.join5 {α0 α1 α2 α3 α4 : Type} {x y : Code} (J : α0 → α1 → α2 → α3 → α4 → St) (I : α0 → α1 → α2 → α3 → α4 → Prop) (hx : AWp P N x st (Then (fun st' => ∃ b0 b1 b2 b3 b4, I b0 b1 b2 b3 b4 ∧ Le st' (J b0 b1 b2 b3 b4)) Q)) (hy : ∀ a0 a1 a2 a3 a4, I a0 a1 a2 a3 a4 → AWp P N y (J a0 a1 a2 a3 a4) Q) : AWp P N (.seq x y) st Q :=
  AWp.join (ι := α0 × α1 × α2 × α3 × α4) (fun u => J u.1 u.2.1 u.2.2.1 u.2.2.2.1 u.2.2.2.2) (fun u => I u.1 u.2.1 u.2.2.1 u.2.2.2.1 u.2.2.2.2) (hx.mono fun e _ h => by cases e <;> first | exact h | (obtain ⟨b0, b1, b2, b3, b4, h⟩ := h; exact ⟨(b0, b1, b2, b3, b4), h⟩)) (fun u h => hy u.1 u.2.1 u.2.2.1 u.2.2.2.1 u.2.2.2.2 h)
theorem AWp.loop6 {α0 α1 α2 α3 α4 α5 : Type} {c : Code} (S : α0 → α1 → α2 → α3 → α4 → α5 → St) (I : α0 → α1 → α2 → α3 → α4 → α5 → Prop) (μ : α0 → α1 → α2 → α3 → α4 → α5 → Nat) (i0 : α0) (i1 : α1) (i2 : α2) (i3 : α3) (i4 : α4) (i5 : α5) (hi : I i0 i1 i2 i3 i4 i5) (hs : Le st (S i0 i1 i2 i3 i4 i5))
    (round : ∀ a0 a1 a2 a3 a4 a5, I a0 a1 a2 a3 a4 a5 → AWp P N c (S a0 a1 a2 a3 a4 a5) (Then (fun st' => ∃ b0 b1 b2 b3 b4 b5, I b0 b1 b2 b3 b4 b5 ∧ μ b0 b1 b2 b3 b4 b5 < μ a0 a1 a2 a3 a4 a5 ∧ Le st' (S b0 b1 b2 b3 b4 b5)) Q)) : AWp P N (.loop c) st Q :=
  AWp.loop (ι := α0 × α1 × α2 × α3 × α4 × α5) (fun u => S u.1 u.2.1 u.2.2.1 u.2.2.2.1 u.2.2.2.2.1 u.2.2.2.2.2) (fun u => I u.1 u.2.1 u.2.2.1 u.2.2.2.1 u.2.2.2.2.1 u.2.2.2.2.2) (fun u => μ u.1 u.2.1 u.2.2.1 u.2.2.2.1 u.2.2.2.2.1 u.2.2.2.2.2) (i0, i1, i2, i3, i4, i5) hi hs (fun u h => (round u.1 u.2.1 u.2.2.1 u.2.2.2.1 u.2.2.2.2.1 u.2.2.2.2.2 h).mono fun e _ h => by
    cases e <;> first | exact h | (obtain ⟨b0, b1, b2, b3, b4, b5, h⟩ := h; exact ⟨(b0, b1, b2, b3, b4, b5), h⟩))
theorem AWp.join6 {α0 α1 α2 α3 α4 α5 : Type} {x y : Code} (J : α0 → α1 → α2 → α3 → α4 → α5 → St) (I : α0 → α1 → α2 → α3 → α4 → α5 → Prop) (hx : AWp P N x st (Then (fun st' => ∃ b0 b1 b2 b3 b4 b5, I b0 b1 b2 b3 b4 b5 ∧ Le st' (J b0 b1 b2 b3 b4 b5)) Q)) (hy : ∀ a0 a1 a2 a3 a4 a5, I a0 a1 a2 a3 a4 a5 → AWp P N y (J a0 a1 a2 a3 a4 a5) Q) : AWp P N (.seq x y) st Q :=
  AWp.join (ι := α0 × α1 × α2 × α3 × α4 × α5) (fun u => J u.1 u.2.1 u.2.2.1 u.2.2.2.1 u.2.2.2.2.1 u.2.2.2.2.2) (fun u => I u.1 u.2.1 u.2.2.1 u.2.2.2.1 u.2.2.2.2.1 u.2.2.2.2.2) (hx.mono fun e _ h => by cases e <;> first | exact h | (obtain ⟨b0, b1, b2, b3, b4, b5, h⟩ := h; exact ⟨(b0, b1, b2, b3, b4, b5), h⟩)) (fun u h => hy u.1 u.2.1 u.2.2.1 u.2.2.2.1 u.2.2.2.2.1 u.2.2.2.2.2 h)
theorem AWp.loop7 {α0 α1 α2 α3 α4 α5 α6 : Type} {c : Code} (S : α0 → α1 → α2 → α3 → α4 → α5 → α6 → St) (I : α0 → α1 → α2 → α3 → α4 → α5 → α6 → Prop) (μ : α0 → α1 → α2 → α3 → α4 → α5 → α6 → Nat) (i0 : α0) (i1 : α1) (i2 : α2) (i3 : α3) (i4 : α4) (i5 : α5) (i6 : α6) (hi : I i0 i1 i2 i3 i4 i5 i6) (hs : Le st (S i0 i1 i2 i3 i4 i5 i6))
    (round : ∀ a0 a1 a2 a3 a4 a5 a6, I a0 a1 a2 a3 a4 a5 a6 → AWp P N c (S a0 a1 a2 a3 a4 a5 a6) (Then (fun st' => ∃ b0 b1 b2 b3 b4 b5 b6, I b0 b1 b2 b3 b4 b5 b6 ∧ μ b0 b1 b2 b3 b4 b5 b6 < μ a0 a1 a2 a3 a4 a5 a6 ∧ Le st' (S b0 b1 b2 b3 b4 b5 b6)) Q)) : AWp P N (.loop c) st Q :=
  AWp.loop (ι := α0 × α1 × α2 × α3 × α4 × α5 × α6) (fun u => S u.1 u.2.1 u.2.2.1 u.2.2.2.1 u.2.2.2.2.1 u.2.2.2.2.2.1 u.2.2.2.2.2.2) (fun u => I u.1 u.2.1 u.2.2.1 u.2.2.2.1 u.2.2.2.2.1 u.2.2.2.2.2.1 u.2.2.2.2.2.2) (fun u => μ u.1 u.2.1 u.2.2.1 u.2.2.2.1 u.2.2.2.2.1 u.2.2.2.2.2.1 u.2.2.2.2.2.2) (i0, i1, i2, i3, i4, i5, i6) hi hs (fun u h => (round u.1 u.2.1 u.2.2.1 u.2.2.2.1 u.2.2.2.2.1 u.2.2.2.2.2.1 u.2.2.2.2.2.2 h).mono fun e _ h => by
    cases e <;> first | exact h | (obtain ⟨b0, b1, b2, b3, b4, b5, b6, h⟩ := h; exact ⟨(b0, b1, b2, b3, b4, b5, b6), h⟩))
theorem AWp.join7 {α0 α1 α2 α3 α4 α5 α6 : Type} {x y : Code} (J : α0 → α1 → α2 → α3 → α4 → α5 → α6 → St) (I : α0 → α1 → α2 → α3 → α4 → α5 → α6 → Prop) (hx : AWp P N x st (Then (fun st' => ∃ b0 b1 b2 b3 b4 b5 b6, I b0 b1 b2 b3 b4 b5 b6 ∧ Le st' (J b0 b1 b2 b3 b4 b5 b6)) Q)) (hy : ∀ a0 a1 a2 a3 a4 a5 a6, I a0 a1 a2 a3 a4 a5 a6 → AWp P N y (J a0 a1 a2 a3 a4 a5 a6) Q) : AWp P N (.seq x y) st Q :=
  AWp.join (ι := α0 × α1 × α2 × α3 × α4 × α5 × α6) (fun u => J u.1 u.2.1 u.2.2.1 u.2.2.2.1 u.2.2.2.2.1 u.2.2.2.2.2.1 u.2.2.2.2.2.2) (fun u => I u.1 u.2.1 u.2.2.1 u.2.2.2.1 u.2.2.2.2.1 u.2.2.2.2.2.1 u.2.2.2.2.2.2) (hx.mono fun e _ h => by cases e <;> first | exact h | (obtain ⟨b0, b1, b2, b3, b4, b5, b6, h⟩ := h; exact ⟨(b0, b1, b2, b3, b4, b5, b6), h⟩)) (fun u h => hy u.1 u.2.1 u.2.2.1 u.2.2.2.1 u.2.2.2.2.1 u.2.2.2.2.2.1 u.2.2.2.2.2.2 h)
theorem AWp.loop8 {α0 α1 α2 α3 α4 α5 α6 α7 : Type} {c : Code} (S : α0 → α1 → α2 → α3 → α4 → α5 → α6 → α7 → St) (I : α0 → α1 → α2 → α3 → α4 → α5 → α6 → α7 → Prop) (μ : α0 → α1 → α2 → α3 → α4 → α5 → α6 → α7 → Nat) (i0 : α0) (i1 : α1) (i2 : α2) (i3 : α3) (i4 : α4) (i5 : α5) (i6 : α6) (i7 : α7) (hi : I i0 i1 i2 i3 i4 i5 i6 i7) (hs : Le st (S i0 i1 i2 i3 i4 i5 i6 i7))
    (round : ∀ a0 a1 a2 a3 a4 a5 a6 a7, I a0 a1 a2 a3 a4 a5 a6 a7 → AWp P N c (S a0 a1 a2 a3 a4 a5 a6 a7) (Then (fun st' => ∃ b0 b1 b2 b3 b4 b5 b6 b7, I b0 b1 b2 b3 b4 b5 b6 b7 ∧ μ b0 b1 b2 b3 b4 b5 b6 b7 < μ a0 a1 a2 a3 a4 a5 a6 a7 ∧ Le st' (S b0 b1 b2 b3 b4 b5 b6 b7)) Q)) : AWp P N (.loop c) st Q :=
  AWp.loop (ι := α0 × α1 × α2 × α3 × α4 × α5 × α6 × α7) (fun u => S u.1 u.2.1 u.2.2.1 u.2.2.2.1 u.2.2.2.2.1 u.2.2.2.2.2.1 u.2.2.2.2.2.2.1 u.2.2.2.2.2.2.2) (fun u => I u.1 u.2.1 u.2.2.1 u.2.2.2.1 u.2.2.2.2.1 u.2.2.2.2.2.1 u.2.2.2.2.2.2.1 u.2.2.2.2.2.2.2) (fun u => μ u.1 u.2.1 u.2.2.1 u.2.2.2.1 u.2.2.2.2.1 u.2.2.2.2.2.1 u.2.2.2.2.2.2.1 u.2.2.2.2.2.2.2) (i0, i1, i2, i3, i4, i5, i6, i7) hi hs (fun u h => (round u.1 u.2.1 u.2.2.1 u.2.2.2.1 u.2.2.2.2.1 u.2.2.2.2.2.1 u.2.2.2.2.2.2.1 u.2.2.2.2.2.2.2 h).mono fun e _ h => by
    cases e <;> first | exact h | (obtain ⟨b0, b1, b2, b3, b4, b5, b6, b7, h⟩ := h; exact ⟨(b0, b1, b2, b3, b4, b5, b6, b7), h⟩))
theorem AWp.join8 {α0 α1 α2 α3 α4 α5 α6 α7 : Type} {x y : Code} (J : α0 → α1 → α2 → α3 → α4 → α5 → α6 → α7 → St) (I : α0 → α1 → α2 → α3 → α4 → α5 → α6 → α7 → Prop) (hx : AWp P N x st (Then (fun st' => ∃ b0 b1 b2 b3 b4 b5 b6 b7, I b0 b1 b2 b3 b4 b5 b6 b7 ∧ Le st' (J b0 b1 b2 b3 b4 b5 b6 b7)) Q)) (hy : ∀ a0 a1 a2 a3 a4 a5 a6 a7, I a0 a1 a2 a3 a4 a5 a6 a7 → AWp P N y (J a0 a1 a2 a3 a4 a5 a6 a7) Q) : AWp P N (.seq x y) st Q :=
  AWp.join (ι := α0 × α1 × α2 × α3 × α4 × α5 × α6 × α7) (fun u => J u.1 u.2.1 u.2.2.1 u.2.2.2.1 u.2.2.2.2.1 u.2.2.2.2.2.1 u.2.2.2.2.2.2.1 u.2.2.2.2.2.2.2) (fun u => I u.1 u.2.1 u.2.2.1 u.2.2.2.1 u.2.2.2.2.1 u.2.2.2.2.2.1 u.2.2.2.2.2.2.1 u.2.2.2.2.2.2.2) (hx.mono fun e _ h => by cases e <;> first | exact h | (obtain ⟨b0, b1, b2, b3, b4, b5, b6, b7, h⟩ := h; exact ⟨(b0, b1, b2, b3, b4, b5, b6, b7), h⟩)) (fun u h => hy u.1 u.2.1 u.2.2.1 u.2.2.2.1 u.2.2.2.2.1 u.2.2.2.2.2.1 u.2.2.2.2.2.2.1 u.2.2.2.2.2.2.2 h)
end

section
variable {α : Type} {f : α → List X} {l m : List α} {i n : Nat} {d a b : α}
theorem row_getD (h : i < l.length) : (l.map f)[i]? = some (f (l.getD i d)) := by
  rw [List.getElem?_map, List.getElem?_eq_getElem h, List.getD_eq_getElem?_getD, List.getElem?_eq_getElem h]; rfl
theorem row_getD0 (h : i < l.length) : (l.map f)[0 + i]? = some (f (l.getD i d)) := by rw [Nat.zero_add]; exact row_getD h
theorem set_map0 {k : Nat} {ys : List X} (h : putL (f a) k ys = f b) : (l.map f).set (0 + i) (putL (f a) k ys) = (l.set i b).map f := by
  rw [h, Nat.zero_add, List.map_set]
theorem app_map (h : n = l.length) : (((l.map f).drop 0).take n) ++ m.map f = (l ++ m).map f := by
  rw [List.drop_zero, List.take_of_length_le (by rw [List.length_map]; omega), List.map_append]
theorem app_le (h : n = l.length) : 0 + n ≤ (l.map f).length := by rw [List.length_map]; omega
theorem app_n (h : n = l.length) : n + (m.map f).length = (l ++ m).length := by rw [List.length_map, List.length_append]; omega
theorem lend_le (h : n = l.length) : 0 + n ≤ (l.map f).length := by rw [List.length_map]; omega
theorem lend_eq (h : n = l.length) : ((l.map f).drop 0).take n = l.map f := by
  rw [List.drop_zero, List.take_of_length_le (by rw [List.length_map]; omega)]
theorem take_drop_map {x y : Nat} : ((l.map f).take y).drop x = ((l.take y).drop x).map f := by rw [List.map_drop, List.map_take]
theorem rep_map {f : α → List X} {z : List X} (h : z = f a) : List.replicate n z = (List.replicate n a).map f := by rw [List.map_replicate, h]
theorem len_map (h : n = l.length) : n = (l.map f).length := by rw [List.length_map]; exact h
end

section
variable {N : Frm} {st : St} {d : Nat}
/-- A slice of one's own gets a name, with a word for what it holds. -/
theorem Sh.adoptE {s n : Nat} {rows : List (List X)} (o : Nat) (rows' : List (List X)) (hx : look st.slots d = some (.uni s rows)) (he : rows = rows') (hn : n = rows'.length) (hF : N.F.elem o = false) : Sh N st (((st.kill o).putO o (.rows s rows')).put d (.slc o s 0 n)) := by
  subst he; exact Sh.adoptN o hx hn hF
theorem Sh.freezeE {s : Nat} {rows : List (List X)} (rows' : List (List X)) (hx : look st.slots d = some (.uni s rows)) (he : rows = rows') (hf : Frees rows') : Sh N st (st.put d (.fz s rows')) := by
  subst he; exact Sh.freeze hx hf
theorem Sh.detachE {s o n : Nat} {rows : List (List X)} (hx : look st.slots d = some (.slc o s 0 n)) (ho : look st.objs o = some (.rows s rows)) (hl : n = rows.length) (hF : N.F.elem o = false) :
    Sh N st (((st.kill o).putO o (.rows 0 [])).put d (.uni s rows)) := Sh.detach hx ho hl hF
end

section
variable {P : Program} {N : Frm} {st : St} {dst : Option Nat} {ty : TypeId} {pos : String} {af : Array Edge} {g : Option (Nat × Bool)}
theorem Y.convK {s d : TypeId} {x : Operand} {k k' : IntKind} {n : Int} (hs : TY.isInt P s = some k') (hd : TY.isInt P d = some k) (hx : opd st x = some (.v (.int k' n))) (hr : k.wrap n = n) :
    Yields P N st ⟨dst, .convert s d x, ty, pos, af, g⟩ (.v (.int k n)) := Y.conv hs hd hx hr
theorem Y.negI {t : TypeId} {x : Operand} {n : Int} (hx : opd st x = some (.v (.int .i64 n))) (hr : -9223372036854775808 ≤ 0 - n ∧ 0 - n ≤ 9223372036854775807) : Yields P N st ⟨dst, .unOp .neg t x, ty, pos, af, g⟩ (.v (.int .i64 (0 - n))) :=
  Y.neg hx (IntWalk.i64_in _ hr)
end
theorem look_slc {l : List (Nat × X)} {i o s lo n n' : Nat} (h : look l i = some (.slc o s lo n)) (e : n = n') : look l i = some (.slc o s lo n') := e ▸ h
theorem look_int {l : List (Nat × X)} {i : Nat} {k : IntKind} {a b : Int} (h : look l i = some (.v (.int k a))) (e : a = b) : look l i = some (.v (.int k b)) := e ▸ h
theorem look_bool {l : List (Nat × X)} {i : Nat} {a b : Bool} (h : look l i = some (.v (.bool a))) (e : a = b) : look l i = some (.v (.bool b)) := e ▸ h
theorem look_cells {l : List (Nat × Obj)} {i : Nat} {a b : List X} (h : look l i = some (.cells a)) (e : a = b) : look l i = some (.cells b) := e ▸ h
theorem look_rows {l : List (Nat × Obj)} {i s : Nat} {a b : List (List X)} (h : look l i = some (.rows s a)) (e : a = b) : look l i = some (.rows s b) := e ▸ h
theorem uniform_map {α : Type} {s : Nat} {f : α → List X} (h : ∀ a, (f a).length = s) {l : List α} : Uniform s (l.map f) := by
  intro r hr
  obtain ⟨a, _, rfl⟩ := List.mem_map.1 hr
  exact h a
theorem cg1 {α0 γ : Type} (f : α0 → γ) {a0 b0 : α0} (h0 : a0 = b0) : f a0 = f b0 := by subst h0; rfl
theorem cg2 {α0 α1 γ : Type} (f : α0 → α1 → γ) {a0 b0 : α0} {a1 b1 : α1} (h0 : a0 = b0) (h1 : a1 = b1) : f a0 a1 = f b0 b1 := by subst h0; subst h1; rfl
theorem cg3 {α0 α1 α2 γ : Type} (f : α0 → α1 → α2 → γ) {a0 b0 : α0} {a1 b1 : α1} {a2 b2 : α2} (h0 : a0 = b0) (h1 : a1 = b1) (h2 : a2 = b2) : f a0 a1 a2 = f b0 b1 b2 := by subst h0; subst h1; subst h2; rfl
theorem cg4 {α0 α1 α2 α3 γ : Type} (f : α0 → α1 → α2 → α3 → γ) {a0 b0 : α0} {a1 b1 : α1} {a2 b2 : α2} {a3 b3 : α3} (h0 : a0 = b0) (h1 : a1 = b1) (h2 : a2 = b2) (h3 : a3 = b3) : f a0 a1 a2 a3 = f b0 b1 b2 b3 := by subst h0; subst h1; subst h2; subst h3; rfl
theorem cg5 {α0 α1 α2 α3 α4 γ : Type} (f : α0 → α1 → α2 → α3 → α4 → γ) {a0 b0 : α0} {a1 b1 : α1} {a2 b2 : α2} {a3 b3 : α3} {a4 b4 : α4} (h0 : a0 = b0) (h1 : a1 = b1) (h2 : a2 = b2) (h3 : a3 = b3) (h4 : a4 = b4) : f a0 a1 a2 a3 a4 = f b0 b1 b2 b3 b4 := by subst h0; subst h1; subst h2; subst h3; subst h4; rfl
theorem cg6 {α0 α1 α2 α3 α4 α5 γ : Type} (f : α0 → α1 → α2 → α3 → α4 → α5 → γ) {a0 b0 : α0} {a1 b1 : α1} {a2 b2 : α2} {a3 b3 : α3} {a4 b4 : α4} {a5 b5 : α5} (h0 : a0 = b0) (h1 : a1 = b1) (h2 : a2 = b2) (h3 : a3 = b3) (h4 : a4 = b4) (h5 : a5 = b5) : f a0 a1 a2 a3 a4 a5 = f b0 b1 b2 b3 b4 b5 := by subst h0; subst h1; subst h2; subst h3; subst h4; subst h5; rfl
def nrow (n : Nat) : List X := [.v (.int .i64 (n : Int))]
theorem nrow_frees (n : Nat) : X.frees (nrow n) = true := rfl
theorem nrow_plains (n : Nat) : X.plains (nrow n) := ⟨trivial, trivial⟩
end Go.AW
/- Plain lemmas on lists with getD. -/
namespace Go.AW

section
variable {α : Type} {l m : List α} {i j n : Nat} {d a x : α}
theorem getD_at (h : i < l.length) : l[i]? = some (l.getD i d) := by
  rw [List.getD_eq_getElem?_getD, List.getElem?_eq_getElem h]; rfl
theorem getD_of (h : l[i]? = some a) : l.getD i d = a := by rw [List.getD_eq_getElem?_getD, h]; rfl
theorem getD_out (h : l.length ≤ i) : l.getD i d = d := by rw [List.getD_eq_getElem?_getD, List.getElem?_eq_none h]; rfl
theorem mem_getD (h : i < l.length) : l.getD i d ∈ l := List.mem_of_getElem? (getD_at h)
theorem lset_eq (l : List α) (i j : Nat) (a d : α) : (l.set i a).getD j d = if i = j ∧ i < l.length then a else l.getD j d := by
  rw [List.getD_eq_getElem?_getD, List.getElem?_set]
  split
  · rename_i h
    subst h
    split
    · rename_i h2; rw [if_pos ⟨rfl, h2⟩]; rfl
    · rename_i h2; rw [if_neg (fun h => h2 h.2), getD_out (by omega)]; rfl
  · rename_i h
    rw [if_neg (fun h' => h h'.1), List.getD_eq_getElem?_getD]
theorem lset_self (h : i < l.length) : (l.set i a).getD i d = a := by rw [lset_eq, if_pos ⟨rfl, h⟩]
theorem lset_ne (h : i ≠ j) : (l.set i a).getD j d = l.getD j d := by rw [lset_eq, if_neg (fun h' => h h'.1)]
theorem getD_app_left (h : i < l.length) : (l ++ m).getD i d = l.getD i d := by
  rw [List.getD_eq_getElem?_getD, List.getElem?_append_left h, List.getD_eq_getElem?_getD]
theorem getD_app_right (h : l.length ≤ i) : (l ++ m).getD i d = m.getD (i - l.length) d := by
  rw [List.getD_eq_getElem?_getD, List.getElem?_append_right h, List.getD_eq_getElem?_getD]
theorem getD_app_self : (l ++ [a]).getD l.length d = a := by rw [getD_app_right (Nat.le_refl _), Nat.sub_self]; rfl
theorem getD_rep (h : i < n) : (List.replicate n a).getD i d = a := by
  rw [List.getD_eq_getElem?_getD, List.getElem?_replicate, if_pos h]; rfl
theorem mem_take_succ (h : i < l.length) : x ∈ l.take (i + 1) ↔ x ∈ l.take i ∨ x = l.getD i d := by
  rw [List.take_add_one, getD_at (d := d) h]
  simp
theorem take_all (h : l.length ≤ i) : l.take i = l := List.take_of_length_le h
theorem take_succ_getD (h : i < l.length) : l.take (i + 1) = l.take i ++ [l.getD i d] := by
  rw [List.take_add_one, getD_at (d := d) h]; rfl
theorem ext_getD (d : α) (h : l.length = m.length) (he : ∀ i, i < l.length → l.getD i d = m.getD i d) : l = m := by
  apply List.ext_getElem?
  intro i
  rcases Nat.lt_or_ge i l.length with hl | hl
  · rw [getD_at (d := d) hl, getD_at (d := d) (by omega), he i hl]
  · rw [List.getElem?_eq_none hl, List.getElem?_eq_none (by omega)]
theorem getD_map {β : Type} {f : α → β} {e : β} (h : i < l.length) : (l.map f).getD i e = f (l.getD i d) := by
  rw [List.getD_eq_getElem?_getD, List.getElem?_map, getD_at (d := d) h]; rfl
theorem getD_take (h : i < n) : (l.take n).getD i d = l.getD i d := by
  rw [List.getD_eq_getElem?_getD, List.getElem?_take_of_lt h, List.getD_eq_getElem?_getD]
theorem getD_drop : (l.drop n).getD i d = l.getD (n + i) d := by
  rw [List.getD_eq_getElem?_getD, List.getElem?_drop, List.getD_eq_getElem?_getD]
theorem mem_exists_getD (h : x ∈ l) (d : α) : ∃ i, i < l.length ∧ l.getD i d = x := by
  obtain ⟨i, hi⟩ := List.getElem?_of_mem h
  exact ⟨i, (List.getElem?_eq_some_iff.1 hi).1, getD_of hi⟩
/-- What holds below i and of i holds below i + 1. -/
theorem below_succ {p : Nat → Prop} (h : ∀ j, j < i → p j) (hp : p i) : ∀ j, j < i + 1 → p j := by
  intro j hj
  rcases Nat.lt_or_ge j i with h1 | h1
  · exact h j h1
  · obtain rfl : j = i := by omega
    exact hp
end
end Go.AW
/- Part of the abstract walk: in an open order, operations that leave memory as it is may be taken in a row, if nothing else can come up before them. -/
namespace Go.AW
open Go

/-- The op j waits for i. -/
def waitsB (ops : Array Oper) (j i : Nat) : Bool := match ops[j]? with
  | some o => o.after.any fun e => Region.binds .any e && e.on == i
  | none => false
/-- l may be taken in a row: whoever else has not come up waits for t, or is t; and t waits for all of l, by way of l. -/
def rowB (ops : Array Oper) (l rest : List Nat) (t : Nat) (listed : Array Bool) : Bool :=
  listed.size == ops.size && ((List.range ops.size).all fun j => !listed.getD j false || match ops[j]? with
    | some o => o.after.all fun e => !Region.binds .any e || listed.getD e.on false
    | none => true) && ((List.range ops.size).all fun j => listed.getD j true || l.contains j || rest.contains j) && (rest.all fun j => !listed.getD j true && !l.contains j) && (l.all fun j => !listed.getD j true) &&
    (l.all fun i => (t :: l).any fun j => decide (i < j) && waitsB ops j i) && (rest.all fun j => j == t || rest.any fun k => waitsB ops j k) && decide l.Nodup

structure On (ops : Array Oper) (l0 rest : List Nat) (t : Nat) (l : List Nat) (listed : Array Bool) : Prop where
  size : listed.size = ops.size
  closed : ∀ j o, ops[j]? = some o → listed.getD j false = true → ∀ e ∈ o.after, Region.binds .any e = true → listed.getD e.on false = true
  part : ∀ j, listed.getD j true = false → j ∈ l ∨ j ∈ rest
  out : ∀ j ∈ rest, listed.getD j true = false ∧ j ∉ l0
  open_ : ∀ j ∈ l, listed.getD j true = false
  sub : ∀ j ∈ l, j ∈ l0
  sink : ∀ i ∈ l0, ∃ j, (j = t ∨ j ∈ l0) ∧ i < j ∧ waitsB ops j i = true
  wait : ∀ j ∈ rest, j = t ∨ ∃ k ∈ rest, waitsB ops j k = true
  nodup : l.Nodup

theorem getD_flip {listed : Array Bool} {i : Nat} (h : listed.getD i true = false) : listed.getD i false = false := by
  rcases Nat.lt_or_ge i listed.size with h' | h'
  · simp [h'] at h ⊢; exact h
  · simp [Array.getElem?_eq_none h'] at h
theorem getD_flip' {listed : Array Bool} {i : Nat} (hi : i < listed.size) (h : listed.getD i false = false) : listed.getD i true = false := by
  simp [hi] at h ⊢; exact h
theorem waitsB_spec {ops : Array Oper} {j i : Nat} (h : waitsB ops j i = true) : ∃ o, ops[j]? = some o ∧ ∃ e ∈ o.after, Region.binds .any e = true ∧ e.on = i := by
  unfold waitsB at h
  split at h
  · rename_i o ho
    obtain ⟨e, he, hb⟩ := Array.any_eq_true'.1 h
    simp only [Bool.and_eq_true, beq_iff_eq] at hb
    exact ⟨o, ho, e, he, hb.1, hb.2⟩
  · cases h
theorem rowB_on {ops : Array Oper} {l rest : List Nat} {t : Nat} {listed : Array Bool} (h : rowB ops l rest t listed = true) : On ops l rest t l listed := by
  simp only [rowB, Bool.and_eq_true, beq_iff_eq, List.all_eq_true, decide_eq_true_eq, List.mem_range, Bool.or_eq_true, Bool.not_eq_true', List.any_eq_true, List.contains_iff_mem] at h
  obtain ⟨⟨⟨⟨⟨⟨⟨h1, h2⟩, h3⟩, h4⟩, h5⟩, h6⟩, h7⟩, h8⟩ := h
  refine ⟨h1, ?_, ?_, ?_, h5, fun _ h => h, ?_, ?_, h8⟩
  · intro j o ho hl e he hb
    have := h2 j (Array.getElem?_eq_some_iff.1 ho).1
    rw [hl, ho] at this
    simp only [Bool.true_eq_false, false_or] at this
    have h9 := Array.all_eq_true_iff_forall_mem.1 this e he
    simpa [hb] using h9
  · intro j hj
    have hjs : j < ops.size := by
      rcases Nat.lt_or_ge j listed.size with h' | h'
      · omega
      · simp [Array.getElem?_eq_none h'] at hj
    have := h3 j hjs
    rw [hj] at this
    simpa using this
  · intro j hj
    have := h4 j hj
    exact ⟨this.1, by simpa using this.2⟩
  · intro i hi
    obtain ⟨j, hj, hlt, hw⟩ := h6 i hi
    exact ⟨j, by simpa using hj, hlt, hw⟩
  · intro j hj
    exact h7 j hj
theorem not_ready {ops : Array Oper} {listed : Array Bool} {j k : Nat} (hw : waitsB ops j k = true) (hk : listed.getD k true = false) : j ∉ Region.ready .any ops listed := by
  intro hj
  obtain ⟨_, o, ho, hall⟩ := mem_ready.1 hj
  obtain ⟨o', ho', e, he, hb, hon⟩ := waitsB_spec hw
  rw [ho] at ho'
  cases ho'
  have := hall e he hb
  rw [hon, getD_flip hk] at this
  cases this
theorem exists_max : ∀ {l : List Nat}, l ≠ [] → ∃ m ∈ l, ∀ x ∈ l, x ≤ m
  | [], h => absurd rfl h
  | [a], _ => ⟨a, by simp, by simp⟩
  | a :: b :: r, _ => by
    obtain ⟨m, hm, hx⟩ := exists_max (l := b :: r) (by simp)
    rcases Nat.le_total a m with h | h
    · exact ⟨m, List.mem_cons_of_mem _ hm, fun x hx' => by rcases List.mem_cons.1 hx' with rfl | hx'; exact h; exact hx x hx'⟩
    · exact ⟨a, by simp, fun x hx' => by rcases List.mem_cons.1 hx' with rfl | hx'; exact Nat.le_refl _; exact Nat.le_trans (hx x hx') h⟩
/-- As long as some of l have not come up, only these can come up. -/
theorem On.ready {ops : Array Oper} {l0 rest l : List Nat} {t : Nat} {listed : Array Bool} (h : On ops l0 rest t l listed) (hne : l ≠ []) : ∀ j ∈ Region.ready .any ops listed, j ∈ l := by
  intro j hj
  have hun := (mem_ready.1 hj).1
  rcases h.part j hun with hl | hr
  · exact hl
  · exfalso
    rcases h.wait j hr with rfl | ⟨k, hk, hw⟩
    · obtain ⟨m, hm, hmax⟩ := exists_max hne
      obtain ⟨j', hj', hlt, hw⟩ := h.sink m (h.sub m hm)
      rcases hj' with rfl | hj'
      · exact not_ready hw (h.open_ m hm) hj
      · obtain ⟨o, ho, e, he, hb, hon⟩ := waitsB_spec hw
        cases hl : listed.getD j' false with
        | true =>
          have := h.closed j' o ho hl e he hb
          rw [hon, getD_flip (h.open_ m hm)] at this
          cases this
        | false =>
          have hs : j' < listed.size := by rw [h.size]; exact (Array.getElem?_eq_some_iff.1 ho).1
          rcases h.part j' (getD_flip' hs hl) with h1 | h1
          · have := hmax j' h1; omega
          · exact (h.out j' h1).2 hj'
    · exact not_ready hw (h.out k hk).1 hj
theorem On.step {ops : Array Oper} {l0 rest l : List Nat} {t j : Nat} {listed : Array Bool} (h : On ops l0 rest t l listed) (hj : j ∈ Region.ready .any ops listed) (hl : j ∈ l) : On ops l0 rest t (l.erase j) (listed.setIfInBounds j true) := by
  obtain ⟨_, oj, hoj, hall⟩ := mem_ready.1 hj
  have other : ∀ k (d : Bool), j ≠ k → (listed.setIfInBounds j true).getD k d = listed.getD k d := fun k d hjk => by
    simp only [Array.getD_eq_getD_getElem?, Array.getElem?_setIfInBounds_ne hjk]
  refine ⟨by simp [h.size], ?_, ?_, ?_, ?_, fun k hk => h.sub k (List.mem_of_mem_erase hk), h.sink, h.wait, h.nodup.erase j⟩
  · intro k o ho hk e he hb
    by_cases hjk : j = k
    · subst hjk
      rw [hoj] at ho
      cases ho
      exact getD_set_true (hall e he hb)
    · rw [other k false hjk] at hk
      exact getD_set_true (h.closed k o ho hk e he hb)
  · intro k hk
    by_cases hjk : j = k
    · subst hjk
      rw [Array.getD_eq_getD_getElem?] at hk
      rcases Nat.lt_or_ge j listed.size with h' | h'
      · simp [h'] at hk
      · simp at hk
    · rw [other k true hjk] at hk
      rcases h.part k hk with h1 | h1
      · exact .inl ((List.mem_erase_of_ne (fun e => hjk e.symm)).2 h1)
      · exact .inr h1
  · intro k hk
    have h1 := h.out k hk
    have hjk : j ≠ k := fun e => h1.2 (e ▸ h.sub j hl)
    exact ⟨by rw [other k true hjk]; exact h1.1, h1.2⟩
  · intro k hk
    have hjk : j ≠ k := fun e => by subst e; exact (List.Nodup.not_mem_erase h.nodup) hk
    rw [other k true hjk]; exact h.open_ k (List.mem_of_mem_erase hk)

section
variable {P : Program} {N : Frm} {ops : Array Oper} {d : Nat} {ty : TypeId} {pos : String} {af : Array Edge}
/-- Whatever of them comes up leaves memory as it is; behind all of them, L. -/
def Quiet (P : Program) (ops : Array Oper) (w : World) (L : Array Bool → Act → Prop) : Nat → Array Bool → Act → Prop
  | 0, listed, a => L listed a
  | n + 1, listed, a => Region.ready .any ops listed ≠ [] ∧ ∀ j ∈ Region.ready .any ops listed, stOp P ops w j (Quiet P ops w L n (listed.setIfInBounds j true)) a

theorem Quiet.any {w : World} {L : Array Bool → Act → Prop} {Q' : Exit → Act → World → Prop} {k : Nat} (hL : ∀ listed a, L listed a → wpAny P .any ops Q' k listed a w) :
    ∀ (n : Nat) (listed : Array Bool) (a : Act), Quiet P ops w L n listed a → wpAny P .any ops Q' (n + k) listed a w
  | 0, listed, a, h => by rw [Nat.zero_add]; exact hL _ _ h
  | n + 1, listed, a, h => by
    rw [Nat.add_right_comm]
    exact ⟨fun e => absurd e h.1, fun j hj => wpOp_of_stOp (fun a' => Quiet.any hL n _ a') (h.2 j hj)⟩

theorem Quiet.first {l0 rest : List Nat} {t : Nat} {w : World} {L : Array Bool → Act → Prop} {i : Nat} {oi : Oper} {v : Value} (hi : ops[i]? = some oi) (hsel : Region.noSelect ops = true) : ∀ (n : Nat) (l : List Nat) (listed : Array Bool) (a : Act),
    l.length = n → On ops l0 rest t (i :: l) listed → (∀ j oj, ops[j]? = some oj → j ≠ i → listed.getD j true = false → (∀ e ∈ oj.after, Region.binds .any e = true → e.on ≠ i) → oi.apart ops oj = true) →
    i ∈ Region.ready .any ops listed → YieldsAt P ops w oi v a → Quiet P ops w L n (listed.setIfInBounds i true) (a.put oi.dst v) → Quiet P ops w L (n + 1) listed a := by
  intro n
  induction n with
  | zero =>
    intro l listed a hl hB _ hr hy H
    refine ⟨fun e => (by rw [e] at hr; cases hr), fun j hj => ?_⟩
    have h1 := hB.ready (by simp) j hj
    have hl0 : l = [] := List.length_eq_zero_iff.1 hl
    subst hl0
    obtain rfl : j = i := by simpa using h1
    exact hy.stOp hi H
  | succ n ih =>
    intro l listed a hl hB hfree hr hy H
    refine ⟨fun e => (by rw [e] at hr; cases hr), fun j hj => ?_⟩
    by_cases hji : j = i
    · subst hji; exact hy.stOp hi H
    · have h1 := hB.ready (by simp) j hj
      have h2 := hB.step hj h1
      have hjl : j ∈ l := by simpa [hji] using h1
      have hne : (i == j) = false := by simpa using fun h => hji h.symm
      rw [List.erase_cons, hne] at h2
      obtain ⟨hun, oj, hoj, hall⟩ := mem_ready.1 hj
      have hnot : ∀ e ∈ oj.after, Region.binds .any e = true → e.on ≠ i := by
        intro e he hb heq
        have h3 := hall e he hb
        have h4 := (mem_ready.1 hr).1
        rw [heq] at h3
        rcases Nat.lt_or_ge i listed.size with h' | h'
        · simp [h'] at h3 h4; rw [h3] at h4; cases h4
        · simp [Array.getElem?_eq_none h'] at h3
      have h5 := stOp_put hoj (hfree j oj hoj hji hun hnot) (fun cs b => Region.noSelect_spec hsel i oi cs b hi) (fun cs b => Region.noSelect_spec hsel j oj cs b hoj) hy (H.2 j (ready_mono hj hji))
      refine stOp_mono (fun a' h6 => ih (l.erase j) _ a' (by rw [List.length_erase_of_mem hjl, hl]; rfl) h2 ?_ (ready_mono hr (fun h => hji h.symm)) h6.1 ?_) h5
      · intro k ok hk hki hku hno
        refine hfree k ok hk hki ?_ hno
        by_cases hjk : j = k
        · subst hjk; exact hun
        · have : (listed.setIfInBounds j true).getD k true = listed.getD k true := by
            simp only [Array.getD_eq_getD_getElem?, Array.getElem?_setIfInBounds_ne hjk]
          rw [this] at hku; exact hku
      · have : (listed.setIfInBounds j true).setIfInBounds i true = (listed.setIfInBounds i true).setIfInBounds j true := Array.setIfInBounds_comm _ _ hji
        rw [this]; exact h6.2

/-- Operations in a row, in the middle of an open order. -/
def AQ (P : Program) (N : Frm) (ops : Array Oper) (l0 rest : List Nat) (t : Nat) (l : List Nat) (listed : Array Bool) (st : St) (K : Array Bool → St → Prop) : Prop :=
  On ops l0 rest t l listed → ∀ G : Ctx, G.fn = N → ∀ a w, Holds G st a w → Quiet P ops w (fun listed' a' => ∃ st', K listed' st' ∧ Holds G st' a' w) l.length listed a

theorem AQ.nil {l0 rest : List Nat} {t : Nat} {listed : Array Bool} {st : St} {K : Array Bool → St → Prop} (h : K listed st) : AQ P N ops l0 rest t [] listed st K := fun _ _ _ _ _ hh => ⟨st, h, hh⟩
theorem AQ.cons {l0 rest : List Nat} {t i : Nat} {l : List Nat} {listed : Array Bool} {st : St} {K : Array Bool → St → Prop} {op : Op} {x : X} (ho : ops[i]? = some ⟨some d, op, ty, pos, af, none⟩)
    (hB : (Region.noSelect ops && Region.free .any ops listed i && (Region.ready .any ops listed).contains i) = true) (hy : Yields P N st ⟨some d, op, ty, pos, af, none⟩ x) (hd : d < N.n)
    (k : AQ P N ops l0 rest t l (listed.setIfInBounds i true) (st.put d x) K) : AQ P N ops l0 rest t (i :: l) listed st K := by
  intro h4 G hn a w hh
  obtain ⟨E, RR, rfl, hi⟩ := hh
  obtain ⟨u, hr, hx⟩ := hy G E RR a hn hi
  simp only [Bool.and_eq_true] at hB
  obtain ⟨⟨h1, h2⟩, h3⟩ := hB
  have h5 := h4.step (j := i) (by simpa using h3) (by simp)
  rw [List.erase_cons_head] at h5
  exact Quiet.first ho h1 l.length l listed a rfl h4 (Region.free_spec ho h2) (by simpa using h3) (v := u) (.inl ⟨by simp [Region.wanted], .inl hr⟩) (k h5 G hn _ _ ⟨E, _, rfl, hi.put0 (hn ▸ hd) hx⟩)
/-- An operation whose guard says no. -/
theorem AQ.skip {l0 rest : List Nat} {t i : Nat} {l : List Nat} {listed : Array Bool} {st : St} {K : Array Bool → St → Prop} {op : Op} {j dj : Nat} {want : Bool} {u : Value} (ho : ops[i]? = some ⟨some d, op, ty, pos, af, some (j, want)⟩)
    (hB : (Region.noSelect ops && Region.free .any ops listed i && (Region.ready .any ops listed).contains i) = true)
    (hj : (ops[j]?).bind (·.dst) = some dj) (hdj : dj < N.n) (hd : d < N.n) (hx : look st.slots dj = some (.v u)) (hne : notB want u = true)
    (k : AQ P N ops l0 rest t l (listed.setIfInBounds i true) (st.put d (.v undef)) K) : AQ P N ops l0 rest t (i :: l) listed st K := by
  intro h4 G hn a w hh
  obtain ⟨E, RR, rfl, hi⟩ := hh
  simp only [Bool.and_eq_true] at hB
  obtain ⟨⟨h1, h2⟩, h3⟩ := hB
  have h5 := h4.step (j := i) (by simpa using h3) (by simp)
  rw [List.erase_cons_head] at h5
  have hw := unwanted (all := ops) (dst := some d) (op := op) (ty := ty) (pos := pos) (af := af) hi hj (hn ▸ hdj) hx hne
  exact Quiet.first ho h1 l.length l listed a rfl h4 (Region.free_spec ho h2) (by simpa using h3) (v := undef) (.inr ⟨hw, rfl⟩) (k h5 G hn _ _ ⟨E, _, rfl, hi.put0 (hn ▸ hd) (by simp [RX])⟩)
/-- .. says yes. -/
theorem AQ.run {l0 rest : List Nat} {t i : Nat} {l : List Nat} {listed : Array Bool} {st : St} {K : Array Bool → St → Prop} {op : Op} {x : X} {j dj : Nat} {want : Bool} (ho : ops[i]? = some ⟨some d, op, ty, pos, af, some (j, want)⟩)
    (hB : (Region.noSelect ops && Region.free .any ops listed i && (Region.ready .any ops listed).contains i) = true)
    (hj : (ops[j]?).bind (·.dst) = some dj) (hdj : dj < N.n) (hx : look st.slots dj = some (.v (.bool want))) (hy : Yields P N st ⟨some d, op, ty, pos, af, some (j, want)⟩ x) (hd : d < N.n)
    (k : AQ P N ops l0 rest t l (listed.setIfInBounds i true) (st.put d x) K) : AQ P N ops l0 rest t (i :: l) listed st K := by
  intro h4 G hn a w hh
  obtain ⟨E, RR, rfl, hi⟩ := hh
  obtain ⟨u, hr, hx'⟩ := hy G E RR a hn hi
  simp only [Bool.and_eq_true] at hB
  obtain ⟨⟨h1, h2⟩, h3⟩ := hB
  have h5 := h4.step (j := i) (by simpa using h3) (by simp)
  rw [List.erase_cons_head] at h5
  have hs := hi.slots dj _ hx
  simp only [RX] at hs
  have hsz : dj < a.tmps.size := by rw [hi.tmps, hn]; exact hdj
  have hv : a.tmps[dj]? = some (.bool want) := by
    have := hs.1
    simp only [Array.getD, hsz, dif_pos] at this
    rw [Array.getElem?_eq_getElem hsz]
    exact congrArg some this
  have hw : Region.wanted ⟨some d, op, ty, pos, af, some (j, want)⟩ (yielded ops a.tmps) = true := by
    simp [Region.wanted, yielded, hj, hv]
  exact Quiet.first ho h1 l.length l listed a rfl h4 (Region.free_spec ho h2) (by simpa using h3) (v := u) (.inl ⟨hw, .inl hr⟩) (k h5 G hn _ _ ⟨E, _, rfl, hi.put0 (hn ▸ hd) hx'⟩)
theorem AAny.quietN (l rest : List Nat) (t : Nat) {m n : Nat} (hm : m = l.length + n) {listed : Array Bool} {st : St} {K : St → Prop} (hB : rowB ops l rest t listed = true)
    (h : AQ P N ops l rest t l listed st (fun listed' st' => AAny P N ops n listed' st' K)) : AAny P N ops m listed st K := by
  subst hm
  intro G hn a w hh
  refine Quiet.any (fun listed' a' ⟨st', hk, hh'⟩ => ?_) l.length listed a (h (rowB_on hB) G hn a w hh)
  exact hk G hn a' w hh'
end
end Go.AW
/- Part of the abstract walk: values of one's own that move. -/
namespace Go.AW
open Go

section
variable {P : Program} {N : Frm} {st : St} {Q : Exit → St → Prop} {all : Array Oper} {rest : List Oper} {d : Nat} {ty : TypeId} {pos : String} {af : Array Edge}

theorem Inv.moveX {G : Ctx} {E : Env} {RR : Own → List Nat} {a : Act} (hi : Inv G E RR st a) {tv : Nat} {x : X} (hy : look st.slots tv = some x) (hd : d < G.fn.n) :
    ∃ RR', Inv G E RR' ((st.put tv .no).put d x) (a.put (some d) (a.eval (.tmp tv))) := by
  have hv := hi.slots tv _ hy
  have hi2 := hi.no tv
  refine ⟨_, hi2.put (R := RR (.slot tv)) hd hv (hi.nodup _) (fun b hb => ⟨(hi.own _ _ hb).1, (hi.own _ _ hb).2, fun p _ hp => ?_⟩)⟩
  unfold upd at hp
  split at hp
  · cases hp
  · rename_i h; exact hi.apart _ _ h b hp hb
/-- A value moves to another slot, with what it owns. -/
theorem AOps.assignX {tv : Nat} {x : X} (hy : look st.slots tv = some x) (hd : d < N.n) (k : AOps P N all rest ((st.put tv .no).put d x) Q) :
    AOps P N all (⟨some d, .assign (.tmp tv), ty, pos, af, none⟩ :: rest) st Q :=
  AOps.eff (fun G E RR a hn hi => let ⟨RR', h⟩ := hi.moveX hy (by rw [hn]; exact hd); ⟨a.eval (.tmp tv), E, RR', rfl, h⟩) k
theorem AOps.moveX {tv : Nat} {x : X} (hy : look st.slots tv = some x) (hd : d < N.n) (k : AOps P N all rest ((st.put tv .no).put d x) Q) :
    AOps P N all (⟨some d, .move (.tmp tv), ty, pos, af, none⟩ :: rest) st Q :=
  AOps.eff (fun G E RR a hn hi => let ⟨RR', h⟩ := hi.moveX hy (by rw [hn]; exact hd); ⟨a.eval (.tmp tv), E, RR', rfl, h⟩) k

theorem RXt.takeOut {E : Env} : ∀ {xs : List X} {cs : List Value} {R : List Nat} {k : Nat} {x : X}, RXt E xs cs R → xs[k]? = some x →
    ∃ u Ra Rk Rb, cs[k]? = some u ∧ RX E x u Rk ∧ R = Ra ++ (Rk ++ Rb) ∧ RXt E (xs.set k .no) cs (Ra ++ Rb)
  | [], _, _, _, _, _, h => by simp at h
  | y :: r, cs, R, 0, x, h, hx => by
    simp only [RXt] at h
    simp only [List.getElem?_cons_zero, Option.some.injEq] at hx
    subst hx
    obtain ⟨c, cs', R₁, R₂, rfl, h1, h2, rfl⟩ := h
    refine ⟨c, [], R₁, R₂, rfl, h1, rfl, ?_⟩
    simp only [List.set_cons_zero, RXt, List.nil_append]
    exact ⟨c, cs', [], R₂, rfl, by simp [RX], h2, rfl⟩
  | y :: r, cs, R, k + 1, x, h, hx => by
    simp only [RXt] at h
    obtain ⟨c, cs', R₁, R₂, rfl, h1, h2, rfl⟩ := h
    obtain ⟨u, Ra, Rk, Rb, hu, h3, rfl, h4⟩ := RXt.takeOut (k := k) h2 (by simpa using hx)
    refine ⟨u, R₁ ++ Ra, Rk, Rb, by simpa using hu, h3, by simp, ?_⟩
    simp only [List.set_cons_succ, RXt]
    exact ⟨c, cs', R₁, Ra ++ Rb, rfl, h1, h4, by simp⟩

/-- One of several values is taken out, with what it owns. -/
theorem AOps.extractU {tv : Nat} {xs : List X} {y : X} {k : Nat} (hx : look st.slots tv = some (.tup xs)) (hy : xs[k]? = some y) (hd : d < N.n)
    (kk : AOps P N all rest ((st.put tv (.tup (xs.set k .no))).put d y) Q) : AOps P N all (⟨some d, .extract (.tmp tv) k, ty, pos, af, none⟩ :: rest) st Q := by
  refine AOps.eff (fun G E RR a hn hi => ?_) kk
  have hp := hi.slots tv _ hx
  have hnd := hi.nodup (.slot tv)
  simp only [RX] at hp
  obtain ⟨cs, hc, hxs⟩ := hp
  obtain ⟨u, Ra, Rk, Rb, hu, h1, hR, h2⟩ := RXt.takeOut hxs hy
  have hsub : ∀ b ∈ Ra ++ Rb, b ∈ RR (.slot tv) := by
    intro b hb
    rw [hR]
    rcases List.mem_append.1 hb with h | h
    · exact mem_app_l h
    · exact mem_app_r (mem_app_r h)
  have hsubk : ∀ b ∈ Rk, b ∈ RR (.slot tv) := fun b hb => by rw [hR]; exact mem_app_r (mem_app_l hb)
  rw [hR, List.nodup_append, List.nodup_append] at hnd
  obtain ⟨hna, ⟨hnk, hnb, hkb⟩, hab⟩ := hnd
  have hndab : (Ra ++ Rb).Nodup := List.nodup_append.2 ⟨hna, hnb, fun x hx y hy => hab x hx y (mem_app_r hy)⟩
  have hi2 := hi.relabel (d := tv) (x := .tup (xs.set k .no)) (R := Ra ++ Rb) (by simp only [RX]; exact ⟨cs, hc, h2⟩) hndab
    (fun b hb => ⟨(hi.own _ _ (hsub b hb)).1, (hi.own _ _ (hsub b hb)).2, fun p hp hbp => hi.apart p (.slot tv) hp b hbp (hsub b hb)⟩)
  refine ⟨u, E, _, ?_, hi2.put (R := Rk) (by rw [hn]; exact hd) h1 hnk (fun b hb => ⟨(hi.own _ _ (hsubk b hb)).1, (hi.own _ _ (hsubk b hb)).2, fun p _ hbp => ?_⟩)⟩
  · show (do let z ← Instr.extract (a.eval (.tmp tv)) k; pure (Next.value z) : Sem Next).run P E.w = _
    have hc' : a.eval (.tmp tv) = .tuple cs := hc
    rw [hc']
    refine run_v ?_
    have hu' : cs[k]? = some u := by simpa using hu
    simp only [Instr.extract, hu']; rfl
  · unfold upd at hbp
    split at hbp
    · rcases List.mem_append.1 hbp with h | h
      · exact hab b h b (mem_app_l hb) rfl
      · exact hkb b hb b h rfl
    · rename_i h; exact hi.apart _ _ h b hbp (hsubk b hb)
end
end Go.AW
/- Part of the abstract walk: calls whose result is known by a relation. -/
namespace Go.AW
open Go

section
variable {P : Program} {N : Frm} {st : St} {Q : Exit → St → Prop} {all : Array Oper} {rest : List Oper} {d : Nat} {ty : TypeId} {pos : String} {af : Array Edge}
/-- A call that sees some slices of the caller's as they stand; what it gives is known by a relation. -/
theorem AOps.callLV {f : FuncId} {fargs : Array Operand} {ats : Array TypeId} {xs args : List X} {Q' : X → List Obj → Prop} (L : List Nat) (hok : callOK P f = true) (hspec : ACalls P f args [] [] Q')
    (hxs : opds st fargs.toList = some xs) (hargs : LentL st L (nameF []) xs args) (h0 : ∀ o ∈ L, ∃ ob, look st.objs o = some ob ∧ Owns0 ob) (hd : d < N.n)
    (k : ∀ r, Q' r [] → r.lt 0 = true ∧ r.plain ∧ AOps P N all rest (st.put d (r.ren (nameF []))) Q) :
    AOps P N all (⟨some d, .call ⟨.value (.func f), fargs, ats⟩, ty, pos, af, none⟩ :: rest) st Q := by
  refine AOps.call [] L hok hspec hxs hargs (fun j ob h => by simp at h) rfl List.nodup_nil (fun _ _ h => by cases h) h0 (fun _ h => by cases h) hd ?_
  intro r objs' hq hl
  have : objs' = [] := List.eq_nil_of_length_eq_zero hl
  subst this
  obtain ⟨h1, h2, h3⟩ := k r hq
  refine ⟨⟨h1, fun _ h => (by cases h), .inr ⟨h2, fun _ h => (by cases h)⟩⟩, ?_⟩
  rw [callSt_nil]; exact h3
end
end Go.AW
