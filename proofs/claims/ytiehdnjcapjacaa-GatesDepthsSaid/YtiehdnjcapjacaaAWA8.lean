/- Part of the abstract walk: how what is known outlives a change of memory. -/
import Derived.Test.YtiehdnjcapjacaaAWA7
namespace Go.AW
open Go

theorem ROb.mono {E E' : Env} {o : Nat} {ob : Obj} {R : List Nat} (hE : E.On E' R) (ho : E'.β o = E.β o) (hm : ∀ xs, ob = .cells xs → ∀ q, X.ments q xs = true → E'.β q = E.β q) (h : ROb E o ob R) : ROb E' o ob R := by
  cases ob with
  | cells xs =>
    simp only [ROb] at h ⊢
    obtain ⟨hfr, B, cs, ty, hB, hw, hf, hl, hR, rfl⟩ := h
    have h2 := hE.2 B.b (by simp)
    exact ⟨hfr, B, cs, ty, ho.trans hB, h2.1.trans hw, h2.2 hf, hl, RO.mono xs cs _ [] (hE.sub (fun _ h => by cases h)) (hm xs rfl) hR, rfl⟩
  | rows s rs =>
    simp only [ROb] at h ⊢
    obtain ⟨hu, h⟩ := h
    refine ⟨hu, ?_⟩
    rcases h with ⟨h1, h2, h3⟩ | ⟨B, cs, ty, R', hB, hw, hf, hl, hc, hR, rfl⟩
    · exact .inl ⟨ho.trans h1, h2, h3⟩
    · have h2 := hE.2 B.b (by simp)
      exact .inr ⟨B, cs, ty, R', ho.trans hB, h2.1.trans hw, h2.2 hf, hl, hc, ROr.mono rs cs _ R' (hE.sub (fun _ h => by simp [h])) hR, rfl⟩
  | gone => simpa [ROb] using h

/-- Memory goes from E to E': only the blocks T and new ones differ; T is owned, and nothing in it is frozen. -/
structure Moves (G : Ctx) (E E' : Env) (T : Nat → Prop) : Prop where
  φ : E'.φ = E.φ
  free : ∀ b, T b → ∀ i, E.φ b i = none
  out : ∀ b, T b → ¬ G.K b
  same : ∀ b, b < E.w.heap.size → ¬ T b → E'.w.heap[b]? = E.w.heap[b]?
  size : E.w.heap.size ≤ E'.w.heap.size
  os : E'.w.os = E.w.os
  tape : E'.w.tape = E.w.tape
  output : E'.w.output = E.w.output

section
variable {G : Ctx} {E E' : Env} {RR : Own → List Nat} {st : St} {a : Act} {T : Nat → Prop}

theorem Moves.on (hm : Moves G E E' T) (hi : Inv G E RR st a) {p : Own} (hT : ∀ b ∈ RR p, ¬ T b) : E.On E' (RR p) :=
  ⟨fun b i v h => by rw [hm.φ]; exact h, fun b hb => ⟨hm.same b (hi.own p b hb).1 (hT b hb), fun h => by rw [hm.φ]; exact h⟩⟩

theorem Moves.frz (hm : Moves G E E' T) (hi : Inv G E RR st a) : ∀ b i v, E'.φ b i = some v → E'.w.cell? ⟨b, i, none⟩ = some v := by
  intro b i v h
  rw [hm.φ] at h
  have h0 := hi.frz b i v h
  have hlt := World.block_lt_of_cell? E.w _ h0
  have hT : ¬ T b := fun hT => by rw [hm.free b hT i] at h; cases h
  have := hm.same b hlt hT
  rw [World.cell?_of_block this]; exact h0

theorem Moves.keep (hm : Moves G E E' T) (hi : Inv G E RR st a) : ∀ b, G.K b → E'.w.heap[b]? = G.w0.heap[b]? := by
  intro b hK
  have hlt : b < E.w.heap.size := Nat.lt_of_lt_of_le (hi.small b hK) hi.size
  rw [hm.same b hlt (fun hT => hm.out b hT hK)]
  exact hi.keep b hK

/-- A slot goes on as it was. -/
theorem Moves.slot (hm : Moves G E E' T) (hi : Inv G E RR st a) {s : Nat} {x : X} (hx : look st.slots s = some x) (hT : ∀ b ∈ RR (.slot s), ¬ T b) (hβ : ∀ o, x.ment o = true → E'.β o = E.β o) :
    RX E' x (a.tmps.getD s undef) (RR (.slot s)) :=
  RX.mono x _ _ (hm.on hi hT) hβ (hi.slots s x hx)

theorem Moves.obj (hm : Moves G E E' T) (hi : Inv G E RR st a) {o : Nat} {ob : Obj} (hx : look st.objs o = some ob) (hT : ∀ b ∈ RR (.obj o), ¬ T b) (ho : E'.β o = E.β o)
    (hβ : ∀ xs, ob = .cells xs → ∀ q, X.ments q xs = true → E'.β q = E.β q) : ROb E' o ob (RR (.obj o)) :=
  ROb.mono (hm.on hi hT) ho hβ (hi.objs o ob hx)

theorem Moves.own (hm : Moves G E E' T) (hi : Inv G E RR st a) : ∀ p b, b ∈ RR p → b < E'.w.heap.size ∧ ¬ G.K b :=
  fun p b hb => ⟨Nat.lt_of_lt_of_le (hi.own p b hb).1 hm.size, (hi.own p b hb).2⟩

/-- Nothing that is known of changes. -/
theorem Inv.moves (hi : Inv G E RR st a) (hm : Moves G E E' (fun _ => False)) (hβ : E'.β = E.β) : Inv G E' RR st a :=
  { hi with
    frz := hm.frz hi
    slots := fun s x hx => hm.slot hi hx (fun _ _ h => h) (fun o _ => by rw [hβ])
    objs := fun o ob ho => hm.obj hi ho (fun _ _ h => h) (by rw [hβ]) (fun _ _ _ _ => by rw [hβ])
    own := hm.own hi
    keep := hm.keep hi
    size := Nat.le_trans hi.size hm.size
    os := hm.os.trans hi.os
    tape := hm.tape.trans hi.tape
    output := hm.output.trans hi.output
    φ0 := fun b i v h => by rw [hm.φ]; exact hi.φ0 b i v h
    grow := fun b i v h => by rw [hm.φ] at h; exact hi.grow b i v h
    fixed := fun o h => by rw [hβ]; exact hi.fixed o h }

theorem Moves.alloc (G : Ctx) (E : Env) (o : Go.Obj) : Moves G E { E with w := E.w.alloc o } (fun _ => False) where
  φ := rfl
  free := fun _ h => h.elim
  out := fun _ h => h.elim
  same := fun b hb _ => by
    show (E.w.heap.push o)[b]? = _
    rw [Array.getElem?_push, if_neg (by omega)]
  size := by simp
  os := rfl
  tape := rfl
  output := rfl

theorem Moves.drew (G : Ctx) (E : Env) : Moves G E { E with w := E.w.drew } (fun _ => False) where
  φ := rfl
  free := fun _ h => h.elim
  out := fun _ h => h.elim
  same := fun _ _ _ => rfl
  size := Nat.le_refl _
  os := rfl
  tape := rfl
  output := rfl

theorem Moves.trans {E'' : Env} {T' : Nat → Prop} (h : Moves G E E' T) (h' : Moves G E' E'' T') (hsub : ∀ b, T' b → T b ∨ (E.w.heap.size ≤ b)) : Moves G E E'' T where
  φ := h'.φ.trans h.φ
  free := h.free
  out := h.out
  same := fun b hb hT => by
    have h1 := h.same b hb hT
    rw [← h1]
    refine h'.same b (Nat.lt_of_lt_of_le hb h.size) (fun hT' => ?_)
    rcases hsub b hT' with h2 | h2
    · exact hT h2
    · omega
  size := Nat.le_trans h.size h'.size
  os := h'.os.trans h.os
  tape := h'.tape.trans h.tape
  output := h'.output.trans h.output

theorem Moves.setRow (G : Ctx) (E : Env) (b : Nat) (cs : Array Value) (hf : ∀ i, E.φ b i = none) (hK : ¬ G.K b) : Moves G E { E with w := E.w.setRow b cs } (fun c => c = b) where
  φ := rfl
  free := fun c h => by subst h; exact hf
  out := fun c h => by subst h; exact hK
  same := fun c _ h => setRow_other E.w b c cs h
  size := by simp
  os := rfl
  tape := rfl
  output := rfl

/-- Another word for what a slot holds. -/
theorem Inv.relabel (hi : Inv G E RR st a) {d : Nat} {x : X} {R : List Nat} (hx : RX E x (a.tmps.getD d undef) R) (hn : R.Nodup)
    (hR : ∀ b ∈ R, b < E.w.heap.size ∧ ¬ G.K b ∧ ∀ p, p ≠ .slot d → b ∉ RR p) : Inv G E (upd RR (.slot d) R) (st.put d x) a := by
  refine { hi with slots := ?_, objs := ?_, nodup := ?_, apart := ?_, own := ?_ }
  · intro s y hy
    simp only [St.put, look] at hy
    cases hb : Nat.beq d s with
    | true =>
      have := Nat.eq_of_beq_eq_true hb
      subst this
      rw [hb] at hy
      simp only [cond_true, Option.some.injEq] at hy
      subst hy
      simpa [upd] using hx
    | false =>
      have hne := Nat.ne_of_beq_eq_false hb
      rw [hb] at hy
      have : upd RR (.slot d) R (.slot s) = RR (.slot s) := by simp [upd, Ne.symm hne]
      rw [this]
      exact hi.slots s y hy
  · intro o ob ho
    have : upd RR (.slot d) R (.obj o) = RR (.obj o) := by simp [upd]
    rw [this]; exact hi.objs o ob ho
  · intro p
    unfold upd
    split
    · exact hn
    · exact hi.nodup p
  · intro p q hpq b hb
    unfold upd at hb ⊢
    split at hb
    · rename_i hp
      subst hp
      rw [if_neg (Ne.symm hpq)]
      exact (hR b hb).2.2 q (Ne.symm hpq)
    · split
      · rename_i hp hq
        subst hq
        intro hb'
        exact (hR b hb').2.2 p hpq hb
      · exact hi.apart p q hpq b hb
  · intro p b hb
    unfold upd at hb
    split at hb
    · exact ⟨(hR b hb).1, (hR b hb).2.1⟩
    · exact hi.own p b hb

theorem Inv.no (hi : Inv G E RR st a) (d : Nat) : Inv G E (upd RR (.slot d) []) (st.put d .no) a :=
  hi.relabel (by simp [RX]) List.nodup_nil (fun _ h => by cases h)

def St.putO (st : St) (o : Nat) (ob : Obj) : St := { st with objs := (o, ob) :: st.objs }

/-- A new object, or a new word for an old one. -/
theorem Inv.putO (hi : Inv G E RR st a) {o : Nat} {ob : Obj} {R : List Nat} (hx : ROb E o ob R) (hn : R.Nodup)
    (hR : ∀ b ∈ R, b < E.w.heap.size ∧ ¬ G.K b ∧ ∀ p, p ≠ .obj o → b ∉ RR p) : Inv G E (upd RR (.obj o) R) (st.putO o ob) a := by
  refine { hi with slots := ?_, objs := ?_, nodup := ?_, apart := ?_, own := ?_ }
  · intro s y hy
    have : upd RR (.obj o) R (.slot s) = RR (.slot s) := by simp [upd]
    rw [this]; exact hi.slots s y hy
  · intro q ob' ho
    simp only [St.putO, look] at ho
    cases hb : Nat.beq o q with
    | true =>
      have := Nat.eq_of_beq_eq_true hb
      subst this
      rw [hb] at ho
      simp only [cond_true, Option.some.injEq] at ho
      subst ho
      simpa [upd] using hx
    | false =>
      have hne := Nat.ne_of_beq_eq_false hb
      rw [hb] at ho
      have : upd RR (.obj o) R (.obj q) = RR (.obj q) := by simp [upd, Ne.symm hne]
      rw [this]
      exact hi.objs q ob' ho
  · intro p
    unfold upd
    split
    · exact hn
    · exact hi.nodup p
  · intro p q hpq b hb
    unfold upd at hb ⊢
    split at hb
    · rename_i hp
      subst hp
      rw [if_neg (Ne.symm hpq)]
      exact (hR b hb).2.2 q (Ne.symm hpq)
    · split
      · rename_i hp hq
        subst hq
        intro hb'
        exact (hR b hb').2.2 p hpq hb
      · exact hi.apart p q hpq b hb
  · intro p b hb
    unfold upd at hb
    split at hb
    · exact ⟨(hR b hb).1, (hR b hb).2.1⟩
    · exact hi.own p b hb

end

/-- Nothing says o any more. -/
def killX (o : Nat) (x : X) : X := bif x.ment o then .no else x
def killXs (o : Nat) (l : List (Nat × X)) : List (Nat × X) := l.map fun p => (p.1, killX o p.2)
def Obj.killC (o : Nat) : Obj → Obj
  | .cells xs => .cells (xs.map (killX o))
  | ob => ob
def killOs (o : Nat) (l : List (Nat × Obj)) : List (Nat × Obj) := l.map fun p => (p.1, p.2.killC o)
def St.kill (st : St) (o : Nat) : St := ⟨killXs o st.slots, killOs o st.objs⟩

theorem look_map {α β : Type} (f : α → β) : ∀ (l : List (Nat × α)) (s : Nat), look (l.map fun p => (p.1, f p.2)) s = (look l s).map f
  | [], _ => rfl
  | (t, x) :: r, s => by
    simp only [List.map_cons, look]
    cases Nat.beq t s with
    | true => rfl
    | false => exact look_map f r s

/-- The owned blocks of a value, less what is not told any more. -/
theorem killX_ment (o : Nat) (x : X) : (killX o x).ment o = false := by
  unfold killX
  cases h : x.ment o with
  | true => rfl
  | false => exact h

theorem killX_free (o : Nat) {x : X} (h : x.free = true) : (killX o x).free = true := by
  unfold killX
  cases x.ment o with
  | true => rfl
  | false => exact h

theorem frees_kill (o : Nat) : ∀ {xs : List X}, X.frees xs = true → X.frees (xs.map (killX o)) = true
  | [], _ => rfl
  | x :: r, h => by
    simp only [X.frees, Bool.and_eq_true] at h
    simp only [List.map_cons, X.frees, killX_free o h.1, frees_kill o h.2, Bool.and_self]

theorem RO.kill {E : Env} {o : Nat} : ∀ {xs : List X} {cs : Array Value} {off : Nat}, X.frees xs = true → RO E xs cs off [] → RO E (xs.map (killX o)) cs off []
  | [], _, _, _, h => h
  | x :: r, cs, off, hf, h => by
    simp only [RO] at h
    obtain ⟨u, R₁, R₂, hu, hs, h1, h2, hR⟩ := h
    simp only [X.frees, Bool.and_eq_true] at hf
    have h01 := RX.free hf.1 h1
    have h02 := RO.free hf.2 h2
    subst h01; subst h02
    have h3 := RO.kill (o := o) hf.2 h2
    simp only [List.map_cons, RO]
    refine ⟨u, [], [], hu, hs, ?_, h3, rfl⟩
    unfold killX
    cases x.ment o with
    | true => simp [RX]
    | false => exact h1

theorem ments_kill (o : Nat) : ∀ (xs : List X) (q : Nat), X.ments q (xs.map (killX o)) = true → q ≠ o ∧ X.ments q xs = true
  | [], _, h => by simp [X.ments] at h
  | x :: r, q, h => by
    simp only [List.map_cons, X.ments, Bool.or_eq_true] at h ⊢
    rcases h with h | h
    · unfold killX at h
      cases hk : x.ment o with
      | true => simp [hk, X.ment] at h
      | false =>
        rw [hk] at h
        simp only [cond_false] at h
        exact ⟨fun hq => by (subst hq; rw [hk] at h; cases h), .inl h⟩
    · exact ⟨(ments_kill o r q h).1, .inr (ments_kill o r q h).2⟩

section
variable {G : Ctx} {E E' : Env} {RR : Own → List Nat} {st : St} {a : Act} {T : Nat → Prop}

theorem Inv.mine (hi : Inv G E RR st a) {o b : Nat} (h : b ∈ RR (.obj o) ∨ E.w.heap.size ≤ b) : ∀ p, p ≠ .obj o → b ∉ RR p := by
  intro p hp hb
  rcases h with h | h
  · exact hi.apart p _ hp b hb h
  · have := (hi.own p b hb).1; omega

/-- Who owns what, when the object o has changed and nothing else says o. -/
def reown (st : St) (RR : Own → List Nat) (o : Nat) (R : List Nat) : Own → List Nat
  | .obj q => if q = o then R else RR (.obj q)
  | .slot s => match look st.slots s with
    | some x => bif x.ment o then [] else RR (.slot s)
    | none => RR (.slot s)

theorem reown_slot (st : St) (RR : Own → List Nat) (o : Nat) (R : List Nat) (s : Nat) : reown st RR o R (.slot s) = [] ∨ reown st RR o R (.slot s) = RR (.slot s) := by
  cases hs : look st.slots s with
  | none => exact .inr (by simp [reown, hs])
  | some x => cases hk : x.ment o with
    | true => exact .inl (by simp [reown, hs, hk])
    | false => exact .inr (by simp [reown, hs, hk])

/-- The object o changes, its place too; nothing else says o any more. -/
theorem Inv.reobj (hi : Inv G E RR st a) (hm : Moves G E E' T) {o : Nat} {ob : Obj} {R : List Nat} (hT : ∀ b, T b → b ∈ RR (.obj o)) (hβ : ∀ q, q ≠ o → E'.β q = E.β q) (hfix : G.fn.F.elem o = true → E'.β o = E.β o)
    (hx : ROb E' o ob R) (hn : R.Nodup) (hR : ∀ b ∈ R, b < E'.w.heap.size ∧ ¬ G.K b ∧ ∀ p, p ≠ .obj o → b ∉ RR p) :
    Inv G E' (reown st RR o R) ((st.kill o).putO o ob) a := by
  have hold : ∀ p, p ≠ .obj o → ∀ b ∈ RR p, ¬ T b := fun p hp b hb hTb => hi.apart p (.obj o) hp b hb (hT b hTb)
  have hsub : ∀ p, p ≠ .obj o → ∀ b ∈ reown st RR o R p, b ∈ RR p := by
    intro p hp b hb
    cases p with
    | obj q =>
      have : q ≠ o := fun e => hp (by rw [e])
      simpa [reown, this] using hb
    | slot s =>
      rcases reown_slot st RR o R s with h | h
      · rw [h] at hb; cases hb
      · rw [h] at hb; exact hb
  have hself : reown st RR o R (.obj o) = R := by simp [reown]
  have hnew : ∀ p, p ≠ .obj o → ∀ b ∈ RR p, b ∉ R := by
    intro p hp b hb hbR
    exact (hR b hbR).2.2 p hp hb
  have hφ0 : ∀ b i v, G.φ0 b i = some v → E'.φ b i = some v := fun b i v h => by rw [hm.φ]; exact hi.φ0 b i v h
  have hgrow : ∀ b i v, E'.φ b i = some v → G.φ0 b i = some v ∨ ¬ G.K b := fun b i v h => by rw [hm.φ] at h; exact hi.grow b i v h
  refine { hi with frz := hm.frz hi, slots := ?_, objs := ?_, nodup := ?_, apart := ?_, own := ?_, keep := hm.keep hi, size := Nat.le_trans hi.size hm.size, os := hm.os.trans hi.os, tape := hm.tape.trans hi.tape, output := hm.output.trans hi.output, φ0 := hφ0, grow := hgrow, fixed := ?_ }
  · intro s y hy
    have hl : look (killXs o st.slots) s = some y := hy
    unfold killXs at hl
    rw [look_map (killX o)] at hl
    cases hs : look st.slots s with
    | none => simp [hs] at hl
    | some x =>
      rw [hs] at hl
      simp only [Option.map_some, Option.some.injEq] at hl
      subst hl
      cases hk : x.ment o with
      | true => simp [reown, hs, hk, killX, RX]
      | false =>
        have : reown st RR o R (.slot s) = RR (.slot s) := by simp [reown, hs, hk]
        rw [this]
        simp only [killX, hk, cond_false]
        exact hm.slot hi hs (hold _ (by simp)) (fun q hq => hβ q (fun e => by subst e; rw [hk] at hq; cases hq))
  · intro q ob' ho
    simp only [St.putO, look] at ho
    cases hb : Nat.beq o q with
    | true =>
      have := Nat.eq_of_beq_eq_true hb
      subst this
      rw [hb] at ho
      simp only [cond_true, Option.some.injEq] at ho
      subst ho
      rw [hself]; exact hx
    | false =>
      have hne := Nat.ne_of_beq_eq_false hb
      rw [hb] at ho
      have hl : look (killOs o st.objs) q = some ob' := ho
      unfold killOs at hl
      rw [look_map (Obj.killC o)] at hl
      have hr : reown st RR o R (.obj q) = RR (.obj q) := by simp [reown, Ne.symm hne]
      rw [hr]
      cases hs : look st.objs q with
      | none => simp [hs] at hl
      | some ob0 =>
        rw [hs] at hl
        simp only [Option.map_some, Option.some.injEq] at hl
        subst hl
        have hobj := hi.objs q ob0 hs
        have hon := hm.on hi (p := .obj q) (hold _ (by simpa using Ne.symm hne))
        cases ob0 with
        | cells xs =>
          simp only [Obj.killC, ROb] at hobj ⊢
          obtain ⟨hfr, B, cs, ty, hB, hw, hf, hlen, hRO, hRR⟩ := hobj
          have h2 := hon.2 B.b (by rw [hRR]; simp)
          exact ⟨frees_kill o hfr, B, cs, ty, (hβ q (Ne.symm hne)).trans hB, h2.1.trans hw, h2.2 hf, by simpa using hlen,
            RO.mono _ cs _ [] (hon.sub (fun _ h => by cases h)) (fun p hp => hβ p (ments_kill o xs p hp).1) (RO.kill hfr hRO), hRR⟩
        | rows s rs => exact ROb.mono hon (hβ q (Ne.symm hne)) (fun xs h => by cases h) hobj
        | gone => simpa [ROb, Obj.killC] using hobj
  · intro p
    by_cases hp : p = .obj o
    · subst hp; rw [hself]; exact hn
    · cases p with
      | obj q =>
        have : q ≠ o := fun e => hp (by rw [e])
        simpa [reown, this] using hi.nodup (.obj q)
      | slot s =>
        rcases reown_slot st RR o R s with h | h
        · rw [h]; exact List.nodup_nil
        · rw [h]; exact hi.nodup _
  · intro p q hpq b hb hb'
    by_cases hp : p = .obj o
    · subst hp
      rw [hself] at hb
      have hq : q ≠ .obj o := Ne.symm hpq
      exact hnew q hq b (hsub q hq b hb') hb
    · by_cases hq : q = .obj o
      · subst hq
        rw [hself] at hb'
        exact hnew p hp b (hsub p hp b hb) hb'
      · exact hi.apart p q hpq b (hsub p hp b hb) (hsub q hq b hb')
  · intro p b hb
    by_cases hp : p = .obj o
    · subst hp
      rw [hself] at hb
      exact ⟨(hR b hb).1, (hR b hb).2.1⟩
    · exact hm.own hi p b (hsub p hp b hb)
  · intro q hq
    by_cases hqo : q = o
    · subst hqo; rw [hfix hq]; exact hi.fixed q hq
    · rw [hβ q hqo]; exact hi.fixed q hq

/-- The object o changes, but not its place. -/
theorem Inv.inobj (hi : Inv G E RR st a) (hm : Moves G E E' T) {o : Nat} {ob : Obj} {R : List Nat} (hT : ∀ b, T b → b ∈ RR (.obj o)) (hβ : E'.β = E.β)
    (hx : ROb E' o ob R) (hn : R.Nodup) (hR : ∀ b ∈ R, b < E'.w.heap.size ∧ ¬ G.K b ∧ ∀ p, p ≠ .obj o → b ∉ RR p) :
    Inv G E' (upd RR (.obj o) R) (st.putO o ob) a := by
  have hold : ∀ p, p ≠ .obj o → ∀ b ∈ RR p, ¬ T b := fun p hp b hb hTb => hi.apart p (.obj o) hp b hb (hT b hTb)
  have hnew : ∀ p, p ≠ .obj o → ∀ b ∈ RR p, b ∉ R := by
    intro p hp b hb hbR
    exact (hR b hbR).2.2 p hp hb
  have hφ0 : ∀ b i v, G.φ0 b i = some v → E'.φ b i = some v := fun b i v h => by rw [hm.φ]; exact hi.φ0 b i v h
  have hgrow : ∀ b i v, E'.φ b i = some v → G.φ0 b i = some v ∨ ¬ G.K b := fun b i v h => by rw [hm.φ] at h; exact hi.grow b i v h
  refine { hi with frz := hm.frz hi, slots := ?_, objs := ?_, nodup := ?_, apart := ?_, own := ?_, keep := hm.keep hi, size := Nat.le_trans hi.size hm.size, os := hm.os.trans hi.os, tape := hm.tape.trans hi.tape, output := hm.output.trans hi.output, φ0 := hφ0, grow := hgrow, fixed := fun q hq => by rw [hβ]; exact hi.fixed q hq }
  · intro s y hy
    have : upd RR (.obj o) R (.slot s) = RR (.slot s) := by simp [upd]
    rw [this]
    exact hm.slot hi hy (hold _ (by simp)) (fun q _ => by rw [hβ])
  · intro q ob' ho
    simp only [St.putO, look] at ho
    cases hb : Nat.beq o q with
    | true =>
      have := Nat.eq_of_beq_eq_true hb
      subst this
      rw [hb] at ho
      simp only [cond_true, Option.some.injEq] at ho
      subst ho
      simpa [upd] using hx
    | false =>
      have hne := Nat.ne_of_beq_eq_false hb
      rw [hb] at ho
      have : upd RR (.obj o) R (.obj q) = RR (.obj q) := by simp [upd, Ne.symm hne]
      rw [this]
      exact hm.obj hi ho (hold _ (by simpa using Ne.symm hne)) (by rw [hβ]) (fun _ _ _ _ => by rw [hβ])
  · intro p
    unfold upd
    split
    · exact hn
    · exact hi.nodup p
  · intro p q hpq b hb hb'
    unfold upd at hb hb'
    split at hb
    · rename_i hp
      subst hp
      rw [if_neg (Ne.symm hpq)] at hb'
      exact hnew q (Ne.symm hpq) b hb' hb
    · rename_i hp
      split at hb'
      · exact hnew p hp b hb hb'
      · exact hi.apart p q hpq b hb hb'
  · intro p b hb
    unfold upd at hb
    split at hb
    · exact ⟨(hR b hb).1, (hR b hb).2.1⟩
    · exact hm.own hi p b hb
end
end Go.AW
