/- Part of the abstract walk: names of objects in a callee and in its caller; values that need no frozen memory. -/
import Derived.Test.YtiehdnjcapjacaaAWB6
namespace Go.AW
open Go

mutual
/-- Other names for the objects. -/
def X.ren (ν : Nat → Nat) : X → X
  | .ptr o s i k => .ptr (ν o) s i k
  | .slc o s lo n => .slc (ν o) s lo n
  | .mref o => .mref (ν o)
  | .agg xs => .agg (X.rens ν xs)
  | .tup xs => .tup (X.rens ν xs)
  | .clo f a b => .clo f (X.rens ν a) (X.rens ν b)
  | .v u => .v u
  | .no => .no
  | .fz s rows => .fz s rows
  | .uni s rows => .uni s rows
  | .fp row k => .fp row k
def X.rens (ν : Nat → Nat) : List X → List X
  | [] => []
  | x :: r => x.ren ν :: X.rens ν r
end

def Env.names (E : Env) (ν : Nat → Nat) : Env := { E with β := fun o => E.β (ν o) }

theorem names_on (E : Env) (ν : Nat → Nat) (R : List Nat) : (E.names ν).On E R ∧ E.On (E.names ν) R := ⟨⟨fun _ _ _ h => h, fun _ _ => ⟨rfl, fun h => h⟩⟩, ⟨fun _ _ _ h => h, fun _ _ => ⟨rfl, fun h => h⟩⟩⟩

mutual
theorem RX.ren {E : Env} {ν : Nat → Nat} : ∀ (x : X) (c : Value) (R : List Nat), RX (E.names ν) x c R ↔ RX E (x.ren ν) c R
  | .ptr .., _, _ => by simp only [X.ren, RX]; exact Iff.rfl
  | .slc .., _, _ => by simp only [X.ren, RX]; exact Iff.rfl
  | .mref _, _, _ => by simp only [X.ren, RX]; exact Iff.rfl
  | .v _, _, _ => by simp only [X.ren, RX]
  | .no, _, _ => by simp only [X.ren, RX]
  | .fz s rows, c, R => ⟨RX.mono _ c R (names_on E ν R).1 (fun o h => by simp [X.ment] at h), RX.mono _ c R (names_on E ν R).2 (fun o h => by simp [X.ren, X.ment] at h)⟩
  | .uni s rows, c, R => ⟨RX.mono _ c R (names_on E ν R).1 (fun o h => by simp [X.ment] at h), RX.mono _ c R (names_on E ν R).2 (fun o h => by simp [X.ren, X.ment] at h)⟩
  | .fp row k, c, R => ⟨RX.mono _ c R (names_on E ν R).1 (fun o h => by simp [X.ment] at h), RX.mono _ c R (names_on E ν R).2 (fun o h => by simp [X.ren, X.ment] at h)⟩
  | .agg xs, c, R => by
    simp only [X.ren, RX]
    exact ⟨fun ⟨cs, h1, h2⟩ => ⟨cs, h1, (RXs.ren xs _ R).1 h2⟩, fun ⟨cs, h1, h2⟩ => ⟨cs, h1, (RXs.ren xs _ R).2 h2⟩⟩
  | .tup xs, c, R => by
    simp only [X.ren, RX]
    exact ⟨fun ⟨cs, h1, h2⟩ => ⟨cs, h1, (RXt.ren xs _ R).1 h2⟩, fun ⟨cs, h1, h2⟩ => ⟨cs, h1, (RXt.ren xs _ R).2 h2⟩⟩
  | .clo f xs ys, c, R => by
    simp only [X.ren, RX]
    exact ⟨fun ⟨h0, f, cc, h1, h2, h3⟩ => ⟨h0, f, cc, h1, (RXt.ren xs _ []).1 h2, (RXt.ren ys _ []).1 h3⟩, fun ⟨h0, f, cc, h1, h2, h3⟩ => ⟨h0, f, cc, h1, (RXt.ren xs _ []).2 h2, (RXt.ren ys _ []).2 h3⟩⟩
theorem RXs.ren {E : Env} {ν : Nat → Nat} : ∀ (xs : List X) (cs : List Value) (R : List Nat), RXs (E.names ν) xs cs R ↔ RXs E (X.rens ν xs) cs R
  | [], _, _ => by simp only [X.rens, RXs]
  | x :: r, cs, R => by
    simp only [X.rens, RXs]
    exact ⟨fun ⟨c, cs', R₁, R₂, h1, h2, h3, h4, h5⟩ => ⟨c, cs', R₁, R₂, h1, h2, (RX.ren x c R₁).1 h3, (RXs.ren r cs' R₂).1 h4, h5⟩,
      fun ⟨c, cs', R₁, R₂, h1, h2, h3, h4, h5⟩ => ⟨c, cs', R₁, R₂, h1, h2, (RX.ren x c R₁).2 h3, (RXs.ren r cs' R₂).2 h4, h5⟩⟩
theorem RXt.ren {E : Env} {ν : Nat → Nat} : ∀ (xs : List X) (cs : List Value) (R : List Nat), RXt (E.names ν) xs cs R ↔ RXt E (X.rens ν xs) cs R
  | [], _, _ => by simp only [X.rens, RXt]
  | x :: r, cs, R => by
    simp only [X.rens, RXt]
    exact ⟨fun ⟨c, cs', R₁, R₂, h1, h3, h4, h5⟩ => ⟨c, cs', R₁, R₂, h1, (RX.ren x c R₁).1 h3, (RXt.ren r cs' R₂).1 h4, h5⟩,
      fun ⟨c, cs', R₁, R₂, h1, h3, h4, h5⟩ => ⟨c, cs', R₁, R₂, h1, (RX.ren x c R₁).2 h3, (RXt.ren r cs' R₂).2 h4, h5⟩⟩
end

theorem RO.ren {E : Env} {ν : Nat → Nat} : ∀ (xs : List X) (cs : Array Value) (off : Nat) (R : List Nat), RO (E.names ν) xs cs off R ↔ RO E (X.rens ν xs) cs off R
  | [], _, _, _ => by simp only [X.rens, RO]
  | x :: r, cs, off, R => by
    simp only [X.rens, RO]
    exact ⟨fun ⟨u, R₁, R₂, h1, h2, h3, h4, h5⟩ => ⟨u, R₁, R₂, h1, h2, (RX.ren x u R₁).1 h3, (RO.ren r cs _ R₂).1 h4, h5⟩,
      fun ⟨u, R₁, R₂, h1, h2, h3, h4, h5⟩ => ⟨u, R₁, R₂, h1, h2, (RX.ren x u R₁).2 h3, (RO.ren r cs _ R₂).2 h4, h5⟩⟩

theorem length_rens (ν : Nat → Nat) : ∀ xs : List X, (X.rens ν xs).length = xs.length
  | [] => rfl
  | _ :: r => by simp [X.rens, length_rens ν r]

mutual
theorem X.free_ren (ν : Nat → Nat) : ∀ x : X, (x.ren ν).free = x.free
  | .ptr .. | .slc .. | .mref _ | .v _ | .no | .fz .. | .uni .. | .fp .. | .clo .. => rfl
  | .agg xs => X.frees_ren ν xs
  | .tup xs => X.frees_ren ν xs
theorem X.frees_ren (ν : Nat → Nat) : ∀ xs : List X, X.frees (X.rens ν xs) = X.frees xs
  | [] => rfl
  | x :: r => by simp only [X.rens, X.frees, X.free_ren ν x, X.frees_ren ν r]
end

def Obj.ren (ν : Nat → Nat) : Obj → Obj
  | .cells xs => .cells (X.rens ν xs)
  | .rows s rs => .rows s rs
  | .gone => .gone

theorem ROb.ren {E : Env} {ν : Nat → Nat} {j : Nat} {ob : Obj} {R : List Nat} : ROb (E.names ν) j ob R ↔ ROb E (ν j) (ob.ren ν) R := by
  cases ob with
  | cells xs =>
    simp only [Obj.ren, ROb, X.frees_ren, length_rens]
    exact ⟨fun ⟨h0, B, cs, ty, h1, h2, h3, h4, h5, h6⟩ => ⟨h0, B, cs, ty, h1, h2, h3, h4, (RO.ren xs cs _ []).1 h5, h6⟩,
      fun ⟨h0, B, cs, ty, h1, h2, h3, h4, h5, h6⟩ => ⟨h0, B, cs, ty, h1, h2, h3, h4, (RO.ren xs cs _ []).2 h5, h6⟩⟩
  | rows s rs =>
    simp only [Obj.ren, ROb]
    refine ⟨fun ⟨hu, h⟩ => ⟨hu, h.imp (fun h => h) ?_⟩, fun ⟨hu, h⟩ => ⟨hu, h.imp (fun h => h) ?_⟩⟩
    · exact fun ⟨B, cs, ty, R', h1, h2, h3, h4, h5, h6, h7⟩ => ⟨B, cs, ty, R', h1, h2, h3, h4, h5, ROr.mono rs cs _ R' (names_on E ν R').1 h6, h7⟩
    · exact fun ⟨B, cs, ty, R', h1, h2, h3, h4, h5, h6, h7⟩ => ⟨B, cs, ty, R', h1, h2, h3, h4, h5, ROr.mono rs cs _ R' (names_on E ν R').2 h6, h7⟩
  | gone => simp only [Obj.ren, ROb]

mutual
/-- It needs no frozen memory. -/
def X.plain : X → Prop
  | .v _ | .no | .ptr .. | .slc .. | .mref _ => True
  | .fz _ _ | .fp _ _ | .clo .. => False
  | .uni _ rows => X.plainr rows
  | .agg xs => X.plains xs
  | .tup xs => X.plains xs
def X.plains : List X → Prop
  | [] => True
  | x :: r => x.plain ∧ X.plains r
def X.plainr : List (List X) → Prop
  | [] => True
  | x :: r => X.plains x ∧ X.plainr r
end

/-- E' is as E on the blocks R, but for what is frozen. -/
def Env.Off (E E' : Env) (R : List Nat) : Prop := ∀ b ∈ R, E'.w.heap[b]? = E.w.heap[b]? ∧ ((∀ i, E.φ b i = none) → ∀ i, E'.φ b i = none)
theorem Env.Off.sub {E E' : Env} {R R' : List Nat} (h : E.Off E' R) (hs : ∀ b ∈ R', b ∈ R) : E.Off E' R' := fun b hb => h b (hs b hb)

mutual
theorem RX.off {E E' : Env} : ∀ (x : X) (c : Value) (R : List Nat), x.plain → E.Off E' R → (∀ o, E'.β o = E.β o) → RX E x c R → RX E' x c R
  | .v _, _, _, _, _, _, h => by simpa [RX] using h
  | .no, _, _, _, _, _, h => by simpa [RX] using h
  | .fz .., _, _, hp, _, _, _ => hp.elim
  | .fp .., _, _, hp, _, _, _ => hp.elim
  | .clo .., _, _, hp, _, _, _ => hp.elim
  | .ptr o .., _, _, _, _, hβ, h => by simp only [RX] at h ⊢; rw [hβ]; exact h
  | .slc o .., _, _, _, _, hβ, h => by simp only [RX] at h ⊢; rw [hβ]; exact h
  | .mref o, _, _, _, _, hβ, h => by simp only [RX] at h ⊢; rw [hβ]; exact h
  | .uni s rows, c, R, hp, hE, hβ, h => by
    simp only [RX] at h ⊢
    obtain ⟨hu, base, cap, hc, hh⟩ := h
    refine ⟨hu, base, cap, hc, ?_⟩
    rcases hh with hh | ⟨b, off, cs, ty, R', hb, hw, hl, ho, hf, hr, hR⟩
    · exact .inl hh
    · subst hR
      have h2 := hE b (by simp)
      exact .inr ⟨b, off, cs, ty, R', hb, h2.1.trans hw, hl, ho, h2.2 hf, ROr.off rows cs off R' hp (hE.sub (fun _ h => by simp [h])) hβ hr, rfl⟩
  | .agg xs, c, R, hp, hE, hβ, h => by
    simp only [RX] at h ⊢
    obtain ⟨cs, hc, hs⟩ := h
    exact ⟨cs, hc, RXs.off xs _ R hp hE hβ hs⟩
  | .tup xs, c, R, hp, hE, hβ, h => by
    simp only [RX] at h ⊢
    obtain ⟨cs, hc, hs⟩ := h
    exact ⟨cs, hc, RXt.off xs _ R hp hE hβ hs⟩
theorem RXs.off {E E' : Env} : ∀ (xs : List X) (cs : List Value) (R : List Nat), X.plains xs → E.Off E' R → (∀ o, E'.β o = E.β o) → RXs E xs cs R → RXs E' xs cs R
  | [], _, _, _, _, _, h => by simpa [RXs] using h
  | x :: r, cs, R, hp, hE, hβ, h => by
    simp only [RXs] at h ⊢
    simp only [X.plains] at hp
    obtain ⟨c, cs', R₁, R₂, hc, hs, h1, h2, hR⟩ := h
    subst hR
    exact ⟨c, cs', R₁, R₂, hc, hs, RX.off x c R₁ hp.1 (hE.sub (fun _ h => mem_app_l h)) hβ h1, RXs.off r cs' R₂ hp.2 (hE.sub (fun _ h => mem_app_r h)) hβ h2, rfl⟩
theorem RXt.off {E E' : Env} : ∀ (xs : List X) (cs : List Value) (R : List Nat), X.plains xs → E.Off E' R → (∀ o, E'.β o = E.β o) → RXt E xs cs R → RXt E' xs cs R
  | [], _, _, _, _, _, h => by simpa [RXt] using h
  | x :: r, cs, R, hp, hE, hβ, h => by
    simp only [RXt] at h ⊢
    simp only [X.plains] at hp
    obtain ⟨c, cs', R₁, R₂, hc, h1, h2, hR⟩ := h
    subst hR
    exact ⟨c, cs', R₁, R₂, hc, RX.off x c R₁ hp.1 (hE.sub (fun _ h => mem_app_l h)) hβ h1, RXt.off r cs' R₂ hp.2 (hE.sub (fun _ h => mem_app_r h)) hβ h2, rfl⟩
theorem RO.off {E E' : Env} : ∀ (xs : List X) (cs : Array Value) (off : Nat) (R : List Nat), X.plains xs → E.Off E' R → (∀ o, E'.β o = E.β o) → RO E xs cs off R → RO E' xs cs off R
  | [], _, _, _, _, _, _, h => by simpa [RO] using h
  | x :: r, cs, off, R, hp, hE, hβ, h => by
    simp only [RO] at h ⊢
    simp only [X.plains] at hp
    obtain ⟨u, R₁, R₂, hu, hs, h1, h2, hR⟩ := h
    subst hR
    exact ⟨u, R₁, R₂, hu, hs, RX.off x u R₁ hp.1 (hE.sub (fun _ h => mem_app_l h)) hβ h1, RO.off r cs (off + 1) R₂ hp.2 (hE.sub (fun _ h => mem_app_r h)) hβ h2, rfl⟩
theorem ROr.off {E E' : Env} : ∀ (rs : List (List X)) (cs : Array Value) (off : Nat) (R : List Nat), X.plainr rs → E.Off E' R → (∀ o, E'.β o = E.β o) → ROr E rs cs off R → ROr E' rs cs off R
  | [], _, _, _, _, _, _, h => by simpa [ROr] using h
  | r :: rs, cs, off, R, hp, hE, hβ, h => by
    simp only [ROr] at h ⊢
    simp only [X.plainr] at hp
    obtain ⟨R₁, R₂, hn, h1, h2, hR⟩ := h
    subst hR
    exact ⟨R₁, R₂, hn, RO.off r cs off R₁ hp.1 (hE.sub (fun _ h => mem_app_l h)) hβ h1, ROr.off rs cs _ R₂ hp.2 (hE.sub (fun _ h => mem_app_r h)) hβ h2, rfl⟩
end

def Obj.plain : Obj → Prop
  | .cells xs => X.plains xs
  | .rows _ rs => X.plainr rs
  | .gone => True

theorem ROb.off {E E' : Env} {o : Nat} {ob : Obj} {R : List Nat} (hp : ob.plain) (hE : E.Off E' R) (hβ : ∀ o, E'.β o = E.β o) (h : ROb E o ob R) : ROb E' o ob R := by
  cases ob with
  | cells xs =>
    simp only [ROb] at h ⊢
    obtain ⟨hfr, B, cs, ty, hB, hw, hf, hl, hR, rfl⟩ := h
    have h2 := hE B.b (by simp)
    exact ⟨hfr, B, cs, ty, (hβ o).trans hB, h2.1.trans hw, h2.2 hf, hl, RO.off xs cs _ [] hp (hE.sub (fun _ h => by cases h)) hβ hR, rfl⟩
  | rows s rs =>
    simp only [ROb] at h ⊢
    obtain ⟨hu, h⟩ := h
    refine ⟨hu, ?_⟩
    rcases h with ⟨h1, h2, h3⟩ | ⟨B, cs, ty, R', hB, hw, hf, hl, hc, hR, rfl⟩
    · exact .inl ⟨(hβ o).trans h1, h2, h3⟩
    · have h2 := hE B.b (by simp)
      exact .inr ⟨B, cs, ty, R', (hβ o).trans hB, h2.1.trans hw, h2.2 hf, hl, hc, ROr.off rs cs _ R' hp (hE.sub (fun _ h => by simp [h])) hβ hR, rfl⟩
  | gone => simpa [ROb] using h

mutual
/-- It names objects below k alone. -/
def X.lt (k : Nat) : X → Bool
  | .v _ | .no | .fz .. | .uni .. | .fp .. => true
  | .ptr o .. => Nat.blt o k
  | .slc o .. => Nat.blt o k
  | .mref o => Nat.blt o k
  | .agg xs => X.lts k xs
  | .tup xs => X.lts k xs
  | .clo _ a b => X.lts k a && X.lts k b
def X.lts (k : Nat) : List X → Bool
  | [] => true
  | x :: r => x.lt k && X.lts k r
end

theorem blt_lt {o k : Nat} (h : Nat.blt o k = true) : o < k := Nat.le_of_ble_eq_true h

mutual
theorem X.lt_ment {k o : Nat} : ∀ {x : X}, x.lt k = true → x.ment o = true → o < k
  | .v _, _, h | .no, _, h | .fz .., _, h | .uni .., _, h | .fp .., _, h => by simp [X.ment] at h
  | .ptr p .., h, hm => by simp only [X.ment] at hm; rw [← Nat.eq_of_beq_eq_true hm]; exact blt_lt h
  | .slc p .., h, hm => by simp only [X.ment] at hm; rw [← Nat.eq_of_beq_eq_true hm]; exact blt_lt h
  | .mref p, h, hm => by simp only [X.ment] at hm; rw [← Nat.eq_of_beq_eq_true hm]; exact blt_lt h
  | .agg xs, h, hm => X.lts_ments (xs := xs) h hm
  | .tup xs, h, hm => X.lts_ments (xs := xs) h hm
  | .clo _ a b, h, hm => by
    simp only [X.lt, Bool.and_eq_true] at h
    simp only [X.ment, Bool.or_eq_true] at hm
    exact hm.elim (X.lts_ments h.1) (X.lts_ments h.2)
theorem X.lts_ments {k o : Nat} : ∀ {xs : List X}, X.lts k xs = true → X.ments o xs = true → o < k
  | [], _, h => by simp [X.ments] at h
  | x :: r, h, hm => by
    simp only [X.lts, Bool.and_eq_true] at h
    simp only [X.ments, Bool.or_eq_true] at hm
    exact hm.elim (X.lt_ment h.1) (X.lts_ments h.2)
end

def Obj.lt (k : Nat) : Obj → Bool
  | .cells xs => X.lts k xs
  | _ => true

/-- Several names at once. -/
def killM (l : List Nat) (x : X) : X := bif l.any (fun o => x.ment o) then .no else x
def Obj.killM (l : List Nat) : Obj → Obj
  | .cells xs => .cells (xs.map (AW.killM l))
  | ob => ob
def St.killM (st : St) (l : List Nat) : St := ⟨st.slots.map fun p => (p.1, AW.killM l p.2), st.objs.map fun p => (p.1, p.2.killM l)⟩

theorem killM_ment {l : List Nat} {x : X} {q : Nat} (h : (killM l x).ment q = true) : q ∉ l ∧ killM l x = x ∧ x.ment q = true := by
  unfold killM at h ⊢
  cases hk : l.any (fun o => x.ment o) with
  | true => simp [hk, X.ment] at h
  | false =>
    rw [hk] at h
    simp only [cond_false] at h ⊢
    refine ⟨fun hq => ?_, trivial, h⟩
    have : l.any (fun o => x.ment o) = true := List.any_eq_true.2 ⟨q, hq, h⟩
    rw [hk] at this; cases this

theorem frees_killM (l : List Nat) : ∀ {xs : List X}, X.frees xs = true → X.frees (xs.map (killM l)) = true
  | [], _ => rfl
  | x :: r, h => by
    simp only [X.frees, Bool.and_eq_true] at h
    have h1 : (killM l x).free = true := by
      unfold killM
      cases l.any (fun o => x.ment o) with
      | true => rfl
      | false => exact h.1
    simp only [List.map_cons, X.frees, h1, frees_killM l h.2, Bool.and_self]

theorem RO.killM {E : Env} {l : List Nat} : ∀ {xs : List X} {cs : Array Value} {off : Nat}, X.frees xs = true → RO E xs cs off [] → RO E (xs.map (AW.killM l)) cs off []
  | [], _, _, _, h => h
  | x :: r, _, _, hf, h => by
    simp only [RO] at h
    obtain ⟨u, R₁, R₂, hu, hs, h1, h2, hR⟩ := h
    simp only [X.frees, Bool.and_eq_true] at hf
    have h01 := RX.free hf.1 h1
    have h02 := RO.free hf.2 h2
    subst h01; subst h02
    have h3 := RO.killM (l := l) hf.2 h2
    simp only [List.map_cons, RO]
    refine ⟨u, [], [], hu, hs, ?_, h3, rfl⟩
    unfold AW.killM
    cases l.any (fun o => x.ment o) with
    | true => simp [RX]
    | false => exact h1

theorem ments_killM {l : List Nat} : ∀ {xs : List X} {q : Nat}, X.ments q (xs.map (killM l)) = true → q ∉ l
  | [], _, h => by simp [X.ments] at h
  | x :: r, q, h => by
    simp only [List.map_cons, X.ments, Bool.or_eq_true] at h
    rcases h with h | h
    · exact (killM_ment h).1
    · exact ments_killM h

end Go.AW
