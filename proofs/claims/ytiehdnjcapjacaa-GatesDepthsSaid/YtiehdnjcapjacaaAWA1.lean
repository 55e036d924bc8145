/- Part of the abstract walk: what holds of a value goes on holding while its own blocks stay as they are. -/
import Derived.Test.YtiehdnjcapjacaaAWA0
namespace Go.AW
open Go

theorem mem_app_l {α} {a : α} {l r : List α} (h : a ∈ l) : a ∈ l ++ r := List.mem_append.2 (.inl h)
theorem mem_app_r {α} {a : α} {l r : List α} (h : a ∈ r) : a ∈ l ++ r := List.mem_append.2 (.inr h)

/-- E' is as E on the blocks R. -/
def Env.On (E E' : Env) (R : List Nat) : Prop :=
  (∀ b i v, E.φ b i = some v → E'.φ b i = some v) ∧ ∀ b ∈ R, E'.w.heap[b]? = E.w.heap[b]? ∧ ((∀ i, E.φ b i = none) → ∀ i, E'.φ b i = none)

theorem Env.On.sub {E E' : Env} {R R' : List Nat} (h : E.On E' R) (hs : ∀ b ∈ R', b ∈ R) : E.On E' R' := ⟨h.1, fun b hb => h.2 b (hs b hb)⟩

mutual
theorem X.ment_of_nr : ∀ {x : X}, x.nr = true → ∀ o, x.ment o = false
  | .v _, _, _ | .no, _, _ | .fz .., _, _ | .uni .., _, _ | .fp .., _, _ => rfl
  | .agg xs, h, o => X.ments_of_nrs (xs := xs) h o
  | .tup xs, h, o => X.ments_of_nrs (xs := xs) h o
  | .clo _ a b, h, o => by
    simp only [X.nr, Bool.and_eq_true] at h
    simp only [X.ment, X.ments_of_nrs h.1 o, X.ments_of_nrs h.2 o, Bool.or_self]
theorem X.ments_of_nrs : ∀ {xs : List X}, X.nrs xs = true → ∀ o, X.ments o xs = false
  | [], _, _ => rfl
  | x :: r, h, o => by
    simp only [X.nrs, Bool.and_eq_true] at h
    simp only [X.ments, X.ment_of_nr h.1 o, X.ments_of_nrs h.2 o, Bool.or_self]
end

mutual
theorem RX.mono {E E' : Env} : ∀ (x : X) (c : Value) (R : List Nat), E.On E' R → (∀ o, x.ment o = true → E'.β o = E.β o) → RX E x c R → RX E' x c R
  | .v u, c, R, _, _, h => by simpa [RX] using h
  | .no, c, R, _, _, h => by simpa [RX] using h
  | .fz s rows, c, R, hE, _, h => by
    simp only [RX] at h ⊢
    obtain ⟨hR, hu, base, cap, hc, hh⟩ := h
    refine ⟨hR, hu, base, cap, hc, ?_⟩
    rcases hh with hh | ⟨b, off, hb, hl, hf⟩
    · exact .inl hh
    · exact .inr ⟨b, off, hb, hl, RFr.mono rows b off (hE.sub (by simp)) hf⟩
  | .uni s rows, c, R, hE, _, h => by
    simp only [RX] at h ⊢
    obtain ⟨hu, base, cap, hc, hh⟩ := h
    refine ⟨hu, base, cap, hc, ?_⟩
    rcases hh with hh | ⟨b, off, cs, ty, R', hb, hw, hl, ho, hf, hr, hR⟩
    · exact .inl hh
    · subst hR
      have h2 := hE.2 b (by simp)
      exact .inr ⟨b, off, cs, ty, R', hb, h2.1.trans hw, hl, ho, h2.2 hf, ROr.mono rows cs off R' (hE.sub (fun _ h => by simp [h])) hr, rfl⟩
  | .ptr o s i k, c, R, _, hβ, h => by
    simp only [RX] at h ⊢
    rw [hβ o (by simp [X.ment])]; exact h
  | .slc o s lo n, c, R, _, hβ, h => by
    simp only [RX] at h ⊢
    rw [hβ o (by simp [X.ment])]; exact h
  | .mref o, c, R, _, hβ, h => by
    simp only [RX] at h ⊢
    rw [hβ o (by simp [X.ment])]; exact h
  | .fp row k, c, R, hE, _, h => by
    simp only [RX] at h ⊢
    obtain ⟨hR, b, off, hc, hf⟩ := h
    exact ⟨hR, b, off, hc, RF.mono row b off (hE.sub (by simp)) hf⟩
  | .agg xs, c, R, hE, hβ, h => by
    simp only [RX] at h ⊢
    obtain ⟨cs, hc, hs⟩ := h
    exact ⟨cs, hc, RXs.mono xs _ R hE (fun o ho => hβ o (by simp [X.ment, ho])) hs⟩
  | .tup xs, c, R, hE, hβ, h => by
    simp only [RX] at h ⊢
    obtain ⟨cs, hc, hs⟩ := h
    exact ⟨cs, hc, RXt.mono xs _ R hE (fun o ho => hβ o (by simp [X.ment, ho])) hs⟩
  | .clo fn a b, c, R, hE, hβ, h => by
    simp only [RX] at h ⊢
    obtain ⟨hR, f, cc, hc, h1, h2⟩ := h
    exact ⟨hR, f, cc, hc, RXt.mono a _ [] (hE.sub (by simp)) (fun o ho => hβ o (by simp [X.ment, ho])) h1, RXt.mono b _ [] (hE.sub (by simp)) (fun o ho => hβ o (by simp [X.ment, ho])) h2⟩
theorem RXs.mono {E E' : Env} : ∀ (xs : List X) (cs : List Value) (R : List Nat), E.On E' R → (∀ o, X.ments o xs = true → E'.β o = E.β o) → RXs E xs cs R → RXs E' xs cs R
  | [], _, _, _, _, h => by simpa [RXs] using h
  | x :: r, cs, R, hE, hβ, h => by
    simp only [RXs] at h ⊢
    obtain ⟨c, cs', R₁, R₂, hc, hs, h1, h2, hR⟩ := h
    subst hR
    exact ⟨c, cs', R₁, R₂, hc, hs, RX.mono x c R₁ (hE.sub (fun _ h => mem_app_l h)) (fun o ho => hβ o (by simp [X.ments, ho])) h1,
      RXs.mono r cs' R₂ (hE.sub (fun _ h => mem_app_r h)) (fun o ho => hβ o (by simp [X.ments, ho])) h2, rfl⟩
theorem RXt.mono {E E' : Env} : ∀ (xs : List X) (cs : List Value) (R : List Nat), E.On E' R → (∀ o, X.ments o xs = true → E'.β o = E.β o) → RXt E xs cs R → RXt E' xs cs R
  | [], _, _, _, _, h => by simpa [RXt] using h
  | x :: r, cs, R, hE, hβ, h => by
    simp only [RXt] at h ⊢
    obtain ⟨c, cs', R₁, R₂, hc, h1, h2, hR⟩ := h
    subst hR
    exact ⟨c, cs', R₁, R₂, hc, RX.mono x c R₁ (hE.sub (fun _ h => mem_app_l h)) (fun o ho => hβ o (by simp [X.ments, ho])) h1,
      RXt.mono r cs' R₂ (hE.sub (fun _ h => mem_app_r h)) (fun o ho => hβ o (by simp [X.ments, ho])) h2, rfl⟩
theorem RF.mono {E E' : Env} : ∀ (xs : List X) (b off : Nat), E.On E' [] → RF E xs b off → RF E' xs b off
  | [], _, _, _, _ => by simp [RF]
  | x :: r, b, off, hE, h => by
    simp only [RF] at h ⊢
    obtain ⟨⟨u, hu, hs, hn, hx⟩, hr⟩ := h
    exact ⟨⟨u, hE.1 _ _ _ hu, hs, hn, RX.mono x u [] hE (fun o ho => by rw [X.ment_of_nr hn] at ho; cases ho) hx⟩, RF.mono r b (off + 1) hE hr⟩
theorem RFr.mono {E E' : Env} : ∀ (rs : List (List X)) (b off : Nat), E.On E' [] → RFr E rs b off → RFr E' rs b off
  | [], _, _, _, _ => by simp [RFr]
  | r :: rs, b, off, hE, h => by
    simp only [RFr] at h ⊢
    exact ⟨RF.mono r b off hE h.1, RFr.mono rs b _ hE h.2⟩
theorem RO.mono {E E' : Env} : ∀ (xs : List X) (cs : Array Value) (off : Nat) (R : List Nat), E.On E' R → (∀ o, X.ments o xs = true → E'.β o = E.β o) → RO E xs cs off R → RO E' xs cs off R
  | [], _, _, _, _, _, h => by simpa [RO] using h
  | x :: r, cs, off, R, hE, hβ, h => by
    simp only [RO] at h ⊢
    obtain ⟨u, R₁, R₂, hu, hs, h1, h2, hR⟩ := h
    subst hR
    exact ⟨u, R₁, R₂, hu, hs, RX.mono x u R₁ (hE.sub (fun _ h => mem_app_l h)) (fun o ho => hβ o (by simp [X.ments, ho])) h1,
      RO.mono r cs (off + 1) R₂ (hE.sub (fun _ h => mem_app_r h)) (fun o ho => hβ o (by simp [X.ments, ho])) h2, rfl⟩
theorem ROr.mono {E E' : Env} : ∀ (rs : List (List X)) (cs : Array Value) (off : Nat) (R : List Nat), E.On E' R → ROr E rs cs off R → ROr E' rs cs off R
  | [], _, _, _, _, h => by simpa [ROr] using h
  | r :: rs, cs, off, R, hE, h => by
    simp only [ROr] at h ⊢
    obtain ⟨R₁, R₂, hn, h1, h2, hR⟩ := h
    subst hR
    exact ⟨R₁, R₂, hn, RO.mono r cs off R₁ (hE.sub (fun _ h => mem_app_l h)) (fun o ho => by rw [X.ments_of_nrs hn] at ho; cases ho) h1,
      ROr.mono rs cs _ R₂ (hE.sub (fun _ h => mem_app_r h)) h2, rfl⟩
end

end Go.AW
