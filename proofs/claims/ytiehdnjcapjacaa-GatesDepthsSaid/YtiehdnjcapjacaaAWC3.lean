/- Part of the abstract walk: whatever a slot owns is written no more. -/
import Derived.Test.YtiehdnjcapjacaaAWC2
namespace Go.AW
open Go

mutual
/-- Frozen. -/
def X.ffz : X → X
  | .uni s rows => .fz s (X.ffzr rows)
  | .agg xs => .agg (X.ffzs xs)
  | .tup xs => .tup (X.ffzs xs)
  | .v u => .v u
  | .no => .no
  | .fz s rows => .fz s rows
  | .ptr o s i k => .ptr o s i k
  | .slc o s lo n => .slc o s lo n
  | .mref o => .mref o
  | .fp row k => .fp row k
  | .clo f a b => .clo f a b
def X.ffzs : List X → List X
  | [] => []
  | x :: r => x.ffz :: X.ffzs r
def X.ffzr : List (List X) → List (List X)
  | [] => []
  | r :: rs => X.ffzs r :: X.ffzr rs
end

theorem X.ffzs_length : ∀ xs : List X, (X.ffzs xs).length = xs.length
  | [] => rfl
  | _ :: r => by simp [X.ffzs, X.ffzs_length r]
theorem X.ffzr_length : ∀ rs : List (List X), (X.ffzr rs).length = rs.length
  | [] => rfl
  | _ :: r => by simp [X.ffzr, X.ffzr_length r]
theorem Uniform.ffzr {s : Nat} : ∀ {rs : List (List X)}, Uniform s rs → Uniform s (X.ffzr rs)
  | [], _ => fun _ h => by cases h
  | r :: rs, h => by
    intro q hq
    simp only [X.ffzr, List.mem_cons] at hq
    rcases hq with rfl | hq
    · rw [X.ffzs_length]; exact h r (by simp)
    · exact Uniform.ffzr (fun q hq => h q (by simp [hq])) q hq

mutual
theorem X.ffz_free : ∀ {x : X}, x.free = true → x.ffz = x
  | .v _, _ | .no, _ | .fz .., _ | .ptr .., _ | .slc .., _ | .mref _, _ | .fp .., _ | .clo .., _ => rfl
  | .uni .., h => by cases h
  | .agg xs, h => by simp only [X.ffz]; rw [X.ffzs_frees (xs := xs) h]
  | .tup xs, h => by simp only [X.ffz]; rw [X.ffzs_frees (xs := xs) h]
theorem X.ffzs_frees : ∀ {xs : List X}, X.frees xs = true → X.ffzs xs = xs
  | [], _ => rfl
  | x :: r, h => by
    simp only [X.frees, Bool.and_eq_true] at h
    simp only [X.ffzs]
    rw [X.ffz_free h.1, X.ffzs_frees h.2]
end
theorem X.ffzr_frees : ∀ {rs : List (List X)}, Frees rs → X.ffzr rs = rs
  | [], _ => rfl
  | r :: rs, h => by
    simp only [X.ffzr]
    rw [X.ffzs_frees (h r (by simp)), X.ffzr_frees (fun q hq => h q (by simp [hq]))]

mutual
theorem X.ffz_nr : ∀ {x : X}, x.nr = true → x.ffz.nr = true
  | .v _, _ | .no, _ | .fz .., _ | .fp .., _ => rfl
  | .uni .., _ => rfl
  | .agg xs, h => X.ffzs_nr (xs := xs) h
  | .tup xs, h => X.ffzs_nr (xs := xs) h
  | .clo .., h => h
  | .ptr .., h => h
  | .slc .., h => h
  | .mref _, h => h
theorem X.ffzs_nr : ∀ {xs : List X}, X.nrs xs = true → X.nrs (X.ffzs xs) = true
  | [], _ => rfl
  | x :: r, h => by
    simp only [X.nrs, Bool.and_eq_true] at h
    simp only [X.ffzs, X.nrs, Bool.and_eq_true]
    exact ⟨X.ffz_nr h.1, X.ffzs_nr h.2⟩
end

/-- E' knows the cells of the blocks R. -/
def Env.Fzs (E E' : Env) (R : List Nat) : Prop :=
  E'.w = E.w ∧ E'.β = E.β ∧ (∀ c i v, E.φ c i = some v → E'.φ c i = some v) ∧ ∀ b ∈ R, ∀ i v, E.w.cell? ⟨b, i, none⟩ = some v → E'.φ b i = some v
theorem Env.Fzs.sub {E E' : Env} {R R' : List Nat} (h : E.Fzs E' R) (hs : ∀ b ∈ R', b ∈ R) : E.Fzs E' R' := ⟨h.1, h.2.1, h.2.2.1, fun b hb => h.2.2.2 b (hs b hb)⟩
theorem Env.Fzs.on {E E' : Env} {R : List Nat} (h : E.Fzs E' R) : E.On E' [] := ⟨h.2.2.1, fun _ h => by cases h⟩

mutual
theorem RX.ffz {E E' : Env} : ∀ (x : X) (c : Value) (R : List Nat), E.Fzs E' R → RX E x c R → RX E' x.ffz c []
  | .v u, c, R, hE, h => by simp only [RX, X.ffz] at h ⊢; exact ⟨h.1, trivial⟩
  | .no, c, R, hE, h => by simp only [RX, X.ffz]
  | .fz s rows, c, R, hE, h => by
    have h0 : R = [] := by simp only [RX] at h; exact h.1
    subst h0; exact RX.mono _ _ _ hE.on (fun _ _ => by rw [hE.2.1]) h
  | .ptr o s i k, c, R, hE, h => by
    have h0 : R = [] := by simp only [RX] at h; exact h.1
    subst h0; exact RX.mono _ _ _ hE.on (fun _ _ => by rw [hE.2.1]) h
  | .slc o s lo n, c, R, hE, h => by
    have h0 : R = [] := by simp only [RX] at h; exact h.1
    subst h0; exact RX.mono _ _ _ hE.on (fun _ _ => by rw [hE.2.1]) h
  | .mref o, c, R, hE, h => by
    have h0 : R = [] := by simp only [RX] at h; exact h.1
    subst h0; exact RX.mono _ _ _ hE.on (fun _ _ => by rw [hE.2.1]) h
  | .fp row k, c, R, hE, h => by
    have h0 : R = [] := by simp only [RX] at h; exact h.1
    subst h0; exact RX.mono _ _ _ hE.on (fun _ _ => by rw [hE.2.1]) h
  | .clo fn a b, c, R, hE, h => by
    have h0 : R = [] := by simp only [RX] at h; exact h.1
    subst h0; exact RX.mono _ _ _ hE.on (fun _ _ => by rw [hE.2.1]) h
  | .uni s rows, c, R, hE, h => by
    simp only [RX, X.ffz] at h ⊢
    obtain ⟨hu, base, cap, hc, hh⟩ := h
    refine ⟨trivial, hu.ffzr, base, cap, by rw [X.ffzr_length]; exact hc, ?_⟩
    rcases hh with ⟨h1, h2, h3⟩ | ⟨b, off, cs, ty, R', hb, hw, hl, ho, hφ, hr, hR⟩
    · subst h1; exact .inl ⟨rfl, h2⟩
    · subst hR
      refine .inr ⟨b, off, hb, by rw [X.ffzr_length]; exact hl, ?_⟩
      exact ROr.ffz rows cs b off R' (fun i v hi => hE.2.2.2 b (by simp) i v (by rw [cell_of_heap hw]; exact hi)) (hE.sub (fun _ h => by simp [h])) hr
  | .agg xs, c, R, hE, h => by
    simp only [RX, X.ffz] at h ⊢
    obtain ⟨cs, hc, hs⟩ := h
    exact ⟨cs, hc, RXs.ffz xs _ R hE hs⟩
  | .tup xs, c, R, hE, h => by
    simp only [RX, X.ffz] at h ⊢
    obtain ⟨cs, hc, hs⟩ := h
    exact ⟨cs, hc, RXt.ffz xs _ R hE hs⟩
theorem RXs.ffz {E E' : Env} : ∀ (xs : List X) (cs : List Value) (R : List Nat), E.Fzs E' R → RXs E xs cs R → RXs E' (X.ffzs xs) cs []
  | [], cs, R, _, h => by simp only [RXs, X.ffzs] at h ⊢; exact ⟨h.1, trivial⟩
  | x :: r, cs, R, hE, h => by
    simp only [RXs, X.ffzs] at h ⊢
    obtain ⟨c, cs', R₁, R₂, hc, hs, h1, h2, hR⟩ := h
    subst hR
    exact ⟨c, cs', [], [], hc, hs, RX.ffz x c R₁ (hE.sub (fun _ h => mem_app_l h)) h1, RXs.ffz r cs' R₂ (hE.sub (fun _ h => mem_app_r h)) h2, rfl⟩
theorem RXt.ffz {E E' : Env} : ∀ (xs : List X) (cs : List Value) (R : List Nat), E.Fzs E' R → RXt E xs cs R → RXt E' (X.ffzs xs) cs []
  | [], cs, R, _, h => by simp only [RXt, X.ffzs] at h ⊢; exact ⟨h.1, trivial⟩
  | x :: r, cs, R, hE, h => by
    simp only [RXt, X.ffzs] at h ⊢
    obtain ⟨c, cs', R₁, R₂, hc, h1, h2, hR⟩ := h
    subst hR
    exact ⟨c, cs', [], [], hc, RX.ffz x c R₁ (hE.sub (fun _ h => mem_app_l h)) h1, RXt.ffz r cs' R₂ (hE.sub (fun _ h => mem_app_r h)) h2, rfl⟩
theorem RO.ffz {E E' : Env} : ∀ (xs : List X) (cs : Array Value) (b off : Nat) (R : List Nat), (∀ i v, cs[i]? = some v → E'.φ b i = some v) → E.Fzs E' R → X.nrs xs = true → RO E xs cs off R → RF E' (X.ffzs xs) b off
  | [], _, _, _, _, _, _, _, _ => by simp [RF, X.ffzs]
  | x :: r, cs, b, off, R, hb, hE, hn, h => by
    simp only [RO] at h
    obtain ⟨u, R₁, R₂, hu, hs, hx, hr, hR⟩ := h
    subst hR
    simp only [X.nrs, Bool.and_eq_true] at hn
    simp only [X.ffzs, RF]
    exact ⟨⟨u, hb _ _ hu, hs, X.ffz_nr hn.1, RX.ffz x u R₁ (hE.sub (fun _ h => mem_app_l h)) hx⟩, RO.ffz r cs b (off + 1) R₂ hb (hE.sub (fun _ h => mem_app_r h)) hn.2 hr⟩
theorem ROr.ffz {E E' : Env} : ∀ (rs : List (List X)) (cs : Array Value) (b off : Nat) (R : List Nat), (∀ i v, cs[i]? = some v → E'.φ b i = some v) → E.Fzs E' R → ROr E rs cs off R → RFr E' (X.ffzr rs) b off
  | [], _, _, _, _, _, _, _ => by simp [RFr, X.ffzr]
  | r :: rs, cs, b, off, R, hb, hE, h => by
    simp only [ROr] at h
    obtain ⟨R₁, R₂, hn, hx, hr, hR⟩ := h
    subst hR
    simp only [X.ffzr, RFr]
    refine ⟨RO.ffz r cs b off R₁ hb (hE.sub (fun _ h => mem_app_l h)) hn hx, ?_⟩
    rw [X.ffzs_length]
    exact ROr.ffz rs cs b _ R₂ hb (hE.sub (fun _ h => mem_app_r h)) hr
end

section
variable {N : Frm} {st : St} {d : Nat}
/-- What a slot owns is written no more. -/
theorem Sh.freezeX {x y : X} (hx : look st.slots d = some x) (he : x.ffz = y) : Sh N st (st.put d y) := by
  intro G hn a w hh
  obtain ⟨E, RR, rfl, hi⟩ := hh
  have hv := hi.slots d _ hx
  have hi2 := hi.no d
  have hRn : ∀ p, ∀ b ∈ upd RR (.slot d) [] p, b ∉ RR (.slot d) := by
    intro p b hp hb
    unfold upd at hp
    split at hp
    · cases hp
    · rename_i h; exact hi.apart _ _ h b hp hb
  -- what is frozen already is in no owned block
  have hle : ∀ c i v, E.φ c i = some v → (E.lend (fun b => b ∈ RR (.slot d))).φ c i = some v := by
    intro c i v h
    by_cases hc : c ∈ RR (.slot d)
    · rw [lend_in E (LB := fun b => b ∈ RR (.slot d)) hc]; exact hi.frz c i v h
    · rw [lend_out E (LB := fun b => b ∈ RR (.slot d)) hc]; exact h
  have hon : ∀ p, E.On (E.lend (fun b => b ∈ RR (.slot d))) (upd RR (.slot d) [] p) := by
    intro p
    refine ⟨hle, fun c hc => ⟨rfl, fun h i => ?_⟩⟩
    rw [lend_out E (LB := fun b => b ∈ RR (.slot d)) (hRn p c hc)]; exact h i
  have hf : E.Fzs (E.lend (fun b => b ∈ RR (.slot d))) (RR (.slot d)) :=
    ⟨rfl, rfl, hle, fun b hb i v h => by rw [lend_in E (LB := fun b => b ∈ RR (.slot d)) hb]; exact h⟩
  have hi3 : Inv G (E.lend (fun b => b ∈ RR (.slot d))) (upd RR (.slot d) []) (st.put d .no) a :=
    { hi2 with
      frz := by
        intro c i v h
        by_cases hc : c ∈ RR (.slot d)
        · rw [lend_in E (LB := fun b => b ∈ RR (.slot d)) hc] at h; exact h
        · rw [lend_out E (LB := fun b => b ∈ RR (.slot d)) hc] at h; exact hi.frz c i v h
      slots := fun q x hx => RX.mono x _ _ (hon _) (fun _ _ => rfl) (hi2.slots q x hx)
      objs := fun o ob hob => ROb.mono (hon _) rfl (fun _ _ _ _ => rfl) (hi2.objs o ob hob)
      φ0 := fun c i v h => hle c i v (hi.φ0 c i v h)
      grow := by
        intro c i v h
        by_cases hc : c ∈ RR (.slot d)
        · exact .inr (hi.own _ _ hc).2
        · rw [lend_out E (LB := fun b => b ∈ RR (.slot d)) hc] at h; exact hi.grow c i v h }
  have h4 := hi3.relabel (d := d) (x := y) (R := []) (he ▸ RX.ffz x _ _ hf hv) List.nodup_nil (fun _ h => by cases h)
  refine ⟨E.lend (fun b => b ∈ RR (.slot d)), upd (upd RR (.slot d) []) (.slot d) [], rfl, { h4 with slots := fun q x hx => ?_, objs := h4.objs }⟩
  refine h4.slots q x ?_
  simp only [St.put, look] at hx ⊢
  cases hq : Nat.beq d q with
  | true => rw [hq] at hx; simpa using hx
  | false => rw [hq] at hx; simpa using hx
end
end Go.AW
