/- Part of the abstract walk: reading memory and values. -/
import Derived.Test.YtiehdnjcapjacaaAWA4
namespace Go.AW
open Go

theorem cell_of_heap {w : World} {b i : Nat} {cs : Array Value} {ty : TypeId} {fr : Nat × Nat} (h : w.heap[b]? = some (.cells cs ty fr)) : w.cell? ⟨b, i, none⟩ = cs[i]? := by
  simp [World.cell?, h]

theorem add_mk (b off n : Nat) : (⟨b, off, none⟩ : Addr).add n = ⟨b, off + n, none⟩ := by
  unfold Addr.add
  split
  · rename_i h; subst h; rfl
  · rfl

section
variable {E : Env}

theorem RF.get : ∀ {row : List X} {b off k : Nat} {x : X}, RF E row b off → row[k]? = some x → ∃ u, E.φ b (off + k) = some u ∧ Single u ∧ x.nr = true ∧ RX E x u []
  | [], _, _, _, _, _, h => by simp at h
  | y :: r, b, off, 0, x, h, hx => by
    simp only [RF] at h
    simp only [List.getElem?_cons_zero, Option.some.injEq] at hx
    subst hx
    exact h.1
  | y :: r, b, off, k + 1, x, h, hx => by
    simp only [RF] at h
    obtain ⟨u, hu⟩ := RF.get (k := k) h.2 (by simpa using hx)
    exact ⟨u, by rw [show off + (k + 1) = off + 1 + k by omega]; exact hu⟩

theorem RF.drop : ∀ {row : List X} {b off : Nat} (k : Nat), RF E row b off → RF E (row.drop k) b (off + k)
  | [], _, _, _, _ => by simp [RF]
  | y :: r, b, off, 0, h => h
  | y :: r, b, off, k + 1, h => by
    simp only [RF] at h
    simp only [List.drop_succ_cons]
    rw [show off + (k + 1) = off + 1 + k by omega]
    exact RF.drop k h.2
theorem RF.take : ∀ {row : List X} {b off : Nat} (k : Nat), RF E row b off → RF E (row.take k) b off
  | [], _, _, _, _ => by simp [RF]
  | y :: r, b, off, 0, h => by simp [RF]
  | y :: r, b, off, k + 1, h => by
    simp only [RF, List.take_succ_cons] at h ⊢
    exact ⟨h.1, RF.take k h.2⟩

/-- Frozen cells, as the values that are there. -/
theorem RF.cells : ∀ {row : List X} {b off : Nat}, RF E row b off → ∃ cs : List Value, cs.length = row.length ∧ (∀ j v, cs[j]? = some v → E.φ b (off + j) = some v) ∧ RXs E row cs []
  | [], _, _, _ => ⟨[], rfl, by simp, by simp [RXs]⟩
  | y :: r, b, off, h => by
    simp only [RF] at h
    obtain ⟨⟨u, hu, hs, _, hx⟩, hr⟩ := h
    obtain ⟨cs, hl, hc, hxs⟩ := RF.cells hr
    refine ⟨u :: cs, by simp [hl], ?_, ?_⟩
    · intro j v hv
      cases j with
      | zero => simp at hv; subst hv; exact hu
      | succ j => rw [show off + (j + 1) = off + 1 + j by omega]; exact hc j v (by simpa using hv)
    · simp only [RXs]
      exact ⟨u, cs, [], [], rfl, hs, hx, hxs, rfl⟩

theorem RFr.get : ∀ {rows : List (List X)} {s b off i : Nat} {row : List X}, Uniform s rows → RFr E rows b off → rows[i]? = some row → RF E row b (off + i * s)
  | [], _, _, _, _, _, _, _, h => by simp at h
  | r :: rs, s, b, off, 0, row, hu, h, hr => by
    simp only [RFr] at h
    simp only [List.getElem?_cons_zero, Option.some.injEq] at hr
    subst hr
    simpa using h.1
  | r :: rs, s, b, off, i + 1, row, hu, h, hr => by
    simp only [RFr] at h
    have h1 := hu r (by simp)
    have := RFr.get (i := i) (s := s) (fun q hq => hu q (by simp [hq])) h.2 (by simpa using hr)
    rw [h1] at this
    rw [show off + (i + 1) * s = off + s + i * s by rw [Nat.add_mul]; omega]
    exact this

theorem RFr.drop : ∀ {rows : List (List X)} {s b off : Nat} (k : Nat), Uniform s rows → k ≤ rows.length → RFr E rows b off → RFr E (rows.drop k) b (off + k * s)
  | _, _, _, _, 0, _, _, h => by simpa using h
  | [], _, _, _, k + 1, _, hk, _ => by simp at hk
  | r :: rs, s, b, off, k + 1, hu, hk, h => by
    simp only [RFr] at h
    have h1 := hu r (by simp)
    rw [h1] at h
    simp only [List.drop_succ_cons]
    rw [show off + (k + 1) * s = off + s + k * s by rw [Nat.add_mul]; omega]
    exact RFr.drop k (fun q hq => hu q (by simp [hq])) (by simpa using hk) h.2
theorem RFr.take : ∀ {rows : List (List X)} {b off : Nat} (k : Nat), RFr E rows b off → RFr E (rows.take k) b off
  | [], _, _, _, _ => by simp [RFr]
  | _ :: _, _, _, 0, _ => by simp [RFr]
  | r :: rs, b, off, k + 1, h => by
    simp only [RFr, List.take_succ_cons] at h ⊢
    exact ⟨h.1, RFr.take k h.2⟩

theorem Uniform.drop {s : Nat} {rows : List (List X)} (k : Nat) (h : Uniform s rows) : Uniform s (rows.drop k) := fun r hr => h r (List.mem_of_mem_drop hr)
theorem Uniform.take {s : Nat} {rows : List (List X)} (k : Nat) (h : Uniform s rows) : Uniform s (rows.take k) := fun r hr => h r (List.mem_of_mem_take hr)

theorem RO.get : ∀ {xs : List X} {cs : Array Value} {off k : Nat} {R : List Nat} {x : X}, RO E xs cs off R → xs[k]? = some x →
    ∃ u R₁, cs[off + k]? = some u ∧ Single u ∧ RX E x u R₁ ∧ ∀ b ∈ R₁, b ∈ R
  | [], _, _, _, _, _, _, h => by simp at h
  | y :: r, cs, off, 0, R, x, h, hx => by
    simp only [RO] at h
    simp only [List.getElem?_cons_zero, Option.some.injEq] at hx
    subst hx
    obtain ⟨u, R₁, R₂, hu, hs, h1, _, rfl⟩ := h
    exact ⟨u, R₁, hu, hs, h1, fun b hb => mem_app_l hb⟩
  | y :: r, cs, off, k + 1, R, x, h, hx => by
    simp only [RO] at h
    obtain ⟨_, R₁, R₂, _, _, _, h2, rfl⟩ := h
    obtain ⟨u, R₃, hu, hs, h3, hsub⟩ := RO.get (k := k) h2 (by simpa using hx)
    exact ⟨u, R₃, by rw [show off + (k + 1) = off + 1 + k by omega]; exact hu, hs, h3, fun b hb => mem_app_r (hsub b hb)⟩

theorem RO.drop : ∀ {xs : List X} {cs : Array Value} {off : Nat} {R : List Nat} (k : Nat), RO E xs cs off R → ∃ R', RO E (xs.drop k) cs (off + k) R' ∧ ∀ b ∈ R', b ∈ R
  | [], cs, off, R, k, h => ⟨[], by simp [RO], by simp⟩
  | y :: r, cs, off, R, 0, h => ⟨R, h, fun _ h => h⟩
  | y :: r, cs, off, R, k + 1, h => by
    simp only [RO] at h
    obtain ⟨_, R₁, R₂, _, _, _, h2, rfl⟩ := h
    obtain ⟨R', h', hs⟩ := RO.drop k h2
    refine ⟨R', ?_, fun b hb => mem_app_r (hs b hb)⟩
    simp only [List.drop_succ_cons]
    rw [show off + (k + 1) = off + 1 + k by omega]; exact h'

theorem RO.take : ∀ {xs : List X} {cs : Array Value} {off : Nat} {R : List Nat} (k : Nat), RO E xs cs off R → ∃ R', RO E (xs.take k) cs off R' ∧ ∀ b ∈ R', b ∈ R
  | [], cs, off, R, k, h => ⟨[], by simp [RO], by simp⟩
  | y :: r, cs, off, R, 0, h => ⟨[], by simp [RO], by simp⟩
  | y :: r, cs, off, R, k + 1, h => by
    simp only [RO] at h
    obtain ⟨u, R₁, R₂, hu, hs, h1, h2, rfl⟩ := h
    obtain ⟨R', h', hs'⟩ := RO.take k h2
    refine ⟨R₁ ++ R', ?_, ?_⟩
    · simp only [List.take_succ_cons, RO]
      exact ⟨u, R₁, R', hu, hs, h1, h', rfl⟩
    · intro b hb
      rcases List.mem_append.1 hb with hb | hb
      · exact mem_app_l hb
      · exact mem_app_r (hs' b hb)

theorem RO.cells : ∀ {xs : List X} {cs : Array Value} {off : Nat} {R : List Nat}, RO E xs cs off R → ∃ vs : List Value, vs.length = xs.length ∧ (∀ j v, vs[j]? = some v → cs[off + j]? = some v) ∧ RXs E xs vs R
  | [], _, _, R, h => ⟨[], rfl, by simp, by simp only [RO] at h; simp [RXs, h]⟩
  | y :: r, cs, off, R, h => by
    simp only [RO] at h
    obtain ⟨u, R₁, R₂, hu, hs, h1, h2, rfl⟩ := h
    obtain ⟨vs, hl, hc, hxs⟩ := RO.cells h2
    refine ⟨u :: vs, by simp [hl], ?_, ?_⟩
    · intro j v hv
      cases j with
      | zero => simp at hv; subst hv; exact hu
      | succ j => rw [show off + (j + 1) = off + 1 + j by omega]; exact hc j v (by simpa using hv)
    · simp only [RXs]
      exact ⟨u, vs, R₁, R₂, rfl, hs, h1, hxs, rfl⟩

theorem ROr.get : ∀ {rows : List (List X)} {s : Nat} {cs : Array Value} {off i : Nat} {R : List Nat} {row : List X}, Uniform s rows → ROr E rows cs off R → rows[i]? = some row →
    ∃ R₁, X.nrs row = true ∧ RO E row cs (off + i * s) R₁ ∧ ∀ b ∈ R₁, b ∈ R
  | [], _, _, _, _, _, _, _, _, h => by simp at h
  | r :: rs, s, cs, off, 0, R, row, hu, h, hr => by
    simp only [ROr] at h
    simp only [List.getElem?_cons_zero, Option.some.injEq] at hr
    subst hr
    obtain ⟨R₁, R₂, hn, h1, _, rfl⟩ := h
    exact ⟨R₁, hn, by simpa using h1, fun b hb => mem_app_l hb⟩
  | r :: rs, s, cs, off, i + 1, R, row, hu, h, hr => by
    simp only [ROr] at h
    obtain ⟨R₁, R₂, hn, _, h2, rfl⟩ := h
    have h1 := hu r (by simp)
    obtain ⟨R₃, hn', h3, hs⟩ := ROr.get (i := i) (s := s) (fun q hq => hu q (by simp [hq])) h2 (by simpa using hr)
    rw [h1] at h3
    exact ⟨R₃, hn', by rw [show off + (i + 1) * s = off + s + i * s by rw [Nat.add_mul]; omega]; exact h3, fun b hb => mem_app_r (hs b hb)⟩

end

theorem drop_take_get {α : Type} {l : List α} {k m j : Nat} (h : j < m) : ((l.drop k).take m)[j]? = l[k + j]? := by
  rw [List.getElem?_take_of_lt h, List.getElem?_drop]

/-- The row that a pointer leads into. -/
def rowAt (st : St) : X → Option (List X)
  | .fp row _ => some row
  | .ptr o s i _ => match look st.objs o with
    | some (.cells xs) => bif Nat.beq i 0 then some xs else none
    | some (.rows s' rs) => bif Nat.beq s s' then rs[i]? else none
    | _ => none
  | _ => none
def kAt : X → Nat
  | .fp _ k => k
  | .ptr _ _ _ k => k
  | _ => 0

section
variable {P : Program} {N : Frm} {G : Ctx} {E : Env} {RR : Own → List Nat} {st : St} {a : Act}

/-- What lies behind a pointer: the address, the cells. -/
theorem Inv.behind (hi : Inv G E RR st a) {p : X} {c : Value} {R : List Nat} {row : List X} (hp : RX E p c R) (hr : rowAt st p = some row) :
    ∃ b off, c = .pointer (some ⟨b, off + kAt p, none⟩) ∧ ∀ k m, k + m ≤ row.length →
      ∃ vs : List Value, ∃ R', vs.length = m ∧ (∀ j v, vs[j]? = some v → E.w.cell? ⟨b, off + (k + j), none⟩ = some v) ∧ RXs E ((row.drop k).take m) vs R' := by
  cases p with
  | fp row' k' =>
    simp only [rowAt, Option.some.injEq] at hr
    subst hr
    simp only [RX] at hp
    obtain ⟨_, b, off, hc, hf⟩ := hp
    refine ⟨b, off, hc, fun k m hkm => ?_⟩
    obtain ⟨vs, hl, hv, hx⟩ := RF.cells (RF.take m (RF.drop k hf))
    refine ⟨vs, [], by rw [hl]; simp; omega, fun j v hj => ?_, hx⟩
    rw [← Nat.add_assoc]
    exact hi.frz _ _ _ (hv j v hj)
  | ptr o s i k' =>
    simp only [RX] at hp
    obtain ⟨_, B, hB, hc⟩ := hp
    simp only [rowAt] at hr
    split at hr
    · rename_i xs ho
      have h0 := hi.objs o _ ho
      simp only [ROb] at h0
      obtain ⟨_, B', cs, ty, hB', hw, _, _, hRO, _⟩ := h0
      rw [hB] at hB'
      obtain rfl := Option.some.inj hB'
      cases hi0 : Nat.beq i 0 with
      | false => simp [hi0] at hr
      | true =>
        have := Nat.eq_of_beq_eq_true hi0
        subst this
        simp only [hi0, cond_true, Option.some.injEq] at hr
        subst hr
        refine ⟨B.b, B.off, by simpa [kAt] using hc, fun k m hkm => ?_⟩
        obtain ⟨R₁, h1, _⟩ := RO.drop k hRO
        obtain ⟨R₂, h2, _⟩ := RO.take m h1
        obtain ⟨vs, hl, hv, hx⟩ := RO.cells h2
        refine ⟨vs, R₂, by rw [hl]; simp; omega, fun j v hj => ?_, hx⟩
        rw [cell_of_heap hw, ← Nat.add_assoc]
        exact hv j v hj
    · rename_i s' rs ho
      have h0 := hi.objs o _ ho
      simp only [ROb] at h0
      obtain ⟨hu, h0⟩ := h0
      cases hss : Nat.beq s s' with
      | false => simp [hss] at hr
      | true =>
        have := Nat.eq_of_beq_eq_true hss
        subst this
        simp only [hss, cond_true] at hr
        rcases h0 with ⟨_, h0, _⟩ | ⟨B', cs, ty, R', hB', hw, _, _, _, hRO, _⟩
        · subst h0; simp at hr
        · rw [hB] at hB'
          obtain rfl := Option.some.inj hB'
          obtain ⟨R₁, _, h1, _⟩ := ROr.get hu hRO hr
          refine ⟨B.b, B.off + i * s, by rw [hc]; simp [kAt, Nat.add_assoc], fun k m hkm => ?_⟩
          obtain ⟨R₂, h2, _⟩ := RO.drop k h1
          obtain ⟨R₃, h3, _⟩ := RO.take m h2
          obtain ⟨vs, hl, hv, hx⟩ := RO.cells h3
          refine ⟨vs, R₃, by rw [hl]; simp; omega, fun j v hj => ?_, hx⟩
          rw [cell_of_heap hw, ← Nat.add_assoc]
          exact hv j v hj
    · cases hr
  | _ => simp [rowAt] at hr

end
end Go.AW
