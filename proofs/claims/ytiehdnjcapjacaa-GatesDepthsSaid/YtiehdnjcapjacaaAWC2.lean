/- Part of the abstract walk: decided tests, meeting points, and slices that are written no more. -/
import Derived.Test.YtiehdnjcapjacaaAWC1
namespace Go.AW
open Go

section
variable {P : Program} {N : Frm} {st st' : St} {Q : Exit → St → Prop} {K : St → Prop} {all : Array Oper} {rest : List Oper} {d : Nat} {ty : TypeId} {pos : String} {af : Array Edge}

theorem AWp.condD {c : Operand} {x y : Code} {p : Prop} {inst : Decidable p} (hc : opd st c = some (.v (.bool (decide p)))) (ht : p → AWp P N x st Q) (hf : ¬ p → AWp P N y st Q) :
    AWp P N (.cond c x y) st Q := AWp.cond hc (fun h => ht (of_decide_eq_true h)) (fun h => hf (of_decide_eq_false h))

theorem Le.test {b : Bool} (hx : look st.slots d = some (.v (.bool b))) : Le st (st.put d (.v (.bool b))) := ⟨SubL.cons hx (fun _ _ h => h), fun _ _ h => h⟩

/-- A test of a slot, which is known behind it. -/
theorem AWp.condK {x y : Code} {b : Bool} (hc : look st.slots d = some (.v (.bool b))) (ht : b = true → AWp P N x (st.put d (.v (.bool true))) Q) (hf : b = false → AWp P N y (st.put d (.v (.bool false))) Q) :
    AWp P N (.cond (.tmp d) x y) st Q := by
  refine AWp.cond (b := b) hc (fun h => ?_) (fun h => ?_)
  · subst h; exact (ht rfl).le (Le.test hc)
  · subst h; exact (hf rfl).le (Le.test hc)
theorem AWp.condKD {x y : Code} {p : Prop} {inst : Decidable p} (hc : look st.slots d = some (.v (.bool (decide p)))) (ht : p → AWp P N x (st.put d (.v (.bool true))) Q) (hf : ¬ p → AWp P N y (st.put d (.v (.bool false))) Q) :
    AWp P N (.cond (.tmp d) x y) st Q := AWp.condK hc (fun h => ht (of_decide_eq_true h)) (fun h => hf (of_decide_eq_false h))

theorem AOps.splitD {p : Prop} {inst : Decidable p} (hx : look st.slots d = some (.v (.bool (decide p))))
    (ht : p → AOps P N all rest (st.put d (.v (.bool true))) Q) (hf : ¬ p → AOps P N all rest (st.put d (.v (.bool false))) Q) : AOps P N all rest st Q :=
  AOps.split hx (fun h => ht (of_decide_eq_true h)) (fun h => hf (of_decide_eq_false h))
theorem AHead.splitD {p : Prop} {inst : Decidable p} (hx : look st.slots d = some (.v (.bool (decide p))))
    (ht : p → AHead P N all rest (st.put d (.v (.bool true))) K) (hf : ¬ p → AHead P N all rest (st.put d (.v (.bool false))) K) : AHead P N all rest st K :=
  AHead.split hx (fun h => ht (of_decide_eq_true h)) (fun h => hf (of_decide_eq_false h))

/-- x, then y: whatever way x ends normally, one of the states J holds there. -/
theorem AWp.join {x y : Code} {ι : Type} (J : ι → St) (I : ι → Prop) (hx : AWp P N x st (Then (fun st' => ∃ i, I i ∧ Le st' (J i)) Q)) (hy : ∀ i, I i → AWp P N y (J i) Q) : AWp P N (.seq x y) st Q := by
  refine AWp.seq (hx.mono ?_)
  intro e st1 h
  cases e with
  | normal => obtain ⟨i, hI, hle⟩ := h; exact (hy i hI).le hle
  | _ => exact h

/-- An argument that names nothing. -/
theorem LentL.keep {L : List Nat} {ν : Nat → Nat} {x : X} {xs ys : List X} (h : x.free = true) (he : x.ren ν = x) (hs : LentL st L ν xs ys) : LentL st L ν (x :: xs) (x :: ys) := by
  have := Lent.same (st := st) (L := L) (ν := ν) h
  rw [he] at this
  exact .cons this hs

/-- Rows of cells that own nothing. -/
def Frees (rs : List (List X)) : Prop := ∀ r ∈ rs, X.frees r = true
theorem Frees.map {α : Type} {f : α → List X} {l : List α} (h : ∀ a, X.frees (f a) = true) : Frees (l.map f) := by
  intro r hr
  obtain ⟨a, _, rfl⟩ := List.mem_map.1 hr
  exact h a
theorem plainr_map {α : Type} {f : α → List X} (h : ∀ a, X.plains (f a)) : ∀ l : List α, X.plainr (l.map f)
  | [] => by simp [X.plainr]
  | a :: r => by simp only [List.map_cons, X.plainr]; exact ⟨h a, plainr_map h r⟩

/-- A slice of one's own is written no more. -/
theorem Sh.freeze {s : Nat} {rows : List (List X)} (hx : look st.slots d = some (.uni s rows)) (hf : Frees rows) : Sh N st (st.put d (.fz s rows)) := by
  intro G hn a w hh
  obtain ⟨E, RR, rfl, hi⟩ := hh
  have hv := hi.slots d _ hx
  have hnd := hi.nodup (.slot d)
  simp only [RX] at hv
  obtain ⟨hu, base, cap, hc, hcase⟩ := hv
  rcases hcase with ⟨h1, h2, h3⟩ | ⟨b, off, cs, ty, R', hb, hw, hl, ho, hφ, hRO, hRR⟩
  · refine ⟨E, _, rfl, hi.relabel (d := d) (R := []) ?_ List.nodup_nil (fun _ h => by cases h)⟩
    simp only [RX]
    exact ⟨trivial, hu, base, cap, hc, .inl ⟨h1, h2⟩⟩
  · have hR0 := ROr.free hf hRO
    subst hR0
    have hbm : b ∈ RR (.slot d) := by rw [hRR]; simp
    have hi2 := hi.no d
    have hle : ∀ c i v, E.φ c i = some v → (if c = b then cs[i]? else E.φ c i) = some v := by
      intro c i v h
      by_cases hcb : c = b
      · subst hcb; rw [hφ i] at h; cases h
      · rw [if_neg hcb]; exact h
    have hon : ∀ R : List Nat, b ∉ R → E.On { E with φ := fun c i => if c = b then cs[i]? else E.φ c i } R := by
      intro R hbR
      refine ⟨hle, fun c hc' => ⟨rfl, fun h i => ?_⟩⟩
      have : c ≠ b := fun e => hbR (e ▸ hc')
      show (if c = b then cs[i]? else E.φ c i) = none
      rw [if_neg this]; exact h i
    have hnb : ∀ p, b ∉ upd RR (.slot d) [] p := by
      intro p hp
      unfold upd at hp
      split at hp
      · cases hp
      · rename_i h; exact hi.apart _ _ h b hp hbm
    have hi3 : Inv G { E with φ := fun c i => if c = b then cs[i]? else E.φ c i } (upd RR (.slot d) []) (st.put d .no) a :=
      { hi2 with
        frz := by
          intro c i v h
          change (if c = b then cs[i]? else E.φ c i) = some v at h
          by_cases hcb : c = b
          · subst hcb; rw [if_pos rfl] at h
            show E.w.cell? _ = _
            rw [cell_of_heap hw]; exact h
          · rw [if_neg hcb] at h; exact hi.frz c i v h
        slots := fun q x hx => RX.mono x _ _ (hon _ (hnb _)) (fun _ _ => rfl) (hi2.slots q x hx)
        objs := fun o ob hob => ROb.mono (hon _ (hnb _)) rfl (fun _ _ _ _ => rfl) (hi2.objs o ob hob)
        φ0 := fun c i v h => hle c i v (hi.φ0 c i v h)
        grow := by
          intro c i v h
          change (if c = b then cs[i]? else E.φ c i) = some v at h
          by_cases hcb : c = b
          · subst hcb; exact .inr (hi.own _ _ hbm).2
          · rw [if_neg hcb] at h; exact hi.grow c i v h }
    have h4 := hi3.relabel (d := d) (x := .fz s rows) (R := []) (by
      simp only [RX]
      refine ⟨trivial, hu, base, cap, hc, .inr ⟨b, off, hb, hl, ?_⟩⟩
      refine ROr.freeze (E := E) (fun i v h => ?_) hle hRO
      show (if b = b then cs[i]? else E.φ b i) = some v
      rw [if_pos rfl]; exact h) List.nodup_nil (fun _ h => by cases h)
    refine ⟨{ E with φ := fun c i => if c = b then cs[i]? else E.φ c i }, upd (upd RR (.slot d) []) (.slot d) [], rfl, { h4 with slots := fun q x hx => ?_, objs := h4.objs }⟩
    refine h4.slots q x ?_
    simp only [St.put, look] at hx ⊢
    cases hq : Nat.beq d q with
    | true => rw [hq] at hx; simpa using hx
    | false => rw [hq] at hx; simpa using hx

end
end Go.AW
