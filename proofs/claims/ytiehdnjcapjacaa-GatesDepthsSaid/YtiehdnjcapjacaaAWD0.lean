/- Part of the abstract walk: regions in which a store may stand before operations that do not look at memory. -/
import Derived.Test.YtiehdnjcapjacaaAWC4
import Derived.Orders
namespace Go.AW
open Go

section
variable {P : Program} {N : Frm} {st : St} {Q : Exit → St → Prop} {ops : Array Oper} {d : Nat} {ty : TypeId} {pos : String} {af : Array Edge}

/-- The operation gives x, in any memory. -/
def Blind (P : Program) (N : Frm) (st : St) (o : Oper) (x : X) : Prop :=
  ∀ (G : Ctx) (E : Env) (RR : Own → List Nat) (a : Act), G.fn = N → Inv G E RR st a → ∃ u, (∀ w, (execOp a.eval o).run P w = .ok (.value u) w) ∧ RX E x u []

section
variable {dst : Option Nat} {g : Option (Nat × Bool)}
theorem Blind.move {x : Operand} {y : X} (hx : opd st x = some y) (hf : y.free = true) : Blind P N st ⟨dst, .move x, ty, pos, af, g⟩ y := by
  intro G E RR a _ hi
  obtain ⟨R, hv⟩ := hi.eval hx
  have := RX.free hf hv
  subst this
  exact ⟨_, fun w => rfl, hv⟩
theorem Blind.assign {x : Operand} {y : X} (hx : opd st x = some y) (hf : y.free = true) : Blind P N st ⟨dst, .assign x, ty, pos, af, g⟩ y := by
  intro G E RR a _ hi
  obtain ⟨R, hv⟩ := hi.eval hx
  have := RX.free hf hv
  subst this
  exact ⟨_, fun w => rfl, hv⟩

/-- A part of a frozen slice. -/
theorem Blind.sliceF {t e s by_ : Nat} {x : Operand} {lo hi' : Option Operand} {rows : List (List X)} {l h : Nat} {rows' : List (List X)} (ht : TY.slice P t = some (e, s, by_)) (hx : opd st x = some (.fz s rows))
    (hl : Bd st lo 0 l) (hh : Bd st hi' rows.length h) (h1 : l ≤ h) (h2 : h ≤ rows.length) (hr : (rows.take h).drop l = rows') :
    Blind P N st ⟨dst, .slice t x lo hi' none, ty, pos, af, g⟩ (.fz s rows') := by
  intro G E RR a _ hi
  obtain ⟨R, hp⟩ := hi.eval hx
  simp only [RX] at hp
  obtain ⟨_, hu, base, cap, hc, hcase⟩ := hp
  obtain ⟨hun, i, hinf, hsz, _⟩ := TY.slice_spec ht
  subst hr
  have hcap : h ≤ cap := by
    rcases hcase with ⟨h', hcp⟩ | ⟨_, _, _, hl', _⟩
    · subst h'; simp at h2; omega
    · omega
  refine ⟨.slice (if cap = l then base else base.map (·.add (l * s))) (h - l) (cap - l), fun w => ?_, ?_⟩
  · show (do let z ← Instr.sliceAt t (a.eval x) (lo.map a.eval) (hi'.map a.eval) none; pure (Next.value z) : Sem Next).run P w = _
    rw [hc]
    refine run_v ?_
    simp only [Instr.sliceAt, Sem.run_bind, run_underlying hun, Result.andThen_ok, Instr.slice, run_sliceBounds hi hl hh h1 hcap, run_sizeOf hinf, hsz]
    rfl
  · have hlen : ((rows.take h).drop l).length = h - l := by simp; omega
    simp only [RX, hlen]
    refine ⟨trivial, (hu.take h).drop l, _, _, rfl, ?_⟩
    rcases hcase with ⟨h', hcp⟩ | ⟨b, off, hb, hl', hf⟩
    · exact .inl ⟨by subst h'; simp, by omega⟩
    · refine .inr ?_
      subst hb
      by_cases hcl : cap = l
      · refine ⟨b, off, by rw [if_pos hcl], by omega, ?_⟩
        have : (rows.take h).drop l = [] := by
          apply List.eq_nil_of_length_eq_zero
          rw [hlen]; omega
        rw [this]; simp [RFr]
      · refine ⟨b, off + l * s, by rw [if_neg hcl]; simp [add_mk], by omega, ?_⟩
        exact RFr.drop l (hu.take h) (by simp; omega) (hf.take h)
end

/-- Whatever order the operations stand in that are not listed yet. -/
def AAny (P : Program) (N : Frm) (ops : Array Oper) (n : Nat) (listed : Array Bool) (st : St) (K : St → Prop) : Prop :=
  ∀ G : Ctx, G.fn = N → ∀ a w, Holds G st a w → wpAny P .any ops (fun e a w => e = .normal ∧ ∃ st', K st' ∧ Holds G st' a w) n listed a w

variable {K : St → Prop}

/-- An operation that does not look at memory may as well come first. -/
theorem AAny.blind {n : Nat} {listed : Array Bool} (i : Nat) {op : Op} {x : X} (ho : ops[i]? = some ⟨some d, op, ty, pos, af, none⟩)
    (hB : (Region.noSelect ops && Region.free .any ops listed i && (Region.ready .any ops listed).contains i) = true) (hy : Blind P N st ⟨some d, op, ty, pos, af, none⟩ x) (hd : d < N.n)
    (k : AAny P N ops n (listed.setIfInBounds i true) (st.put d x) K) : AAny P N ops (n + 1) listed st K := by
  intro G hn a w hh
  obtain ⟨E, RR, rfl, hi⟩ := hh
  obtain ⟨u, hr, hx⟩ := hy G E RR a hn hi
  simp only [Bool.and_eq_true] at hB
  refine wpAny_take (v := u) ho hB.1.1 hB.1.2 hB.2 ?_ (.inl ⟨by simp [Region.wanted], hr⟩) (k G hn _ _ ⟨E, _, rfl, hi.put0 (hn ▸ hd) hx⟩)
  intro c a w h
  cases h.1

/-- The one operation that can come next. -/
theorem AAny.one {n : Nat} {listed : Array Bool} (i : Nat) {o : Oper} (ho : ops[i]? = some o) (hr : (Region.ready .any ops listed == [i]) = true)
    (k : AOps P N ops [o] st (fun e st' => e = .normal ∧ AAny P N ops n (listed.setIfInBounds i true) st' K)) : AAny P N ops (n + 1) listed st K := by
  intro G hn a w hh
  refine wpAny_all (rs := [i]) (by simpa using hr) (by simp) ?_
  intro j hj
  have : j = i := by simpa using hj
  subst this
  have hk := k G hn a w hh
  have key : wpOp P ops (fun e a w => Post G (fun e st' => e = .normal ∧ AAny P N ops n (listed.setIfInBounds j true) st' K) e a w) j
      (fun a w => Post G (fun e st' => e = .normal ∧ AAny P N ops n (listed.setIfInBounds j true) st' K) .normal a w) a w := by
    unfold wpOp; simp only [ho]; exact hk
  have mono : ∀ {Q1 Q2 : Exit → Act → World → Prop} {K1 K2 : Act → World → Prop}, (∀ e a w, e ≠ .normal → Q1 e a w → False) → (∀ a w, K1 a w → K2 a w) → wpOp P ops Q1 j K1 a w → wpOp P ops Q2 j K2 a w := by
    intro Q1 Q2 K1 K2 hQ hK h
    unfold wpOp at *
    simp only [ho] at *
    split
    · rename_i hw
      simp only [hw, if_true] at h
      rcases h with h | ⟨_, hl⟩
      · refine .inl ?_
        unfold Oper.wp at *
        generalize (execOp a.eval o).run P w = r at *
        cases r with
        | ok nx w' =>
          cases nx <;> simp only [Oper.upon] at h ⊢ <;> first
            | exact hK _ _ h
            | exact Calls.mono h (fun e w'' he => by
                cases e with
                | returned u => exact hK _ _ he
                | panicked c => exact (hQ _ _ _ (by simp) he).elim
                | outgrown => exact (let ⟨_, _, h'⟩ := he; hQ _ _ _ (by simp) h').elim)
            | exact Rows.mono h (fun _ _ he => hK _ _ he)
        | halt x w' => cases x <;> simp only [Oper.upon] at h ⊢ <;> first | exact (hQ _ _ _ (by simp) h).elim | exact (let ⟨_, _, h'⟩ := h; hQ _ _ _ (by simp) h').elim | exact h
      · obtain ⟨_, _, h'⟩ := hl
        exact (hQ _ _ _ (by simp) h').elim
    · rename_i hw
      simp only [hw] at h
      exact hK _ _ h
  refine mono ?_ ?_ key
  · rintro e a w he ⟨st', _, h, _⟩
    exact he h
  · rintro a w ⟨st', hh', _, hk'⟩
    exact hk' G hn a w hh'

theorem AAny.done {n : Nat} {listed : Array Bool} (hr : (Region.ready .any ops listed).isEmpty = true) (h : K st) : AAny P N ops n listed st K :=
  fun _ _ _ _ hh => wpAny_done (by simpa using hr) ⟨rfl, st, h, hh⟩ n

/-- A region whose order is open. -/
theorem AWp.regionAny {id : Nat} (hm : P.follows .mixedOrders = true) (h : AAny P N ops ops.size (Array.replicate ops.size false) st (fun st' => Q .normal st')) : AWp P N (.region id ops true) st Q := by
  intro G hn a w hh
  refine wp_mono (wp_region_any hm (h G hn a _ hh.drew)) ?_
  rintro e a w ⟨rfl, st', hk, hh'⟩
  exact ⟨st', hh', hk⟩

end
end Go.AW
