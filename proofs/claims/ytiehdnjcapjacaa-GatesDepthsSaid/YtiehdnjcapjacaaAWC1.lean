/- Part of the abstract walk: regions whose order is open. -/
import Derived.Test.YtiehdnjcapjacaaAWC0
import Derived.StillTail
namespace Go.AW
open Go

section
variable {P : Program} {N : Frm} {st : St} {Q : Exit → St → Prop} {K : St → Prop} {all : Array Oper} {rest : List Oper} {d : Nat} {ty : TypeId} {pos : String} {af : Array Edge}

/-- Operations that leave memory as it is, in a row. -/
def AHead (P : Program) (N : Frm) (all : Array Oper) (l : List Oper) (st : St) (K : St → Prop) : Prop :=
  ∀ G : Ctx, G.fn = N → ∀ a w, Holds G st a w → wpStill P all w (fun a' => ∃ st', K st' ∧ Holds G st' a' w) l a

theorem Holds.drew {G : Ctx} {a : Act} {w : World} (h : Holds G st a w) : Holds G st a { w with drawn := w.drawn + 1 } := by
  obtain ⟨E, RR, rfl, hi⟩ := h
  exact ⟨{ E with w := E.w.drew }, RR, rfl, hi.moves (Moves.drew G E) rfl⟩

theorem AHead.nil (h : K st) : AHead P N all [] st K := fun _ _ _ _ hh => ⟨st, h, hh⟩

theorem AHead.val {op : Op} {x : X} (hy : Yields P N st ⟨some d, op, ty, pos, af, none⟩ x) (hd : d < N.n) (k : AHead P N all rest (st.put d x) K) : AHead P N all (⟨some d, op, ty, pos, af, none⟩ :: rest) st K := by
  intro G hn a w hh
  obtain ⟨E, RR, rfl, hi⟩ := hh
  obtain ⟨u, hr, hx⟩ := hy G E RR a hn hi
  unfold wpStill
  rw [if_pos (by simp [Region.wanted])]
  simp only [Oper.still, hr, Oper.stillUpon_value]
  exact k G hn _ _ ⟨E, _, rfl, hi.put0 (hn ▸ hd) hx⟩

theorem AHead.split {b : Bool} (hx : look st.slots d = some (.v (.bool b))) (ht : b = true → AHead P N all rest (st.put d (.v (.bool true))) K) (hf : b = false → AHead P N all rest (st.put d (.v (.bool false))) K) : AHead P N all rest st K := by
  have : Le st (st.put d (.v (.bool b))) := ⟨SubL.cons hx (fun _ _ h => h), fun _ _ h => h⟩
  intro G hn a w hh
  cases b
  · exact hf rfl G hn a w (this.holds hh)
  · exact ht rfl G hn a w (this.holds hh)

theorem tmps_bool {G : Ctx} {E : Env} {RR : Own → List Nat} {a : Act} (hi : Inv G E RR st a) {b : Bool} (hd : d < G.fn.n) (hx : look st.slots d = some (.v (.bool b))) : a.tmps[d]? = some (.bool b) := by
  have hs := hi.slots d _ hx
  simp only [RX] at hs
  have hsz : d < a.tmps.size := by rw [hi.tmps]; exact hd
  have := hs.1
  simp only [Array.getD, hsz, dif_pos] at this
  rw [Array.getElem?_eq_getElem hsz]
  exact congrArg some this

theorem AHead.guardRun {dst : Option Nat} {op : Op} {j : Nat} {want : Bool} (hj : (all[j]?).bind (·.dst) = some d) (hd : d < N.n) (hx : look st.slots d = some (.v (.bool want)))
    (k : AHead P N all (⟨dst, op, ty, pos, af, none⟩ :: rest) st K) : AHead P N all (⟨dst, op, ty, pos, af, some (j, want)⟩ :: rest) st K := by
  intro G hn a w hh
  have hk := k G hn a w hh
  obtain ⟨E, RR, rfl, hi⟩ := hh
  have hv := tmps_bool hi (by rw [hn]; exact hd) hx
  have hw : Region.wanted ⟨dst, op, ty, pos, af, some (j, want)⟩ (yielded all a.tmps) = true := by
    simp [Region.wanted, yielded, hj, hv]
  unfold wpStill at hk ⊢
  rw [if_pos hw]
  rw [if_pos (by simp [Region.wanted])] at hk
  exact hk

theorem AHead.guardSkip {dd : Nat} {op : Op} {j : Nat} {want have_ : Bool} (hj : (all[j]?).bind (·.dst) = some d) (hd : d < N.n) (hdd : dd < N.n) (hx : look st.slots d = some (.v (.bool have_))) (hne : (have_ == want) = false)
    (k : AHead P N all rest (st.put dd .no) K) : AHead P N all (⟨some dd, op, ty, pos, af, some (j, want)⟩ :: rest) st K := by
  intro G hn a w hh
  obtain ⟨E, RR, rfl, hi⟩ := hh
  have hv := tmps_bool hi (by rw [hn]; exact hd) hx
  have hw : Region.wanted ⟨some dd, op, ty, pos, af, some (j, want)⟩ (yielded all a.tmps) = false := by
    have hne' : have_ ≠ want := by simpa using hne
    simp [Region.wanted, yielded, hj, hv, hne']
  unfold wpStill
  rw [if_neg (by rw [hw]; simp)]
  exact k G hn _ _ ⟨E, _, rfl, hi.put0 (hn ▸ hdd) (by simp [RX])⟩

/-- A region whose order is open: its first n operations leave memory as it is, the others stand in a row. -/
theorem AWp.regionT {id : Nat} {l : List Oper} (n : Nat) (hm : P.follows .mixedOrders = true) (hB : Region.lexTailB .any l.toArray n = true)
    (h : AHead P N l.toArray (l.take n) st (fun st' => AOps P N l.toArray (l.drop n) st' Q)) : AWp P N (.region id l.toArray true) st Q := by
  intro G hn a w hh
  refine wp_region_still_tail n hm hB ?_
  have h1 := h G hn a _ hh.drew
  have mono : ∀ (l' : List Oper) (a : Act) {w : World} {K1 K2 : Act → Prop}, (∀ a, K1 a → K2 a) → wpStill P l.toArray w K1 l' a → wpStill P l.toArray w K2 l' a := by
    intro l'
    induction l' with
    | nil => intro a w K1 K2 hk h; exact hk _ h
    | cons o r ih =>
      intro a w K1 K2 hk h
      unfold wpStill at h ⊢
      split
      · rename_i hw; rw [if_pos hw] at h; exact Oper.still_mono (fun a' h' => ih a' hk h') h
      · rename_i hw; rw [if_neg hw] at h; exact ih _ hk h
  exact mono _ _ (fun a' ⟨st', hk, hh'⟩ => hk G hn a' _ hh') h1

/-- .. all of them leave memory as it is. -/
theorem AWp.regionS {id : Nat} {l : List Oper} (hm : P.follows .mixedOrders = true) (hB : Region.lexB .any l.toArray = true)
    (h : AHead P N l.toArray l st (fun st' => Q .normal st')) : AWp P N (.region id l.toArray true) st Q := by
  intro G hn a w hh
  refine wp_region_still_lit hm hB ?_
  have h1 := h G hn a _ hh.drew
  have mono : ∀ (l' : List Oper) (a : Act) {w : World} {K1 K2 : Act → Prop}, (∀ a, K1 a → K2 a) → wpStill P l.toArray w K1 l' a → wpStill P l.toArray w K2 l' a := by
    intro l'
    induction l' with
    | nil => intro a w K1 K2 hk h; exact hk _ h
    | cons o r ih =>
      intro a w K1 K2 hk h
      unfold wpStill at h ⊢
      split
      · rename_i hw; rw [if_pos hw] at h; exact Oper.still_mono (fun a' h' => ih a' hk h') h
      · rename_i hw; rw [if_neg hw] at h; exact ih _ hk h
  exact mono _ _ (fun a' ⟨st', hk, hh'⟩ => ⟨st', hh', hk⟩) h1

end
end Go.AW
