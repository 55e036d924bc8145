/- Part of the abstract walk: append. -/
import Derived.Test.YtiehdnjcapjacaaAWB3
namespace Go.AW
open Go

/-- Where the cells of new elements come from. -/
structure Src (E : Env) (s : Nat) (new : List (List X)) (c : Value) (R : List Nat) : Prop where
  ex : ∃ base cap, ∃ vs : List Value, c = .slice (some base) new.length cap ∧ vs.length = new.length * s ∧ (∀ j v, vs[j]? = some v → E.w.cell? (base.add j) = some v) ∧ (∀ v ∈ vs, v.oneCell' = true) ∧
    ∀ (E' : Env) (cs : Array Value) (off : Nat), E.On E' R → (∀ j, j < vs.length → cs[off + j]? = vs[j]?) → ROr E' new cs off R
  uni : Uniform s new

theorem ROr.vals {E : Env} : ∀ {rs : List (List X)} {cs : Array Value} {off : Nat} {R : List Nat}, ROr E rs cs off R → ∃ vs : List Value, vs.length = rs.flatten.length ∧ (∀ j v, vs[j]? = some v → cs[off + j]? = some v) ∧ (∀ v ∈ vs, v.oneCell' = true)
  | [], _, _, _, _ => ⟨[], rfl, by simp, by simp⟩
  | r :: rs, cs, off, R, h => by
    simp only [ROr] at h
    obtain ⟨R₁, R₂, _, h1, h2, _⟩ := h
    obtain ⟨vs, hl, hv, hx⟩ := RO.cells h1
    obtain ⟨vs', hl', hv', ho'⟩ := ROr.vals h2
    refine ⟨vs ++ vs', by simp [hl, hl'], ?_, ?_⟩
    · intro j v hj
      by_cases hjl : j < vs.length
      · rw [List.getElem?_append_left hjl] at hj; exact hv j v hj
      · rw [List.getElem?_append_right (by omega)] at hj
        have := hv' _ v hj
        rw [show off + j = off + r.length + (j - vs.length) by omega]; exact this
    · intro v hv2
      rcases List.mem_append.1 hv2 with h' | h'
      · exact RXs.oneCell hx v h'
      · exact ho' v h'

theorem RFr.vals {E : Env} : ∀ {rs : List (List X)} {b off : Nat}, RFr E rs b off → ∃ vs : List Value, vs.length = rs.flatten.length ∧ (∀ j v, vs[j]? = some v → E.φ b (off + j) = some v) ∧ (∀ v ∈ vs, v.oneCell' = true) ∧
      ∀ (E' : Env) (cs : Array Value) (o : Nat), E.On E' [] → (∀ j, j < vs.length → cs[o + j]? = vs[j]?) → ROr E' rs cs o []
  | [], _, _, _ => ⟨[], rfl, by simp, by simp, fun _ _ _ _ _ => by simp [ROr]⟩
  | r :: rs, b, off, h => by
    simp only [RFr] at h
    obtain ⟨vs, hl, hv, hx⟩ := RF.cells h.1
    obtain ⟨vs', hl', hv', ho', hr'⟩ := RFr.vals h.2
    have hnr : ∀ (row : List X) (b off : Nat), RF E row b off → X.nrs row = true := by
      intro row
      induction row with
      | nil => intro _ _ _; rfl
      | cons x t ih =>
        intro b off h
        simp only [RF] at h
        obtain ⟨⟨_, _, _, hn, _⟩, h2⟩ := h
        simp only [X.nrs, hn, ih b _ h2, Bool.and_self]
    refine ⟨vs ++ vs', by simp [hl, hl'], ?_, ?_, ?_⟩
    · intro j v hj
      by_cases hjl : j < vs.length
      · rw [List.getElem?_append_left hjl] at hj; exact hv j v hj
      · rw [List.getElem?_append_right (by omega)] at hj
        have := hv' _ v hj
        rw [show off + j = off + r.length + (j - vs.length) by omega]; exact this
    · intro v hv2
      rcases List.mem_append.1 hv2 with h' | h'
      · exact RXs.oneCell hx v h'
      · exact ho' v h'
    · intro E' cs o hE hcs
      simp only [ROr]
      refine ⟨[], [], hnr r b off h.1, ?_, ?_, rfl⟩
      · refine RXs.toRO (RXs.mono _ _ _ hE (fun q hq => by rw [X.ments_of_nrs (hnr r b off h.1)] at hq; cases hq) hx) fun j hj => ?_
        rw [hcs j (by simp; omega), List.getElem?_append_left (by omega)]
      · refine hr' E' cs _ hE fun j hj => ?_
        have := hcs (vs.length + j) (by simp; omega)
        rw [List.getElem?_append_right (by omega)] at this
        rw [← hl, Nat.add_assoc, this]
        congr 1
        omega

section
variable {P : Program} {N : Frm} {G : Ctx} {E : Env} {RR : Own → List Nat} {st : St} {a : Act}

theorem Src.ofUni {s : Nat} {new : List (List X)} {c : Value} {R : List Nat} (h : RX E (.uni s new) c R) (hne : 0 < new.length) : ∃ R', Src E s new c R' ∧ (∀ b ∈ R', b ∈ R) ∧ (R.Nodup → R'.Nodup) := by
  simp only [RX] at h
  obtain ⟨hu, base, cap, hc, h⟩ := h
  rcases h with ⟨h1, _⟩ | ⟨b, off, cs, ty, R', hb, hw, hl, ho, hφ, hRO, hR⟩
  · subst h1; simp at hne
  obtain ⟨vs, hvl, hv, hone⟩ := ROr.vals hRO
  refine ⟨R', ⟨⟨⟨b, off, none⟩, cap, vs, by rw [hc, hb], by rw [hvl, length_flatten hu], fun j v hj => by rw [add_mk, cell_of_heap hw]; exact hv j v hj, hone, ?_⟩, hu⟩, fun c hc => by rw [hR]; simp [hc], fun h => by rw [hR] at h; exact (List.nodup_cons.1 h).2⟩
  intro E' cs' off' hE hcs
  have h1 := ROr.mono _ _ _ _ hE hRO
  -- move the cells from off to off'
  have key : ∀ (rs : List (List X)) (o1 o2 : Nat) (R : List Nat), (∀ j, j < rs.flatten.length → cs'[o2 + j]? = cs[o1 + j]?) → ROr E' rs cs o1 R → ROr E' rs cs' o2 R := by
    have key0 : ∀ (xs : List X) (o1 o2 : Nat) (R : List Nat), (∀ j, j < xs.length → cs'[o2 + j]? = cs[o1 + j]?) → RO E' xs cs o1 R → RO E' xs cs' o2 R := by
      intro xs
      induction xs with
      | nil => intro _ _ _ _ h; simpa [RO] using h
      | cons x r ih =>
        intro o1 o2 R he h
        simp only [RO] at h ⊢
        obtain ⟨u, R₁, R₂, hu, hs, h1, h2, hR⟩ := h
        refine ⟨u, R₁, R₂, ?_, hs, h1, ih _ _ _ (fun j hj => ?_) h2, hR⟩
        · have := he 0 (by simp)
          simp only [Nat.add_zero] at this
          rw [this]; exact hu
        · have := he (j + 1) (by simp; omega)
          rw [show o2 + 1 + j = o2 + (j + 1) by omega, show o1 + 1 + j = o1 + (j + 1) by omega]; exact this
    intro rs
    induction rs with
    | nil => intro _ _ _ _ h; simpa [ROr] using h
    | cons x r ih =>
      intro o1 o2 R he h
      simp only [ROr] at h ⊢
      obtain ⟨R₁, R₂, hn, h1, h2, hR⟩ := h
      refine ⟨R₁, R₂, hn, key0 _ _ _ _ (fun j hj => he j (by simp; omega)) h1, ih _ _ _ (fun j hj => ?_) h2, hR⟩
      have := he (x.length + j) (by simp at hj ⊢; omega)
      rw [Nat.add_assoc, Nat.add_assoc]; exact this
  refine key new off off' R' (fun j hj => ?_) h1
  rw [hcs j (by omega)]
  have hjl : j < vs.length := by omega
  rw [List.getElem?_eq_getElem hjl]
  exact (hv j _ (List.getElem?_eq_getElem hjl)).symm

theorem Src.ofFz (hi : Inv G E RR st a) {s : Nat} {new : List (List X)} {c : Value} {R : List Nat} (h : RX E (.fz s new) c R) (hne : 0 < new.length) : Src E s new c [] := by
  simp only [RX] at h
  obtain ⟨_, hu, base, cap, hc, h⟩ := h
  rcases h with ⟨h1, _⟩ | ⟨b, off, hb, hl, hf⟩
  · subst h1; simp at hne
  obtain ⟨vs, hvl, hv, hone, hr⟩ := RFr.vals hf
  exact ⟨⟨⟨b, off, none⟩, cap, vs, by rw [hc, hb], by rw [hvl, length_flatten hu], fun j v hj => by rw [add_mk]; exact hi.frz _ _ _ (hv j v hj), hone, hr⟩, hu⟩

/-- What the model does at an append of at least one element. -/
theorem run_append_pos {t e s by_ n cap m ty : Nat} {base : Option Addr} {b2 : Addr} {c2 : Nat} {olds news z : List Value} (ht : TY.slice P t = some (e, s, by_)) (hz : TY.zero P e = some z) (hzl : z.length = s) (hm : 0 < m)
    (hol : olds.length = n * s) (hold : ∀ j v, olds[j]? = some v → ∃ b off, base = some ⟨b, off, none⟩ ∧ E.w.cell? ⟨b, off + j, none⟩ = some v) (hn0 : base = none → n = 0 ∧ cap = 0)
    (hnl : news.length = m * s) (hnew : ∀ j v, news[j]? = some v → E.w.cell? (b2.add j) = some v) (hone : ∀ v ∈ news, v.oneCell' = true) (hb46 : (n + m) * by_ ≤ 70368744177664) (h62 : n + m ≤ 4611686018427387904)
    (hroom : n + m ≤ cap → ∃ b off cs tb, base = some ⟨b, off, none⟩ ∧ E.w.heap[b]? = some (.cells cs tb (0, 0)) ∧ off + cap * s ≤ cs.size) :
    (∃ b off cs tb, base = some ⟨b, off, none⟩ ∧ E.w.heap[b]? = some (.cells cs tb (0, 0)) ∧ n + m ≤ cap ∧ off + cap * s ≤ cs.size ∧
      (Builtin.append_ #[t, t] ty #[.slice base n cap, .slice (some b2) m c2]).run P E.w = .ok (.slice base (n + m) cap) (E.w.setRow b (putA cs (off + n * s) news))) ∨
    (∃ cap' rest, n + m ≤ cap' ∧ rest.size = (cap' - (n + m)) * s ∧
      (Builtin.append_ #[t, t] ty #[.slice base n cap, .slice (some b2) m c2]).run P E.w = .ok (.slice (some ⟨E.w.heap.size, 0, none⟩) (n + m) cap') (E.w.drew.alloc (.cells ((olds ++ news).toArray ++ rest) e))) := by
  obtain ⟨hu, i, hinf, hs, hby⟩ := TY.slice_spec ht
  obtain ⟨i', z0, hi0, hz0, hzz⟩ := TY.zero_spec hz
  rw [hinf] at hi0
  obtain rfl := Option.some.inj hi0
  have hz0l : z0.cells.size = s := by
    have : z0.cells.toList.length = z.length := by rw [hzz]
    simpa [hzl] using this
  by_cases hr : n + m ≤ cap
  · obtain ⟨b, off, cs, tb, hb, hw, hsz⟩ := hroom hr
    refine .inl ⟨b, off, cs, tb, hb, hw, hr, hsz, ?_⟩
    have hms : (n + m) * s ≤ cap * s := Nat.mul_le_mul_right s hr
    rw [Nat.add_mul] at hms
    have hf := run_firstCells_some (P := P) E.w i.size m b2 m c2 news (by rw [hs]; exact hnl) hnew
    have hst := run_storeCells_at P b (off + n * s) tb news 0 cs E.w hw (by omega) hone
    simp only [Nat.add_zero] at hst
    subst hb
    rw [hs] at hf
    simp [Builtin.append_, run_underlying hu, sizeOf, typeInfo, hinf, Builtin.lenOf, hr, hf, add_mk, hs, hst, putA]
  · refine .inr ?_
    have hfit : Builtin.nextslicecap (n + m) cap * i.bytes ≤ 281474976710656 := growslice_fits (by omega) (by rw [hby]; omega)
    have hzs : ∀ k, (Builtin.zeroCells z0.cells k).size = k * s := fun k => by rw [size_zeroCells, hz0l]
    cases hbase : base with
    | none =>
      obtain ⟨rfl, rfl⟩ := hn0 hbase
      have holds : olds = [] := List.eq_nil_of_length_eq_zero (by simpa using hol)
      subst holds
      refine ⟨grownCap E.w m 0 e, _, by have := grownCap_ge E.w m 0 e; omega, hzs _, ?_⟩
      have := run_append_nil (P := P) E.w t ty e i z0 hu hinf hz0 b2 m c2 news (by rw [hs]; exact hnl) hnew hm (by omega) (by
        have : m * by_ ≤ 70368744177664 := by simpa using hb46
        rw [hby]; omega)
      simpa using this
    | some bb =>
      have hold' : ∀ j v, olds[j]? = some v → E.w.cell? (bb.add j) = some v := by
        intro j v hj
        obtain ⟨b, off, hb, hc⟩ := hold j v hj
        rw [hbase] at hb
        obtain rfl := Option.some.inj hb
        rw [add_mk]; exact hc
      refine ⟨grownCap E.w (n + m) cap e, _, grownCap_ge E.w (n + m) cap e, hzs _, ?_⟩
      have := run_append_grow (P := P) E.w t ty e i z0 hu hinf hz0 bb n cap olds (by rw [hs]; exact hol) hold' b2 m c2 news (by rw [hs]; exact hnl) hnew (by omega) (by omega) hfit
      rw [this]
      simp

/-- The part of owned rows that a window shows. -/
theorem ROr.window {E : Env} {rs : List (List X)} {cs : Array Value} {off s lo n : Nat} {R : List Nat} (hu : Uniform s rs) (h : ROr E rs cs off R) (hl : lo + n ≤ rs.length) :
    ∃ R', ROr E ((rs.drop lo).take n) cs (off + lo * s) R' ∧ (∀ b ∈ R', b ∈ R) ∧ (R.Nodup → R'.Nodup) := by
  have h0 : rs = rs.take lo ++ ((rs.drop lo).take n ++ rs.drop (lo + n)) := by
    conv => lhs; rw [← List.take_append_drop lo rs, ← List.take_append_drop n (rs.drop lo), List.drop_drop]
  rw [h0] at h
  obtain ⟨R₁, R₂, h1, h2, rfl⟩ := ROr.unapp h
  obtain ⟨R₃, R₄, h3, h4, rfl⟩ := ROr.unapp h2
  rw [length_flatten (hu.take lo), List.length_take, Nat.min_eq_left (by omega)] at h3
  refine ⟨R₃, h3, fun b hb => by simp [hb], fun hn => ?_⟩
  have := (List.nodup_append.1 hn).2.1
  exact (List.nodup_append.1 this).1

/-- append onto a slice over an object: what is known behind it. R2: what the new elements own. -/
theorem Inv.append (hi : Inv G E RR st a) {t e s by_ ty : Nat} {z : List Value} {o lo n : Nat} {rs new : List (List X)} {c c2 : Value} {R2 : List Nat} (ht : TY.slice P t = some (e, s, by_)) (hz : TY.zero P e = some z) (hzl : z.length = s)
    (hx : RX E (.slc o s lo n) c []) (ho : look st.objs o = some (.rows s rs)) (hln : lo + n ≤ rs.length) (hsrc : Src E s new c2 R2) (hm : 0 < new.length) (hR2 : R2.Nodup) (hown : ∀ b ∈ R2, b < E.w.heap.size ∧ ¬ G.K b ∧ ∀ p, b ∉ RR p)
    (hb46 : (n + new.length) * by_ ≤ 70368744177664) (h62 : n + new.length ≤ 4611686018427387904) (hF : G.fn.F.elem o = false) :
    ∃ u E' RR', (Builtin.append_ #[t, t] ty #[c, c2]).run P E.w = .ok u E'.w ∧ Inv G E' RR' ((st.kill o).putO o (.rows s (((rs.drop lo).take n) ++ new))) a ∧ RX E' (.slc o s 0 (n + new.length)) u [] := by
  have hob := hi.objs o _ ho
  have hnd := hi.nodup (.obj o)
  simp only [RX] at hx
  obtain ⟨_, base, cap, rfl, hcase⟩ := hx
  simp only [ROb] at hob
  obtain ⟨hu, hob⟩ := hob
  obtain ⟨⟨b2, cap2, news, rfl, hnl, hnew, hone, hlay⟩, hun⟩ := hsrc
  have hwl : ((rs.drop lo).take n).length = n := by simp; omega
  have hU : Uniform s (((rs.drop lo).take n) ++ new) := by
    intro r hr
    rcases List.mem_append.1 hr with h | h
    · exact (hu.drop lo).take n r h
    · exact hun r h
  have hR2b : ∀ b ∈ R2, b ∉ RR (.obj o) := fun b hb => (hown b hb).2.2 _
  -- the old cells, as values, and what lies in them
  have hold : ∃ (olds : List Value) (R1 : List Nat), olds.length = n * s ∧ (∀ j v, olds[j]? = some v → ∃ b off, base = some ⟨b, off, none⟩ ∧ E.w.cell? ⟨b, off + j, none⟩ = some v) ∧ (∀ b ∈ R1, b ∈ RR (.obj o)) ∧ R1.Nodup ∧
      (base = none → n = 0 ∧ cap = 0) ∧
      (∀ (E' : Env) (cs' : Array Value) (off' : Nat), E.On E' R1 → (∀ j, j < olds.length → cs'[off' + j]? = olds[j]?) → ROr E' ((rs.drop lo).take n) cs' off' R1) ∧
      (n + new.length ≤ cap → ∃ B cs tb, E.β o = some B ∧ base = some ⟨B.b, B.off + lo * s, none⟩ ∧ E.w.heap[B.b]? = some (.cells cs tb (0, 0)) ∧ B.off + lo * s + cap * s ≤ cs.size ∧ (∀ i, E.φ B.b i = none) ∧ B.b ∈ RR (.obj o) ∧ B.b ∉ R1) := by
    by_cases hcap0 : cap = 0
    · have hn0 : n = 0 := by rcases hcase with ⟨_, _, h, _⟩ | ⟨_, _, _, h, _⟩ <;> omega
      subst hn0
      refine ⟨[], [], by simp, by simp, by simp, List.nodup_nil, fun _ => ⟨rfl, hcap0⟩, fun _ _ _ _ _ => by simp [ROr], fun h => by omega⟩
    · rcases hcase with ⟨_, _, _, h⟩ | ⟨B, hB, hlc, hn', hb⟩
      · exact absurd h hcap0
      have hb' := hb.resolve_left hcap0
      rcases hob with ⟨h1, _⟩ | ⟨B', cs, tb, R', hB', hw, hφ, hcp, hsz, hRO, hRR⟩
      · rw [hB] at h1; cases h1
      rw [hB] at hB'
      obtain rfl := Option.some.inj hB'
      rw [hRR] at hnd
      obtain ⟨hnin, hnd'⟩ := List.nodup_cons.1 hnd
      obtain ⟨R1, hwin, hsub, hnd1⟩ := ROr.window hu hRO hln
      obtain ⟨olds, hol, hov, _⟩ := ROr.vals hwin
      rw [length_flatten ((hu.drop lo).take n), hwl] at hol
      refine ⟨olds, R1, hol, fun j v hj => ⟨B.b, B.off + lo * s, hb', by rw [cell_of_heap hw]; exact hov j v hj⟩, fun b hb => by rw [hRR]; simp [hsub b hb], hnd1 hnd', (fun h => by rw [hb'] at h; cases h), ?_, ?_⟩
      · intro E' cs' off' hE hcs
        have h1 := ROr.mono _ _ _ _ hE hwin
        have key : ∀ (rs : List (List X)) (o1 o2 : Nat) (R : List Nat), (∀ j, j < rs.flatten.length → cs'[o2 + j]? = cs[o1 + j]?) → ROr E' rs cs o1 R → ROr E' rs cs' o2 R := by
          have key0 : ∀ (xs : List X) (o1 o2 : Nat) (R : List Nat), (∀ j, j < xs.length → cs'[o2 + j]? = cs[o1 + j]?) → RO E' xs cs o1 R → RO E' xs cs' o2 R := by
            intro xs
            induction xs with
            | nil => intro _ _ _ _ h; simpa [RO] using h
            | cons x r ih =>
              intro o1 o2 R he h
              simp only [RO] at h ⊢
              obtain ⟨u, R₁, R₂, hu, hs, h1, h2, hR⟩ := h
              refine ⟨u, R₁, R₂, ?_, hs, h1, ih _ _ _ (fun j hj => ?_) h2, hR⟩
              · have := he 0 (by simp)
                simp only [Nat.add_zero] at this
                rw [this]; exact hu
              · have := he (j + 1) (by simp; omega)
                rw [show o2 + 1 + j = o2 + (j + 1) by omega, show o1 + 1 + j = o1 + (j + 1) by omega]; exact this
          intro rs
          induction rs with
          | nil => intro _ _ _ _ h; simpa [ROr] using h
          | cons x r ih =>
            intro o1 o2 R he h
            simp only [ROr] at h ⊢
            obtain ⟨R₁, R₂, hn, h1, h2, hR⟩ := h
            refine ⟨R₁, R₂, hn, key0 _ _ _ _ (fun j hj => he j (by simp; omega)) h1, ih _ _ _ (fun j hj => ?_) h2, hR⟩
            have := he (x.length + j) (by simp at hj ⊢; omega)
            rw [Nat.add_assoc, Nat.add_assoc]; exact this
        refine key _ (B.off + lo * s) off' R1 (fun j hj => ?_) h1
        have hjl : j < olds.length := by
          rw [length_flatten ((hu.drop lo).take n), hwl] at hj
          omega
        rw [hcs j hjl, List.getElem?_eq_getElem hjl]
        exact (hov j _ (List.getElem?_eq_getElem hjl)).symm
      · intro _
        refine ⟨B, cs, tb, hB, hb', hw, ?_, hφ, by rw [hRR]; simp, fun h => hnin (hsub _ h)⟩
        have : B.cap = lo + cap := hlc.symm
        rw [this, Nat.add_mul] at hsz
        omega
  obtain ⟨olds, R1, hol, hov, hR1, hR1n, hn0, hlay1, hroom⟩ := hold
  have hnodup : (R1 ++ R2).Nodup := by
    rw [List.nodup_append]
    exact ⟨hR1n, hR2, fun x hx y hy e => hR2b y hy (by rw [← e]; exact hR1 x hx)⟩
  rcases run_append_pos (P := P) (E := E) (ty := ty) ht hz hzl hm hol hov hn0 hnl hnew hone hb46 h62 (fun h => by
      obtain ⟨B, cs, tb, _, h2, h3, h4, _⟩ := hroom h
      exact ⟨B.b, B.off + lo * s, cs, tb, h2, h3, h4⟩) with ⟨b, off, cs, tb, hbase, hw, hfit, hsz, hrun⟩ | ⟨cap', rest, hcap', hrest, hrun⟩
  · -- in place
    obtain ⟨B, cs1, tb1, hB, hbase', hw', hsz', hφ, hbm, hbR1⟩ := hroom hfit
    rw [hbase] at hbase'
    simp only [Option.some.injEq, Addr.mk.injEq, and_true] at hbase'
    obtain ⟨rfl, rfl⟩ := hbase'
    rw [hw] at hw'
    simp only [Option.some.injEq, Go.Obj.cells.injEq] at hw'
    obtain ⟨rfl, rfl, _⟩ := hw'
    have hms : (n + new.length) * s ≤ cap * s := Nat.mul_le_mul_right s hfit
    rw [Nat.add_mul] at hms
    have hpf : B.off + lo * s + n * s + news.length ≤ cs.size := by omega
    let E' : Env := { E with w := E.w.setRow B.b (putA cs (B.off + lo * s + n * s) news), β := fun q => if q = o then some ⟨B.b, B.off + lo * s, cap⟩ else E.β q }
    have hbR2 : B.b ∉ R2 := fun h => hR2b _ h hbm
    have hon : ∀ R'', (∀ b ∈ R'', b ≠ B.b) → E.On E' R'' := fun R'' h => ⟨fun _ _ _ h => h, fun b hb => ⟨setRow_other E.w B.b b _ (h b hb), fun h => h⟩⟩
    have hmv : Moves G E E' (fun c => c = B.b) := { Moves.setRow G E B.b (putA cs (B.off + lo * s + n * s) news) hφ (hi.blk hbm) with φ := rfl }
    have hrows : ROr E' (((rs.drop lo).take n) ++ new) (putA cs (B.off + lo * s + n * s) news) (B.off + lo * s) (R1 ++ R2) := by
      refine ROr.app (hlay1 E' _ _ (hon R1 (fun b hb e => hbR1 (by rw [← e]; exact hb))) fun j hj => ?_) ?_
      · rw [putA_out hpf (.inl (by omega))]
        have := hov j _ (List.getElem?_eq_getElem hj)
        obtain ⟨b, off, hb, hc⟩ := this
        rw [hbase] at hb
        simp only [Option.some.injEq, Addr.mk.injEq, and_true] at hb
        obtain ⟨rfl, rfl⟩ := hb
        rw [cell_of_heap hw] at hc
        rw [hc, List.getElem?_eq_getElem hj]
      · rw [length_flatten ((hu.drop lo).take n), hwl]
        exact hlay E' _ _ (hon R2 (fun b hb e => hbR2 (by rw [← e]; exact hb))) fun j hj => putA_in hpf hj
    refine ⟨_, E', _, hrun, hi.reobj hmv (o := o) (R := B.b :: (R1 ++ R2)) (fun b h => by subst h; exact hbm) (fun q hq => by simp [E', hq]) (fun h => by rw [hF] at h; cases h) ?_ ?_ ?_, ?_⟩
    · simp only [ROb]
      refine ⟨hU, .inr ⟨⟨B.b, B.off + lo * s, cap⟩, _, tb, R1 ++ R2, by simp [E'], setRow_heap E.w B.b cs _ tb _ hw, hφ, by simp [hwl]; omega, by rw [size_putA hpf]; exact hsz, hrows, rfl⟩⟩
    · refine List.nodup_cons.2 ⟨fun h => ?_, hnodup⟩
      rcases List.mem_append.1 h with h | h
      · exact hbR1 h
      · exact hbR2 h
    · intro b hb
      have hs : E'.w.heap.size = E.w.heap.size := by simp [E']
      rw [hs]
      rcases List.mem_cons.1 hb with h | h
      · subst h; exact ⟨(hi.own _ _ hbm).1, hi.blk hbm, hi.mine (.inl hbm)⟩
      · rcases List.mem_append.1 h with h | h
        · exact ⟨(hi.own _ _ (hR1 b h)).1, hi.blk (hR1 b h), hi.mine (.inl (hR1 b h))⟩
        · exact ⟨(hown b h).1, (hown b h).2.1, fun p _ => (hown b h).2.2 p⟩
    · simp only [RX]
      exact ⟨trivial, _, cap, rfl, .inr ⟨⟨B.b, B.off + lo * s, cap⟩, by simp [E'], by simp, by omega, .inr (by simpa using hbase)⟩⟩
  · -- in a new block
    let E' : Env := { E with w := E.w.drew.alloc (.cells ((olds ++ news).toArray ++ rest) e), β := fun q => if q = o then some ⟨E.w.heap.size, 0, cap'⟩ else E.β q }
    have hmv : Moves G E E' (fun _ => False) := by
      have h1 := (Moves.drew G E).trans (Moves.alloc G { E with w := E.w.drew } (.cells ((olds ++ news).toArray ++ rest) e)) (fun _ h => h.elim)
      exact { h1 with φ := rfl }
    have hon : ∀ R'', (∀ b ∈ R'', b < E.w.heap.size) → E.On E' R'' := fun R'' h => ⟨fun _ _ _ h => h, fun b hb => ⟨hmv.same b (h b hb) (fun h => h), fun h => h⟩⟩
    have hin : ∀ j, j < (olds ++ news).length → ((olds ++ news).toArray ++ rest)[0 + j]? = (olds ++ news)[j]? := by
      intro j hj
      rw [Nat.zero_add, Array.getElem?_append_left (by simpa using hj)]
      simp
    have hsz : ((olds ++ news).toArray ++ rest).size = cap' * s := by
      simp [hrest, hol, hnl]
      have : cap' * s = (n + new.length) * s + (cap' - (n + new.length)) * s := by rw [← Nat.add_mul]; congr 1; omega
      rw [this, Nat.add_mul]
    have hrows : ROr E' (((rs.drop lo).take n) ++ new) ((olds ++ news).toArray ++ rest) 0 (R1 ++ R2) := by
      refine ROr.app (hlay1 E' _ _ (hon R1 (fun b hb => (hi.own _ _ (hR1 b hb)).1)) fun j hj => ?_) ?_
      · rw [hin j (by simp; omega), List.getElem?_append_left hj]
      · rw [length_flatten ((hu.drop lo).take n), hwl]
        refine hlay E' _ _ (hon R2 (fun b hb => (hown b hb).1)) fun j hj => ?_
        have := hin (olds.length + j) (by simp; omega)
        rw [List.getElem?_append_right (by omega)] at this
        rw [show 0 + n * s + j = 0 + (olds.length + j) by omega, this]
        congr 1; omega
    have hnewb : E.w.heap.size ∉ R1 ++ R2 := by
      intro h
      rcases List.mem_append.1 h with h | h
      · have := (hi.own _ _ (hR1 _ h)).1; omega
      · have := (hown _ h).1; omega
    have hs' : E'.w.heap.size = E.w.heap.size + 1 := by simp [E']
    refine ⟨_, E', _, hrun, hi.reobj hmv (o := o) (R := E.w.heap.size :: (R1 ++ R2)) (fun _ h => h.elim) (fun q hq => by simp [E', hq]) (fun h => by rw [hF] at h; cases h) ?_ ?_ ?_, ?_⟩
    · simp only [ROb]
      refine ⟨hU, .inr ⟨⟨E.w.heap.size, 0, cap'⟩, _, e, R1 ++ R2, by simp [E'], ?_, fun i => ?_, by simp [hwl]; omega, by rw [hsz]; simp, hrows, rfl⟩⟩
      · have := heap_alloc E.w.drew (.cells ((olds ++ news).toArray ++ rest) e)
        exact this
      · show E.φ E.w.heap.size i = none
        cases h : E.φ E.w.heap.size i with
        | none => rfl
        | some v => exact absurd (World.block_lt_of_cell? E.w _ (hi.frz _ _ _ h)) (by simp)
    · exact List.nodup_cons.2 ⟨hnewb, hnodup⟩
    · intro b hb
      rw [hs']
      rcases List.mem_cons.1 hb with h | h
      · subst h
        refine ⟨by omega, fun hK => ?_, hi.mine (.inr (Nat.le_refl _))⟩
        have := hi.small _ hK
        have := hi.size
        omega
      · rcases List.mem_append.1 h with h | h
        · exact ⟨by have := (hi.own _ _ (hR1 b h)).1; omega, hi.blk (hR1 b h), hi.mine (.inl (hR1 b h))⟩
        · exact ⟨by have := (hown b h).1; omega, (hown b h).2.1, fun p _ => (hown b h).2.2 p⟩
    · simp only [RX]
      exact ⟨trivial, _, cap', rfl, .inr ⟨⟨E.w.heap.size, 0, cap'⟩, by simp [E'], by simp, by omega, .inr (by simp)⟩⟩

end
end Go.AW
