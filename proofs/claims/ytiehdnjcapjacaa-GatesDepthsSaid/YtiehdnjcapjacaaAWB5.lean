/- Part of the abstract walk: the rules for append. -/
import Derived.Test.YtiehdnjcapjacaaAWB4
namespace Go.AW
open Go

section
variable {P : Program} {N : Frm} {G : Ctx} {E : Env} {RR : Own → List Nat} {st : St} {a : Act}

/-- A window becomes the whole object. -/
theorem Inv.trim (hi : Inv G E RR st a) {o s lo n : Nat} {rs : List (List X)} {c : Value} (hx : RX E (.slc o s lo n) c []) (ho : look st.objs o = some (.rows s rs)) (hln : lo + n ≤ rs.length) (hF : G.fn.F.elem o = false) :
    ∃ E' RR', E'.w = E.w ∧ Inv G E' RR' ((st.kill o).putO o (.rows s ((rs.drop lo).take n))) a ∧ RX E' (.slc o s 0 n) c [] := by
  have hob := hi.objs o _ ho
  have hnd := hi.nodup (.obj o)
  simp only [RX] at hx
  obtain ⟨_, base, cap, rfl, hcase⟩ := hx
  simp only [ROb] at hob
  obtain ⟨hu, hob⟩ := hob
  have hβ : ∀ (bk : Option Blk), Moves G E { E with β := fun q => if q = o then bk else E.β q } (fun _ => False) := fun _ =>
    ⟨rfl, fun _ h => h.elim, fun _ h => h.elim, fun _ _ _ => rfl, Nat.le_refl _, rfl, rfl, rfl⟩
  have hwl : ((rs.drop lo).take n).length = n := by simp; omega
  by_cases hcap0 : cap = 0
  · have hn0 : n = 0 := by rcases hcase with ⟨_, _, h, _⟩ | ⟨_, _, _, h, _⟩ <;> omega
    subst hn0
    refine ⟨{ E with β := fun q => if q = o then none else E.β q }, _, rfl, hi.reobj (hβ none) (o := o) (R := []) (fun _ h => h.elim) (fun q hq => by simp [hq]) (fun h => by rw [hF] at h; cases h) ?_ List.nodup_nil (fun _ h => by cases h), ?_⟩
    · simp only [ROb]; exact ⟨fun _ h => (by simp at h), .inl ⟨by simp, by simp, trivial⟩⟩
    · simp only [RX]; exact ⟨trivial, base, cap, rfl, .inl ⟨by simp, trivial, trivial, hcap0⟩⟩
  · rcases hcase with ⟨_, _, _, h⟩ | ⟨B, hB, hlc, hn', hb⟩
    · exact absurd h hcap0
    have hb' := hb.resolve_left hcap0
    rcases hob with ⟨h1, _⟩ | ⟨B', cs, tb, R', hB', hw, hφ, hcp, hsz, hRO, hRR⟩
    · rw [hB] at h1; cases h1
    rw [hB] at hB'
    obtain rfl := Option.some.inj hB'
    rw [hRR] at hnd
    obtain ⟨hnin, hnd'⟩ := List.nodup_cons.1 hnd
    obtain ⟨R1, hwin, hsub, hnd1⟩ := ROr.window hu hRO hln
    have hon : E.On { E with β := fun q => if q = o then some ⟨B.b, B.off + lo * s, cap⟩ else E.β q } R1 := ⟨fun _ _ _ h => h, fun _ _ => ⟨rfl, fun h => h⟩⟩
    refine ⟨{ E with β := fun q => if q = o then some ⟨B.b, B.off + lo * s, cap⟩ else E.β q }, _, rfl, hi.reobj (hβ (some ⟨B.b, B.off + lo * s, cap⟩)) (o := o) (R := B.b :: R1) (fun _ h => h.elim) (fun q hq => by simp [hq]) (fun h => by rw [hF] at h; cases h) ?_ (List.nodup_cons.2 ⟨fun h => hnin (hsub _ h), hnd1 hnd'⟩) ?_, ?_⟩
    · simp only [ROb]
      refine ⟨(hu.drop lo).take n, .inr ⟨⟨B.b, B.off + lo * s, cap⟩, cs, tb, R1, by simp, hw, hφ, by simp [hwl]; omega, ?_, ROr.mono _ _ _ _ hon hwin, rfl⟩⟩
      have : B.cap = lo + cap := hlc.symm
      rw [this, Nat.add_mul] at hsz
      simp only; omega
    · intro b hb2
      have hm : b ∈ RR (.obj o) := by
        rw [hRR]
        rcases List.mem_cons.1 hb2 with h | h
        · simp [h]
        · simp [hsub b h]
      exact ⟨(hi.own _ _ hm).1, hi.blk hm, hi.mine (.inl hm)⟩
    · simp only [RX]
      exact ⟨trivial, base, cap, rfl, .inr ⟨⟨B.b, B.off + lo * s, cap⟩, by simp, by simp, hn', .inr (by simpa using hb')⟩⟩

theorem Sh.trim {d o s lo n : Nat} {rs : List (List X)} (hx : look st.slots d = some (.slc o s lo n)) (ho : look st.objs o = some (.rows s rs)) (hln : lo + n ≤ rs.length) (hF : N.F.elem o = false) :
    Sh N st (((st.kill o).putO o (.rows s ((rs.drop lo).take n))).put d (.slc o s 0 n)) := by
  intro G hn a w hh
  obtain ⟨E, RR, rfl, hi⟩ := hh
  have hv := hi.slots d _ hx
  have h0 : RR (.slot d) = [] := RX.free (x := .slc o s lo n) rfl hv
  rw [h0] at hv
  obtain ⟨E', RR', hw, h1, h2⟩ := hi.trim hv ho hln (by rw [hn]; exact hF)
  exact ⟨E', _, hw, h1.relabel h2 List.nodup_nil (fun _ h => by cases h)⟩

/-- No slice, as a slice over an empty object. -/
theorem Inv.nil (hi : Inv G E RR st a) (o s : Nat) (hF : G.fn.F.elem o = false) : ∃ E' RR', E'.w = E.w ∧ Inv G E' RR' ((st.kill o).putO o (.rows s [])) a ∧ RX E' (.slc o s 0 0) (.slice none 0 0) [] := by
  have hβ : Moves G E { E with β := fun q => if q = o then none else E.β q } (fun _ => False) :=
    ⟨rfl, fun _ h => h.elim, fun _ h => h.elim, fun _ _ _ => rfl, Nat.le_refl _, rfl, rfl, rfl⟩
  refine ⟨{ E with β := fun q => if q = o then none else E.β q }, _, rfl, hi.reobj hβ (o := o) (R := []) (fun _ h => h.elim) (fun q hq => by simp [hq]) (fun h => by rw [hF] at h; cases h) ?_ List.nodup_nil (fun _ h => by cases h), ?_⟩
  · simp only [ROb]; exact ⟨fun _ h => (by cases h), .inl ⟨by simp, trivial, trivial⟩⟩
  · simp only [RX]; exact ⟨trivial, none, 0, rfl, .inl ⟨by simp, by trivial, by trivial, by trivial⟩⟩

theorem Sh.nil {d : Nat} (o s : Nat) (hx : look st.slots d = some (.v (.slice none 0 0))) (hF : N.F.elem o = false) : Sh N st (((st.kill o).putO o (.rows s [])).put d (.slc o s 0 0)) := by
  intro G hn a w hh
  obtain ⟨E, RR, rfl, hi⟩ := hh
  have hv := hi.slots d _ hx
  simp only [RX] at hv
  obtain ⟨E', RR', hw, h1, h2⟩ := hi.nil o s (by rw [hn]; exact hF)
  refine ⟨E', _, hw, h1.relabel (d := d) (by rw [hv.1]; exact h2) List.nodup_nil (fun _ h => by cases h)⟩

/-- A nil slice is a frozen slice without elements. -/
theorem Sh.nilF {d : Nat} (s : Nat) (hx : look st.slots d = some (.v (.slice none 0 0))) : Sh N st (st.put d (.fz s [])) := by
  intro G hn a w hh
  obtain ⟨E, RR, rfl, hi⟩ := hh
  have hv := hi.slots d _ hx
  simp only [RX] at hv
  refine ⟨E, _, rfl, hi.relabel (d := d) (R := []) ?_ List.nodup_nil (fun _ h => by cases h)⟩
  rw [hv.1]
  simp only [RX]
  exact ⟨trivial, fun _ h => (by cases h), none, 0, rfl, .inl ⟨by trivial, by trivial⟩⟩

/-- A slot of its own for a nil slice. -/
theorem Sh.nilU {d : Nat} (s : Nat) (hx : look st.slots d = some (.v (.slice none 0 0))) : Sh N st (st.put d (.uni s [])) := by
  intro G hn a w hh
  obtain ⟨E, RR, rfl, hi⟩ := hh
  have hv := hi.slots d _ hx
  simp only [RX] at hv
  refine ⟨E, _, rfl, hi.relabel (d := d) (R := []) ?_ List.nodup_nil (fun _ h => by cases h)⟩
  rw [hv.1]
  simp only [RX]
  exact ⟨fun _ h => (by cases h), none, 0, rfl, .inl ⟨by trivial, by trivial, by trivial⟩⟩

/-- append with nothing to append. -/
theorem run_append_none {t e s by_ ty n cap : Nat} {base b2 : Option Addr} {c2 : Nat} (ht : TY.slice P t = some (e, s, by_)) (hc : n ≤ cap) (w : World) :
    (Builtin.append_ #[t, t] ty #[.slice base n cap, .slice b2 0 c2]).run P w = .ok (.slice base n cap) w := by
  obtain ⟨hu, i, hinf, hs, hby⟩ := TY.slice_spec ht
  have h0 : ∀ a : Addr, (storeCells a []).run P w = .ok () w := fun _ => rfl
  cases b2 with
  | none =>
    cases base with
    | none => simp [Builtin.append_, run_underlying hu, sizeOf, typeInfo, hinf, Builtin.lenOf, hc, Builtin.firstCells]
    | some b => simp [Builtin.append_, run_underlying hu, sizeOf, typeInfo, hinf, Builtin.lenOf, hc, Builtin.firstCells, h0]
  | some b' =>
    have hl : ∀ a : Addr, (loadCells a 0).run P w = .ok #[] w := fun _ => rfl
    cases base with
    | none => simp [Builtin.append_, run_underlying hu, sizeOf, typeInfo, hinf, Builtin.lenOf, hc, Builtin.firstCells, hl]
    | some b => simp [Builtin.append_, run_underlying hu, sizeOf, typeInfo, hinf, Builtin.lenOf, hc, Builtin.firstCells, h0, hl]

variable {Q : Exit → St → Prop} {all : Array Oper} {rest : List Oper} {d : Nat} {ty : TypeId} {pos : String} {af : Array Edge}

theorem run_appendCall {x y : Operand} {t : Nat} {w w' : World} {u : Value} (h : (Builtin.append_ #[t, t] ty #[a.eval x, a.eval y]).run P w = .ok u w') :
    (execOp a.eval ⟨some d, .call ⟨.builtin .append, #[x, y], #[t, t]⟩, ty, pos, af, none⟩).run P w = .ok (.value u) w' := by
  refine run_callB (g := none) ?_
  have e : (#[x, y] : Array Operand).map a.eval = #[a.eval x, a.eval y] := by simp
  rw [e]
  exact run_v h

/-- append: the elements are those of a slice of one's own (which is gone behind it). -/
theorem AOps.append {t e s by_ tv : Nat} {z : List Value} {x : Operand} {o lo n : Nat} {rs new : List (List X)} (ht : TY.slice P t = some (e, s, by_)) (hz : TY.zero P e = some z) (hzl : Nat.beq z.length s = true)
    (hy : look st.slots tv = some (.uni s new)) (hx : opd (st.put tv .no) x = some (.slc o s lo n)) (ho : look st.objs o = some (.rows s rs)) (hln : lo + n ≤ rs.length)
    (hb46 : (n + new.length) * by_ ≤ 70368744177664) (h62 : n + new.length ≤ 4611686018427387904) (hF : N.F.elem o = false) (hd : d < N.n)
    (k : AOps P N all rest (((((st.put tv .no).kill o).putO o (.rows s (((rs.drop lo).take n) ++ new)))).put d (.slc o s 0 (n + new.length))) Q) :
    AOps P N all (⟨some d, .call ⟨.builtin .append, #[x, .tmp tv], #[t, t]⟩, ty, pos, af, none⟩ :: rest) st Q := by
  refine AOps.eff (fun G E RR a hn hi => ?_) k
  have hv := hi.slots tv _ hy
  have hi2 := hi.no tv
  obtain ⟨R, hxv⟩ := hi2.eval hx
  have h0 : R = [] := RX.free (x := .slc o s lo n) rfl hxv
  subst h0
  have hF' : G.fn.F.elem o = false := by rw [hn]; exact hF
  by_cases hm : 0 < new.length
  · obtain ⟨R2, hsrc, hsub, hnd⟩ := Src.ofUni hv hm
    obtain ⟨u, E', RR', hrun, h1, h2⟩ := hi2.append (ty := ty) ht hz (Nat.eq_of_beq_eq_true hzl) hxv ho hln hsrc hm (hnd (hi.nodup _)) (fun b hb => by
      have hb' := hsub b hb
      refine ⟨(hi.own _ _ hb').1, (hi.own _ _ hb').2, fun p hp => ?_⟩
      unfold upd at hp
      split at hp
      · cases hp
      · rename_i h; exact hi.apart _ _ h b hp hb') hb46 h62 hF'
    exact ⟨u, E', _, run_appendCall hrun, h1.put0 (by rw [hn]; exact hd) h2⟩
  · have hnew : new = [] := List.eq_nil_of_length_eq_zero (by omega)
    subst hnew
    obtain ⟨E', RR', hw, h1, h2⟩ := hi2.trim hxv ho hln hF'
    simp only [List.append_nil, List.length_nil, Nat.add_zero]
    refine ⟨a.eval x, E', _, ?_, h1.put0 (by rw [hn]; exact hd) h2⟩
    rw [hw]
    refine run_appendCall ?_
    simp only [RX] at hxv hv
    obtain ⟨_, base, cap, hc, hcase⟩ := hxv
    obtain ⟨_, b2, c2, hc2, _⟩ := hv
    have hc2' : a.eval (.tmp tv) = .slice b2 0 c2 := hc2
    rw [hc, hc2']
    exact run_append_none ht (by rcases hcase with ⟨_, _, h3, h4⟩ | ⟨_, _, _, h3, _⟩ <;> omega) E.w

/-- append: the elements are those of a frozen slice. -/
theorem AOps.appendF {t e s by_ : Nat} {z : List Value} {x y : Operand} {o lo n : Nat} {rs new : List (List X)} (ht : TY.slice P t = some (e, s, by_)) (hz : TY.zero P e = some z) (hzl : Nat.beq z.length s = true)
    (hy : opd st y = some (.fz s new)) (hx : opd st x = some (.slc o s lo n)) (ho : look st.objs o = some (.rows s rs)) (hln : lo + n ≤ rs.length)
    (hb46 : (n + new.length) * by_ ≤ 70368744177664) (h62 : n + new.length ≤ 4611686018427387904) (hF : N.F.elem o = false) (hd : d < N.n)
    (k : AOps P N all rest ((((st.kill o).putO o (.rows s (((rs.drop lo).take n) ++ new)))).put d (.slc o s 0 (n + new.length))) Q) :
    AOps P N all (⟨some d, .call ⟨.builtin .append, #[x, y], #[t, t]⟩, ty, pos, af, none⟩ :: rest) st Q := by
  refine AOps.eff (fun G E RR a hn hi => ?_) k
  obtain ⟨R', hv⟩ := hi.eval hy
  obtain ⟨R, hxv⟩ := hi.eval hx
  have h0 : R = [] := RX.free (x := .slc o s lo n) rfl hxv
  subst h0
  have hF' : G.fn.F.elem o = false := by rw [hn]; exact hF
  by_cases hm : 0 < new.length
  · have hsrc := Src.ofFz hi hv hm
    obtain ⟨u, E', RR', hrun, h1, h2⟩ := hi.append (ty := ty) ht hz (Nat.eq_of_beq_eq_true hzl) hxv ho hln hsrc hm List.nodup_nil (fun _ h => by cases h) hb46 h62 hF'
    exact ⟨u, E', _, run_appendCall hrun, h1.put0 (by rw [hn]; exact hd) h2⟩
  · have hnew : new = [] := List.eq_nil_of_length_eq_zero (by omega)
    subst hnew
    obtain ⟨E', RR', hw, h1, h2⟩ := hi.trim hxv ho hln hF'
    simp only [List.append_nil, List.length_nil, Nat.add_zero]
    refine ⟨a.eval x, E', _, ?_, h1.put0 (by rw [hn]; exact hd) h2⟩
    rw [hw]
    refine run_appendCall ?_
    simp only [RX] at hxv hv
    obtain ⟨_, base, cap, hc, hcase⟩ := hxv
    obtain ⟨_, _, b2, c2, hc2, _⟩ := hv
    rw [hc, hc2]
    exact run_append_none ht (by rcases hcase with ⟨_, _, h3, h4⟩ | ⟨_, _, _, h3, _⟩ <;> omega) E.w

/-- A value of one's own moves to another slot. -/
theorem AOps.assignU {tv s : Nat} {rows : List (List X)} (hy : look st.slots tv = some (.uni s rows)) (hd : d < N.n) (k : AOps P N all rest ((st.put tv .no).put d (.uni s rows)) Q) :
    AOps P N all (⟨some d, .assign (.tmp tv), ty, pos, af, none⟩ :: rest) st Q := by
  refine AOps.eff (fun G E RR a hn hi => ?_) k
  have hv := hi.slots tv _ hy
  have hi2 := hi.no tv
  refine ⟨a.eval (.tmp tv), E, _, rfl, hi2.put (R := RR (.slot tv)) (by rw [hn]; exact hd) hv (hi.nodup _) (fun b hb => ⟨(hi.own _ _ hb).1, (hi.own _ _ hb).2, fun p _ hp => ?_⟩)⟩
  unfold upd at hp
  split at hp
  · cases hp
  · rename_i h; exact hi.apart _ _ h b hp hb

theorem AOps.moveU {tv s : Nat} {rows : List (List X)} (hy : look st.slots tv = some (.uni s rows)) (hd : d < N.n) (k : AOps P N all rest ((st.put tv .no).put d (.uni s rows)) Q) :
    AOps P N all (⟨some d, .move (.tmp tv), ty, pos, af, none⟩ :: rest) st Q := by
  refine AOps.eff (fun G E RR a hn hi => ?_) k
  have hv := hi.slots tv _ hy
  have hi2 := hi.no tv
  refine ⟨a.eval (.tmp tv), E, _, rfl, hi2.put (R := RR (.slot tv)) (by rw [hn]; exact hd) hv (hi.nodup _) (fun b hb => ⟨(hi.own _ _ hb).1, (hi.own _ _ hb).2, fun p _ hp => ?_⟩)⟩
  unfold upd at hp
  split at hp
  · cases hp
  · rename_i h; exact hi.apart _ _ h b hp hb

end
end Go.AW
