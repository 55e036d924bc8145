/- Part of the abstract walk: stores, and what moves between slots and objects. -/
import Derived.Test.YtiehdnjcapjacaaAWB2
namespace Go.AW
open Go

def TY.size (P : Program) (t : TypeId) : Option Nat := (P.info? t).map (·.size)

section
variable {P : Program} {N : Frm} {st : St} {Q : Exit → St → Prop} {all : Array Oper} {rest : List Oper} {d : Nat} {ty : TypeId} {pos : String} {af : Array Edge}

theorem run_storeAt {t : TypeId} {m b off : Nat} {v : Value} {cs : Array Value} {tb : TypeId} {w : World} (ht : TY.size P t = some m) (hm : v.cells.size = m) (hw : w.heap[b]? = some (.cells cs tb (0, 0))) (hfit : off + m ≤ cs.size)
    (h1 : ∀ u ∈ v.cells.toList, u.oneCell' = true) : (Instr.storeAt t (.pointer (some ⟨b, off, none⟩)) v).run P w = .ok () (w.setRow b (putA cs off v.cells.toList)) := by
  unfold TY.size at ht
  cases hi : P.info? t with
  | none => simp [hi] at ht
  | some i =>
    rw [hi] at ht
    simp only [Option.map_some, Option.some.injEq] at ht
    have hst := run_storeCells_at P b off tb v.cells.toList 0 cs w hw (by simp; omega) h1
    simp only [Nat.add_zero] at hst
    simp only [Instr.storeAt, Instr.sureAddr, storeVar, Sem.run_bind, Sem.run_pure, Result.andThen_ok, run_sizeOf hi, ht, hm, ne_eq, not_true_eq_false, if_false]
    exact hst

/-- What an owned object owns first of all is its block. -/
theorem Inv.blk {G : Ctx} {E : Env} {RR : Own → List Nat} {a : Act} (hi : Inv G E RR st a) {p : Own} {b : Nat} (h : b ∈ RR p) : ¬ G.K b := (hi.own p b h).2

/-- A store into a variable. -/
theorem AOps.storeC {t : TypeId} {x y : Operand} {o s k m : Nat} {v : X} {ys xs : List X} (ht : TY.size P t = some m) (hx : opd st x = some (.ptr o s 0 k)) (hy : opd st y = some v) (hfl : v.flat = some ys) (hf : X.frees ys = true) (hm : ys.length = m)
    (ho : look st.objs o = some (.cells xs)) (hk : k + m ≤ xs.length) (hfx : X.frees (putL xs k ys) = true) (kk : AOps P N all rest (st.putO o (.cells (putL xs k ys))) Q) :
    AOps P N all (⟨none, .store t x y, ty, pos, af, none⟩ :: rest) st Q := by
  refine AOps.eff0 (fun G E RR a hn hi => ?_) kk
  obtain ⟨R, hv⟩ := hi.eval hy
  have hfv := hv.flat hfl
  have h0 := RXs.free hf hfv
  subst h0
  obtain ⟨R', hp⟩ := hi.eval hx
  simp only [RX] at hp
  obtain ⟨_, B, hB, hc⟩ := hp
  simp only [Nat.zero_mul, Nat.zero_add] at hc
  have hob := hi.objs o _ ho
  simp only [ROb] at hob
  obtain ⟨hfr, B', cs, tb, hB', hw, hφ, hlen, hRO, hRR⟩ := hob
  rw [hB] at hB'
  obtain rfl := Option.some.inj hB'
  have hlv := RXs.length hfv
  have hsz : (a.eval y).cells.size = m := by simp at hlv; omega
  have hrun := run_storeAt (P := P) (off := B.off + k) ht hsz hw (by omega) (RXs.oneCell hfv)
  have hbm : B.b ∈ RR (.obj o) := by rw [hRR]; simp
  have hmv := Moves.setRow G E B.b (putA cs (B.off + k) (a.eval y).cells.toList) hφ (hi.blk hbm)
  have hon : E.On { E with w := E.w.setRow B.b (putA cs (B.off + k) (a.eval y).cells.toList) } [] := ⟨fun _ _ _ h => h, fun _ h => by cases h⟩
  have hfv' := RXs.mono _ _ _ hon (fun _ _ => rfl) hfv
  have hRO' := RO.mono _ _ _ _ hon (fun _ _ => rfl) hRO
  obtain ⟨R₁, hput, hsub, _⟩ := RO.put (k := k) hRO' (by omega) hfv' (by omega)
  have hR₁ : R₁ = [] := by
    cases R₁ with
    | nil => rfl
    | cons b r => rcases hsub b (by simp) with h | h <;> cases h
  subst hR₁
  refine ⟨_, _, ?_, hi.inobj (E' := { E with w := E.w.setRow B.b (putA cs (B.off + k) (a.eval y).cells.toList) }) hmv (o := o) (R := [B.b]) (fun b h => by subst h; exact hbm) rfl ?_ (by simp) ?_⟩
  · show (do Instr.storeAt t (a.eval x) (a.eval y); Pure.pure Next.skip : Sem Next).run P E.w = _
    rw [hc]
    exact run_u hrun
  · simp only [ROb]
    have hl2 : (putL xs k ys).length = xs.length := length_putL (by omega)
    exact ⟨hfx, B, _, tb, hB, setRow_heap E.w B.b cs _ tb _ hw, hφ, by rw [hl2, size_putA (by simp at hlv ⊢; omega)]; exact hlen, hput, rfl⟩
  · intro b hb
    simp only [List.mem_singleton] at hb
    subst hb
    exact ⟨by simpa using (hi.own _ _ hbm).1, hi.blk hbm, hi.mine (.inl hbm)⟩

/-- A store into a slice. -/
theorem AOps.storeR {t : TypeId} {x y : Operand} {o s i k m : Nat} {v : X} {ys row : List X} {rs : List (List X)} (ht : TY.size P t = some m) (hx : opd st x = some (.ptr o s i k)) (hy : opd st y = some v) (hfl : v.flat = some ys) (hf : X.frees ys = true)
    (hn : X.nrs ys = true) (hm : ys.length = m) (ho : look st.objs o = some (.rows s rs)) (hr : rs[i]? = some row) (hk : k + m ≤ row.length) (kk : AOps P N all rest (st.putO o (.rows s (rs.set i (putL row k ys)))) Q) :
    AOps P N all (⟨none, .store t x y, ty, pos, af, none⟩ :: rest) st Q := by
  refine AOps.eff0 (fun G E RR a hfn hi => ?_) kk
  obtain ⟨R, hv⟩ := hi.eval hy
  have hfv := hv.flat hfl
  have h0 := RXs.free hf hfv
  subst h0
  obtain ⟨R', hp⟩ := hi.eval hx
  simp only [RX] at hp
  obtain ⟨_, B, hB, hc⟩ := hp
  have hob := hi.objs o _ ho
  have hnd := hi.nodup (.obj o)
  simp only [ROb] at hob
  obtain ⟨hu, hob⟩ := hob
  rcases hob with ⟨_, h, _⟩ | ⟨B', cs, tb, R', hB', hw, hφ, hcap, hlen, hRO, hRR⟩
  · subst h; simp at hr
  rw [hB] at hB'
  obtain rfl := Option.some.inj hB'
  have hlv := RXs.length hfv
  have hsz : (a.eval y).cells.size = m := by simp at hlv; omega
  have hrl : rs.length * s ≤ B.cap * s := Nat.mul_le_mul_right s hcap
  have hil : i < rs.length := by
    rcases Nat.lt_or_ge i rs.length with h' | h'
    · exact h'
    · simp [List.getElem?_eq_none h'] at hr
  have hrow : row.length = s := hu row (List.mem_of_getElem? hr)
  have his : i * s + s ≤ rs.length * s := by
    have : (i + 1) * s ≤ rs.length * s := Nat.mul_le_mul_right s hil
    rw [Nat.add_mul] at this; omega
  have hrun := run_storeAt (P := P) (off := B.off + (i * s + k)) ht hsz hw (by omega) (RXs.oneCell hfv)
  have hbm : B.b ∈ RR (.obj o) := by rw [hRR]; simp
  have hmv := Moves.setRow G E B.b (putA cs (B.off + (i * s + k)) (a.eval y).cells.toList) hφ (hi.blk hbm)
  rw [hRR] at hnd
  have hnd' := List.nodup_cons.1 hnd
  have hon : E.On { E with w := E.w.setRow B.b (putA cs (B.off + (i * s + k)) (a.eval y).cells.toList) } R' :=
    ⟨fun _ _ _ h => h, fun b hb => ⟨setRow_other E.w B.b b _ (fun e => hnd'.1 (by rw [← e]; exact hb)), fun h => h⟩⟩
  have hfv' := RXs.mono _ _ _ (hon.sub (fun _ h => by cases h)) (fun _ _ => rfl) hfv
  have hRO' := ROr.mono _ _ _ _ hon hRO
  obtain ⟨R₁, hput, hsub, hnodup⟩ := ROr.set (i := i) (k := k) hu hRO' hr (by omega) hfv' hn (by omega)
  have hsub' : ∀ b ∈ R₁, b ∈ R' := fun b hb => (hsub b hb).resolve_right (fun h => by cases h)
  refine ⟨_, _, ?_, hi.inobj (E' := { E with w := E.w.setRow B.b (putA cs (B.off + (i * s + k)) (a.eval y).cells.toList) }) hmv (o := o) (R := B.b :: R₁) (fun b h => by subst h; exact hbm) rfl ?_ ?_ ?_⟩
  · show (do Instr.storeAt t (a.eval x) (a.eval y); Pure.pure Next.skip : Sem Next).run P E.w = _
    rw [hc]
    exact run_u hrun
  · simp only [ROb]
    refine ⟨hu.set (by rw [length_putL (by omega)]; exact hrow), .inr ⟨B, _, tb, R₁, hB, setRow_heap E.w B.b cs _ tb _ hw, hφ, by simpa using hcap, by rw [size_putA (by simp at hlv ⊢; omega)]; exact hlen, hput, rfl⟩⟩
  · exact List.nodup_cons.2 ⟨fun h => hnd'.1 (hsub' _ h), hnodup (by simpa using hnd'.2)⟩
  · intro b hb
    have hb' : b ∈ RR (.obj o) := by
      rw [hRR]
      rcases List.mem_cons.1 hb with h | h
      · simp [h]
      · exact List.mem_cons.2 (.inr (hsub' b h))
    exact ⟨by simpa using (hi.own _ _ hb').1, hi.blk hb', hi.mine (.inl hb')⟩

/-- A slice of one's own, stored into a slice: it moves. -/
theorem AOps.storeU {t : TypeId} {x : Operand} {o s i k ys' tv : Nat} {rows row : List (List X)} {rw' : List X} {rs : List (List X)} (ht : TY.size P t = some 1) (hx : opd st x = some (.ptr o s i k)) (hy : look st.slots tv = some (.uni ys' rows)) (_h : row = row)
    (ho : look st.objs o = some (.rows s rs)) (hr : rs[i]? = some rw') (hk : k + 1 ≤ rw'.length) (kk : AOps P N all rest ((st.put tv .no).putO o (.rows s (rs.set i (putL rw' k [.uni ys' rows])))) Q) :
    AOps P N all (⟨none, .store t x (.tmp tv), ty, pos, af, none⟩ :: rest) st Q := by
  refine AOps.eff0 (fun G E RR a hfn hi => ?_) kk
  have hv := hi.slots tv _ hy
  have hfv : RXs E [X.uni ys' rows] (a.eval (.tmp tv)).cells.toList (RR (.slot tv)) := hv.flat rfl
  obtain ⟨R', hp⟩ := hi.eval hx
  simp only [RX] at hp
  obtain ⟨_, B, hB, hc⟩ := hp
  have hob := hi.objs o _ ho
  have hnd := hi.nodup (.obj o)
  simp only [ROb] at hob
  obtain ⟨hu, hob⟩ := hob
  rcases hob with ⟨_, h, _⟩ | ⟨B', cs, tb, R', hB', hw, hφ, hcap, hlen, hRO, hRR⟩
  · subst h; simp at hr
  rw [hB] at hB'
  obtain rfl := Option.some.inj hB'
  have hlv := RXs.length hfv
  have hsz : (a.eval (.tmp tv)).cells.size = 1 := by simpa using hlv
  have hrl : rs.length * s ≤ B.cap * s := Nat.mul_le_mul_right s hcap
  have hil : i < rs.length := by
    rcases Nat.lt_or_ge i rs.length with h' | h'
    · exact h'
    · simp [List.getElem?_eq_none h'] at hr
  have hrow : rw'.length = s := hu rw' (List.mem_of_getElem? hr)
  have his : i * s + s ≤ rs.length * s := by
    have : (i + 1) * s ≤ rs.length * s := Nat.mul_le_mul_right s hil
    rw [Nat.add_mul] at this; omega
  have hrun := run_storeAt (P := P) (off := B.off + (i * s + k)) ht hsz hw (by omega) (RXs.oneCell hfv)
  have hbm : B.b ∈ RR (.obj o) := by rw [hRR]; simp
  have hmv := Moves.setRow G E B.b (putA cs (B.off + (i * s + k)) (a.eval (.tmp tv)).cells.toList) hφ (hi.blk hbm)
  rw [hRR] at hnd
  have hnd' := List.nodup_cons.1 hnd
  have hslot : ∀ b ∈ RR (.slot tv), b ∉ RR (.obj o) := fun b hb hb' => hi.apart _ _ (by simp) b hb hb'
  have hon : ∀ R'', (∀ b ∈ R'', b ≠ B.b) → E.On { E with w := E.w.setRow B.b (putA cs (B.off + (i * s + k)) (a.eval (.tmp tv)).cells.toList) } R'' :=
    fun R'' h => ⟨fun _ _ _ h => h, fun b hb => ⟨setRow_other E.w B.b b _ (h b hb), fun h => h⟩⟩
  have hfv' := RXs.mono _ _ _ (hon (RR (.slot tv)) (fun b hb e => hslot b hb (by rw [e]; exact hbm))) (fun _ _ => rfl) hfv
  have hRO' := ROr.mono _ _ _ _ (hon R' (fun b hb e => hnd'.1 (by rw [← e]; exact hb))) hRO
  obtain ⟨R₁, hput, hsub, hnodup⟩ := ROr.set (i := i) (k := k) hu hRO' hr (by simpa using hk) hfv' rfl (by omega)
  have hi2 := hi.no tv
  have hlist : (R' ++ RR (.slot tv)).Nodup := by
    rw [List.nodup_append]
    refine ⟨hnd'.2, hi.nodup _, fun x hx y hy e => hslot y hy ?_⟩
    rw [← e, hRR]; exact List.mem_cons.2 (.inr hx)
  have hro : upd RR (.slot tv) [] (.obj o) = RR (.obj o) := by simp [upd]
  refine ⟨_, _, ?_, hi2.inobj (E' := { E with w := E.w.setRow B.b (putA cs (B.off + (i * s + k)) (a.eval (.tmp tv)).cells.toList) }) hmv (o := o) (R := B.b :: R₁) (fun b h => by subst h; rw [hro]; exact hbm) rfl ?_ ?_ ?_⟩
  · show (do Instr.storeAt t (a.eval x) (a.eval (.tmp tv)); Pure.pure Next.skip : Sem Next).run P E.w = _
    rw [hc]
    exact run_u hrun
  · simp only [ROb]
    refine ⟨hu.set (by rw [length_putL (by simpa using hk)]; exact hrow), .inr ⟨B, _, tb, R₁, hB, setRow_heap E.w B.b cs _ tb _ hw, hφ, by simpa using hcap, by rw [size_putA (by simp at hlv ⊢; omega)]; exact hlen, hput, rfl⟩⟩
  · refine List.nodup_cons.2 ⟨fun h => ?_, hnodup hlist⟩
    rcases hsub _ h with h' | h'
    · exact hnd'.1 h'
    · exact hslot _ h' hbm
  · intro b hb
    have hcase : b ∈ RR (.obj o) ∨ b ∈ RR (.slot tv) := by
      rw [hRR]
      rcases List.mem_cons.1 hb with h | h
      · exact .inl (by simp [h])
      · rcases hsub b h with h' | h'
        · exact .inl (List.mem_cons.2 (.inr h'))
        · exact .inr h'
    have howns : b < E.w.heap.size ∧ ¬ G.K b := by rcases hcase with h | h <;> exact hi.own _ _ h
    refine ⟨by simpa using howns.1, howns.2, fun p hp hbp => ?_⟩
    have hbp' : p ≠ .slot tv ∧ b ∈ RR p := by
      unfold upd at hbp
      split at hbp
      · cases hbp
      · rename_i h; exact ⟨h, hbp⟩
    rcases hcase with h | h
    · exact hi.apart _ _ hp b hbp'.2 h
    · exact hi.apart _ _ hbp'.1 b hbp'.2 h

/-- A slice of one's own gets a name. -/
theorem Sh.adopt {s : Nat} {rows : List (List X)} (o : Nat) (hx : look st.slots d = some (.uni s rows)) (hF : N.F.elem o = false) : Sh N st (((st.kill o).putO o (.rows s rows)).put d (.slc o s 0 rows.length)) := by
  intro G hn a w hh
  obtain ⟨E, RR, rfl, hi⟩ := hh
  have hv := hi.slots d _ hx
  have hnd := hi.nodup (.slot d)
  simp only [RX] at hv
  obtain ⟨hu, base, cap, hc, hcase⟩ := hv
  have hi2 := hi.no d
  have hkill : ∀ (E' : Env) (RR' : Own → List Nat), Inv G E' RR' (((st.put d .no).kill o).putO o (.rows s rows)) a → (∃ R, R = [] ∧ RX E' (.slc o s 0 rows.length) (a.tmps.getD d undef) R) →
      Holds G (((st.kill o).putO o (.rows s rows)).put d (.slc o s 0 rows.length)) a E'.w := by
    intro E' RR' h3 ⟨R, hR, hx'⟩
    subst hR
    have h4 := h3.relabel (d := d) hx' List.nodup_nil (fun _ h => by cases h)
    refine ⟨E', upd RR' (.slot d) [], rfl, ?_⟩
    refine { h4 with slots := fun q y hy => h4.slots q y ?_, objs := fun q y hy => h4.objs q y hy }
    simp only [St.put, St.putO, St.kill, killXs, List.map_cons, look] at hy ⊢
    cases hb : Nat.beq d q with
    | true => rw [hb] at hy; simpa using hy
    | false => rw [hb] at hy; simpa using hy
  have hβ : ∀ (bk : Option Blk), Moves G E { E with β := fun q => if q = o then bk else E.β q } (fun _ => False) := fun _ =>
    ⟨rfl, fun _ h => h.elim, fun _ h => h.elim, fun _ _ _ => rfl, Nat.le_refl _, rfl, rfl, rfl⟩
  rcases hcase with ⟨h1, h2, h3⟩ | ⟨b, off, cs, ty, R', hb, hw, hl, ho, hφ, hRO, hRR⟩
  · have h4 := hi2.reobj (hβ none) (o := o) (ob := .rows s rows) (R := []) (fun _ h => h.elim) (fun q hq => by simp [hq]) (fun h => by rw [hn, hF] at h; cases h)
      (by simp only [ROb]; exact ⟨hu, .inl ⟨by simp, h1, trivial⟩⟩) List.nodup_nil (fun _ h => by cases h)
    refine hkill { E with β := fun q => if q = o then none else E.β q } _ h4 ⟨[], rfl, ?_⟩
    simp only [RX]
    exact ⟨trivial, base, cap, hc, .inl ⟨by simp, trivial, by simp [h1], h2⟩⟩
  · rw [hRR] at hnd
    have hnd' := List.nodup_cons.1 hnd
    have hon : E.On { E with β := fun q => if q = o then some ⟨b, off, cap⟩ else E.β q } R' := ⟨fun _ _ _ h => h, fun _ _ => ⟨rfl, fun h => h⟩⟩
    have h4 := hi2.reobj (hβ (some ⟨b, off, cap⟩)) (o := o) (ob := .rows s rows) (R := b :: R') (fun _ h => h.elim) (fun q hq => by simp [hq]) (fun h => by rw [hn, hF] at h; cases h)
      (by simp only [ROb]; exact ⟨hu, .inr ⟨⟨b, off, cap⟩, cs, ty, R', by simp, hw, hφ, hl, ho, ROr.mono _ _ _ _ hon hRO, rfl⟩⟩) hnd
      (fun c hc' => by
        have hm : c ∈ RR (.slot d) := by rw [hRR]; exact hc'
        refine ⟨(hi.own _ _ hm).1, (hi.own _ _ hm).2, fun p hp hcp => ?_⟩
        unfold upd at hcp
        split at hcp
        · cases hcp
        · rename_i h; exact hi.apart _ _ h c hcp hm)
    refine hkill { E with β := fun q => if q = o then some ⟨b, off, cap⟩ else E.β q } _ h4 ⟨[], rfl, ?_⟩
    simp only [RX]
    exact ⟨trivial, base, cap, hc, .inr ⟨⟨b, off, cap⟩, by simp, by simp, hl, .inr (by simpa using hb)⟩⟩

/-- A whole slice over an object becomes a slice of one's own; the object is gone. -/
theorem Sh.detach {s o n : Nat} {rows : List (List X)} (hx : look st.slots d = some (.slc o s 0 n)) (ho : look st.objs o = some (.rows s rows)) (hl : n = rows.length) (hF : N.F.elem o = false) :
    Sh N st (((st.kill o).putO o (.rows 0 [])).put d (.uni s rows)) := by
  intro G hn a w hh
  obtain ⟨E, RR, rfl, hi⟩ := hh
  subst hl
  have hv := hi.slots d _ hx
  have hob := hi.objs o _ ho
  have hnd := hi.nodup (.obj o)
  simp only [RX] at hv
  obtain ⟨_, base, cap, hc, hcase⟩ := hv
  simp only [ROb] at hob
  obtain ⟨hu, hob⟩ := hob
  have hβ : Moves G E { E with β := fun q => if q = o then none else E.β q } (fun _ => False) :=
    ⟨rfl, fun _ h => h.elim, fun _ h => h.elim, fun _ _ _ => rfl, Nat.le_refl _, rfl, rfl, rfl⟩
  have h4 := hi.reobj hβ (o := o) (ob := .rows 0 []) (R := []) (fun _ h => h.elim) (fun q hq => by simp [hq]) (fun h => by rw [hn, hF] at h; cases h)
    (by simp only [ROb]; exact ⟨fun _ h => (by cases h), .inl ⟨by simp, trivial, trivial⟩⟩) List.nodup_nil (fun _ h => by cases h)
  have hgone : ∀ c ∈ RR (.obj o), c < E.w.heap.size ∧ ¬ G.K c ∧ ∀ p, p ≠ .slot d → c ∉ reown st RR o [] p := by
    intro c hc'
    refine ⟨(hi.own _ _ hc').1, (hi.own _ _ hc').2, fun p _ hcp => ?_⟩
    cases p with
    | obj q =>
      by_cases hq : q = o
      · subst hq; simp [reown] at hcp
      · have : c ∈ RR (.obj q) := by simpa [reown, hq] using hcp
        exact hi.apart (.obj q) (.obj o) (by simpa using hq) c this hc'
    | slot q =>
      rcases reown_slot st RR o [] q with h | h
      · rw [h] at hcp; cases hcp
      · rw [h] at hcp; exact hi.apart (.slot q) (.obj o) (by simp) c hcp hc'
  have hRX : ∃ R, RX { E with β := fun q => if q = o then none else E.β q } (.uni s rows) (a.tmps.getD d undef) R ∧ R.Nodup ∧ ∀ b ∈ R, b ∈ RR (.obj o) := by
    simp only [RX]
    rcases hob with ⟨h1, h2, h3⟩ | ⟨B, cs, ty, R', hB, hw, hφ, hcap, hsz, hRO, hRR⟩
    · rcases hcase with ⟨_, _, _, h5⟩ | ⟨B, hB, _⟩
      · exact ⟨[], ⟨hu, base, cap, hc, .inl ⟨h2, h5, rfl⟩⟩, List.nodup_nil, fun _ h => by cases h⟩
      · rw [h1] at hB; cases hB
    · rcases hcase with ⟨h1, _⟩ | ⟨B', hB', hlo, hn', hb⟩
      · rw [hB] at h1; cases h1
      · rw [hB] at hB'
        obtain rfl := Option.some.inj hB'
        have hon : E.On { E with β := fun q => if q = o then none else E.β q } R' := ⟨fun _ _ _ h => h, fun _ _ => ⟨rfl, fun h => h⟩⟩
        rcases hb with hb | hb
        · refine ⟨[], ⟨hu, base, cap, hc, .inl ⟨List.eq_nil_of_length_eq_zero (by omega), hb, rfl⟩⟩, List.nodup_nil, fun _ h => by cases h⟩
        · refine ⟨RR (.obj o), ⟨hu, base, cap, hc, .inr ⟨B.b, B.off, cs, ty, R', by simpa using hb, hw, by omega, by rw [show cap = B.cap by omega]; exact hsz, hφ, ROr.mono _ _ _ _ hon hRO, hRR⟩⟩, hnd, fun _ h => h⟩
  obtain ⟨R, hR1, hR2, hR3⟩ := hRX
  exact ⟨{ E with β := fun q => if q = o then none else E.β q }, _, rfl, h4.relabel hR1 hR2 (fun c hc => hgone c (hR3 c hc))⟩

end
end Go.AW
