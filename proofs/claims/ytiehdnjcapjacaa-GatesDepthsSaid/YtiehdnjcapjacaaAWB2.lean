/- Part of the abstract walk: arrays by value, slices that are made. -/
import Derived.Test.YtiehdnjcapjacaaAWB1
namespace Go.AW
open Go

section
variable {P : Program} {N : Frm} {st : St} {Q : Exit → St → Prop} {all : Array Oper} {rest : List Oper} {d : Nat} {ty : TypeId} {pos : String} {af : Array Edge}

/-- An array, built. -/
theorem Y.buildA {dst : Option Nat} {g : Option (Nat × Bool)} {t len e s : Nat} {parts : Array (Nat × Operand)} {z : List Value} {pxs : List (Nat × X)} {ys : List X}
    (ht : TY.array P t = some (len, e, s)) (hz : TY.zero P t = some z) (h1 : X.ones (z.map X.v) = true) (hx : partsX st parts.toList = some pxs) (hf : fillX (fun i => some (i * s, s)) (z.map X.v) pxs = some ys) :
    Yields P N st ⟨dst, .build t parts, ty, pos, af, g⟩ (.agg ys) := by
  intro G E RR a _ hi
  obtain ⟨i, z0, hi0, hz0, hzz⟩ := TY.zero_spec hz
  have hxs : RXs E (z.map X.v) z0.cells.toList [] := by rw [hzz]; exact RXs_v h1
  obtain ⟨cs', hcs', hys⟩ := fill_spec hi (fun i => some (i * s, s)) parts.toList _ z0.cells pxs ys hxs hx hf
  refine ⟨.agg cs', ?_, by simp only [RX]; exact ⟨cs', rfl, hys⟩⟩
  show (do let v ← Instr.build t (parts.map fun (i, x) => (i, a.eval x)); Pure.pure (Next.value v) : Sem Next).run P E.w = _
  refine run_v ?_
  obtain ⟨hu, ie, hie, hs⟩ := TY.array_spec ht
  have hpt : (parts.map fun (i, x) => (i, a.eval x)).toList = parts.toList.map fun p => (p.1, a.eval p.2) := by simp
  simp only [Instr.build, Sem.run_bind, zeroValue, typeInfo, run_program, hi0, hz0, Result.andThen_ok, Sem.run_pure, run_underlying hu, run_sizeOf hie, hs, hpt, hcs']

theorem ROr.of_all {E : Env} {s : Nat} {cs : Array Value} : ∀ {rs : List (List X)} {off : Nat}, Uniform s rs →
    (∀ i row, rs[i]? = some row → X.nrs row = true ∧ RO E row cs (off + i * s) []) → ROr E rs cs off []
  | [], _, _, _ => by simp [ROr]
  | r :: rs, off, hu, h => by
    simp only [ROr]
    have h0 := h 0 r rfl
    refine ⟨[], [], h0.1, by simpa using h0.2, ?_, rfl⟩
    rw [hu r (by simp)]
    refine ROr.of_all (fun q hq => hu q (by simp [hq])) fun i row hr => ?_
    have := h (i + 1) row (by simpa using hr)
    rw [show off + s + i * s = off + (i + 1) * s by rw [Nat.add_mul]; omega]
    exact this

theorem RXs.toRO {E : Env} {xs : List X} {vs : List Value} {cs : Array Value} {off : Nat} {R : List Nat} (h : RXs E xs vs R) (hv : ∀ j, j < xs.length → cs[off + j]? = vs[j]?) : RO E xs cs off R :=
  RO.of h fun j v hj => by
    have hjl : j < xs.length := by
      rw [← RXs.length h]
      rcases Nat.lt_or_ge j vs.length with h' | h'
      · exact h'
      · simp [List.getElem?_eq_none h'] at hj
    rw [hv j hjl]; exact hj

/-- The world with a new row, owned by the slot that gets the slice. -/
theorem Inv.newRow {G : Ctx} {E : Env} {RR : Own → List Nat} {a : Act} (hi : Inv G E RR st a) {cs : Array Value} {e : TypeId} {s cap : Nat} {rows : List (List X)} (hu : Uniform s rows) (hl : rows.length ≤ cap) (hc : cap * s ≤ cs.size)
    (hr : ROr { E with w := E.w.alloc (.cells cs e) } rows cs 0 []) (hd : d < G.fn.n) :
    ∃ RR', Inv G { E with w := E.w.alloc (.cells cs e) } RR' (st.put d (.uni s rows)) (a.put (some d) (.slice (some ⟨E.w.heap.size, 0, none⟩) rows.length cap)) := by
  have hi' := hi.moves (Moves.alloc G E (.cells cs e)) rfl
  refine ⟨_, hi'.put (R := [E.w.heap.size]) hd ?_ (by simp) ?_⟩
  · simp only [RX]
    refine ⟨hu, _, _, rfl, .inr ⟨E.w.heap.size, 0, cs, e, [], rfl, heap_alloc _ _, hl, by omega, fun i => ?_, hr, rfl⟩⟩
    show E.φ E.w.heap.size i = none
    cases h : E.φ E.w.heap.size i with
    | none => rfl
    | some v => exact absurd (World.block_lt_of_cell? E.w _ (hi.frz _ _ _ h)) (by simp)
  · intro b hb
    simp only [List.mem_singleton] at hb
    subst hb
    refine ⟨by simp, fun hK => ?_, fun p _ hb => ?_⟩
    · have := hi.small _ hK
      have := hi.size
      omega
    · exact absurd (hi.own p _ hb).1 (by simp)

theorem mod_of {i k s : Nat} (hk : k < s) : (i * s + k) % s = k := by
  rw [Nat.mul_comm, Nat.mul_add_mod, Nat.mod_eq_of_lt hk]

/-- `make([]T, n)` -/
theorem AOps.makeSlice {t e s by_ n : Nat} {l c : Operand} {k k' : IntKind} {z : List Value} (ht : TY.slice P t = some (e, s, by_)) (hz : TY.zero P e = some z) (hzl : z.length = s) (h1 : X.ones (z.map X.v) = true)
    (hl : opd st l = some (.v (.int k (n : Int)))) (hc : opd st c = some (.v (.int k' (n : Int)))) (hb : by_ * n ≤ 281474976710656) (h63 : n ≤ 9223372036854775807) (hd : d < N.n)
    (kk : AOps P N all rest (st.put d (.uni s (List.replicate n (z.map X.v)))) Q) : AOps P N all (⟨some d, .makeSlice t l c, ty, pos, af, none⟩ :: rest) st Q := by
  refine AOps.eff (fun G E RR a hn hi => ?_) kk
  obtain ⟨hu, i, hinf, hs, hby⟩ := TY.slice_spec ht
  obtain ⟨i', z0, hi0, hz0, hzz⟩ := TY.zero_spec hz
  rw [hinf] at hi0
  obtain rfl := Option.some.inj hi0
  have hzz' : z0.cells = z.toArray := by rw [← hzz]
  have hrun := run_make (P := P) E.w t e i z0 hu hinf hz0 k k' (n : Int) (n : Int) (by omega) (by omega) (by rw [hby]; have := Int.ofNat_le.2 hb; rw [Int.natCast_mul] at this; exact this) (by omega)
  simp only [Int.toNat_natCast, hs, hzz'] at hrun
  have hsz := size_madeCells z.toArray (n * s)
  have hU : Uniform s (List.replicate n (z.map X.v)) := by
    intro r hr
    rw [(List.mem_replicate.1 hr).2]; simpa using hzl
  obtain ⟨RR', hi'⟩ := hi.newRow (cs := madeCells z.toArray (n * s)) (e := e) (s := s) (cap := n) (d := d) hU (Nat.le_of_eq List.length_replicate) (by rw [hsz]; exact Nat.le_refl _) (by
    refine ROr.of_all hU fun j row hr => ?_
    have hj : j < n := by
      rcases Nat.lt_or_ge j n with h' | h'
      · exact h'
      · rw [List.getElem?_eq_none (by rw [List.length_replicate]; exact h')] at hr; cases hr
    have : row = z.map X.v := by
      have := List.mem_of_getElem? hr
      exact (List.mem_replicate.1 this).2
    subst this
    refine ⟨nrs_v z, RXs.toRO (RXs_v h1) fun q hq => ?_⟩
    have hq' : q < s := by simpa [hzl] using hq
    have hlt : j * s + q < n * s := by
      have : (j + 1) * s ≤ n * s := Nat.mul_le_mul_right s hj
      rw [Nat.add_mul] at this; omega
    have hqz : q < z.length := by omega
    simp only [Nat.zero_add, madeCells]
    rw [Array.getElem?_map, Array.getElem?_range, if_pos hlt]
    simp only [Option.map_some, List.size_toArray, hzl, mod_of hq']
    rw [List.getElem?_eq_getElem hqz]
    simp [hqz]) (by rw [hn]; exact hd)
  simp only [List.length_replicate] at hi'
  refine ⟨_, _, _, ?_, hi'⟩
  show (do let v ← Instr.makeSlice t (a.eval l) (a.eval c); Pure.pure (Next.value v) : Sem Next).run P E.w = _
  rw [hi.val hl, hi.val hc]
  exact run_v hrun

/-- A slice of given elements. -/
theorem AOps.buildSlice {t e s by_ len : Nat} {parts : Array (Nat × Operand)} {z : List Value} {pxs : List (Nat × X)} {flat : List X} (rows : List (List X)) (ht : TY.slice P t = some (e, s, by_)) (hz : TY.zero P e = some z) (hzl : Nat.beq z.length s = true)
    (h1 : X.ones (z.map X.v) = true) (hx : partsX st parts.toList = some pxs) (hf : fillX (fun i => some (i * s, s)) ((List.replicate len (z.map X.v)).flatten) pxs = some flat) (hr : rows.flatten = flat) (hU : Uniform s rows) (hlen : rows.length = len)
    (hnr : X.nrs flat = true) (h24 : Nat.ble (len * s) 16777216 = true) (hd : d < N.n)
    (kk : AOps P N all rest (st.put d (.uni s rows)) Q) : AOps P N all (⟨some d, .buildSlice t len parts, ty, pos, af, none⟩ :: rest) st Q := by
  refine AOps.eff (fun G E RR a hn hi => ?_) kk
  obtain ⟨hu, i, hinf, hs, hby⟩ := TY.slice_spec ht
  obtain ⟨i', z0, hi0, hz0, hzz⟩ := TY.zero_spec hz
  rw [hinf] at hi0
  obtain rfl := Option.some.inj hi0
  have hzz' : z0.cells = z.toArray := by rw [← hzz]
  have hzl' : z.length = s := Nat.eq_of_beq_eq_true hzl
  let z1 : Array Value := (Array.range (len * s)).map fun i => z.toArray[i % z.toArray.size]!
  have hz1 : z1.toList = (List.replicate len z).flatten := by
    apply List.ext_getElem?
    intro j
    have hlf : ((List.replicate len z).flatten).length = len * s := by simp [hzl']
    by_cases hj : j < len * s
    · have hs0 : 0 < s := by
        rcases Nat.eq_zero_or_pos s with h' | h'
        · subst h'; simp at hj
        · exact h'
      have hq : j % s < s := Nat.mod_lt _ hs0
      have hdv : j / s < len := by rw [Nat.div_lt_iff_lt_mul hs0]; exact hj
      have h2 : ((List.replicate len z).flatten)[j]? = z[j % s]? := by
        have : ∀ (n j : Nat), j < n * s → ((List.replicate n z).flatten)[j]? = z[j % s]? := by
          intro n
          induction n with
          | zero => intro j hj; simp at hj
          | succ n ih =>
            intro j hj
            rw [List.replicate_succ, List.flatten_cons]
            by_cases hjs : j < s
            · rw [List.getElem?_append_left (by omega), Nat.mod_eq_of_lt hjs]
            · rw [List.getElem?_append_right (by omega), hzl', ih (j - s) (by rw [Nat.add_mul] at hj; omega)]
              rw [Nat.mod_eq_sub_mod (by omega : j ≥ s)]
        exact this len j hj
      rw [h2]
      have hqz : j % s < z.length := by omega
      have hz2 : z[j % s]? = some z[j % s] := List.getElem?_eq_getElem hqz
      simp [z1, hj, hzl', hz2]
    · have e1 : ((List.replicate len z).flatten)[j]? = none := List.getElem?_eq_none (by rw [hlf]; omega)
      have e2 : z1.toList[j]? = none := List.getElem?_eq_none (by rw [Array.length_toList]; simp only [z1, Array.size_map, Array.size_range]; omega)
      rw [e1, e2]
  have hzx : RXs E ((List.replicate len (z.map X.v)).flatten) z1.toList [] := by
    rw [hz1]
    clear hf hz1 z1 hlen h24
    induction len with
    | zero => simp [RXs]
    | succ n ih => rw [List.replicate_succ, List.flatten_cons, List.replicate_succ, List.flatten_cons]; exact RXs.app (RXs_v h1) ih
  obtain ⟨cs', hcs', hys⟩ := fill_spec hi (fun i => some (i * s, s)) parts.toList _ z1 pxs flat hzx hx hf
  have hfl : flat.length = len * s := by rw [← hr, length_flatten hU, hlen]
  have hcsz : cs'.size = len * s := by have := RXs.length hys; simp at this; omega
  obtain ⟨RR', hi'⟩ := hi.newRow (cs := cs') (e := e) (s := s) (cap := len) (d := d) hU (by omega) (by omega) (by
    have hys' : RXs { E with w := E.w.alloc (.cells cs' e) } flat cs'.toList [] := RXs.mono (E := E) _ _ _ ⟨fun _ _ _ h => h, fun _ h => by cases h⟩ (fun _ _ => rfl) hys
    have hall : RO { E with w := E.w.alloc (.cells cs' e) } flat cs' 0 [] := RO.of hys' fun j v hj => by simpa using hj
    rw [← hr] at hall hnr
    clear hr hcs' hys hys' hfl hf hlen
    have key : ∀ (rs : List (List X)) (off : Nat), X.nrs rs.flatten = true → RO { E with w := E.w.alloc (.cells cs' e) } rs.flatten cs' off [] → ROr { E with w := E.w.alloc (.cells cs' e) } rs cs' off [] := by
      intro rs
      induction rs with
      | nil => intro off _ _; simp [ROr]
      | cons r rs ih =>
        intro off hn h
        rw [List.flatten_cons] at h hn
        obtain ⟨R₁, R₂, h1, h2, hR⟩ := RO.unapp h
        have hR' := List.append_eq_nil_iff.1 hR.symm
        obtain ⟨rfl, rfl⟩ := hR'
        have hsp : ∀ (xs ys : List X), X.nrs (xs ++ ys) = true → X.nrs xs = true ∧ X.nrs ys = true := by
          intro xs
          induction xs with
          | nil => intro ys h; exact ⟨rfl, h⟩
          | cons x r ih => intro ys h; simp only [List.cons_append, X.nrs, Bool.and_eq_true] at h ⊢; exact ⟨⟨h.1, (ih ys h.2).1⟩, (ih ys h.2).2⟩
        obtain ⟨hn1, hn2⟩ := hsp _ _ hn
        simp only [ROr]
        exact ⟨[], [], hn1, h1, ih _ hn2 h2, rfl⟩
    exact key rows 0 hnr hall) (by rw [hn]; exact hd)
  rw [hlen] at hi'
  refine ⟨_, _, _, ?_, hi'⟩
  show (do let v ← Instr.buildSlice t len (parts.map fun (i, x) => (i, a.eval x)); Pure.pure (Next.value v) : Sem Next).run P E.w = _
  refine run_v ?_
  have hpt : (parts.map fun (i, x) => (i, a.eval x)).toList = parts.toList.map fun p => (p.1, a.eval p.2) := by simp
  have hbig : ¬ (len * s > 2 ^ 24) := by have := Nat.le_of_ble_eq_true h24; simp; omega
  by_cases h0 : len * s = 0
  · have hz10 : z1 = (Array.range (len * s)).map (fun i => (#[] : Array Value)[i % (#[] : Array Value).size]!) := by simp [z1, h0]
    have hb0 : ¬ ((0 : Nat) > 2 ^ 24) := by decide
    rw [hz10, h0] at hcs'
    simp only [Instr.buildSlice, Sem.run_bind, run_underlying hu, Result.andThen_ok, run_sizeOf hinf, hs, h0, hb0, if_false, if_true, Sem.run_pure, hpt, hcs', Go.newRow, run_newObj_alloc]
  · simp only [z1] at hcs'
    simp only [Instr.buildSlice, Sem.run_bind, run_underlying hu, Result.andThen_ok, run_sizeOf hinf, hs, hbig, if_false, h0, zeroValue, typeInfo, run_program, hinf, hz0, Sem.run_pure, hzz', hpt, hcs', Go.newRow, run_newObj_alloc]

end
end Go.AW
