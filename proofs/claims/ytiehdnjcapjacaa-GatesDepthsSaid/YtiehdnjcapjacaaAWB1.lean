/- Part of the abstract walk: structs, arrays and slices that are built. -/
import Derived.Test.YtiehdnjcapjacaaAWB0
namespace Go.AW
open Go

section
variable {E : Env}

theorem RXs.app : ∀ {xs ys : List X} {cs ds : List Value} {R₁ R₂ : List Nat}, RXs E xs cs R₁ → RXs E ys ds R₂ → RXs E (xs ++ ys) (cs ++ ds) (R₁ ++ R₂)
  | [], _, _, _, _, _, h, h' => by simp only [RXs] at h; obtain ⟨rfl, rfl⟩ := h; simpa using h'
  | x :: r, ys, cs, ds, R₁, R₂, h, h' => by
    simp only [RXs] at h
    obtain ⟨c, cs', R₃, R₄, rfl, hs, h1, h2, rfl⟩ := h
    simp only [List.cons_append, RXs]
    exact ⟨c, cs' ++ ds, R₃, R₄ ++ R₂, rfl, hs, h1, RXs.app h2 h', by simp⟩

theorem RXs.take0 {xs : List X} {cs : List Value} (k : Nat) (h : RXs E xs cs []) : RXs E (xs.take k) (cs.take k) [] := by
  induction xs generalizing cs k with
  | nil => simp only [RXs] at h; simp [RXs, h.1]
  | cons x r ih =>
    simp only [RXs] at h
    obtain ⟨c, cs', R₁, R₂, rfl, hs, h1, h2, hR⟩ := h
    have hR' := List.append_eq_nil_iff.1 hR.symm
    obtain ⟨rfl, rfl⟩ := hR'
    cases k with
    | zero => simp [RXs]
    | succ k => simp only [List.take_succ_cons, RXs]; exact ⟨c, _, [], [], rfl, hs, h1, ih k h2, rfl⟩

theorem RXs.drop0 {xs : List X} {cs : List Value} (k : Nat) (h : RXs E xs cs []) : RXs E (xs.drop k) (cs.drop k) [] := by
  induction xs generalizing cs k with
  | nil => simp only [RXs] at h; simp [RXs, h.1]
  | cons x r ih =>
    have h' := h
    simp only [RXs] at h
    obtain ⟨c, cs', R₁, R₂, rfl, hs, h1, h2, hR⟩ := h
    have hR' := List.append_eq_nil_iff.1 hR.symm
    obtain ⟨rfl, rfl⟩ := hR'
    cases k with
    | zero => exact h'
    | succ k => simp only [List.drop_succ_cons]; exact ih k h2

theorem RXs.put0 {xs ys : List X} {cs vs : List Value} {k : Nat} (h : RXs E xs cs []) (h' : RXs E ys vs []) : RXs E (putL xs k ys) (putL cs k vs) [] := by
  unfold putL
  rw [← RXs.length h']
  have := RXs.app (RXs.app (RXs.take0 k h) h') (RXs.drop0 (k + vs.length) h)
  simpa using this
end

/-- The parts of a struct, an array or a slice, laid into its cells. -/
def fillX (place : Nat → Option (Nat × Nat)) (cells : List X) : List (Nat × X) → Option (List X)
  | [] => some cells
  | (i, x) :: rest =>
    match place i, x.flat with
    | some (off, size), some ys => bif Nat.beq ys.length size && Nat.ble (off + size) cells.length then fillX place (putL cells off ys) rest else none
    | _, _ => none

def partsX (st : St) : List (Nat × Operand) → Option (List (Nat × X))
  | [] => some []
  | (i, x) :: r => match opd st x, partsX st r with
    | some y, some l => bif y.free then some ((i, y) :: l) else none
    | _, _ => none

theorem foldl_get (off : Nat) : ∀ (l : List Value) (k : Nat) (cs : Array Value), ((l.zipIdx k).foldl (fun cs (p : Value × Nat) => cs.setIfInBounds (off + p.2) p.1) cs).size = cs.size ∧
    ∀ j, ((l.zipIdx k).foldl (fun cs (p : Value × Nat) => cs.setIfInBounds (off + p.2) p.1) cs)[j]? = if off + k ≤ j ∧ j < off + k + l.length ∧ j < cs.size then l[j - off - k]? else cs[j]?
  | [], k, cs => by
    refine ⟨rfl, fun j => ?_⟩
    rw [if_neg (by simp; omega)]
    rfl
  | v :: r, k, cs => by
    obtain ⟨h1, h2⟩ := foldl_get off r (k + 1) (cs.setIfInBounds (off + k) v)
    simp only [List.zipIdx_cons, List.foldl_cons]
    refine ⟨by rw [h1]; simp, fun j => ?_⟩
    rw [h2 j]
    simp only [Array.size_setIfInBounds, List.length_cons]
    by_cases hj : off + (k + 1) ≤ j ∧ j < off + (k + 1) + r.length ∧ j < cs.size
    · rw [if_pos hj, if_pos (by omega), show j - off - k = (j - off - (k + 1)) + 1 by omega]
      simp
    · rw [if_neg hj]
      by_cases hjk : j = off + k
      · subst hjk
        by_cases hlt : off + k < cs.size
        · rw [if_pos (by omega), show off + k - off - k = 0 by omega]
          simp [Array.getElem?_setIfInBounds_self_of_lt hlt]
        · rw [if_neg (by omega)]
          simp [hlt]
      · rw [if_neg (by omega), Array.getElem?_setIfInBounds_ne (by omega)]

theorem foldl_putL (off : Nat) (v cs : Array Value) (h : off + v.size ≤ cs.size) : (v.zipIdx.foldl (fun cs (p : Value × Nat) => cs.setIfInBounds (off + p.2) p.1) cs).toList = putL cs.toList off v.toList := by
  have hf : v.zipIdx.foldl (fun cs (p : Value × Nat) => cs.setIfInBounds (off + p.2) p.1) cs = (v.toList.zipIdx 0).foldl (fun cs (p : Value × Nat) => cs.setIfInBounds (off + p.2) p.1) cs := by
    rw [← Array.foldl_toList, Array.toList_zipIdx]
  rw [hf]
  obtain ⟨h1, h2⟩ := foldl_get off v.toList 0 cs
  apply List.ext_getElem?
  intro j
  rw [Array.getElem?_toList, h2 j]
  have hvl : v.toList.length = v.size := by simp
  simp only [Nat.add_zero, Nat.sub_zero, hvl, putL, List.append_assoc]
  have hl : (List.take off cs.toList).length = off := by simp; omega
  by_cases hj : j < off
  · rw [if_neg (by omega), List.getElem?_append_left (by omega), List.getElem?_take_of_lt hj]; simp
  · by_cases hj2 : j < off + v.size
    · rw [if_pos (by omega), List.getElem?_append_right (by omega), hl, List.getElem?_append_left (by omega)]
    · rw [if_neg (by omega), List.getElem?_append_right (by omega), List.getElem?_append_right (by omega), hl, List.getElem?_drop]
      have : off + v.size + (j - off - v.toList.length) = j := by omega
      rw [this]; simp

section
variable {P : Program} {N : Frm} {G : Ctx} {E : Env} {RR : Own → List Nat} {st : St} {a : Act}

theorem fill_spec (hi : Inv G E RR st a) (place : Nat → Option (Nat × Nat)) : ∀ (parts : List (Nat × Operand)) (xs : List X) (cs : Array Value) (pxs : List (Nat × X)) (ys : List X), RXs E xs cs.toList [] → partsX st parts = some pxs →
    fillX place xs pxs = some ys → ∃ cs', Instr.fill place cs (parts.map fun p => (p.1, a.eval p.2)) = some cs' ∧ RXs E ys cs'.toList []
  | [], xs, cs, pxs, ys, h, hp, hf => by
    simp only [partsX, Option.some.injEq] at hp
    subst hp
    simp only [fillX, Option.some.injEq] at hf
    subst hf
    exact ⟨cs, rfl, h⟩
  | (i, x) :: r, xs, cs, pxs, ys, h, hp, hf => by
    simp only [partsX] at hp
    cases hx : opd st x with
    | none => simp [hx] at hp
    | some y =>
      cases hr : partsX st r with
      | none => simp [hx, hr] at hp
      | some l =>
        rw [hx, hr] at hp
        simp only at hp
        cases hfree : y.free with
        | false => simp [hfree] at hp
        | true =>
          rw [hfree] at hp
          simp only [cond_true, Option.some.injEq] at hp
          subst hp
          simp only [fillX] at hf
          cases hpl : place i with
          | none => simp [hpl] at hf
          | some os =>
            obtain ⟨off, size⟩ := os
            cases hfl : y.flat with
            | none => simp [hpl, hfl] at hf
            | some zs =>
              rw [hpl, hfl] at hf
              simp only at hf
              cases hb : Nat.beq zs.length size && Nat.ble (off + size) xs.length with
              | false => simp [hb] at hf
              | true =>
                rw [hb] at hf
                simp only [cond_true] at hf
                simp only [Bool.and_eq_true] at hb
                have hsz : zs.length = size := Nat.eq_of_beq_eq_true hb.1
                have hle : off + size ≤ xs.length := Nat.le_of_ble_eq_true hb.2
                obtain ⟨R, hv⟩ := hi.eval hx
                have h0 := RX.free hfree hv
                subst h0
                have hfv := hv.flat hfl
                have hcl : (a.eval x).cells.size = size := by have := RXs.length hfv; simp at this; omega
                have hcs : cs.size = xs.length := by have := RXs.length h; simpa using this
                have hput := RXs.put0 (k := off) h hfv
                have hfold := foldl_putL off (a.eval x).cells cs (by omega)
                obtain ⟨cs', hcs', hys⟩ := fill_spec hi place r (putL xs off zs) ((a.eval x).cells.zipIdx.foldl (fun cs (p : Value × Nat) => cs.setIfInBounds (off + p.2) p.1) cs) l ys (by rw [hfold]; exact hput) hr hf
                refine ⟨cs', ?_, hys⟩
                simp only [List.map_cons, Instr.fill, hpl, hcl]
                rw [if_neg (by simp; omega)]
                exact hcs'

def TY.places (P : Program) (t : TypeId) : Option (List (Nat × Nat)) :=
  match P.underlying t with
  | some (.struct fs) => fs.toList.mapM fun f => (P.info? f.type).map fun i => (f.offset, i.size)
  | _ => none

theorem mapM_places {fs : List Field} {pl : List (Nat × Nat)} (h : (fs.mapM fun f => (P.info? f.type).map fun i => (f.offset, i.size)) = some pl) (w : World) :
    (fs.mapM fun f => (do pure (f.offset, ← sizeOf f.type) : Sem (Nat × Nat))).run P w = .ok pl w := by
  induction fs generalizing pl with
  | nil => simp at h; subst h; rfl
  | cons f r ih =>
    rw [List.mapM_cons] at h
    cases hf : P.info? f.type with
    | none => simp [hf] at h
    | some i =>
      rw [hf] at h
      cases hr : (r.mapM fun f => (P.info? f.type).map fun i => (f.offset, i.size)) with
      | none => simp [hr] at h
      | some l =>
        rw [hr] at h
        simp at h
        subst h
        rw [List.mapM_cons]
        simp only [Sem.run_bind, run_sizeOf hf, Result.andThen_ok, Sem.run_pure, ih hr]

/-- A struct, built. -/
theorem Y.build {dst : Option Nat} {ty : TypeId} {pos : String} {af : Array Edge} {g : Option (Nat × Bool)} {t : TypeId} {parts : Array (Nat × Operand)} {pl : List (Nat × Nat)} {z : List Value} {pxs : List (Nat × X)} {ys : List X}
    (hp : TY.places P t = some pl) (hz : TY.zero P t = some z) (h1 : X.ones (z.map X.v) = true) (hx : partsX st parts.toList = some pxs) (hf : fillX (pl[·]?) (z.map X.v) pxs = some ys) :
    Yields P N st ⟨dst, .build t parts, ty, pos, af, g⟩ (.agg ys) := by
  intro G E RR a _ hi
  obtain ⟨i, z0, hi0, hz0, hzz⟩ := TY.zero_spec hz
  have hzz' : z0.cells = z.toArray := by rw [← hzz]
  have hxs : RXs E (z.map X.v) z0.cells.toList [] := by rw [hzz]; exact RXs_v h1
  obtain ⟨cs', hcs', hys⟩ := fill_spec hi (pl[·]?) parts.toList _ z0.cells pxs ys hxs hx hf
  refine ⟨.agg cs', ?_, by simp only [RX]; exact ⟨cs', rfl, hys⟩⟩
  show (do let v ← Instr.build t (parts.map fun (i, x) => (i, a.eval x)); Pure.pure (Next.value v) : Sem Next).run P E.w = _
  refine run_v ?_
  unfold TY.places at hp
  cases hu : P.underlying t with
  | none => simp [hu] at hp
  | some d =>
    cases d with
    | struct fs =>
      rw [hu] at hp
      simp only at hp
      have hm := mapM_places hp E.w
      have hm' : (fs.mapM fun f => (do Pure.pure (f.offset, ← sizeOf f.type) : Sem (Nat × Nat))).run P E.w = .ok pl.toArray E.w := by
        rw [Array.mapM_eq_mapM_toList]
        simp only [Sem.run_map, hm]
        rfl
      have hpl : (fun (i : Nat) => pl.toArray[i]?) = fun i => pl[i]? := by funext i; simp
      have hpt : (parts.map fun (i, x) => (i, a.eval x)).toList = parts.toList.map fun p => (p.1, a.eval p.2) := by simp
      simp only [Instr.build, Sem.run_bind, zeroValue, typeInfo, run_program, hi0, hz0, Result.andThen_ok, Sem.run_pure, run_underlying hu, hm', hpl, hpt, hcs']
    | _ => simp [hu] at hp

end
end Go.AW
