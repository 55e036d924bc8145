/- Part of the abstract walk: contracts, and how the body of a call proves one. -/
import Derived.Test.YtiehdnjcapjacaaAWB5
namespace Go.AW
open Go

def enumF {α : Type} : Nat → List α → List (Nat × α)
  | _, [] => []
  | i, x :: r => (i, x) :: enumF (i + 1) r

theorem look_enumF {α : Type} : ∀ (l : List α) (i s : Nat), look (enumF i l) s = if i ≤ s then l[s - i]? else none
  | [], i, s => by simp [enumF, look]
  | x :: r, i, s => by
    simp only [enumF, look]
    cases hb : Nat.beq i s with
    | true => have := Nat.eq_of_beq_eq_true hb; subst this; simp
    | false =>
      have hne := Nat.ne_of_beq_eq_false hb
      simp only [cond_false]
      rw [look_enumF r (i + 1) s]
      by_cases h : i ≤ s
      · rw [if_pos h, if_pos (by omega), show s - i = (s - (i + 1)) + 1 by omega]; simp
      · rw [if_neg h, if_neg (by omega)]

theorem look_enum {α : Type} (l : List α) (s : Nat) : look (enumF 0 l) s = l[s]? := by
  rw [look_enumF]; simp

def ctx0 (K : Nat → Prop) (E : Env) (fn : Frm) : Ctx := ⟨K, E.w, E.φ, E.β, fn⟩

/-- The contract of a function: args are its arguments, objs the objects 0, 1, .. that they name; those in F keep their place. Q: of the result, and of the objects behind the call. -/
def ACalls (P : Program) (f : FuncId) (args : List X) (objs : List Obj) (F : List Nat) (Q : X → List Obj → Prop) : Prop :=
  ∀ (K : Nat → Prop) (E : Env) (RR : Own → List Nat) (cargs : Array Value), Inv (ctx0 K E ⟨args.length, F⟩) E RR ⟨enumF 0 args, enumF 0 objs⟩ ⟨cargs, []⟩ →
    Calls P f cargs E.w fun e w' => ∃ v r objs', e = .returned v ∧ Q r objs' ∧ objs'.length = objs.length ∧ ∃ E' RR', E'.w = w' ∧ Inv (ctx0 K E ⟨1, F⟩) E' RR' ⟨[(0, r)], enumF 0 objs'⟩ ⟨#[v], []⟩

theorem ACalls.mono {P : Program} {f : FuncId} {args : List X} {objs : List Obj} {F : List Nat} {Q Q' : X → List Obj → Prop} (h : ACalls P f args objs F Q) (hq : ∀ r o, Q r o → Q' r o) : ACalls P f args objs F Q' :=
  fun K E RR cargs hi => Calls.mono (h K E RR cargs hi) fun _ _ ⟨v, r, objs', he, hQ, hl, hx⟩ => ⟨v, r, objs', he, hq _ _ hQ, hl, hx⟩

/-- What a result variable holds. -/
def resOne (P : Program) (st : St) : ResultVar → Option X
  | .tmp t => look st.slots t
  | .cell a t => match look st.slots a with
    | some p => match rowAt st p with
      | some row => match TY.shape P t with
        | some none => match row[kAt p]? with
          | some y => bif y.free then some y else none
          | none => none
        | some (some m) => bif Nat.ble (kAt p + m) row.length && X.frees ((row.drop (kAt p)).take m) then some (.agg ((row.drop (kAt p)).take m)) else none
        | none => none
      | none => none
    | none => none
def resAll (P : Program) (st : St) : List ResultVar → Option (List X)
  | [] => some []
  | r :: rs => match resOne P st r, resAll P st rs with
    | some x, some xs => some (x :: xs)
    | _, _ => none

/-- The slots whose values go out as they are. -/
def resSlots : List ResultVar → List Nat
  | [] => []
  | .tmp t :: r => t :: resSlots r
  | .cell _ _ :: r => resSlots r

def resX : List X → X
  | [x] => x
  | xs => .tup xs

section
variable {P : Program} {N : Frm} {G : Ctx} {E : Env} {RR : Own → List Nat} {st : St} {a : Act}

def resSem (tmps : Array Value) (rv : ResultVar) : Sem Value :=
  match rv with
  | .tmp t => pure (tmps.getD t undef)
  | .cell a t => do loadVar t (← asAddr (tmps.getD a undef))

theorem res_one (hi : Inv G E RR st a) {rv : ResultVar} {x : X} (h : resOne P st rv = some x) :
    ∃ c R, (resSem a.tmps rv).run P E.w = .ok c E.w ∧ RX E x c R ∧ ((∃ t, rv = .tmp t ∧ R = RR (.slot t)) ∨ R = []) := by
  cases rv with
  | tmp t => exact ⟨_, _, rfl, hi.slots t x h, .inl ⟨t, rfl, rfl⟩⟩
  | cell ad t =>
    simp only [resOne] at h
    cases hp : look st.slots ad with
    | none => simp [hp] at h
    | some p =>
      rw [hp] at h
      simp only at h
      cases hrow : rowAt st p with
      | none => simp [hrow] at h
      | some row =>
        rw [hrow] at h
        simp only at h
        obtain ⟨b, off, hc, hcells⟩ := hi.behind (hi.slots ad p hp) hrow
        cases hs : TY.shape P t with
        | none => simp [hs] at h
        | some sh =>
          rw [hs] at h
          cases sh with
          | none =>
            simp only at h
            cases hk : row[kAt p]? with
            | none => simp [hk] at h
            | some y =>
              rw [hk] at h
              simp only at h
              cases hf : y.free with
              | false => simp [hf] at h
              | true =>
                rw [hf] at h
                simp only [cond_true, Option.some.injEq] at h
                subst h
                have hkl : kAt p < row.length := by
                  rcases Nat.lt_or_ge (kAt p) row.length with h' | h'
                  · exact h'
                  · simp [List.getElem?_eq_none h'] at hk
                obtain ⟨vs, R', hl, hv, hxs⟩ := hcells (kAt p) 1 (by omega)
                rw [getElem?_drop_take_one hk] at hxs
                simp only [RXs] at hxs
                obtain ⟨c, cs', R₁, R₂, hvs, _, h1, ⟨rfl, rfl⟩, rfl⟩ := hxs
                subst hvs
                have h0 := RX.free hf h1
                subst h0
                refine ⟨c, [], ?_, h1, .inr rfl⟩
                have hcell := hv 0 c rfl
                simp only [Nat.add_zero] at hcell
                simp [resSem, hc, asAddr, loadVar, (TY.shape_none hs E.w).1, hcell]
          | some m =>
            simp only at h
            cases hb : Nat.ble (kAt p + m) row.length && X.frees ((row.drop (kAt p)).take m) with
            | false => simp [hb] at h
            | true =>
              rw [hb] at h
              simp only [cond_true, Option.some.injEq] at h
              subst h
              simp only [Bool.and_eq_true] at hb
              obtain ⟨vs, R', hl, hv, hxs⟩ := hcells (kAt p) m (Nat.le_of_ble_eq_true hb.1)
              have h0 := RXs.free hb.2 hxs
              subst h0
              refine ⟨.agg vs.toArray, [], ?_, by simp only [RX]; exact ⟨_, rfl, hxs⟩, .inr rfl⟩
              obtain ⟨h1, h2⟩ := TY.shape_some hs E.w
              have h3 : (loadCells ⟨b, off + kAt p, none⟩ m).run P E.w = .ok vs.toArray E.w := by
                rw [← hl]
                exact run_loadCells_list (w := E.w) _ vs fun j v hj => by rw [add_mk, Nat.add_assoc]; exact hv j v hj
              simp [resSem, hc, asAddr, loadVar, h1, h2, h3]

theorem res_all (hi : Inv G E RR st a) : ∀ {rvs : List ResultVar} {xs : List X}, resAll P st rvs = some xs → (resSlots rvs).Nodup →
    ∃ cs R, (rvs.mapM (resSem a.tmps)).run P E.w = .ok cs E.w ∧ RXt E xs cs R ∧ R.Nodup ∧ (∀ b ∈ R, ∃ t ∈ resSlots rvs, b ∈ RR (.slot t))
  | [], xs, h, _ => by
    simp only [resAll, Option.some.injEq] at h
    subst h
    exact ⟨[], [], rfl, by simp [RXt], List.nodup_nil, fun _ h => by cases h⟩
  | rv :: rvs, xs, h, hn => by
    simp only [resAll] at h
    cases h1 : resOne P st rv with
    | none => simp [h1] at h
    | some x =>
      cases h2 : resAll P st rvs with
      | none => simp [h1, h2] at h
      | some ys =>
        rw [h1, h2] at h
        simp only [Option.some.injEq] at h
        subst h
        have hn' : (resSlots rvs).Nodup := by
          cases rv with
          | tmp t => exact (List.nodup_cons.1 hn).2
          | cell _ _ => exact hn
        obtain ⟨c, R1, hr1, hx1, hR1⟩ := res_one hi h1
        obtain ⟨cs, R2, hr2, hx2, hnd2, hR2⟩ := res_all hi h2 hn'
        refine ⟨c :: cs, R1 ++ R2, ?_, ?_, ?_, ?_⟩
        · rw [List.mapM_cons]
          refine run_then hr1 ?_
          refine run_then hr2 rfl
        · simp only [RXt]; exact ⟨c, cs, R1, R2, rfl, hx1, hx2, rfl⟩
        · rcases hR1 with ⟨t, rfl, rfl⟩ | rfl
          · rw [List.nodup_append]
            refine ⟨hi.nodup _, hnd2, fun b hb b' hb' e => ?_⟩
            subst e
            obtain ⟨t', ht', hb2⟩ := hR2 b hb'
            have hne : t ≠ t' := fun e => by subst e; exact (List.nodup_cons.1 hn).1 ht'
            exact hi.apart (.slot t) (.slot t') (by simpa using hne) b hb hb2
          · simpa using hnd2
        · intro b hb
          rcases List.mem_append.1 hb with hb | hb
          · rcases hR1 with ⟨t, rfl, rfl⟩ | rfl
            · exact ⟨t, by simp [resSlots], hb⟩
            · cases hb
          · obtain ⟨t, ht, hb'⟩ := hR2 b hb
            refine ⟨t, ?_, hb'⟩
            cases rv with
            | tmp t' => exact List.mem_cons.2 (.inr ht)
            | cell _ _ => exact ht

/-- The objects that came in, as they are at the end. -/
def outObjs (l : List (Nat × Obj)) : Nat → Nat → Option (List Obj)
  | _, 0 => some []
  | i, k + 1 => match look l i, outObjs l (i + 1) k with
    | some ob, some r => some (ob :: r)
    | _, _ => none

theorem outObjs_spec : ∀ {l : List (Nat × Obj)} {k i : Nat} {r : List Obj}, outObjs l i k = some r → r.length = k ∧ ∀ j, j < k → look l (i + j) = r[j]?
  | _, 0, _, r, h => by simp only [outObjs, Option.some.injEq] at h; subst h; exact ⟨rfl, fun j hj => by omega⟩
  | l, k + 1, i, r, h => by
    simp only [outObjs] at h
    cases h1 : look l i with
    | none => simp [h1] at h
    | some ob =>
      cases h2 : outObjs l (i + 1) k with
      | none => simp [h1, h2] at h
      | some r' =>
        rw [h1, h2] at h
        simp only [Option.some.injEq] at h
        subst h
        obtain ⟨hl, hg⟩ := outObjs_spec h2
        refine ⟨by simp [hl], fun j hj => ?_⟩
        cases j with
        | zero => simpa using h1
        | succ j =>
          have := hg j (by omega)
          rw [show i + (j + 1) = i + 1 + j by omega, this]; simp

/-- Where a body may end: with the results as they then stand, and the objects that came in. -/
def Ends (P : Program) (rvs : List ResultVar) (k : Nat) (Q : X → List Obj → Prop) : Exit → St → Prop
  | .normal, st | .ret, st => ∃ xs objs', resAll P st rvs = some xs ∧ outObjs st.objs 0 k = some objs' ∧ Q (resX xs) objs'
  | _, _ => False

theorem ACalls.of {f : FuncId} {fn : Func} {c : Code} {args : List X} {objs : List Obj} {F : List Nat} {Q : X → List Obj → Prop} {n : Nat} {rvs : List ResultVar} (hf : P.funcs[f]? = some fn) (hb : fn.body = some c) (hn : fn.ntmps = n) (hr : fn.results.toList = rvs)
    (hnd : (resSlots rvs).Nodup) (hle : args.length ≤ n) (h : AWp P ⟨n, F⟩ c ⟨enumF 0 args, enumF 0 objs⟩ (Ends P rvs objs.length Q)) : ACalls P f args objs F Q := by
  intro K E RR cargs hi
  refine calls_of_wp hf hb ?_
  have hcs : cargs.size = args.length := hi.tmps
  have hi' : Inv (ctx0 K E ⟨n, F⟩) E RR ⟨enumF 0 args, enumF 0 objs⟩ ⟨cargs ++ Array.replicate (fn.ntmps - cargs.size) undef, []⟩ := by
    refine { hi with slots := ?_, tmps := ?_, defers := rfl }
    · intro s x hx
      have h0 := hi.slots s x hx
      have hs : s < cargs.size := by
        rw [hcs]
        have hx' : look (enumF 0 args) s = some x := hx
        rw [look_enum] at hx'
        rcases Nat.lt_or_ge s args.length with h' | h'
        · exact h'
        · simp [List.getElem?_eq_none h'] at hx'
      have : (cargs ++ Array.replicate (fn.ntmps - cargs.size) undef).getD s undef = cargs.getD s undef := by
        simp only [Array.getD_eq_getD_getElem?, Array.getElem?_append_left hs]
      show RX E x ((cargs ++ Array.replicate (fn.ntmps - cargs.size) undef).getD s undef) (RR (.slot s))
      rw [this]; exact h0
    · show (cargs ++ Array.replicate (fn.ntmps - cargs.size) undef).size = n
      simp; omega
  refine wp_mono (h (ctx0 K E ⟨n, F⟩) rfl _ _ ⟨E, RR, rfl, hi'⟩) ?_
  rintro e a w ⟨st, ⟨E', RR', rfl, h1⟩, hq⟩
  have key : (∃ xs objs', resAll P st rvs = some xs ∧ outObjs st.objs 0 objs.length = some objs' ∧ Q (resX xs) objs') → a.defers = [] ∧ ∃ v, (results fn a.tmps).run P E'.w = .ok v E'.w ∧
      ∃ v' r objs', Ending.returned v = .returned v' ∧ Q r objs' ∧ objs'.length = objs.length ∧ ∃ E'' RR'', E''.w = E'.w ∧ Inv (ctx0 K E ⟨1, F⟩) E'' RR'' ⟨[(0, r)], enumF 0 objs'⟩ ⟨#[v'], []⟩ := by
    rintro ⟨xs, objs', hres, hout, hQ⟩
    obtain ⟨hlen, hobj0⟩ := outObjs_spec hout
    have hobj : ∀ j, j < objs.length → look st.objs j = objs'[j]? := fun j hj => by have := hobj0 j hj; rwa [Nat.zero_add] at this
    refine ⟨h1.defers, ?_⟩
    obtain ⟨cs, R, hrun, hx, hRn, hRs⟩ := res_all h1 hres hnd
    have hresults : (results fn a.tmps).run P E'.w = .ok (if h : cs.toArray.size = 1 then cs.toArray[0] else .tuple cs.toArray) E'.w := by
      have e : results fn a.tmps = (do let vs ← fn.results.mapM (resSem a.tmps); Pure.pure (if h : vs.size = 1 then vs[0] else .tuple vs) : Sem Value) := rfl
      rw [e, show fn.results = rvs.toArray by rw [← hr]]
      refine run_then (u := cs.toArray) ?_ rfl
      rw [List.mapM_toArray]
      simp only [Sem.run_map, hrun]
      rfl
    refine ⟨_, hresults, _, resX xs, objs', rfl, hQ, hlen, ?_⟩
    have hrx : RX E' (resX xs) (if h : cs.toArray.size = 1 then cs.toArray[0] else .tuple cs.toArray) R := by
      cases xs with
      | nil =>
        simp only [RXt] at hx
        obtain ⟨rfl, rfl⟩ := hx
        simp only [resX, RX]
        exact ⟨#[], by simp, by simp [RXt]⟩
      | cons x xs =>
        cases xs with
        | nil =>
          simp only [RXt] at hx
          obtain ⟨c, cs', R₁, R₂, rfl, h1, ⟨rfl, rfl⟩, rfl⟩ := hx
          simpa [resX] using h1
        | cons y ys =>
          have hx' := hx
          simp only [RXt] at hx
          obtain ⟨c, cs', R₁, R₂, rfl, _, ⟨c', cs'', R₃, R₄, rfl, _⟩, _⟩ := hx
          simp only [resX, RX]
          exact ⟨(c :: c' :: cs'').toArray, by simp, by simpa using hx'⟩
    let RR2 : Own → List Nat := fun p => match p with
      | .slot s => if s = 0 then R else []
      | .obj o => if o < objs.length then RR' (.obj o) else []
    have hin : ∀ p b, b ∈ RR2 p → ∃ q, b ∈ RR' q ∧ ((∃ o, p = .obj o ∧ q = .obj o) ∨ (p = .slot 0 ∧ ∃ t, q = .slot t)) := by
      intro p b hb
      cases p with
      | slot s =>
        by_cases hs : s = 0
        · subst hs
          simp only [RR2, if_true] at hb
          obtain ⟨t, _, ht⟩ := hRs b hb
          exact ⟨.slot t, ht, .inr ⟨rfl, t, rfl⟩⟩
        · simp [RR2, hs] at hb
      | obj o =>
        by_cases ho : o < objs.length
        · simp only [RR2, ho, if_true] at hb
          exact ⟨.obj o, hb, .inl ⟨o, rfl, rfl⟩⟩
        · simp [RR2, ho] at hb
    refine ⟨E', RR2, rfl, { h1 with slots := ?_, objs := ?_, nodup := ?_, apart := ?_, own := ?_, tmps := ?_, defers := rfl }⟩
    · intro s x hx'
      simp only [look] at hx'
      cases hb0 : Nat.beq 0 s with
      | false => simp [hb0] at hx'
      | true =>
        have := Nat.eq_of_beq_eq_true hb0
        subst this
        simp only [hb0, cond_true, Option.some.injEq] at hx'
        subst hx'
        simpa [RR2] using hrx
    · intro o ob ho
      have ho' : look (enumF 0 objs') o = some ob := ho
      rw [look_enum] at ho'
      have hlt : o < objs.length := by
        rcases Nat.lt_or_ge o objs.length with h' | h'
        · exact h'
        · rw [List.getElem?_eq_none (by omega)] at ho'; cases ho'
      have := h1.objs o ob (by rw [hobj o hlt]; exact ho')
      simpa [RR2, hlt] using this
    · intro p
      cases p with
      | slot s => by_cases hs : s = 0 <;> simp [RR2, hs, hRn]
      | obj o => by_cases ho : o < objs.length <;> simp [RR2, ho, h1.nodup]
    · intro p q hpq b hb hb'
      obtain ⟨p', hp', hpc⟩ := hin p b hb
      obtain ⟨q', hq', hqc⟩ := hin q b hb'
      have hne : p' ≠ q' := by
        rcases hpc with ⟨o, rfl, rfl⟩ | ⟨rfl, t, rfl⟩
        · rcases hqc with ⟨o', rfl, rfl⟩ | ⟨rfl, t', rfl⟩
          · exact hpq
          · simp
        · rcases hqc with ⟨o', rfl, rfl⟩ | ⟨rfl, t', rfl⟩
          · simp
          · exact absurd rfl hpq
      exact h1.apart p' q' hne b hp' hq'
    · intro p b hb
      obtain ⟨q, hq', _⟩ := hin p b hb
      exact h1.own q b hq'
    · rfl
  cases e with
  | normal => exact key hq
  | ret => exact key hq
  | _ => exact hq.elim

end
end Go.AW
