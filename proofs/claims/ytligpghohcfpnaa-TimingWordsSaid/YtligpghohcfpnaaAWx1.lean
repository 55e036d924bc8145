/- Part of the abstract walk: contracts, and how the body of a call proves one. -/
import Derived.Test.YtligpghohcfpnaaAWx0
import Derived.StillTail
import Derived.Orders
import Derived.Below
import Derived.Carry
import Derived.Deep.Slices
import Derived.Deep.Fields
import Derived.ChangeSame
import Derived.ChangeSlices
import Derived.SizedLaws
import Derived.Deep.Grids
import Derived.Maps.Keyed
import Derived.DeepKeys4
import Derived.OpenShut
set_option linter.unusedSimpArgs false
set_option linter.unusedVariables false
set_option linter.unusedSectionVars false
namespace Go.AW
open Go

def enumF {α : Type} : Nat → List α → List (Nat × α)
 | _, [] => []
 | i, x :: r => (i, x) :: enumF (i + 1) r

theorem look_enumF {α : Type} : ∀ (l : List α) (i s : Nat), look (enumF i l) s = if i ≤ s then l[s - i]? else none
 | [], i, s => by simp [enumF, look]
 | x :: r, i, s => by
  simp only [enumF, look]
  cases hb : Nat.beq i s with
  | true => have := Nat.eq_of_beq_eq_true hb; subst this; simp
  | false =>
   have hne := Nat.ne_of_beq_eq_false hb
   simp only [cond_false]
   rw [look_enumF r (i + 1) s]
   by_cases h : i ≤ s
   ·rw [if_pos h, if_pos om, show s - i = (s - (i + 1)) + 1 by omega]; simp
   ·rw [if_neg h, if_neg om]

theorem look_enum {α : Type} (l : List α) (s : Nat) : look (enumF 0 l) s = l[s]? := by
 rw [look_enumF]; simp

def ctx0 (K : Nat → Prop) (E : Env) (fn : Frm) : Ctx := ⟨K, E.w, E.φ, E.β, fn, []⟩

def ACalls (P : Program) (f : FuncId) (args : List X) (objs : List Obj) (F : List Nat) (Q : X → List Obj → Prop) : Prop :=
 ∀ (K : Nat → Prop) (E : Env) (RR : Own → List Nat) (cargs : Array Value), Inv (ctx0 K E ⟨args.length, F⟩) E RR ⟨enumF 0 args, enumF 0 objs⟩ ⟨cargs, []⟩ →
  Calls P f cargs E.w fun e w' => ∃ v r objs', e = .returned v ∧ Q r objs' ∧ objs'.length = objs.length ∧ ∃ E' RR', E'.w = w' ∧ Inv (ctx0 K E ⟨1, F⟩) E' RR' ⟨[(0, r)], enumF 0 objs'⟩ ⟨#[v], []⟩

theorem ACalls.mono {P : Program} {f : FuncId} {args : List X} {objs : List Obj} {F : List Nat} {Q Q' : X → List Obj → Prop} (h : ACalls P f args objs F Q) (hq : ∀ r o, Q r o → Q' r o) : ACalls P f args objs F Q' :=
 fun K E RR cargs hi => Calls.mono (h K E RR cargs hi) fun _ _ ⟨v, r, objs', he, hQ, hl, hx⟩ => ⟨v, r, objs', he, hq _ _ hQ, hl, hx⟩

def resOne (P : Program) (st : St) : ResultVar → Option X
 | .tmp t => look st.slots t
 | .cell a t => match look st.slots a with
  | some p => match rowAt st p with
   | some row => match TY.shape P t with
    | some none => match row[kAt p]? with
     | some y => bif y.free then some y else none
     | none => none
    | some (some m) => bif Nat.ble (kAt p + m) row.length && X.frees ((row.drop (kAt p)).take m) then some (.agg ((row.drop (kAt p)).take m)) else none
    | none => none
   | none => none
  | none => none
def resAll (P : Program) (st : St) : List ResultVar → Option (List X)
 | [] => some []
 | r :: rs => match resOne P st r, resAll P st rs with
  | some x, some xs => some (x :: xs)
  | _, _ => none

def resSlots : List ResultVar → List Nat
 | [] => []
 | .tmp t :: r => t :: resSlots r
 | .cell _ _ :: r => resSlots r

def resX : List X → X
 | [x] => x
 | xs => .tup xs

section
variable {P : Program} {N : Frm} {G : Ctx} {E : Env} {RR : Own → List Nat} {st : St} {a : Act}

def resSem (tmps : Array Value) (rv : ResultVar) : Sem Value :=
 match rv with
 | .tmp t => pure (tmps.getD t undef)
 | .cell a t => do loadVar t (← asAddr (tmps.getD a undef))

theorem res_one (hi : Inv G E RR st a) {rv : ResultVar} {x : X} (h : resOne P st rv = some x) :
  ∃ c R, (resSem a.tmps rv).run P E.w = .ok c E.w ∧ RX E x c R ∧ ((∃ t, rv = .tmp t ∧ R = RR (.slot t)) ∨ R = []) := by
 cases rv with
 | tmp t => exact ⟨_, _, rfl, hi.slots t x h, .inl ⟨t, rfl, rfl⟩⟩
 | cell ad t =>
  simp only [resOne] at h
  cases hp : look st.slots ad with
  | none => simp [hp] at h
  | some p =>
   rw [hp] at h
   simp only at h
   cases hrow : rowAt st p with
   | none => simp [hrow] at h
   | some row =>
    rw [hrow] at h
    simp only at h
    obtain ⟨b, off, hc, hcells⟩ := hi.behind (hi.slots ad p hp) hrow
    cases hs : TY.shape P t with
    | none => simp [hs] at h
    | some sh =>
     rw [hs] at h
     cases sh with
     | none =>
      simp only at h
      cases hk : row[kAt p]? with
      | none => simp [hk] at h
      | some y =>
       rw [hk] at h
       simp only at h
       cases hf : y.free with
       | false => simp [hf] at h
       | true =>
        rw [hf] at h
        simp only [cond_true, Option.some.injEq] at h
        subst h
        have hkl : kAt p < row.length := by
         rcases Nat.lt_or_ge (kAt p) row.length with h' | h'
         ·exact h'
         ·simp [List.getElem?_eq_none h'] at hk
        obtain ⟨vs, R', hl, hv, hxs⟩ := hcells (kAt p) 1 om
        rw [getElem?_drop_take_one hk] at hxs
        simp only [RXs] at hxs
        obtain ⟨c, cs', R₁, R₂, hvs, _, h1, ⟨rfl, rfl⟩, rfl⟩ := hxs
        subst hvs
        have h0 := RX.free hf h1
        subst h0
        refine ⟨c, [], ?_, h1, .inr rfl⟩
        have hcell := hv 0 c rfl
        simp only [Nat.add_zero] at hcell
        simp [resSem, hc, asAddr, loadVar, (TY.shape_none hs E.w).1, hcell]
     | some m =>
      simp only at h
      cases hb : Nat.ble (kAt p + m) row.length && X.frees ((row.drop (kAt p)).take m) with
      | false => simp [hb] at h
      | true =>
       rw [hb] at h
       simp only [cond_true, Option.some.injEq] at h
       subst h
       simp only [Bool.and_eq_true] at hb
       obtain ⟨vs, R', hl, hv, hxs⟩ := hcells (kAt p) m (Nat.le_of_ble_eq_true hb.1)
       have h0 := RXs.free hb.2 hxs
       subst h0
       refine ⟨.agg vs.toArray, [], ?_, by simp only [RX]; exact ⟨_, rfl, hxs⟩, .inr rfl⟩
       obtain ⟨h1, h2⟩ := TY.shape_some hs E.w
       have h3 : (loadCells ⟨b, off + kAt p, none⟩ m).run P E.w = .ok vs.toArray E.w := by
        rw [← hl]
        exact run_loadCells_list (w := E.w) _ vs fun j v hj => by rw [add_mk, Nat.add_assoc]; exact hv j v hj
       simp [resSem, hc, asAddr, loadVar, h1, h2, h3]

theorem res_all (hi : Inv G E RR st a) : ∀ {rvs : List ResultVar} {xs : List X}, resAll P st rvs = some xs → (resSlots rvs).Nodup →
  ∃ cs R, (rvs.mapM (resSem a.tmps)).run P E.w = .ok cs E.w ∧ RXt E xs cs R ∧ R.Nodup ∧ (∀ b ∈ R, ∃ t ∈ resSlots rvs, b ∈ RR (.slot t))
 | [], xs, h, _ => by
  simp only [resAll, Option.some.injEq] at h
  subst h
  exact ⟨[], [], rfl, by simp [RXt], List.nodup_nil, fun _ h => by cases h⟩
 | rv :: rvs, xs, h, hn => by
  simp only [resAll] at h
  cases h1 : resOne P st rv with
  | none => simp [h1] at h
  | some x =>
   cases h2 : resAll P st rvs with
   | none => simp [h1, h2] at h
   | some ys =>
    rw [h1, h2] at h
    simp only [Option.some.injEq] at h
    subst h
    have hn' : (resSlots rvs).Nodup := by
     cases rv with
     | tmp t => exact (List.nodup_cons.1 hn).2
     | cell _ _ => exact hn
    obtain ⟨c, R1, hr1, hx1, hR1⟩ := res_one hi h1
    obtain ⟨cs, R2, hr2, hx2, hnd2, hR2⟩ := res_all hi h2 hn'
    refine ⟨c :: cs, R1 ++ R2, ?_, ?_, ?_, ?_⟩
    ·rw [List.mapM_cons]
     refine run_then hr1 ?_
     refine run_then hr2 rfl
    ·simp only [RXt]; exact ⟨c, cs, R1, R2, rfl, hx1, hx2, rfl⟩
    ·rcases hR1 with ⟨t, rfl, rfl⟩ | rfl
     ·rw [List.nodup_append]
      refine ⟨hi.nodup _, hnd2, fun b hb b' hb' e => ?_⟩
      subst e
      obtain ⟨t', ht', hb2⟩ := hR2 b hb'
      have hne : t ≠ t' := fun e => by subst e; exact (List.nodup_cons.1 hn).1 ht'
      exact hi.apart (.slot t) (.slot t') (by simpa using hne) b hb hb2
     ·simpa using hnd2
    ·intro b hb
     rcases List.mem_append.1 hb with hb | hb
     ·rcases hR1 with ⟨t, rfl, rfl⟩ | rfl
      ·exact ⟨t, by simp [resSlots], hb⟩
      ·cases hb
     ·obtain ⟨t, ht, hb'⟩ := hR2 b hb
      refine ⟨t, ?_, hb'⟩
      cases rv with
      | tmp t' => exact List.mem_cons.2 (.inr ht)
      | cell _ _ => exact ht

def outObjs (l : List (Nat × Obj)) : Nat → Nat → Option (List Obj)
 | _, 0 => some []
 | i, k + 1 => match look l i, outObjs l (i + 1) k with
  | some ob, some r => some (ob :: r)
  | _, _ => none

theorem outObjs_spec : ∀ {l : List (Nat × Obj)} {k i : Nat} {r : List Obj}, outObjs l i k = some r → r.length = k ∧ ∀ j, j < k → look l (i + j) = r[j]?
 | _, 0, _, r, h => by simp only [outObjs, Option.some.injEq] at h; subst h; exact ⟨rfl, fun j hj => by omega⟩
 | l, k + 1, i, r, h => by
  simp only [outObjs] at h
  cases h1 : look l i with
  | none => simp [h1] at h
  | some ob =>
   cases h2 : outObjs l (i + 1) k with
   | none => simp [h1, h2] at h
   | some r' =>
    rw [h1, h2] at h
    simp only [Option.some.injEq] at h
    subst h
    obtain ⟨hl, hg⟩ := outObjs_spec h2
    refine ⟨by simp [hl], fun j hj => ?_⟩
    cases j with
    | zero => simpa using h1
    | succ j =>
     have := hg j om
     rw [show i + (j + 1) = i + 1 + j by omega, this]; simp

def Ends (P : Program) (rvs : List ResultVar) (k : Nat) (Q : X → List Obj → Prop) : Exit → St → Prop
 | .normal, st | .ret, st => ∃ xs objs', resAll P st rvs = some xs ∧ outObjs st.objs 0 k = some objs' ∧ Q (resX xs) objs'
 | _, _ => False

theorem Inv.enter {fn : Func} {args : List X} {objs : List Obj} {F : List Nat} {n : Nat} {K : Nat → Prop} {E : Env} {RR : Own → List Nat} {cargs : Array Value} (hn : fn.ntmps = n) (hle : args.length ≤ n) (hi : Inv (ctx0 K E ⟨args.length, F⟩) E RR ⟨enumF 0 args, enumF 0 objs⟩ ⟨cargs, []⟩) :
  Inv (ctx0 K E ⟨n, F⟩) E RR ⟨enumF 0 args, enumF 0 objs⟩ ⟨cargs ++ Array.replicate (fn.ntmps - cargs.size) undef, []⟩ := by
 have hcs : cargs.size = args.length := hi.tmps
 refine { hi with slots := ?_, tmps := ?_, defers := rfl }
 ·intro s x hx
  have h0 := hi.slots s x hx
  have hs : s < cargs.size := by
   rw [hcs]
   have hx' : look (enumF 0 args) s = some x := hx
   rw [look_enum] at hx'
   rcases Nat.lt_or_ge s args.length with h' | h'
   ·exact h'
   ·simp [List.getElem?_eq_none h'] at hx'
  have : (cargs ++ Array.replicate (fn.ntmps - cargs.size) undef).getD s undef = cargs.getD s undef := by
   simp only [Array.getD_eq_getD_getElem?, Array.getElem?_append_left hs]
  show RX E x ((cargs ++ Array.replicate (fn.ntmps - cargs.size) undef).getD s undef) (RR (.slot s))
  rw [this]; exact h0
 ·show (cargs ++ Array.replicate (fn.ntmps - cargs.size) undef).size = n
  simp; omega
theorem ends_key {fn : Func} {objs : List Obj} {F : List Nat} {Q : X → List Obj → Prop} {n : Nat} {rvs : List ResultVar} {K : Nat → Prop} {E E' : Env} {RR' : Own → List Nat} {st : St} {a : Act} (hr : fn.results.toList = rvs) (hnd : (resSlots rvs).Nodup) (h1 : Inv (ctx0 K E ⟨n, F⟩) E' RR' st a) :
  (∃ xs objs', resAll P st rvs = some xs ∧ outObjs st.objs 0 objs.length = some objs' ∧ Q (resX xs) objs') → a.defers = [] ∧ ∃ v, (results fn a.tmps).run P E'.w = .ok v E'.w ∧
   ∃ v' r objs', Ending.returned v = .returned v' ∧ Q r objs' ∧ objs'.length = objs.length ∧ ∃ E'' RR'', E''.w = E'.w ∧ Inv (ctx0 K E ⟨1, F⟩) E'' RR'' ⟨[(0, r)], enumF 0 objs'⟩ ⟨#[v'], []⟩ := by
 rintro ⟨xs, objs', hres, hout, hQ⟩
 obtain ⟨hlen, hobj0⟩ := outObjs_spec hout
 have hobj : ∀ j, j < objs.length → look st.objs j = objs'[j]? := fun j hj => by have := hobj0 j hj; rwa [Nat.zero_add] at this
 refine ⟨h1.defers, ?_⟩
 obtain ⟨cs, R, hrun, hx, hRn, hRs⟩ := res_all h1 hres hnd
 have hresults : (results fn a.tmps).run P E'.w = .ok (if h : cs.toArray.size = 1 then cs.toArray[0] else .tuple cs.toArray) E'.w := by
  have e : results fn a.tmps = (do let vs ← fn.results.mapM (resSem a.tmps); Pure.pure (if h : vs.size = 1 then vs[0] else .tuple vs) : Sem Value) := rfl
  rw [e, show fn.results = rvs.toArray by rw [← hr]]
  refine run_then (u := cs.toArray) ?_ rfl
  rw [List.mapM_toArray]
  simp only [Sem.run_map, hrun]
  rfl
 refine ⟨_, hresults, _, resX xs, objs', rfl, hQ, hlen, ?_⟩
 have hrx : RX E' (resX xs) (if h : cs.toArray.size = 1 then cs.toArray[0] else .tuple cs.toArray) R := by
  cases xs with
  | nil =>
   simp only [RXt] at hx
   obtain ⟨rfl, rfl⟩ := hx
   simp only [resX, RX]
   exact ⟨#[], by simp, by simp [RXt]⟩
  | cons x xs =>
   cases xs with
   | nil =>
    simp only [RXt] at hx
    obtain ⟨c, cs', R₁, R₂, rfl, h1, ⟨rfl, rfl⟩, rfl⟩ := hx
    simpa [resX] using h1
   | cons y ys =>
    have hx' := hx
    simp only [RXt] at hx
    obtain ⟨c, cs', R₁, R₂, rfl, _, ⟨c', cs'', R₃, R₄, rfl, _⟩, _⟩ := hx
    simp only [resX, RX]
    exact ⟨(c :: c' :: cs'').toArray, by simp, by simpa using hx'⟩
 let RR2 : Own → List Nat := fun p => match p with
  | .slot s => if s = 0 then R else []
  | .obj o => if o < objs.length then RR' (.obj o) else []
 have hin : ∀ p b, b ∈ RR2 p → ∃ q, b ∈ RR' q ∧ ((∃ o, p = .obj o ∧ q = .obj o) ∨ (p = .slot 0 ∧ ∃ t, q = .slot t)) := by
  intro p b hb
  cases p with
  | slot s =>
   by_cases hs : s = 0
   ·subst hs
    simp only [RR2, if_true] at hb
    obtain ⟨t, _, ht⟩ := hRs b hb
    exact ⟨.slot t, ht, .inr ⟨rfl, t, rfl⟩⟩
   ·simp [RR2, hs] at hb
  | obj o =>
   by_cases ho : o < objs.length
   ·simp only [RR2, ho, if_true] at hb
    exact ⟨.obj o, hb, .inl ⟨o, rfl, rfl⟩⟩
   ·simp [RR2, ho] at hb
 refine ⟨E', RR2, rfl, { h1 with slots := ?_, objs := ?_, nodup := ?_, apart := ?_, own := ?_, tmps := ?_, defers := rfl }⟩
 ·intro s x hx'
  simp only [look] at hx'
  cases hb0 : Nat.beq 0 s with
  | false => simp [hb0] at hx'
  | true =>
   have := Nat.eq_of_beq_eq_true hb0
   subst this
   simp only [hb0, cond_true, Option.some.injEq] at hx'
   subst hx'
   simpa [RR2] using hrx
 ·intro o ob ho
  have ho' : look (enumF 0 objs') o = some ob := ho
  rw [look_enum] at ho'
  have hlt : o < objs.length := by
   rcases Nat.lt_or_ge o objs.length with h' | h'
   ·exact h'
   ·rw [List.getElem?_eq_none om] at ho'; cases ho'
  have := h1.objs o ob (by rw [hobj o hlt]; exact ho')
  simpa [RR2, hlt] using this
 ·intro p
  cases p with
  | slot s => by_cases hs : s = 0 <;> simp [RR2, hs, hRn]
  | obj o => by_cases ho : o < objs.length <;> simp [RR2, ho, h1.nodup]
 ·intro p q hpq b hb hb'
  obtain ⟨p', hp', hpc⟩ := hin p b hb
  obtain ⟨q', hq', hqc⟩ := hin q b hb'
  have hne : p' ≠ q' := by
   rcases hpc with ⟨o, rfl, rfl⟩ | ⟨rfl, t, rfl⟩
   ·rcases hqc with ⟨o', rfl, rfl⟩ | ⟨rfl, t', rfl⟩
    ·exact hpq
    ·simp
   ·rcases hqc with ⟨o', rfl, rfl⟩ | ⟨rfl, t', rfl⟩
    ·simp
    ·exact absurd rfl hpq
  exact h1.apart p' q' hne b hp' hq'
 ·intro p b hb
  obtain ⟨q, hq', _⟩ := hin p b hb
  exact h1.own q b hq'
 ·rfl

theorem ACalls.of {f : FuncId} {fn : Func} {c : Code} {args : List X} {objs : List Obj} {F : List Nat} {Q : X → List Obj → Prop} {n : Nat} {rvs : List ResultVar} (hf : P.funcs[f]? = some fn) (hb : fn.body = some c) (hn : fn.ntmps = n) (hr : fn.results.toList = rvs)
  (hnd : (resSlots rvs).Nodup) (hle : args.length ≤ n) (h : AWp P ⟨n, F⟩ c ⟨enumF 0 args, enumF 0 objs⟩ (Ends P rvs objs.length Q)) : ACalls P f args objs F Q := by
 intro K E RR cargs hi
 refine calls_of_wp hf hb ?_
 refine wp_mono (h (ctx0 K E ⟨n, F⟩) rfl _ _ ⟨E, RR, rfl, hi.enter hn hle⟩) ?_
 rintro e a w ⟨st, ⟨E', RR', rfl, h1⟩, hq⟩
 have key := ends_key (P := P) (objs := objs) (Q := Q) hr hnd h1
 cases e with
 | normal => exact key hq
 | ret => exact key hq
 | _ => exact hq.elim

end
end Go.AW
/- Part of the abstract walk: names of objects in a callee and in its caller; values that need no frozen memory. -/
namespace Go.AW
open Go

mutual
def X.ren (ν : Nat → Nat) : X → X
 | .ptr o s i k => .ptr (ν o) s i k
 | .slc o s lo n => .slc (ν o) s lo n
 | .mref o => .mref (ν o)
 | .agg xs => .agg (X.rens ν xs)
 | .tup xs => .tup (X.rens ν xs)
 | .clo f a b => .clo f (X.rens ν a) (X.rens ν b)
 | .v u => .v u
 | .no => .no
 | .fz s rows => .fz s rows
 | .uni s rows => .uni s rows
 | .fp row k => .fp row k
def X.rens (ν : Nat → Nat) : List X → List X
 | [] => []
 | x :: r => x.ren ν :: X.rens ν r
end

def Env.names (E : Env) (ν : Nat → Nat) : Env := { E with β := fun o => E.β (ν o) }

theorem names_on (E : Env) (ν : Nat → Nat) (R : List Nat) : (E.names ν).On E R ∧ E.On (E.names ν) R := ⟨⟨fun _ _ _ h => h, fun _ _ => ⟨rfl, fun h => h⟩⟩, ⟨fun _ _ _ h => h, fun _ _ => ⟨rfl, fun h => h⟩⟩⟩

mutual
theorem RX.ren {E : Env} {ν : Nat → Nat} : ∀ (x : X) (c : Value) (R : List Nat), RX (E.names ν) x c R ↔ RX E (x.ren ν) c R
 | .ptr .., _, _ => by simp only [X.ren, RX]; exact Iff.rfl
 | .slc .., _, _ => by simp only [X.ren, RX]; exact Iff.rfl
 | .mref _, _, _ => by simp only [X.ren, RX]; exact Iff.rfl
 | .v _, _, _ => by simp only [X.ren, RX]
 | .no, _, _ => by simp only [X.ren, RX]
 | .fz s rows, c, R => ⟨RX.mono _ c R (names_on E ν R).1 (fun o h => by simp [X.ment] at h), RX.mono _ c R (names_on E ν R).2 (fun o h => by simp [X.ren, X.ment] at h)⟩
 | .uni s rows, c, R => ⟨RX.mono _ c R (names_on E ν R).1 (fun o h => by simp [X.ment] at h), RX.mono _ c R (names_on E ν R).2 (fun o h => by simp [X.ren, X.ment] at h)⟩
 | .fp row k, c, R => ⟨RX.mono _ c R (names_on E ν R).1 (fun o h => by simp [X.ment] at h), RX.mono _ c R (names_on E ν R).2 (fun o h => by simp [X.ren, X.ment] at h)⟩
 | .agg xs, c, R => by
  simp only [X.ren, RX]
  exact ⟨fun ⟨cs, h1, h2⟩ => ⟨cs, h1, (RXs.ren xs _ R).1 h2⟩, fun ⟨cs, h1, h2⟩ => ⟨cs, h1, (RXs.ren xs _ R).2 h2⟩⟩
 | .tup xs, c, R => by
  simp only [X.ren, RX]
  exact ⟨fun ⟨cs, h1, h2⟩ => ⟨cs, h1, (RXt.ren xs _ R).1 h2⟩, fun ⟨cs, h1, h2⟩ => ⟨cs, h1, (RXt.ren xs _ R).2 h2⟩⟩
 | .clo f xs ys, c, R => by
  simp only [X.ren, RX]
  exact ⟨fun ⟨h0, f, cc, h1, h2, h3⟩ => ⟨h0, f, cc, h1, (RXt.ren xs _ []).1 h2, (RXt.ren ys _ []).1 h3⟩, fun ⟨h0, f, cc, h1, h2, h3⟩ => ⟨h0, f, cc, h1, (RXt.ren xs _ []).2 h2, (RXt.ren ys _ []).2 h3⟩⟩
theorem RXs.ren {E : Env} {ν : Nat → Nat} : ∀ (xs : List X) (cs : List Value) (R : List Nat), RXs (E.names ν) xs cs R ↔ RXs E (X.rens ν xs) cs R
 | [], _, _ => by simp only [X.rens, RXs]
 | x :: r, cs, R => by
  simp only [X.rens, RXs]
  exact ⟨fun ⟨c, cs', R₁, R₂, h1, h2, h3, h4, h5⟩ => ⟨c, cs', R₁, R₂, h1, h2, (RX.ren x c R₁).1 h3, (RXs.ren r cs' R₂).1 h4, h5⟩,
   fun ⟨c, cs', R₁, R₂, h1, h2, h3, h4, h5⟩ => ⟨c, cs', R₁, R₂, h1, h2, (RX.ren x c R₁).2 h3, (RXs.ren r cs' R₂).2 h4, h5⟩⟩
theorem RXt.ren {E : Env} {ν : Nat → Nat} : ∀ (xs : List X) (cs : List Value) (R : List Nat), RXt (E.names ν) xs cs R ↔ RXt E (X.rens ν xs) cs R
 | [], _, _ => by simp only [X.rens, RXt]
 | x :: r, cs, R => by
  simp only [X.rens, RXt]
  exact ⟨fun ⟨c, cs', R₁, R₂, h1, h3, h4, h5⟩ => ⟨c, cs', R₁, R₂, h1, (RX.ren x c R₁).1 h3, (RXt.ren r cs' R₂).1 h4, h5⟩,
   fun ⟨c, cs', R₁, R₂, h1, h3, h4, h5⟩ => ⟨c, cs', R₁, R₂, h1, (RX.ren x c R₁).2 h3, (RXt.ren r cs' R₂).2 h4, h5⟩⟩
end

theorem RO.ren {E : Env} {ν : Nat → Nat} : ∀ (xs : List X) (cs : Array Value) (off : Nat) (R : List Nat), RO (E.names ν) xs cs off R ↔ RO E (X.rens ν xs) cs off R
 | [], _, _, _ => by simp only [X.rens, RO]
 | x :: r, cs, off, R => by
  simp only [X.rens, RO]
  exact ⟨fun ⟨u, R₁, R₂, h1, h2, h3, h4, h5⟩ => ⟨u, R₁, R₂, h1, h2, (RX.ren x u R₁).1 h3, (RO.ren r cs _ R₂).1 h4, h5⟩,
   fun ⟨u, R₁, R₂, h1, h2, h3, h4, h5⟩ => ⟨u, R₁, R₂, h1, h2, (RX.ren x u R₁).2 h3, (RO.ren r cs _ R₂).2 h4, h5⟩⟩

theorem length_rens (ν : Nat → Nat) : ∀ xs : List X, (X.rens ν xs).length = xs.length
 | [] => rfl
 | _ :: r => by simp [X.rens, length_rens ν r]

mutual
theorem X.free_ren (ν : Nat → Nat) : ∀ x : X, (x.ren ν).free = x.free
 | .ptr .. | .slc .. | .mref _ | .v _ | .no | .fz .. | .uni .. | .fp .. | .clo .. => rfl
 | .agg xs => X.frees_ren ν xs
 | .tup xs => X.frees_ren ν xs
theorem X.frees_ren (ν : Nat → Nat) : ∀ xs : List X, X.frees (X.rens ν xs) = X.frees xs
 | [] => rfl
 | x :: r => by simp only [X.rens, X.frees, X.free_ren ν x, X.frees_ren ν r]
end

def Obj.ren (ν : Nat → Nat) : Obj → Obj
 | .cells xs => .cells (X.rens ν xs)
 | .rows s rs => .rows s rs
 | .tab es => .tab es
 | .gone => .gone

theorem ROb.ren {E : Env} {ν : Nat → Nat} {j : Nat} {ob : Obj} {R : List Nat} : ROb (E.names ν) j ob R ↔ ROb E (ν j) (ob.ren ν) R := by
 cases ob with
 | cells xs =>
  simp only [Obj.ren, ROb, X.frees_ren, length_rens]
  exact ⟨fun ⟨h0, B, cs, ty, h1, h2, h3, h4, h5, h6⟩ => ⟨h0, B, cs, ty, h1, h2, h3, h4, (RO.ren xs cs _ []).1 h5, h6⟩,
   fun ⟨h0, B, cs, ty, h1, h2, h3, h4, h5, h6⟩ => ⟨h0, B, cs, ty, h1, h2, h3, h4, (RO.ren xs cs _ []).2 h5, h6⟩⟩
 | rows s rs =>
  simp only [Obj.ren, ROb]
  refine ⟨fun ⟨hu, h⟩ => ⟨hu, h.imp (fun h => h) ?_⟩, fun ⟨hu, h⟩ => ⟨hu, h.imp (fun h => h) ?_⟩⟩
  ·exact fun ⟨B, cs, ty, R', h1, h2, h3, h4, h5, h6, h7⟩ => ⟨B, cs, ty, R', h1, h2, h3, h4, h5, ROr.mono rs cs _ R' (names_on E ν R').1 h6, h7⟩
  ·exact fun ⟨B, cs, ty, R', h1, h2, h3, h4, h5, h6, h7⟩ => ⟨B, cs, ty, R', h1, h2, h3, h4, h5, ROr.mono rs cs _ R' (names_on E ν R').2 h6, h7⟩
 | tab es => exact Iff.rfl
 | gone => simp only [Obj.ren, ROb]

mutual
def X.plain : X → Prop
 | .v _ | .no | .ptr .. | .slc .. | .mref _ => True
 | .fz _ _ | .fp _ _ | .clo .. => False
 | .uni _ rows => X.plainr rows
 | .agg xs => X.plains xs
 | .tup xs => X.plains xs
def X.plains : List X → Prop
 | [] => True
 | x :: r => x.plain ∧ X.plains r
def X.plainr : List (List X) → Prop
 | [] => True
 | x :: r => X.plains x ∧ X.plainr r
end

def Env.Off (E E' : Env) (R : List Nat) : Prop := ∀ b ∈ R, E'.w.heap[b]? = E.w.heap[b]? ∧ ((∀ i, E.φ b i = none) → ∀ i, E'.φ b i = none)
theorem Env.Off.sub {E E' : Env} {R R' : List Nat} (h : E.Off E' R) (hs : ∀ b ∈ R', b ∈ R) : E.Off E' R' := fun b hb => h b (hs b hb)

mutual
theorem RX.off {E E' : Env} : ∀ (x : X) (c : Value) (R : List Nat), x.plain → E.Off E' R → (∀ o, E'.β o = E.β o) → RX E x c R → RX E' x c R
 | .v _, _, _, _, _, _, h => by simpa [RX] using h
 | .no, _, _, _, _, _, h => by simpa [RX] using h
 | .fz .., _, _, hp, _, _, _ => hp.elim
 | .fp .., _, _, hp, _, _, _ => hp.elim
 | .clo .., _, _, hp, _, _, _ => hp.elim
 | .ptr o .., _, _, _, _, hβ, h => by simp only [RX] at h ⊢; rw [hβ]; exact h
 | .slc o .., _, _, _, _, hβ, h => by simp only [RX] at h ⊢; rw [hβ]; exact h
 | .mref o, _, _, _, _, hβ, h => by simp only [RX] at h ⊢; rw [hβ]; exact h
 | .uni s rows, c, R, hp, hE, hβ, h => by
  simp only [RX] at h ⊢
  obtain ⟨hu, base, cap, hc, hh⟩ := h
  refine ⟨hu, base, cap, hc, ?_⟩
  rcases hh with hh | ⟨b, off, cs, ty, R', hb, hw, hl, ho, hf, hr, hR⟩
  ·exact .inl hh
  ·subst hR
   have h2 := hE b (by simp)
   exact .inr ⟨b, off, cs, ty, R', hb, h2.1.trans hw, hl, ho, h2.2 hf, ROr.off rows cs off R' hp (hE.sub (fun _ h => by simp [h])) hβ hr, rfl⟩
 | .agg xs, c, R, hp, hE, hβ, h => by
  simp only [RX] at h ⊢
  obtain ⟨cs, hc, hs⟩ := h
  exact ⟨cs, hc, RXs.off xs _ R hp hE hβ hs⟩
 | .tup xs, c, R, hp, hE, hβ, h => by
  simp only [RX] at h ⊢
  obtain ⟨cs, hc, hs⟩ := h
  exact ⟨cs, hc, RXt.off xs _ R hp hE hβ hs⟩
theorem RXs.off {E E' : Env} : ∀ (xs : List X) (cs : List Value) (R : List Nat), X.plains xs → E.Off E' R → (∀ o, E'.β o = E.β o) → RXs E xs cs R → RXs E' xs cs R
 | [], _, _, _, _, _, h => by simpa [RXs] using h
 | x :: r, cs, R, hp, hE, hβ, h => by
  simp only [RXs] at h ⊢
  simp only [X.plains] at hp
  obtain ⟨c, cs', R₁, R₂, hc, hs, h1, h2, hR⟩ := h
  subst hR
  exact ⟨c, cs', R₁, R₂, hc, hs, RX.off x c R₁ hp.1 (hE.sub (fun _ h => mem_app_l h)) hβ h1, RXs.off r cs' R₂ hp.2 (hE.sub (fun _ h => mem_app_r h)) hβ h2, rfl⟩
theorem RXt.off {E E' : Env} : ∀ (xs : List X) (cs : List Value) (R : List Nat), X.plains xs → E.Off E' R → (∀ o, E'.β o = E.β o) → RXt E xs cs R → RXt E' xs cs R
 | [], _, _, _, _, _, h => by simpa [RXt] using h
 | x :: r, cs, R, hp, hE, hβ, h => by
  simp only [RXt] at h ⊢
  simp only [X.plains] at hp
  obtain ⟨c, cs', R₁, R₂, hc, h1, h2, hR⟩ := h
  subst hR
  exact ⟨c, cs', R₁, R₂, hc, RX.off x c R₁ hp.1 (hE.sub (fun _ h => mem_app_l h)) hβ h1, RXt.off r cs' R₂ hp.2 (hE.sub (fun _ h => mem_app_r h)) hβ h2, rfl⟩
theorem RO.off {E E' : Env} : ∀ (xs : List X) (cs : Array Value) (off : Nat) (R : List Nat), X.plains xs → E.Off E' R → (∀ o, E'.β o = E.β o) → RO E xs cs off R → RO E' xs cs off R
 | [], _, _, _, _, _, _, h => by simpa [RO] using h
 | x :: r, cs, off, R, hp, hE, hβ, h => by
  simp only [RO] at h ⊢
  simp only [X.plains] at hp
  obtain ⟨u, R₁, R₂, hu, hs, h1, h2, hR⟩ := h
  subst hR
  exact ⟨u, R₁, R₂, hu, hs, RX.off x u R₁ hp.1 (hE.sub (fun _ h => mem_app_l h)) hβ h1, RO.off r cs (off + 1) R₂ hp.2 (hE.sub (fun _ h => mem_app_r h)) hβ h2, rfl⟩
theorem ROr.off {E E' : Env} : ∀ (rs : List (List X)) (cs : Array Value) (off : Nat) (R : List Nat), X.plainr rs → E.Off E' R → (∀ o, E'.β o = E.β o) → ROr E rs cs off R → ROr E' rs cs off R
 | [], _, _, _, _, _, _, h => by simpa [ROr] using h
 | r :: rs, cs, off, R, hp, hE, hβ, h => by
  simp only [ROr] at h ⊢
  simp only [X.plainr] at hp
  obtain ⟨R₁, R₂, hn, h1, h2, hR⟩ := h
  subst hR
  exact ⟨R₁, R₂, hn, RO.off r cs off R₁ hp.1 (hE.sub (fun _ h => mem_app_l h)) hβ h1, ROr.off rs cs _ R₂ hp.2 (hE.sub (fun _ h => mem_app_r h)) hβ h2, rfl⟩
end

def Obj.plain : Obj → Prop
 | .cells xs => X.plains xs
 | .rows _ rs => X.plainr rs
 | .tab _ => True
 | .gone => True

theorem ROb.off {E E' : Env} {o : Nat} {ob : Obj} {R : List Nat} (hp : ob.plain) (hE : E.Off E' R) (hβ : ∀ o, E'.β o = E.β o) (h : ROb E o ob R) : ROb E' o ob R := by
 cases ob with
 | cells xs =>
  simp only [ROb] at h ⊢
  obtain ⟨hfr, B, cs, ty, hB, hw, hf, hl, hR, rfl⟩ := h
  have h2 := hE B.b (by simp)
  exact ⟨hfr, B, cs, ty, (hβ o).trans hB, h2.1.trans hw, h2.2 hf, hl, RO.off xs cs _ [] hp (hE.sub (fun _ h => by cases h)) hβ hR, rfl⟩
 | rows s rs =>
  simp only [ROb] at h ⊢
  obtain ⟨hu, h⟩ := h
  refine ⟨hu, ?_⟩
  rcases h with ⟨h1, h2, h3⟩ | ⟨B, cs, ty, R', hB, hw, hf, hl, hc, hR, rfl⟩
  ·exact .inl ⟨(hβ o).trans h1, h2, h3⟩
  ·have h2 := hE B.b (by simp)
   exact .inr ⟨B, cs, ty, R', (hβ o).trans hB, h2.1.trans hw, h2.2 hf, hl, hc, ROr.off rs cs _ R' hp (hE.sub (fun _ h => by simp [h])) hβ hR, rfl⟩
 | tab es =>
  simp only [ROb] at h ⊢
  obtain ⟨B, ents, clock, hB, hw, hf, he, rfl⟩ := h
  have h2 := hE B.b (by simp)
  exact ⟨B, ents, clock, (hβ o).trans hB, h2.1.trans hw, h2.2 hf, he, rfl⟩
 | gone => simpa [ROb] using h

mutual
def X.lt (k : Nat) : X → Bool
 | .v _ | .no | .fz .. | .uni .. | .fp .. => true
 | .ptr o .. => Nat.blt o k
 | .slc o .. => Nat.blt o k
 | .mref o => Nat.blt o k
 | .agg xs => X.lts k xs
 | .tup xs => X.lts k xs
 | .clo _ a b => X.lts k a && X.lts k b
def X.lts (k : Nat) : List X → Bool
 | [] => true
 | x :: r => x.lt k && X.lts k r
end

theorem blt_lt {o k : Nat} (h : Nat.blt o k = true) : o < k := Nat.le_of_ble_eq_true h

mutual
theorem X.lt_ment {k o : Nat} : ∀ {x : X}, x.lt k = true → x.ment o = true → o < k
 | .v _, _, h | .no, _, h | .fz .., _, h | .uni .., _, h | .fp .., _, h => by simp [X.ment] at h
 | .ptr p .., h, hm => by simp only [X.ment] at hm; rw [← Nat.eq_of_beq_eq_true hm]; exact blt_lt h
 | .slc p .., h, hm => by simp only [X.ment] at hm; rw [← Nat.eq_of_beq_eq_true hm]; exact blt_lt h
 | .mref p, h, hm => by simp only [X.ment] at hm; rw [← Nat.eq_of_beq_eq_true hm]; exact blt_lt h
 | .agg xs, h, hm => X.lts_ments (xs := xs) h hm
 | .tup xs, h, hm => X.lts_ments (xs := xs) h hm
 | .clo _ a b, h, hm => by
  simp only [X.lt, Bool.and_eq_true] at h
  simp only [X.ment, Bool.or_eq_true] at hm
  exact hm.elim (X.lts_ments h.1) (X.lts_ments h.2)
theorem X.lts_ments {k o : Nat} : ∀ {xs : List X}, X.lts k xs = true → X.ments o xs = true → o < k
 | [], _, h => by simp [X.ments] at h
 | x :: r, h, hm => by
  simp only [X.lts, Bool.and_eq_true] at h
  simp only [X.ments, Bool.or_eq_true] at hm
  exact hm.elim (X.lt_ment h.1) (X.lts_ments h.2)
end

def Obj.lt (k : Nat) : Obj → Bool
 | .cells xs => X.lts k xs
 | _ => true

def killM (l : List Nat) (x : X) : X := bif l.any (fun o => x.ment o) then .no else x
def Obj.killM (l : List Nat) : Obj → Obj
 | .cells xs => .cells (xs.map (AW.killM l))
 | ob => ob
def St.killM (st : St) (l : List Nat) : St := ⟨st.slots.map fun p => (p.1, AW.killM l p.2), st.objs.map fun p => (p.1, p.2.killM l)⟩

theorem killM_ment {l : List Nat} {x : X} {q : Nat} (h : (killM l x).ment q = true) : q ∉ l ∧ killM l x = x ∧ x.ment q = true := by
 unfold killM at h ⊢
 cases hk : l.any (fun o => x.ment o) with
 | true => simp [hk, X.ment] at h
 | false =>
  rw [hk] at h
  simp only [cond_false] at h ⊢
  refine ⟨fun hq => ?_, trivial, h⟩
  have : l.any (fun o => x.ment o) = true := List.any_eq_true.2 ⟨q, hq, h⟩
  rw [hk] at this; cases this

theorem frees_killM (l : List Nat) : ∀ {xs : List X}, X.frees xs = true → X.frees (xs.map (killM l)) = true
 | [], _ => rfl
 | x :: r, h => by
  simp only [X.frees, Bool.and_eq_true] at h
  have h1 : (killM l x).free = true := by
   unfold killM
   cases l.any (fun o => x.ment o) with
   | true => rfl
   | false => exact h.1
  simp only [List.map_cons, X.frees, h1, frees_killM l h.2, Bool.and_self]

theorem RO.killM {E : Env} {l : List Nat} : ∀ {xs : List X} {cs : Array Value} {off : Nat}, X.frees xs = true → RO E xs cs off [] → RO E (xs.map (AW.killM l)) cs off []
 | [], _, _, _, h => h
 | x :: r, _, _, hf, h => by
  simp only [RO] at h
  obtain ⟨u, R₁, R₂, hu, hs, h1, h2, hR⟩ := h
  simp only [X.frees, Bool.and_eq_true] at hf
  have h01 := RX.free hf.1 h1
  have h02 := RO.free hf.2 h2
  subst h01; subst h02
  have h3 := RO.killM (l := l) hf.2 h2
  simp only [List.map_cons, RO]
  refine ⟨u, [], [], hu, hs, ?_, h3, rfl⟩
  unfold AW.killM
  cases l.any (fun o => x.ment o) with
  | true => simp [RX]
  | false => exact h1

theorem ments_killM {l : List Nat} : ∀ {xs : List X} {q : Nat}, X.ments q (xs.map (killM l)) = true → q ∉ l
 | [], _, h => by simp [X.ments] at h
 | x :: r, q, h => by
  simp only [List.map_cons, X.ments, Bool.or_eq_true] at h
  rcases h with h | h
  ·exact (killM_ment h).1
  ·exact ments_killM h

end Go.AW
/- Part of the abstract walk: the rule for a call. -/
namespace Go.AW
open Go

inductive Lent (st : St) (L : List Nat) (ν : Nat → Nat) : X → X → Prop where
 | same {x : X} (h : x.free = true) : Lent st L ν (x.ren ν) x
 | view {o s lo n : Nat} {rs : List (List X)} (ho : look st.objs o = some (.rows s rs)) (hL : o ∈ L) (hln : lo + n ≤ rs.length) : Lent st L ν (.slc o s lo n) (.fz s ((rs.drop lo).take n))
 | deref {o s i k : Nat} {row : List X} (ho : rowAt st (.ptr o s i k) = some row) (hL : o ∈ L) (hnr : X.nrs row = true) : Lent st L ν (.ptr o s i k) (.fp row k)

inductive LentL (st : St) (L : List Nat) (ν : Nat → Nat) : List X → List X → Prop where
 | nil : LentL st L ν [] []
 | cons {x y : X} {xs ys : List X} (h : Lent st L ν x y) (hs : LentL st L ν xs ys) : LentL st L ν (x :: xs) (y :: ys)
 | agg {us vs xs ys : List X} (h : LentL st L ν us vs) (h1 : X.ones vs = true) (hs : LentL st L ν xs ys) : LentL st L ν (.agg us :: xs) (.agg vs :: ys)

def posIn : List Nat → Nat → Option Nat
 | [], _ => none
 | o :: r, q => bif Nat.beq o q then some 0 else (posIn r q).map (· + 1)

theorem posIn_some : ∀ {l : List Nat} {q j : Nat}, posIn l q = some j → l[j]? = some q
 | [], _, _, h => by cases h
 | o :: r, q, j, h => by
  simp only [posIn] at h
  cases hb : Nat.beq o q with
  | true => rw [hb] at h; simp at h; subst h; simp [Nat.eq_of_beq_eq_true hb]
  | false =>
   rw [hb] at h
   simp only [cond_false, Option.map_eq_some_iff] at h
   obtain ⟨j', h1, rfl⟩ := h
   simpa using posIn_some h1

theorem posIn_of : ∀ {l : List Nat} {q j : Nat}, l.Nodup → l[j]? = some q → posIn l q = some j
 | [], _, _, _, h => by simp at h
 | o :: r, q, j, hn, h => by
  simp only [posIn]
  have hn' := List.nodup_cons.1 hn
  cases j with
  | zero =>
   simp at h; subst h
   simp
  | succ j =>
   have h' : r[j]? = some q := by simpa using h
   have hne : o ≠ q := fun e => hn'.1 (by rw [e]; exact List.mem_of_getElem? h')
   have : Nat.beq o q = false := by
    cases hb : Nat.beq o q with
    | false => rfl
    | true => exact absurd (Nat.eq_of_beq_eq_true hb) hne
   rw [this]
   simp [posIn_of hn'.2 h']

theorem posIn_none : ∀ {l : List Nat} {q : Nat}, posIn l q = none → q ∉ l
 | [], _, _ => by simp
 | o :: r, q, h => by
  simp only [posIn] at h
  cases hb : Nat.beq o q with
  | true => simp [hb] at h
  | false =>
   rw [hb] at h
   simp only [cond_false, Option.map_eq_none_iff] at h
   have := posIn_none h
   have hne := Nat.ne_of_beq_eq_false hb
   simp [this, Ne.symm hne]

def opds (st : St) : List Operand → Option (List X)
 | [] => some []
 | x :: r => match opd st x, opds st r with
  | some y, some l => some (y :: l)
  | _, _ => none

def callOK (P : Program) (f : FuncId) : Bool :=
 match P.funcs[f]? with
 | some fn => fn.body.isSome && fn.name != "runtime.NumGoroutine"
 | none => false

theorem callOK_run {P : Program} {f : FuncId} (h : callOK P f = true) (args : Array Value) (w : World) : (callFunc f args).run P w = .ok (.enter f args) w := by
 unfold callOK at h
 cases hf : P.funcs[f]? with
 | none => simp [hf] at h
 | some fn =>
  rw [hf] at h
  simp only [Bool.and_eq_true] at h
  have h1 : fn.name ≠ "runtime.NumGoroutine" := by
   have := h.2
   simpa [bne] using this
  have h2 : fn.body ≠ none := fun e => by rw [e] at h; simp at h
  simp [callFunc, hf, h1, h2]

def loose (ν F : List Nat) : List Nat := ((enumF 0 ν).filter fun p => !F.elem p.1).map (·.2)

theorem mem_loose {ν F : List Nat} {o : Nat} (h : o ∉ loose ν F) {j : Nat} (hj : ν[j]? = some o) : F.elem j = true := by
 cases hF : F.elem j with
 | true => rfl
 | false =>
  refine absurd ?_ h
  unfold loose
  refine List.mem_map.2 ⟨(j, o), List.mem_filter.2 ⟨?_, by simpa using hF⟩, rfl⟩
  have : ∀ (l : List Nat) (i : Nat), l[j]? = some o → (i + j, o) ∈ enumF i l := by
   clear h hj hF
   induction j with
   | zero =>
    intro l i h
    cases l with
    | nil => simp at h
    | cons x r => simp at h; subst h; simp [enumF]
   | succ j ih =>
    intro l i h
    cases l with
    | nil => simp at h
    | cons x r =>
     simp only [enumF, List.mem_cons]
     right
     have := ih r (i + 1) (by simpa using h)
     rw [show i + (j + 1) = i + 1 + j by omega]; exact this
  simpa using this ν 0 hj

def nameF (ν : List Nat) (j : Nat) : Nat := ν.getD j 0

def callSt (st : St) (ν F : List Nat) (objs' : List Obj) : St :=
 ⟨(st.killM (loose ν F)).slots, ν.zip (objs'.map (Obj.ren (nameF ν))) ++ (st.killM (loose ν F)).objs⟩

theorem look_zip : ∀ {ν : List Nat} {l : List Obj} {r : List (Nat × Obj)} {o : Nat}, ν.length = l.length → look (ν.zip l ++ r) o = match posIn ν o with | some j => l[j]? | none => look r o
 | [], [], _, _, _ => rfl
 | [], _ :: _, _, _, h => by simp at h
 | _ :: _, [], _, _, h => by simp at h
 | q :: ν, x :: l, r, o, h => by
  simp only [List.zip_cons_cons, List.cons_append, look, posIn]
  cases hb : Nat.beq q o with
  | true => simp
  | false =>
   simp only [cond_false]
   rw [look_zip (by simpa using h)]
   cases hp : posIn ν o with
   | none => simp
   | some j => simp

section
variable {P : Program} {N : Frm} {st : St} {Q : Exit → St → Prop} {all : Array Oper} {rest : List Oper} {d : Nat} {ty : TypeId} {pos : String} {af : Array Edge}

theorem RO.freeze {E E1 : Env} {b : Nat} : ∀ {xs : List X} {cs : Array Value} {off : Nat} , (∀ i v, cs[i]? = some v → E1.φ b i = some v) → (∀ c i v, E.φ c i = some v → E1.φ c i = some v) → X.nrs xs = true →
  RO E xs cs off [] → RF E1 xs b off
 | [], _, _, _, _, _, _ => by simp [RF]
 | x :: r, cs, off, h1, h2, hn, h => by
  simp only [RO] at h
  obtain ⟨u, R₁, R₂, hu, hs, hx, hr, hR⟩ := h
  obtain ⟨rfl, rfl⟩ := List.append_eq_nil_iff.1 hR.symm
  simp only [X.nrs, Bool.and_eq_true] at hn
  simp only [RF]
  refine ⟨⟨u, h1 _ _ hu, hs, hn.1, RX.mono x u [] ⟨h2, fun _ h => by cases h⟩ (fun o ho => by rw [X.ment_of_nr hn.1] at ho; cases ho) hx⟩, RO.freeze h1 h2 hn.2 hr⟩

theorem ROr.freeze {E E1 : Env} {b : Nat} : ∀ {rs : List (List X)} {cs : Array Value} {off : Nat}, (∀ i v, cs[i]? = some v → E1.φ b i = some v) → (∀ c i v, E.φ c i = some v → E1.φ c i = some v) →
  ROr E rs cs off [] → RFr E1 rs b off
 | [], _, _, _, _, _ => by simp [RFr]
 | r :: rs, cs, off, h1, h2, h => by
  simp only [ROr] at h
  obtain ⟨R₁, R₂, hn, hx, hr, hR⟩ := h
  obtain ⟨rfl, rfl⟩ := List.append_eq_nil_iff.1 hR.symm
  simp only [RFr]
  exact ⟨RO.freeze h1 h2 hn hx, ROr.freeze h1 h2 hr⟩

def Owns0 : Obj → Prop
 | .rows _ rs => ∀ r ∈ rs, X.frees r = true
 | .cells _ => True
 | .tab _ => True
 | .gone => True

theorem ROr.free {E : Env} : ∀ {rs : List (List X)} {cs : Array Value} {off : Nat} {R : List Nat}, (∀ r ∈ rs, X.frees r = true) → ROr E rs cs off R → R = []
 | [], _, _, _, _, h => by simpa [ROr] using h
 | r :: rs, _, _, _, hf, h => by
  simp only [ROr] at h
  obtain ⟨R₁, R₂, _, h1, h2, hR⟩ := h
  rw [hR, RO.free (hf r (by simp)) h1, ROr.free (fun q hq => hf q (by simp [hq])) h2]; rfl

noncomputable def Env.lend (E : Env) (LB : Nat → Prop) : Env := by
 classical
 exact { E with φ := fun b i => if LB b then E.w.cell? ⟨b, i, none⟩ else E.φ b i }

theorem lend_in (E : Env) {LB : Nat → Prop} {b : Nat} (h : LB b) (i : Nat) : (E.lend LB).φ b i = E.w.cell? ⟨b, i, none⟩ := by simp [Env.lend, h]
theorem lend_out (E : Env) {LB : Nat → Prop} {b : Nat} (h : ¬ LB b) (i : Nat) : (E.lend LB).φ b i = E.φ b i := by simp [Env.lend, h]

theorem Lent.rx {G : Ctx} {E : Env} {RR : Own → List Nat} {a : Act} {L : List Nat} {ν : Nat → Nat} {LB : Nat → Prop} (hi : Inv G E RR st a) (hLB : ∀ o ∈ L, ∀ b ∈ RR (.obj o), LB b) (hle : ∀ c i v, E.φ c i = some v → (E.lend LB).φ c i = some v)
  (h0 : ∀ o ∈ L, ∀ ob, look st.objs o = some ob → Owns0 ob) {x y : X} {c : Value} {R : List Nat} (h : Lent st L ν x y) (hx : RX E x c R) : RX ((E.lend LB).names ν) y c [] := by
 have hon : E.On (E.lend LB) [] := ⟨hle, fun _ h => by cases h⟩
 cases h with
 | same hf =>
  have : R = [] := RX.free (by rw [X.free_ren]; exact hf) hx
  subst this
  exact (RX.ren y c []).2 (RX.mono _ c [] hon (fun _ _ => rfl) hx)
 | view ho hL hln =>
  rename_i o s lo n rs
  have hob := hi.objs o _ ho
  have hfree : ∀ r ∈ rs, X.frees r = true := h0 o hL _ ho
  simp only [RX] at hx ⊢
  obtain ⟨_, base, cap, rfl, hcase⟩ := hx
  simp only [ROb] at hob
  obtain ⟨hu, hob⟩ := hob
  have hwl : ((rs.drop lo).take n).length = n := by simp; omega
  refine ⟨trivial, (hu.drop lo).take n, base, cap, by rw [hwl], ?_⟩
  by_cases hcap0 : cap = 0
  ·refine .inl ⟨?_, hcap0⟩
   have hn0 : n = 0 := by rcases hcase with ⟨_, _, h, _⟩ | ⟨_, _, _, h, _⟩ <;> omega
   subst hn0; simp
  ·rcases hcase with ⟨_, _, _, h⟩ | ⟨B, hB, hlc, hn', hb⟩
   ·exact absurd h hcap0
   have hb' := hb.resolve_left hcap0
   rcases hob with ⟨h1, _⟩ | ⟨B', cs, tb, R', hB', hw, hφ, hcp, hsz, hRO, hRR⟩
   ·rw [hB] at h1; cases h1
   rw [hB] at hB'
   obtain rfl := Option.some.inj hB'
   have hR0 := ROr.free hfree hRO
   subst hR0
   obtain ⟨R1, hwin, hsub, _⟩ := ROr.window hu hRO hln
   have hR1 : R1 = [] := by
    cases R1 with
    | nil => rfl
    | cons b r => have := hsub b (by simp); cases this
   subst hR1
   have hbL : LB B.b := hLB o hL _ (by rw [hRR]; simp)
   refine .inr ⟨B.b, B.off + lo * s, hb', om, ?_⟩
   have hfr : RFr (E.lend LB) ((rs.drop lo).take n) B.b (B.off + lo * s) := ROr.freeze (fun i v hv => by rw [lend_in E hbL, cell_of_heap hw]; exact hv) hle hwin
   exact RFr.mono _ _ _ (names_on (E.lend LB) ν []).2 hfr
 | deref ho hL hnr =>
  rename_i o s i k row
  simp only [RX] at hx ⊢
  obtain ⟨_, B, hB, rfl⟩ := hx
  simp only [rowAt] at ho
  split at ho
  ·rename_i xs hobj
   have hob := hi.objs o _ hobj
   simp only [ROb] at hob
   obtain ⟨_, B', cs, tb, hB', hw, _, _, hRO, hRR⟩ := hob
   rw [hB] at hB'
   obtain rfl := Option.some.inj hB'
   cases hi0 : Nat.beq i 0 with
   | false => simp [hi0] at ho
   | true =>
    have := Nat.eq_of_beq_eq_true hi0
    subst this
    simp only [hi0, cond_true, Option.some.injEq] at ho
    subst ho
    have hbL : LB B.b := hLB o hL _ (by rw [hRR]; simp)
    refine ⟨trivial, B.b, B.off, by simp, ?_⟩
    exact RF.mono _ _ _ (names_on (E.lend LB) ν []).2 (RO.freeze (fun i v hv => by rw [lend_in E hbL, cell_of_heap hw]; exact hv) hle hnr hRO)
  ·rename_i s' rs hobj
   have hob := hi.objs o _ hobj
   have hfree : ∀ r ∈ rs, X.frees r = true := h0 o hL _ hobj
   simp only [ROb] at hob
   obtain ⟨hu, hob⟩ := hob
   cases hss : Nat.beq s s' with
   | false => simp [hss] at ho
   | true =>
    have := Nat.eq_of_beq_eq_true hss
    subst this
    simp only [hss, cond_true] at ho
    rcases hob with ⟨_, h1, _⟩ | ⟨B', cs, tb, R', hB', hw, _, _, _, hRO, hRR⟩
    ·subst h1; simp at ho
    rw [hB] at hB'
    obtain rfl := Option.some.inj hB'
    have hR0 := ROr.free hfree hRO
    subst hR0
    obtain ⟨R1, _, hrow, hsub⟩ := ROr.get hu hRO ho
    have hR1 : R1 = [] := by
     cases R1 with
     | nil => rfl
     | cons b r => have := hsub b (by simp); cases this
    subst hR1
    have hbL : LB B.b := hLB o hL _ (by rw [hRR]; simp)
    refine ⟨trivial, B.b, B.off + i * s, by rw [Nat.add_assoc], ?_⟩
    exact RF.mono _ _ _ (names_on (E.lend LB) ν []).2 (RO.freeze (fun i v hv => by rw [lend_in E hbL, cell_of_heap hw]; exact hv) hle hnr hrow)
  ·cases ho

theorem LentL.get {L : List Nat} {ν : Nat → Nat} : ∀ {xs ys : List X} {j : Nat} {y : X}, LentL st L ν xs ys → ys[j]? = some y → ∃ x, xs[j]? = some x ∧ (Lent st L ν x y ∨ ∃ us vs, x = .agg us ∧ y = .agg vs ∧ LentL st L ν us vs ∧ X.ones vs = true)
 | _, _, j, y, .nil, h => by simp at h
 | _, _, 0, y, .cons h _, hy => by simp at hy; subst hy; exact ⟨_, rfl, .inl h⟩
 | _, _, j + 1, y, .cons _ hs, hy => by simpa using LentL.get hs (by simpa using hy)
 | _, _, 0, y, .agg h h1 _, hy => by simp at hy; subst hy; exact ⟨_, rfl, .inr ⟨_, _, rfl, rfl, h, h1⟩⟩
 | _, _, j + 1, y, .agg _ _ hs, hy => by simpa using LentL.get hs (by simpa using hy)

theorem LentL.length {L : List Nat} {ν : Nat → Nat} : ∀ {xs ys : List X}, LentL st L ν xs ys → xs.length = ys.length
 | _, _, .nil => rfl
 | _, _, .cons _ hs => by simp [hs.length]
 | _, _, .agg _ _ hs => by simp [hs.length]

theorem LentL.rxs {G : Ctx} {E : Env} {RR : Own → List Nat} {a : Act} {L : List Nat} {ν : Nat → Nat} {LB : Nat → Prop} (hi : Inv G E RR st a) (hLB : ∀ o ∈ L, ∀ b ∈ RR (.obj o), LB b) (hle : ∀ c i v, E.φ c i = some v → (E.lend LB).φ c i = some v)
  (h0 : ∀ o ∈ L, ∀ ob, look st.objs o = some ob → Owns0 ob) : ∀ {xs ys : List X} {cs : List Value} {R : List Nat}, LentL st L ν xs ys → RXs E xs cs R → RXs ((E.lend LB).names ν) ys cs []
 | _, _, cs, R, .nil, h => by simp only [RXs] at h ⊢; exact ⟨h.1, trivial⟩
 | _, _, cs, R, .cons hl hs, h => by
  simp only [RXs] at h ⊢
  obtain ⟨c, cs', R₁, R₂, rfl, h1, h2, h3, _⟩ := h
  exact ⟨c, cs', [], [], rfl, h1, hl.rx hi hLB hle h0 h2, hs.rxs hi hLB hle h0 h3, rfl⟩
 | _, _, cs, R, .agg hl _ hs, h => by
  simp only [RXs] at h ⊢
  obtain ⟨c, cs', R₁, R₂, rfl, h1, h2, h3, _⟩ := h
  simp only [RX] at h2
  obtain ⟨ds, rfl, h4⟩ := h2
  exact h1.elim

end
end Go.AW
/- Part of the abstract walk: the rule for a call, proved. -/
namespace Go.AW
open Go

section
variable {P : Program} {N : Frm} {st : St} {Q : Exit → St → Prop} {all : Array Oper} {rest : List Oper} {d : Nat} {ty : TypeId} {pos : String} {af : Array Edge}

theorem opds_get {G : Ctx} {E : Env} {RR : Own → List Nat} {a : Act} (hi : Inv G E RR st a) : ∀ {l : List Operand} {xs : List X}, opds st l = some xs → xs.length = l.length ∧ ∀ (j : Nat) (x : X), xs[j]? = some x → ∃ o : Operand, l[j]? = some o ∧ ∃ R, RX E x (a.eval o) R
 | [], xs, h => by simp only [opds, Option.some.injEq] at h; subst h; exact ⟨rfl, by simp⟩
 | o :: r, xs, h => by
  simp only [opds] at h
  cases h1 : opd st o with
  | none => simp [h1] at h
  | some y =>
   cases h2 : opds st r with
   | none => simp [h1, h2] at h
   | some ys =>
    rw [h1, h2] at h
    simp only [Option.some.injEq] at h
    subst h
    obtain ⟨hl, hg⟩ := opds_get hi h2
    refine ⟨by simp [hl], fun j x hx => ?_⟩
    cases j with
    | zero => simp at hx; subst hx; exact ⟨o, rfl, hi.eval h1⟩
    | succ j => simpa using hg j x (by simpa using hx)

theorem Inv.callW {G : Ctx} {E : Env} {RR : Own → List Nat} {a : Act} {f : FuncId} {vs : List Value} {xs args : List X} {objs : List Obj} {F ν L : List Nat} {Q' : X → List Obj → Prop} (hi : Inv G E RR st a) (hspec : ACalls P f args objs F Q')
  (hxl : xs.length = vs.length) (hxg : ∀ (j : Nat) (x : X), xs[j]? = some x → ∃ v : Value, vs[j]? = some v ∧ ∃ R, RX E x v R) (hargs : LentL st L (nameF ν) xs args) (hobjs : ∀ j ob, objs[j]? = some ob → look st.objs (nameF ν j) = some (ob.ren (nameF ν))) (hlen : ν.length = objs.length) (hνn : ν.Nodup) (hLν : ∀ o ∈ L, o ∉ ν)
  (h0 : ∀ o ∈ L, ∃ ob, look st.objs o = some ob ∧ Owns0 ob) (hNF : ∀ o ∈ loose ν F, G.fn.F.elem o = false) (hd : d < G.fn.n) :
  Calls P f vs.toArray E.w fun e w' => ∃ v r objs', e = .returned v ∧ Q' r objs' ∧ objs'.length = objs.length ∧
   (r.lt objs.length = true → (∀ ob ∈ objs', ob.lt objs.length = true) → (L = [] ∨ (r.plain ∧ ∀ ob ∈ objs', ob.plain)) → ∃ E'' RR'', E''.w = w' ∧ Inv G E'' RR'' ((callSt st ν F objs').put d (r.ren (nameF ν))) (a.put (some d) v)) := by
 classical
 -- the blocks that are lent, and those that are handed over
 let LB : Nat → Prop := fun b => ∃ o ∈ L, b ∈ RR (.obj o)
 let PB : Nat → Prop := fun b => ∃ j, j < objs.length ∧ b ∈ RR (.obj (nameF ν j))
 have hνj : ∀ j, j < objs.length → ν[j]? = some (nameF ν j) := by
  intro j hj
  have : j < ν.length := by omega
  simp [nameF, List.getD, List.getElem?_eq_getElem this]
 have hLφ : ∀ b, LB b → ∀ i, E.φ b i = none := by
  rintro b ⟨o, hoL, hb⟩
  obtain ⟨ob, hob, hown⟩ := h0 o hoL
  have h := hi.objs o ob hob
  cases ob with
  | cells ys =>
   simp only [ROb] at h
   obtain ⟨_, B, cs, tb, _, _, hφ, _, _, hRR⟩ := h
   rw [hRR] at hb
   simp only [List.mem_singleton] at hb
   rw [hb]; exact hφ
  | rows s rs =>
   simp only [ROb] at h
   obtain ⟨_, h⟩ := h
   rcases h with ⟨_, _, h3⟩ | ⟨B, cs, tb, R', _, _, hφ, _, _, hRO, hRR⟩
   ·rw [h3] at hb; cases hb
   ·have hR0 := ROr.free hown hRO
    subst hR0
    rw [hRR] at hb
    simp only [List.mem_singleton] at hb
    rw [hb]; exact hφ
  | tab es =>
   simp only [ROb] at h
   obtain ⟨B, ents, clock, _, _, hφ, _, hRR⟩ := h
   rw [hRR] at hb
   simp only [List.mem_singleton] at hb
   rw [hb]; exact hφ
  | gone =>
   simp only [ROb] at h
   rw [h] at hb; cases hb
 have hLP : ∀ b, LB b → ¬ PB b := by
  rintro b ⟨o, hoL, hb⟩ ⟨j, hj, hb'⟩
  have hne : o ≠ nameF ν j := fun e => hLν o hoL (by rw [e]; exact List.mem_of_getElem? (hνj j hj))
  exact hi.apart (.obj o) (.obj (nameF ν j)) (by simpa using hne) b hb hb'
 have hle : ∀ c i v, E.φ c i = some v → (E.lend LB).φ c i = some v := by
  intro c i v h
  have : ¬ LB c := fun hL => by rw [hLφ c hL i] at h; cases h
  rw [lend_out E this]; exact h
 let E1 : Env := (E.lend LB).names (nameF ν)
 have hE1w : E1.w = E.w := rfl
 have hE1β : ∀ o, E1.β o = E.β (nameF ν o) := fun _ => rfl
 have hE1φ : ∀ b i, E1.φ b i = (E.lend LB).φ b i := fun _ _ => rfl
 let K1 : Nat → Prop := fun b => b < E.w.heap.size ∧ ¬ PB b
 let RR1 : Own → List Nat := fun p => match p with
  | .obj j => if j < objs.length then RR (.obj (nameF ν j)) else []
  | .slot _ => []
 have hinj : ∀ i j, i < objs.length → j < objs.length → nameF ν i = nameF ν j → i = j := by
  intro i j hi' hj' h
  have h1 := posIn_of hνn (hνj i hi')
  have h2 := posIn_of hνn (hνj j hj')
  rw [h] at h1
  rw [h1] at h2
  exact Option.some.inj h2
 have hI1 : Inv (ctx0 K1 E1 ⟨args.length, F⟩) E1 RR1 ⟨enumF 0 args, enumF 0 objs⟩ ⟨vs.toArray, []⟩ := by
  constructor
  ·intro b i v h
   rw [hE1φ] at h
   by_cases hL : LB b
   ·rw [lend_in E hL] at h; exact h
   ·rw [lend_out E hL] at h; exact hi.frz b i v h
  ·intro s y hy
   have hy' : look (enumF 0 args) s = some y := hy
   rw [look_enum] at hy'
   obtain ⟨x, hx, hcase⟩ := hargs.get hy'
   obtain ⟨o, ho, R, hR⟩ := hxg s x hx
   have hval : vs.toArray.getD s undef = o := by
    simp [Array.getD_eq_getD_getElem?, ho]
   show RX E1 y (vs.toArray.getD s undef) []
   rw [hval]
   have hLB : ∀ o ∈ L, ∀ b ∈ RR (.obj o), LB b := fun o ho b hb => ⟨o, ho, hb⟩
   have h0' : ∀ o ∈ L, ∀ ob, look st.objs o = some ob → Owns0 ob := fun o ho ob hob => by
    obtain ⟨ob', h1, h2⟩ := h0 o ho
    rw [h1] at hob
    obtain rfl := Option.some.inj hob
    exact h2
   rcases hcase with hl | ⟨us, vs, rfl, rfl, hl, _⟩
   ·exact hl.rx hi hLB hle h0' hR
   ·simp only [RX] at hR ⊢
    obtain ⟨cs, hc, h2⟩ := hR
    exact ⟨cs, hc, hl.rxs hi hLB hle h0' h2⟩
  ·intro j ob ho
   have ho' : look (enumF 0 objs) j = some ob := ho
   rw [look_enum] at ho'
   have hj : j < objs.length := by
    rcases Nat.lt_or_ge j objs.length with h' | h'
    ·exact h'
    ·simp [List.getElem?_eq_none h'] at ho'
   have h1 := hi.objs _ _ (hobjs j ob ho')
   have hR1 : RR1 (.obj j) = RR (.obj (nameF ν j)) := by simp [RR1, hj]
   rw [hR1]
   have h2 : ROb (E.names (nameF ν)) j ob (RR (.obj (nameF ν j))) := ROb.ren.2 h1
   refine ROb.mono (E := E.names (nameF ν)) ⟨hle, fun b hb => ⟨rfl, fun hφ i => ?_⟩⟩ rfl (fun _ _ _ _ => rfl) h2
   have : ¬ LB b := fun hL => hLP b hL ⟨j, hj, hb⟩
   show (E.lend LB).φ b i = none
   rw [lend_out E this]; exact hφ i
  ·intro p
   cases p with
   | slot s => exact List.nodup_nil
   | obj j => by_cases hj : j < objs.length <;> simp [RR1, hj, hi.nodup]
  ·intro p q hpq b hb hb'
   cases p with
   | slot s => cases hb
   | obj i =>
    cases q with
    | slot s => cases hb'
    | obj j =>
     by_cases hil : i < objs.length
     ·by_cases hjl : j < objs.length
      ·simp only [RR1, hil, hjl, if_true] at hb hb'
       have hne : nameF ν i ≠ nameF ν j := fun e => hpq (by rw [hinj i j hil hjl e])
       exact hi.apart (.obj (nameF ν i)) (.obj (nameF ν j)) (by simpa using hne) b hb hb'
      ·simp [RR1, hjl] at hb'
     ·simp [RR1, hil] at hb
  ·intro p b hb
   cases p with
   | slot s => cases hb
   | obj j =>
    by_cases hj : j < objs.length
    ·simp only [RR1, hj, if_true] at hb
     exact ⟨(hi.own _ _ hb).1, fun h => h.2 ⟨j, hj, hb⟩⟩
    ·simp [RR1, hj] at hb
  ·intro b _; rfl
  ·exact Nat.le_refl _
  ·intro b hb; exact hb.1
  ·rfl
  ·rfl
  ·rfl
  ·intro b i v h; exact h
  ·intro b i v h; exact .inl h
  ·intro o _; rfl
  ·show vs.toArray.size = args.length
   have := hargs.length
   simp; omega
  ·rfl
 refine (hspec K1 E1 RR1 _ hI1).mono ?_
 rintro e w' ⟨v, r, objs', he, hQ', hl', E', RR', rfl, hI'⟩
 refine ⟨v, r, objs', he, hQ', hl', fun hrlt holt hplain => ?_⟩
 -- what the callee leaves
 have hkeep : ∀ b, b < E.w.heap.size → ¬ PB b → E'.w.heap[b]? = E.w.heap[b]? := fun b h1 h2 => hI'.keep b ⟨h1, h2⟩
 have hsz : E.w.heap.size ≤ E'.w.heap.size := hI'.size
 let E'' : Env := { φ := fun b i => if LB b then none else E'.φ b i, β := fun o => match posIn ν o with | some j => E'.β j | none => E.β o, w := E'.w }
 have hφin : ∀ b i, LB b → E''.φ b i = none := fun b i h => by simp [E'', h]
 have hφout : ∀ b i, ¬ LB b → E''.φ b i = E'.φ b i := fun b i h => by simp [E'', h]
 have hφle : ∀ b i v, E.φ b i = some v → E''.φ b i = some v := by
  intro b i v h
  have hn : ¬ LB b := fun hL => by rw [hLφ b hL i] at h; cases h
  rw [hφout b i hn]
  refine hI'.φ0 b i v ?_
  show (E.lend LB).φ b i = some v
  exact hle b i v h
 have hφnone : ∀ b, b < E.w.heap.size → ¬ PB b → (∀ i, E.φ b i = none) → ∀ i, E''.φ b i = none := by
  intro b hb hP hφ i
  by_cases hL : LB b
  ·exact hφin b i hL
  ·rw [hφout b i hL]
   cases h : E'.φ b i with
   | none => rfl
   | some v =>
    rcases hI'.grow b i v h with h1 | h1
    ·have h1' : (E.lend LB).φ b i = some v := h1
     rw [lend_out E hL, hφ i] at h1'; cases h1'
    ·exact absurd ⟨hb, hP⟩ h1
 have hon : ∀ R, (∀ b ∈ R, b < E.w.heap.size ∧ ¬ PB b) → E.On E'' R := fun R h => ⟨hφle, fun b hb => ⟨hkeep b (h b hb).1 (h b hb).2, hφnone b (h b hb).1 (h b hb).2⟩⟩
 have hβ : ∀ o, o ∉ loose ν F → E''.β o = E.β o := by
  intro o ho
  show (match posIn ν o with | some j => E'.β j | none => E.β o) = E.β o
  cases hp : posIn ν o with
  | none => rfl
  | some j =>
   have h1 := posIn_some hp
   have hF := mem_loose ho h1
   have h2 := hI'.fixed j hF
   have h3 : (ctx0 K1 E1 ⟨1, F⟩).β0 j = E.β (nameF ν j) := rfl
   rw [h3] at h2
   have h4 : nameF ν j = o := by simp [nameF, List.getD, h1]
   rw [h4] at h2
   exact h2
 have hβν : ∀ j, j < objs.length → E''.β (nameF ν j) = E'.β j := by
  intro j hj
  show (match posIn ν (nameF ν j) with | some j => E'.β j | none => E.β (nameF ν j)) = E'.β j
  rw [posIn_of hνn (hνj j hj)]
 -- who owns what then
 let RR2 : Own → List Nat := fun p => match p with
  | .slot s => match look st.slots s with
   | some x => bif (loose ν F).any (fun o => x.ment o) then [] else RR (.slot s)
   | none => []
  | .obj o => match posIn ν o with
   | some j => RR' (.obj j)
   | none => RR (.obj o)
 have hR2slot : ∀ s b, b ∈ RR2 (.slot s) → b ∈ RR (.slot s) := by
  intro s b hb
  simp only [RR2] at hb
  cases hs : look st.slots s with
  | none => simp [hs] at hb
  | some x =>
   rw [hs] at hb
   simp only at hb
   cases hk : (loose ν F).any (fun o => x.ment o) with
   | true => simp [hk] at hb
   | false => simpa [hk] using hb
 have hnotPB : ∀ p b, b ∈ RR p → (∀ j, j < objs.length → p ≠ .obj (nameF ν j)) → b < E.w.heap.size ∧ ¬ PB b := by
  intro p b hb hp
  refine ⟨(hi.own p b hb).1, ?_⟩
  rintro ⟨j, hj, hb'⟩
  exact hi.apart p _ (hp j hj) b hb hb'
 have hfresh : ∀ q b, b ∈ RR' q → b < E'.w.heap.size ∧ (E.w.heap.size ≤ b ∨ PB b) := by
  intro q b hb
  have h := hI'.own q b hb
  refine ⟨h.1, ?_⟩
  by_cases hb2 : b < E.w.heap.size
  ·right
   by_cases hP : PB b
   ·exact hP
   ·exact absurd ⟨hb2, hP⟩ h.2
  ·left; omega
 have hclash : ∀ p b, b ∈ RR p → (∀ j, j < objs.length → p ≠ .obj (nameF ν j)) → ∀ q, b ∉ RR' q := by
  intro p b hb hp q hq
  have h1 := hnotPB p b hb hp
  rcases (hfresh q b hq).2 with h | h
  ·omega
  ·exact h1.2 h
 have hnotK : ∀ q b, b ∈ RR' q → ¬ G.K b := by
  intro q b hb hK
  rcases (hfresh q b hb).2 with h | ⟨j, hj, h⟩
  ·have := hi.small b hK; have := hi.size; omega
  ·exact (hi.own _ _ h).2 hK
 have hpos : ∀ o j, posIn ν o = some j → j < objs.length ∧ nameF ν j = o := by
  intro o j h
  have h1 := posIn_some h
  have hj : j < ν.length := by
   rcases Nat.lt_or_ge j ν.length with h' | h'
   ·exact h'
   ·simp [List.getElem?_eq_none h'] at h1
  exact ⟨om, by simp [nameF, List.getD, h1]⟩
 have hLnil : L = [] → ∀ b i, E''.φ b i = E'.φ b i := by
  intro hL b i
  refine hφout b i ?_
  rintro ⟨o, ho, _⟩
  rw [hL] at ho; cases ho
 have hφmono : ∀ b, (∀ i, E'.φ b i = none) → ∀ i, E''.φ b i = none := by
  intro b h i
  by_cases hL : LB b
  ·exact hφin b i hL
  ·rw [hφout b i hL]; exact h i
 have hback : ∀ p b, b ∈ RR2 p → (b ∈ RR p ∧ ∀ j, j < objs.length → p ≠ .obj (nameF ν j)) ∨ (∃ o j, p = .obj o ∧ posIn ν o = some j ∧ b ∈ RR' (.obj j)) := by
  intro p b hb
  cases p with
  | slot s => exact .inl ⟨hR2slot s b hb, fun j hj => by simp⟩
  | obj o =>
   simp only [RR2] at hb
   cases hp : posIn ν o with
   | some j => rw [hp] at hb; exact .inr ⟨o, j, rfl, hp, hb⟩
   | none =>
    rw [hp] at hb
    refine .inl ⟨hb, fun j hj e => posIn_none hp ?_⟩
    have : o = nameF ν j := by simpa using e
    rw [this]; exact List.mem_of_getElem? (hνj j hj)
 have hI2 : Inv G E'' RR2 (callSt st ν F objs') a := by
  refine { hi with frz := ?_, slots := ?_, objs := ?_, nodup := ?_, apart := ?_, own := ?_, keep := ?_, size := ?_, os := ?_, tape := ?_, output := ?_, φ0 := ?_, grow := ?_, fixed := ?_ }
  ·intro b i v h
   by_cases hL : LB b
   ·rw [hφin b i hL] at h; cases h
   ·rw [hφout b i hL] at h; exact hI'.frz b i v h
  ·intro s y hy
   have hy' : look ((st.slots).map fun p => (p.1, AW.killM (loose ν F) p.2)) s = some y := hy
   rw [look_map (AW.killM (loose ν F))] at hy'
   cases hs : look st.slots s with
   | none => simp [hs] at hy'
   | some x =>
    rw [hs] at hy'
    simp only [Option.map_some, Option.some.injEq] at hy'
    subst hy'
    cases hk : (loose ν F).any (fun o => x.ment o) with
    | true =>
     have : RR2 (.slot s) = [] := by simp [RR2, hs, hk]
     rw [this]
     simp [AW.killM, hk, RX]
    | false =>
     have : RR2 (.slot s) = RR (.slot s) := by simp [RR2, hs, hk]
     rw [this]
     simp only [AW.killM, hk, cond_false]
     refine RX.mono x _ _ (hon _ (fun b hb => hnotPB _ b hb (fun j hj => by simp))) (fun o ho => hβ o (fun hol => ?_)) (hi.slots s x hs)
     have : (loose ν F).any (fun o => x.ment o) = true := List.any_eq_true.2 ⟨o, hol, ho⟩
     rw [hk] at this; cases this
  ·intro o ob ho
   have ho' : look (ν.zip (objs'.map (Obj.ren (nameF ν))) ++ (st.objs.map fun p => (p.1, p.2.killM (loose ν F)))) o = some ob := ho
   rw [look_zip (by simp [hl', hlen])] at ho'
   cases hp : posIn ν o with
   | some j =>
    rw [hp] at ho'
    simp only [List.getElem?_map, Option.map_eq_some_iff] at ho'
    obtain ⟨ob', hob', rfl⟩ := ho'
    obtain ⟨hj, hjo⟩ := hpos o j hp
    have hR2 : RR2 (.obj o) = RR' (.obj j) := by simp [RR2, hp]
    rw [hR2, ← hjo]
    have h1 : ROb E' j ob' (RR' (.obj j)) := hI'.objs j ob' (by rw [look_enum]; exact hob')
    have hmem : ob' ∈ objs' := List.mem_of_getElem? hob'
    refine ROb.ren.1 (?_ : ROb (E''.names (nameF ν)) j ob' (RR' (.obj j)))
    have h3 : ROb { E' with φ := E''.φ } j ob' (RR' (.obj j)) := by
     rcases hplain with hL | hpl
     ·exact ROb.mono (E := E') ⟨fun b i v h => by show E''.φ b i = _; rw [hLnil hL b i]; exact h, fun b _ => ⟨rfl, fun h i => by show E''.φ b i = _; rw [hLnil hL b i]; exact h i⟩⟩ rfl (fun _ _ _ _ => rfl) h1
     ·exact ROb.off (E := E') (hpl.2 ob' hmem) (fun b _ => ⟨rfl, hφmono b⟩) (fun _ => rfl) h1
    refine ROb.mono (E := { E' with φ := E''.φ }) ⟨fun _ _ _ h => h, fun b _ => ⟨rfl, fun h => h⟩⟩ (hβν j hj) (fun ys hys q hq => ?_) h3
    subst hys
    exact hβν q (X.lts_ments (holt _ hmem) hq)
   | none =>
    rw [hp] at ho'
    simp only at ho'
    rw [look_map (Obj.killM (loose ν F))] at ho'
    cases hs : look st.objs o with
    | none => simp [hs] at ho'
    | some ob0 =>
     rw [hs] at ho'
     simp only [Option.map_some, Option.some.injEq] at ho'
     subst ho'
     have hR2 : RR2 (.obj o) = RR (.obj o) := by simp [RR2, hp]
     rw [hR2]
     have hno : ∀ j, j < objs.length → Own.obj o ≠ .obj (nameF ν j) := fun j hj e => posIn_none hp (by
      have : o = nameF ν j := by simpa using e
      rw [this]; exact List.mem_of_getElem? (hνj j hj))
     have hon' := hon _ (fun b hb => hnotPB _ b hb hno)
     have hobj := hi.objs o ob0 hs
     have hoβ : E''.β o = E.β o := by
      show (match posIn ν o with | some j => E'.β j | none => E.β o) = E.β o
      rw [hp]
     cases ob0 with
     | cells ys =>
      simp only [Obj.killM, ROb] at hobj ⊢
      obtain ⟨hfr, B, cs, tb, hB, hw, hf, hlen', hRO, hRR⟩ := hobj
      have h2 := hon'.2 B.b (by rw [hRR]; simp)
      exact ⟨frees_killM _ hfr, B, cs, tb, hoβ.trans hB, h2.1.trans hw, h2.2 hf, by simpa using hlen',
       RO.mono _ cs _ [] (hon'.sub (fun _ h => by cases h)) (fun q hq => hβ q (ments_killM hq)) (RO.killM hfr hRO), hRR⟩
     | rows s rs => exact ROb.mono hon' hoβ (fun ys h => by cases h) hobj
     | tab es => exact ROb.mono hon' hoβ (fun ys h => by cases h) hobj
     | gone => simpa [Obj.killM, ROb] using hobj
  ·intro p
   cases p with
   | slot s =>
    simp only [RR2]
    cases hs : look st.slots s with
    | none => exact List.nodup_nil
    | some x =>
     simp only
     cases (loose ν F).any (fun o => x.ment o) with
     | true => exact List.nodup_nil
     | false => exact hi.nodup _
   | obj o =>
    simp only [RR2]
    cases posIn ν o with
    | some j => exact hI'.nodup _
    | none => exact hi.nodup _
  ·intro p q hpq b hb hb'
   rcases hback p b hb with ⟨h1, h2⟩ | ⟨o, j, rfl, hp, h1⟩
   ·rcases hback q b hb' with ⟨h3, h4⟩ | ⟨o', j', rfl, hp', h3⟩
    ·exact hi.apart p q hpq b h1 h3
    ·exact hclash p b h1 h2 _ h3
   ·rcases hback q b hb' with ⟨h3, h4⟩ | ⟨o', j', rfl, hp', h3⟩
    ·exact hclash q b h3 h4 _ h1
    ·have hjj : j ≠ j' := fun e => by
      subst e
      have := (hpos o j hp).2.symm.trans (hpos o' j hp').2
      exact hpq (by rw [this])
     exact hI'.apart (.obj j) (.obj j') (by simpa using hjj) b h1 h3
  ·intro p b hb
   rcases hback p b hb with ⟨h1, h2⟩ | ⟨o, j, rfl, hp, h1⟩
   ·have h4 := hi.own p b h1
    exact ⟨Nat.lt_of_lt_of_le h4.1 hsz, h4.2⟩
   ·exact ⟨(hfresh _ b h1).1, hnotK _ b h1⟩
  ·intro b hK
   have h1 : b < E.w.heap.size := Nat.lt_of_lt_of_le (hi.small b hK) hi.size
   have h2 : ¬ PB b := fun ⟨j, hj, h⟩ => (hi.own _ _ h).2 hK
   have := hkeep b h1 h2
   exact this.trans (hi.keep b hK)
  ·exact Nat.le_trans hi.size hsz
  ·exact hI'.os.trans hi.os
  ·exact hI'.tape.trans hi.tape
  ·exact hI'.output.trans hi.output
  ·exact fun b i v h => hφle b i v (hi.φ0 b i v h)
  ·intro b i v h
   by_cases hL : LB b
   ·rw [hφin b i hL] at h; cases h
   ·rw [hφout b i hL] at h
    rcases hI'.grow b i v h with h1 | h1
    ·have h1' : (E.lend LB).φ b i = some v := h1
     rw [lend_out E hL] at h1'
     exact hi.grow b i v h1'
    ·right
     intro hK
     exact h1 ⟨Nat.lt_of_lt_of_le (hi.small b hK) hi.size, fun ⟨j, hj, h⟩ => (hi.own _ _ h).2 hK⟩
  ·intro o ho
   rw [hβ o (fun hol => by rw [hNF o hol] at ho; cases ho)]
   exact hi.fixed o ho
 have hr : RX E'' (r.ren (nameF ν)) v (RR' (.slot 0)) := by
  have h1 : RX E' r v (RR' (.slot 0)) := hI'.slots 0 r rfl
  have h3 : RX { E' with φ := E''.φ } r v (RR' (.slot 0)) := by
   rcases hplain with hL | hpl
   ·exact RX.mono (E := E') r _ _ ⟨fun b i v h => by show E''.φ b i = _; rw [hLnil hL b i]; exact h, fun b _ => ⟨rfl, fun h i => by show E''.φ b i = _; rw [hLnil hL b i]; exact h i⟩⟩ (fun _ _ => rfl) h1
   ·exact RX.off (E := E') r _ _ hpl.1 (fun b _ => ⟨rfl, hφmono b⟩) (fun _ => rfl) h1
  refine (RX.ren r v _).1 (?_ : RX (E''.names (nameF ν)) r v (RR' (.slot 0)))
  exact RX.mono (E := { E' with φ := E''.φ }) r _ _ ⟨fun _ _ _ h => h, fun b _ => ⟨rfl, fun h => h⟩⟩ (fun q hq => hβν q (X.lt_ment hrlt hq)) h3
 refine ⟨E'', _, rfl, hI2.put hd hr (hI'.nodup _) (fun b hb => ⟨(hfresh _ b hb).1, hnotK _ b hb, fun p _ hbp => ?_⟩)⟩
 rcases hback p b hbp with ⟨h1, h2⟩ | ⟨o, j, rfl, hp, h1⟩
 ·exact hclash p b h1 h2 _ hb
 ·exact hI'.apart (.slot 0) (.obj j) (by simp) b hb h1

theorem Inv.call {G : Ctx} {E : Env} {RR : Own → List Nat} {a : Act} {f : FuncId} {fargs : List Operand} {xs args : List X} {objs : List Obj} {F ν L : List Nat} {Q' : X → List Obj → Prop} (hi : Inv G E RR st a) (hspec : ACalls P f args objs F Q')
  (hxs : opds st fargs = some xs) (hargs : LentL st L (nameF ν) xs args) (hobjs : ∀ j ob, objs[j]? = some ob → look st.objs (nameF ν j) = some (ob.ren (nameF ν))) (hlen : ν.length = objs.length) (hνn : ν.Nodup) (hLν : ∀ o ∈ L, o ∉ ν)
  (h0 : ∀ o ∈ L, ∃ ob, look st.objs o = some ob ∧ Owns0 ob) (hNF : ∀ o ∈ loose ν F, G.fn.F.elem o = false) (hd : d < G.fn.n) :
  Calls P f (fargs.map a.eval).toArray E.w fun e w' => ∃ v r objs', e = .returned v ∧ Q' r objs' ∧ objs'.length = objs.length ∧
   (r.lt objs.length = true → (∀ ob ∈ objs', ob.lt objs.length = true) → (L = [] ∨ (r.plain ∧ ∀ ob ∈ objs', ob.plain)) → ∃ E'' RR'', E''.w = w' ∧ Inv G E'' RR'' ((callSt st ν F objs').put d (r.ren (nameF ν))) (a.put (some d) v)) := by
 obtain ⟨hxl, hxg⟩ := opds_get hi hxs
 exact hi.callW hspec (by simpa using hxl) (fun j x hx => by
  obtain ⟨o, ho, R, hR⟩ := hxg j x hx
  exact ⟨a.eval o, by simp [ho], R, hR⟩) hargs hobjs hlen hνn hLν h0 hNF hd

theorem AOps.call {f : FuncId} {fargs : Array Operand} {ats : Array TypeId} {xs args : List X} {objs : List Obj} {F : List Nat} {Q' : X → List Obj → Prop} (ν L : List Nat) (hok : callOK P f = true) (hspec : ACalls P f args objs F Q')
  (hxs : opds st fargs.toList = some xs) (hargs : LentL st L (nameF ν) xs args) (hobjs : ∀ j ob, objs[j]? = some ob → look st.objs (nameF ν j) = some (ob.ren (nameF ν))) (hlen : ν.length = objs.length) (hνn : ν.Nodup) (hLν : ∀ o ∈ L, o ∉ ν)
  (h0 : ∀ o ∈ L, ∃ ob, look st.objs o = some ob ∧ Owns0 ob) (hNF : ∀ o ∈ loose ν F, N.F.elem o = false) (hd : d < N.n)
  (k : ∀ r objs', Q' r objs' → objs'.length = objs.length → (r.lt objs.length = true ∧ (∀ ob ∈ objs', ob.lt objs.length = true) ∧ (L = [] ∨ (r.plain ∧ ∀ ob ∈ objs', ob.plain))) ∧ AOps P N all rest ((callSt st ν F objs').put d (r.ren (nameF ν))) Q) :
  AOps P N all (⟨some d, .call ⟨.value (.func f), fargs, ats⟩, ty, pos, af, none⟩ :: rest) st Q := by
 intro G hn a w hh
 obtain ⟨E, RR, rfl, hi⟩ := hh
 have hc := hi.call hspec hxs hargs hobjs hlen hνn hLν h0 (fun o ho => by rw [hn]; exact hNF o ho) (d := d) (by rw [hn]; exact hd)
 have hrun : (execOp a.eval ⟨some d, .call ⟨.value (.func f), fargs, ats⟩, ty, pos, af, none⟩).run P E.w = .ok (.enter f (fargs.toList.map a.eval).toArray) E.w := by
  have e : (execOp a.eval ⟨some d, .call ⟨.value (.func f), fargs, ats⟩, ty, pos, af, none⟩).run P E.w = (callFunc f ((#[] ++ fargs.map a.eval) ++ #[])).run P E.w := rfl
  rw [e, callOK_run hok]
  congr 2
  apply Array.ext'
  simp
 refine wpList_plain rfl fun K hK => ?_
 simp only [Oper.wp, hrun, Oper.upon_enter]
 refine hc.mono ?_
 rintro e w' ⟨v, r, objs', rfl, hQ', hl', hcont⟩
 obtain ⟨⟨h1, h2, h3⟩, hk⟩ := k r objs' hQ' hl'
 obtain ⟨E'', RR'', hw, hI⟩ := hcont h1 h2 h3
 exact hK _ _ (hk G hn _ _ ⟨E'', RR'', hw, hI⟩)

end
end Go.AW
/- Part of the abstract walk: the rules in the forms that proofs use. -/
namespace Go.AW
open Go

section
variable {P : Program} {N : Frm} {st : St} {Q : Exit → St → Prop} {all : Array Oper} {rest : List Oper} {d : Nat} {ty : TypeId} {pos : String} {af : Array Edge}

theorem AWp.condT {c : Operand} {x y : Code} (hc : opd st c = some (.v (.bool true))) (h : AWp P N x st Q) : AWp P N (.cond c x y) st Q := AWp.cond hc (fun _ => h) (fun h => by cases h)
theorem AWp.condF {c : Operand} {x y : Code} (hc : opd st c = some (.v (.bool false))) (h : AWp P N y st Q) : AWp P N (.cond c x y) st Q := AWp.cond hc (fun h => by cases h) (fun _ => h)

section ints
variable {dst : Option Nat} {g : Option (Nat × Bool)} {t t' : TypeId} {x y : Operand} {a b : Int}
theorem Y.addI (hx : opd st x = some (.v (.int .i64 a))) (hy : opd st y = some (.v (.int .i64 b))) (hr : -9223372036854775808 ≤ a + b ∧ a + b ≤ 9223372036854775807) : Yields P N st ⟨dst, .binOp .add t x y t', ty, pos, af, g⟩ (.v (.int .i64 (a + b))) :=
 Y.add hx hy (IntWalk.i64_in _ hr)
theorem Y.subI (hx : opd st x = some (.v (.int .i64 a))) (hy : opd st y = some (.v (.int .i64 b))) (hr : -9223372036854775808 ≤ a - b ∧ a - b ≤ 9223372036854775807) : Yields P N st ⟨dst, .binOp .sub t x y t', ty, pos, af, g⟩ (.v (.int .i64 (a - b))) :=
 Y.sub hx hy (IntWalk.i64_in _ hr)
theorem Y.mulI (hx : opd st x = some (.v (.int .i64 a))) (hy : opd st y = some (.v (.int .i64 b))) (hr : -9223372036854775808 ≤ a * b ∧ a * b ≤ 9223372036854775807) : Yields P N st ⟨dst, .binOp .mul t x y t', ty, pos, af, g⟩ (.v (.int .i64 (a * b))) :=
 Y.mul hx hy (IntWalk.i64_in _ hr)
theorem Y.quoI (hx : opd st x = some (.v (.int .i64 a))) (hy : opd st y = some (.v (.int .i64 b))) (hr : 0 ≤ a ∧ a ≤ 9223372036854775807 ∧ 1 ≤ b) : Yields P N st ⟨dst, .binOp .quo t x y t', ty, pos, af, g⟩ (.v (.int .i64 (a / b))) :=
 Y.quo hx hy om (IntWalk.i64_quo a b hr)
theorem Y.remI {k : IntKind} (hx : opd st x = some (.v (.int k a))) (hy : opd st y = some (.v (.int k b))) (hr : 0 ≤ a ∧ 1 ≤ b) : Yields P N st ⟨dst, .binOp .rem t x y t', ty, pos, af, g⟩ (.v (.int k (a % b))) :=
 Y.rem hx hy om (IntWalk.rem_in a b hr.1)
end ints

theorem killM_nil (x : X) : killM [] x = x := rfl
theorem callSt_nil (st : St) : callSt st [] [] [] = st := by
 have h1 : ∀ (l : List (Nat × X)), l.map (fun p => (p.1, AW.killM [] p.2)) = l := by
  intro l
  induction l with
  | nil => rfl
  | cons p r ih => simp [killM_nil]
 have h2 : ∀ ob : Obj, ob.killM [] = ob := by
  intro ob
  cases ob with
  | cells xs =>
   have : xs.map (AW.killM []) = xs := by
    induction xs with
    | nil => rfl
    | cons x r ih => simp [ih, killM_nil]
   simp [Obj.killM, this]
  | rows => rfl
  | tab => rfl
  | gone => rfl
 have h3 : ∀ (l : List (Nat × Obj)), l.map (fun p => (p.1, p.2.killM [])) = l := by
  intro l
  induction l with
  | nil => rfl
  | cons p r ih => simp [h2]
 cases st
 simp [callSt, St.killM, loose, enumF, h1, h3]

def ObjsAt (st : St) (ν : Nat → Nat) : Nat → List Obj → Prop
 | _, [] => True
 | j, ob :: r => look st.objs (ν j) = some (ob.ren ν) ∧ ObjsAt st ν (j + 1) r

theorem ObjsAt.get {ν : Nat → Nat} : ∀ {objs : List Obj} {i : Nat}, ObjsAt st ν i objs → ∀ j ob, objs[j]? = some ob → look st.objs (ν (i + j)) = some (ob.ren ν)
 | [], _, _, _, _, h => by simp at h
 | o :: r, i, h, j, ob, hj => by
  simp only [ObjsAt] at h
  cases j with
  | zero => simp at hj; subst hj; simpa using h.1
  | succ j =>
   have := ObjsAt.get h.2 j ob (by simpa using hj)
   rw [show i + (j + 1) = i + 1 + j by omega]; exact this

theorem AOps.callV {f : FuncId} {fargs : Array Operand} {ats : Array TypeId} {xs args : List X} {Q' : X → List Obj → Prop} (hok : callOK P f = true) (hspec : ACalls P f args [] [] Q')
  (hxs : opds st fargs.toList = some xs) (hargs : LentL st [] (nameF []) xs args) (hd : d < N.n)
  (k : ∀ r, Q' r [] → r.lt 0 = true ∧ AOps P N all rest (st.put d (r.ren (nameF []))) Q) :
  AOps P N all (⟨some d, .call ⟨.value (.func f), fargs, ats⟩, ty, pos, af, none⟩ :: rest) st Q := by
 refine AOps.call [] [] hok hspec hxs hargs (fun j ob h => by simp at h) rfl List.nodup_nil (fun _ h => by cases h) (fun _ h => by cases h) (fun _ h => by cases h) hd ?_
 intro r objs' hq hl
 have : objs' = [] := List.eq_nil_of_length_eq_zero hl
 subst this
 obtain ⟨h1, h2⟩ := k r hq
 refine ⟨⟨h1, fun _ h => (by cases h), .inl rfl⟩, ?_⟩
 rw [callSt_nil]; exact h2

theorem AOps.callR {f : FuncId} {fargs : Array Operand} {ats : Array TypeId} {xs args : List X} {R R' : X} (hok : callOK P f = true) (hspec : ACalls P f args [] [] (fun r o => r = R ∧ o = []))
  (hxs : opds st fargs.toList = some xs) (hargs : LentL st [] (nameF []) xs args) (hd : d < N.n) (hlt : R.lt 0 = true) (hR : R.ren (nameF []) = R')
  (k : AOps P N all rest (st.put d R') Q) : AOps P N all (⟨some d, .call ⟨.value (.func f), fargs, ats⟩, ty, pos, af, none⟩ :: rest) st Q := by
 refine AOps.callV hok hspec hxs hargs hd ?_
 rintro r ⟨rfl, _⟩
 rw [hR]; exact ⟨hlt, k⟩

theorem AOps.callL {f : FuncId} {fargs : Array Operand} {ats : Array TypeId} {xs args : List X} {R R' : X} (L : List Nat) (hok : callOK P f = true) (hspec : ACalls P f args [] [] (fun r o => r = R ∧ o = []))
  (hxs : opds st fargs.toList = some xs) (hargs : LentL st L (nameF []) xs args) (h0 : ∀ o ∈ L, ∃ ob, look st.objs o = some ob ∧ Owns0 ob) (hd : d < N.n) (hlt : R.lt 0 = true) (hR : R.ren (nameF []) = R') (hp : R.plain)
  (k : AOps P N all rest (st.put d R') Q) : AOps P N all (⟨some d, .call ⟨.value (.func f), fargs, ats⟩, ty, pos, af, none⟩ :: rest) st Q := by
 refine AOps.call [] L hok hspec hxs hargs (fun j ob h => by simp at h) rfl List.nodup_nil (fun _ _ h => by cases h) h0 (fun _ h => by cases h) hd ?_
 rintro r objs' ⟨rfl, rfl⟩ hl
 refine ⟨⟨hlt, fun _ h => (by cases h), .inr ⟨hp, fun _ h => (by cases h)⟩⟩, ?_⟩
 rw [callSt_nil, hR]; exact k

theorem AOps.callO {f : FuncId} {fargs : Array Operand} {ats : Array TypeId} {xs args : List X} {objs : List Obj} {F : List Nat} {Q' : X → List Obj → Prop} (ν L : List Nat) (hok : callOK P f = true) (hspec : ACalls P f args objs F Q')
  (hxs : opds st fargs.toList = some xs) (hargs : LentL st L (nameF ν) xs args) (hobjs : ObjsAt st (nameF ν) 0 objs) (hlen : ν.length = objs.length) (hνn : ν.Nodup) (hLν : ∀ o ∈ L, o ∉ ν)
  (h0 : ∀ o ∈ L, ∃ ob, look st.objs o = some ob ∧ Owns0 ob) (hNF : ∀ o ∈ loose ν F, N.F.elem o = false) (hd : d < N.n)
  (k : ∀ r objs', Q' r objs' → objs'.length = objs.length → (r.lt objs.length = true ∧ (∀ ob ∈ objs', ob.lt objs.length = true) ∧ (L = [] ∨ (r.plain ∧ ∀ ob ∈ objs', ob.plain))) ∧ AOps P N all rest ((callSt st ν F objs').put d (r.ren (nameF ν))) Q) :
  AOps P N all (⟨some d, .call ⟨.value (.func f), fargs, ats⟩, ty, pos, af, none⟩ :: rest) st Q :=
 AOps.call ν L hok hspec hxs hargs (fun j ob h => by have := hobjs.get j ob h; rwa [Nat.zero_add] at this) hlen hνn hLν h0 hNF hd k

theorem owns_map {α : Type} {s : Nat} {f : α → List X} {l : List α} (h : ∀ a, X.frees (f a) = true) : Owns0 (.rows s (l.map f)) := by
 intro r hr
 obtain ⟨a, _, rfl⟩ := List.mem_map.1 hr
 exact h a

end
end Go.AW
/- Part of the abstract walk: regions whose order is open. -/
namespace Go.AW
open Go

section
variable {P : Program} {N : Frm} {st : St} {Q : Exit → St → Prop} {K : St → Prop} {all : Array Oper} {rest : List Oper} {d : Nat} {ty : TypeId} {pos : String} {af : Array Edge}

def AHead (P : Program) (N : Frm) (all : Array Oper) (l : List Oper) (st : St) (K : St → Prop) : Prop :=
 ∀ G : Ctx, G.fn = N → ∀ a w, Holds G st a w → wpStill P all w (fun a' => ∃ st', K st' ∧ Holds G st' a' w) l a

theorem Holds.drew {G : Ctx} {a : Act} {w : World} (h : Holds G st a w) : Holds G st a { w with drawn := w.drawn + 1 } := by
 obtain ⟨E, RR, rfl, hi⟩ := h
 exact ⟨{ E with w := E.w.drew }, RR, rfl, hi.moves (Moves.drew G E) rfl⟩

theorem AHead.nil (h : K st) : AHead P N all [] st K := fun _ _ _ _ hh => ⟨st, h, hh⟩

theorem AHead.val {op : Op} {x : X} (hy : Yields P N st ⟨some d, op, ty, pos, af, none⟩ x) (hd : d < N.n) (k : AHead P N all rest (st.put d x) K) : AHead P N all (⟨some d, op, ty, pos, af, none⟩ :: rest) st K := by
 intro G hn a w hh
 obtain ⟨E, RR, rfl, hi⟩ := hh
 obtain ⟨u, hr, hx⟩ := hy G E RR a hn hi
 unfold wpStill
 rw [if_pos (by simp [Region.wanted])]
 simp only [Oper.still, hr, Oper.stillUpon_value]
 exact k G hn _ _ ⟨E, _, rfl, hi.put0 (hn ▸ hd) hx⟩

theorem AHead.split {b : Bool} (hx : look st.slots d = some (.v (.bool b))) (ht : b = true → AHead P N all rest (st.put d (.v (.bool true))) K) (hf : b = false → AHead P N all rest (st.put d (.v (.bool false))) K) : AHead P N all rest st K := by
 have : Le st (st.put d (.v (.bool b))) := ⟨SubL.cons hx (fun _ _ h => h), fun _ _ h => h⟩
 intro G hn a w hh
 cases b
 ·exact hf rfl G hn a w (this.holds hh)
 ·exact ht rfl G hn a w (this.holds hh)

theorem tmps_bool {G : Ctx} {E : Env} {RR : Own → List Nat} {a : Act} (hi : Inv G E RR st a) {b : Bool} (hd : d < G.fn.n) (hx : look st.slots d = some (.v (.bool b))) : a.tmps[d]? = some (.bool b) := by
 have hs := hi.slots d _ hx
 simp only [RX] at hs
 have hsz : d < a.tmps.size := by rw [hi.tmps]; exact hd
 have := hs.1
 simp only [Array.getD, hsz, dif_pos] at this
 rw [Array.getElem?_eq_getElem hsz]
 exact congrArg some this

theorem AHead.guardRun {dst : Option Nat} {op : Op} {j : Nat} {want : Bool} (hj : (all[j]?).bind (·.dst) = some d) (hd : d < N.n) (hx : look st.slots d = some (.v (.bool want)))
  (k : AHead P N all (⟨dst, op, ty, pos, af, none⟩ :: rest) st K) : AHead P N all (⟨dst, op, ty, pos, af, some (j, want)⟩ :: rest) st K := by
 intro G hn a w hh
 have hk := k G hn a w hh
 obtain ⟨E, RR, rfl, hi⟩ := hh
 have hv := tmps_bool hi (by rw [hn]; exact hd) hx
 have hw : Region.wanted ⟨dst, op, ty, pos, af, some (j, want)⟩ (yielded all a.tmps) = true := by
  simp [Region.wanted, yielded, hj, hv]
 unfold wpStill at hk ⊢
 rw [if_pos hw]
 rw [if_pos (by simp [Region.wanted])] at hk
 exact hk

theorem AWp.regionT {id : Nat} {l : List Oper} (n : Nat) (hm : P.follows .mixedOrders = true) (hB : Region.lexTailB .any l.toArray n = true)
  (h : AHead P N l.toArray (l.take n) st (fun st' => AOps P N l.toArray (l.drop n) st' Q)) : AWp P N (.region id l.toArray true) st Q := by
 intro G hn a w hh
 refine wp_region_still_tail n hm hB ?_
 have h1 := h G hn a _ hh.drew
 have mono : ∀ (l' : List Oper) (a : Act) {w : World} {K1 K2 : Act → Prop}, (∀ a, K1 a → K2 a) → wpStill P l.toArray w K1 l' a → wpStill P l.toArray w K2 l' a := by
  intro l'
  induction l' with
  | nil => intro a w K1 K2 hk h; exact hk _ h
  | cons o r ih =>
   intro a w K1 K2 hk h
   unfold wpStill at h ⊢
   split
   ·rename_i hw; rw [if_pos hw] at h; exact Oper.still_mono (fun a' h' => ih a' hk h') h
   ·rename_i hw; rw [if_neg hw] at h; exact ih _ hk h
 exact mono _ _ (fun a' ⟨st', hk, hh'⟩ => hk G hn a' _ hh') h1

theorem AWp.regionS {id : Nat} {l : List Oper} (hm : P.follows .mixedOrders = true) (hB : Region.lexB .any l.toArray = true)
  (h : AHead P N l.toArray l st (fun st' => Q .normal st')) : AWp P N (.region id l.toArray true) st Q := by
 intro G hn a w hh
 refine wp_region_still_lit hm hB ?_
 have h1 := h G hn a _ hh.drew
 have mono : ∀ (l' : List Oper) (a : Act) {w : World} {K1 K2 : Act → Prop}, (∀ a, K1 a → K2 a) → wpStill P l.toArray w K1 l' a → wpStill P l.toArray w K2 l' a := by
  intro l'
  induction l' with
  | nil => intro a w K1 K2 hk h; exact hk _ h
  | cons o r ih =>
   intro a w K1 K2 hk h
   unfold wpStill at h ⊢
   split
   ·rename_i hw; rw [if_pos hw] at h; exact Oper.still_mono (fun a' h' => ih a' hk h') h
   ·rename_i hw; rw [if_neg hw] at h; exact ih _ hk h
 exact mono _ _ (fun a' ⟨st', hk, hh'⟩ => ⟨st', hh', hk⟩) h1

end
end Go.AW
/- Part of the abstract walk: decided tests, meeting points, and slices that are written no more. -/
namespace Go.AW
open Go

section
variable {P : Program} {N : Frm} {st st' : St} {Q : Exit → St → Prop} {K : St → Prop} {all : Array Oper} {rest : List Oper} {d : Nat} {ty : TypeId} {pos : String} {af : Array Edge}

theorem AWp.condD {c : Operand} {x y : Code} {p : Prop} {inst : Decidable p} (hc : opd st c = some (.v (.bool (decide p)))) (ht : p → AWp P N x st Q) (hf : ¬ p → AWp P N y st Q) :
  AWp P N (.cond c x y) st Q := AWp.cond hc (fun h => ht (of_decide_eq_true h)) (fun h => hf (of_decide_eq_false h))

theorem Le.test {b : Bool} (hx : look st.slots d = some (.v (.bool b))) : Le st (st.put d (.v (.bool b))) := ⟨SubL.cons hx (fun _ _ h => h), fun _ _ h => h⟩

theorem AWp.condK {x y : Code} {b : Bool} (hc : look st.slots d = some (.v (.bool b))) (ht : b = true → AWp P N x (st.put d (.v (.bool true))) Q) (hf : b = false → AWp P N y (st.put d (.v (.bool false))) Q) :
  AWp P N (.cond (.tmp d) x y) st Q := by
 refine AWp.cond (b := b) hc (fun h => ?_) (fun h => ?_)
 ·subst h; exact (ht rfl).le (Le.test hc)
 ·subst h; exact (hf rfl).le (Le.test hc)
theorem AWp.condKD {x y : Code} {p : Prop} {inst : Decidable p} (hc : look st.slots d = some (.v (.bool (decide p)))) (ht : p → AWp P N x (st.put d (.v (.bool true))) Q) (hf : ¬ p → AWp P N y (st.put d (.v (.bool false))) Q) :
  AWp P N (.cond (.tmp d) x y) st Q := AWp.condK hc (fun h => ht (of_decide_eq_true h)) (fun h => hf (of_decide_eq_false h))

theorem AOps.splitD {p : Prop} {inst : Decidable p} (hx : look st.slots d = some (.v (.bool (decide p))))
  (ht : p → AOps P N all rest (st.put d (.v (.bool true))) Q) (hf : ¬ p → AOps P N all rest (st.put d (.v (.bool false))) Q) : AOps P N all rest st Q :=
 AOps.split hx (fun h => ht (of_decide_eq_true h)) (fun h => hf (of_decide_eq_false h))
theorem AHead.splitD {p : Prop} {inst : Decidable p} (hx : look st.slots d = some (.v (.bool (decide p))))
  (ht : p → AHead P N all rest (st.put d (.v (.bool true))) K) (hf : ¬ p → AHead P N all rest (st.put d (.v (.bool false))) K) : AHead P N all rest st K :=
 AHead.split hx (fun h => ht (of_decide_eq_true h)) (fun h => hf (of_decide_eq_false h))

theorem AWp.join {x y : Code} {ι : Type} (J : ι → St) (I : ι → Prop) (hx : AWp P N x st (Then (fun st' => ∃ i, I i ∧ Le st' (J i)) Q)) (hy : ∀ i, I i → AWp P N y (J i) Q) : AWp P N (.seq x y) st Q := by
 refine AWp.seq (hx.mono ?_)
 intro e st1 h
 cases e with
 | normal => obtain ⟨i, hI, hle⟩ := h; exact (hy i hI).le hle
 | _ => exact h

theorem LentL.keep {L : List Nat} {ν : Nat → Nat} {x : X} {xs ys : List X} (h : x.free = true) (he : x.ren ν = x) (hs : LentL st L ν xs ys) : LentL st L ν (x :: xs) (x :: ys) := by
 have := Lent.same (st := st) (L := L) (ν := ν) h
 rw [he] at this
 exact .cons this hs

def Frees (rs : List (List X)) : Prop := ∀ r ∈ rs, X.frees r = true
theorem Frees.map {α : Type} {f : α → List X} {l : List α} (h : ∀ a, X.frees (f a) = true) : Frees (l.map f) := by
 intro r hr
 obtain ⟨a, _, rfl⟩ := List.mem_map.1 hr
 exact h a
theorem plainr_map {α : Type} {f : α → List X} (h : ∀ a, X.plains (f a)) : ∀ l : List α, X.plainr (l.map f)
 | [] => by simp [X.plainr]
 | a :: r => by simp only [List.map_cons, X.plainr]; exact ⟨h a, plainr_map h r⟩

theorem Sh.freeze {s : Nat} {rows : List (List X)} (hx : look st.slots d = some (.uni s rows)) (hf : Frees rows) : Sh N st (st.put d (.fz s rows)) := by
 intro G hn a w hh
 obtain ⟨E, RR, rfl, hi⟩ := hh
 have hv := hi.slots d _ hx
 have hnd := hi.nodup (.slot d)
 simp only [RX] at hv
 obtain ⟨hu, base, cap, hc, hcase⟩ := hv
 rcases hcase with ⟨h1, h2, h3⟩ | ⟨b, off, cs, ty, R', hb, hw, hl, ho, hφ, hRO, hRR⟩
 ·refine ⟨E, _, rfl, hi.relabel (d := d) (R := []) ?_ List.nodup_nil (fun _ h => by cases h)⟩
  simp only [RX]
  exact ⟨trivial, hu, base, cap, hc, .inl ⟨h1, h2⟩⟩
 ·have hR0 := ROr.free hf hRO
  subst hR0
  have hbm : b ∈ RR (.slot d) := by rw [hRR]; simp
  have hi2 := hi.no d
  have hle : ∀ c i v, E.φ c i = some v → (if c = b then cs[i]? else E.φ c i) = some v := by
   intro c i v h
   by_cases hcb : c = b
   ·subst hcb; rw [hφ i] at h; cases h
   ·rw [if_neg hcb]; exact h
  have hon : ∀ R : List Nat, b ∉ R → E.On { E with φ := fun c i => if c = b then cs[i]? else E.φ c i } R := by
   intro R hbR
   refine ⟨hle, fun c hc' => ⟨rfl, fun h i => ?_⟩⟩
   have : c ≠ b := fun e => hbR (e ▸ hc')
   show (if c = b then cs[i]? else E.φ c i) = none
   rw [if_neg this]; exact h i
  have hnb : ∀ p, b ∉ upd RR (.slot d) [] p := by
   intro p hp
   unfold upd at hp
   split at hp
   ·cases hp
   ·rename_i h; exact hi.apart _ _ h b hp hbm
  have hi3 : Inv G { E with φ := fun c i => if c = b then cs[i]? else E.φ c i } (upd RR (.slot d) []) (st.put d .no) a :=
   {hi2 with
    frz := by
     intro c i v h
     change (if c = b then cs[i]? else E.φ c i) = some v at h
     by_cases hcb : c = b
     ·subst hcb; rw [if_pos rfl] at h
      show E.w.cell? _ = _
      rw [cell_of_heap hw]; exact h
     ·rw [if_neg hcb] at h; exact hi.frz c i v h
    slots := fun q x hx => RX.mono x _ _ (hon _ (hnb _)) (fun _ _ => rfl) (hi2.slots q x hx)
    objs := fun o ob hob => ROb.mono (hon _ (hnb _)) rfl (fun _ _ _ _ => rfl) (hi2.objs o ob hob)
    φ0 := fun c i v h => hle c i v (hi.φ0 c i v h)
    grow := by
     intro c i v h
     change (if c = b then cs[i]? else E.φ c i) = some v at h
     by_cases hcb : c = b
     ·subst hcb; exact .inr (hi.own _ _ hbm).2
     ·rw [if_neg hcb] at h; exact hi.grow c i v h }
  have h4 := hi3.relabel (d := d) (x := .fz s rows) (R := []) (by
   simp only [RX]
   refine ⟨trivial, hu, base, cap, hc, .inr ⟨b, off, hb, hl, ?_⟩⟩
   refine ROr.freeze (E := E) (fun i v h => ?_) hle hRO
   show (if b = b then cs[i]? else E.φ b i) = some v
   rw [if_pos rfl]; exact h) List.nodup_nil (fun _ h => by cases h)
  refine ⟨{ E with φ := fun c i => if c = b then cs[i]? else E.φ c i }, upd (upd RR (.slot d) []) (.slot d) [], rfl, { h4 with slots := fun q x hx => ?_, objs := h4.objs }⟩
  refine h4.slots q x ?_
  simp only [St.put, look] at hx ⊢
  cases hq : Nat.beq d q with
  | true => rw [hq] at hx; simpa using hx
  | false => rw [hq] at hx; simpa using hx

end
end Go.AW
/- Part of the abstract walk: whatever a slot owns is written no more. -/
namespace Go.AW
open Go

mutual
def X.ffz : X → X
 | .uni s rows => .fz s (X.ffzr rows)
 | .agg xs => .agg (X.ffzs xs)
 | .tup xs => .tup (X.ffzs xs)
 | .v u => .v u
 | .no => .no
 | .fz s rows => .fz s rows
 | .ptr o s i k => .ptr o s i k
 | .slc o s lo n => .slc o s lo n
 | .mref o => .mref o
 | .fp row k => .fp row k
 | .clo f a b => .clo f a b
def X.ffzs : List X → List X
 | [] => []
 | x :: r => x.ffz :: X.ffzs r
def X.ffzr : List (List X) → List (List X)
 | [] => []
 | r :: rs => X.ffzs r :: X.ffzr rs
end

theorem X.ffzs_length : ∀ xs : List X, (X.ffzs xs).length = xs.length
 | [] => rfl
 | _ :: r => by simp [X.ffzs, X.ffzs_length r]
theorem X.ffzr_length : ∀ rs : List (List X), (X.ffzr rs).length = rs.length
 | [] => rfl
 | _ :: r => by simp [X.ffzr, X.ffzr_length r]
theorem Uniform.ffzr {s : Nat} : ∀ {rs : List (List X)}, Uniform s rs → Uniform s (X.ffzr rs)
 | [], _ => fun _ h => by cases h
 | r :: rs, h => by
  intro q hq
  simp only [X.ffzr, List.mem_cons] at hq
  rcases hq with rfl | hq
  ·rw [X.ffzs_length]; exact h r (by simp)
  ·exact Uniform.ffzr (fun q hq => h q (by simp [hq])) q hq

mutual
theorem X.ffz_free : ∀ {x : X}, x.free = true → x.ffz = x
 | .v _, _ | .no, _ | .fz .., _ | .ptr .., _ | .slc .., _ | .mref _, _ | .fp .., _ | .clo .., _ => rfl
 | .uni .., h => by cases h
 | .agg xs, h => by simp only [X.ffz]; rw [X.ffzs_frees (xs := xs) h]
 | .tup xs, h => by simp only [X.ffz]; rw [X.ffzs_frees (xs := xs) h]
theorem X.ffzs_frees : ∀ {xs : List X}, X.frees xs = true → X.ffzs xs = xs
 | [], _ => rfl
 | x :: r, h => by
  simp only [X.frees, Bool.and_eq_true] at h
  simp only [X.ffzs]
  rw [X.ffz_free h.1, X.ffzs_frees h.2]
end
theorem X.ffzr_frees : ∀ {rs : List (List X)}, Frees rs → X.ffzr rs = rs
 | [], _ => rfl
 | r :: rs, h => by
  simp only [X.ffzr]
  rw [X.ffzs_frees (h r (by simp)), X.ffzr_frees (fun q hq => h q (by simp [hq]))]

mutual
theorem X.ffz_nr : ∀ {x : X}, x.nr = true → x.ffz.nr = true
 | .v _, _ | .no, _ | .fz .., _ | .fp .., _ => rfl
 | .uni .., _ => rfl
 | .agg xs, h => X.ffzs_nr (xs := xs) h
 | .tup xs, h => X.ffzs_nr (xs := xs) h
 | .clo .., h => h
 | .ptr .., h => h
 | .slc .., h => h
 | .mref _, h => h
theorem X.ffzs_nr : ∀ {xs : List X}, X.nrs xs = true → X.nrs (X.ffzs xs) = true
 | [], _ => rfl
 | x :: r, h => by
  simp only [X.nrs, Bool.and_eq_true] at h
  simp only [X.ffzs, X.nrs, Bool.and_eq_true]
  exact ⟨X.ffz_nr h.1, X.ffzs_nr h.2⟩
end

def Env.Fzs (E E' : Env) (R : List Nat) : Prop :=
 E'.w = E.w ∧ E'.β = E.β ∧ (∀ c i v, E.φ c i = some v → E'.φ c i = some v) ∧ ∀ b ∈ R, ∀ i v, E.w.cell? ⟨b, i, none⟩ = some v → E'.φ b i = some v
theorem Env.Fzs.sub {E E' : Env} {R R' : List Nat} (h : E.Fzs E' R) (hs : ∀ b ∈ R', b ∈ R) : E.Fzs E' R' := ⟨h.1, h.2.1, h.2.2.1, fun b hb => h.2.2.2 b (hs b hb)⟩
theorem Env.Fzs.on {E E' : Env} {R : List Nat} (h : E.Fzs E' R) : E.On E' [] := ⟨h.2.2.1, fun _ h => by cases h⟩

mutual
theorem RX.ffz {E E' : Env} : ∀ (x : X) (c : Value) (R : List Nat), E.Fzs E' R → RX E x c R → RX E' x.ffz c []
 | .v u, c, R, hE, h => by simp only [RX, X.ffz] at h ⊢; exact ⟨h.1, trivial⟩
 | .no, c, R, hE, h => by simp only [RX, X.ffz]
 | .fz s rows, c, R, hE, h => by
  have h0 : R = [] := by simp only [RX] at h; exact h.1
  subst h0; exact RX.mono _ _ _ hE.on (fun _ _ => by rw [hE.2.1]) h
 | .ptr o s i k, c, R, hE, h => by
  have h0 : R = [] := by simp only [RX] at h; exact h.1
  subst h0; exact RX.mono _ _ _ hE.on (fun _ _ => by rw [hE.2.1]) h
 | .slc o s lo n, c, R, hE, h => by
  have h0 : R = [] := by simp only [RX] at h; exact h.1
  subst h0; exact RX.mono _ _ _ hE.on (fun _ _ => by rw [hE.2.1]) h
 | .mref o, c, R, hE, h => by
  have h0 : R = [] := by simp only [RX] at h; exact h.1
  subst h0; exact RX.mono _ _ _ hE.on (fun _ _ => by rw [hE.2.1]) h
 | .fp row k, c, R, hE, h => by
  have h0 : R = [] := by simp only [RX] at h; exact h.1
  subst h0; exact RX.mono _ _ _ hE.on (fun _ _ => by rw [hE.2.1]) h
 | .clo fn a b, c, R, hE, h => by
  have h0 : R = [] := by simp only [RX] at h; exact h.1
  subst h0; exact RX.mono _ _ _ hE.on (fun _ _ => by rw [hE.2.1]) h
 | .uni s rows, c, R, hE, h => by
  simp only [RX, X.ffz] at h ⊢
  obtain ⟨hu, base, cap, hc, hh⟩ := h
  refine ⟨trivial, hu.ffzr, base, cap, by rw [X.ffzr_length]; exact hc, ?_⟩
  rcases hh with ⟨h1, h2, h3⟩ | ⟨b, off, cs, ty, R', hb, hw, hl, ho, hφ, hr, hR⟩
  ·subst h1; exact .inl ⟨rfl, h2⟩
  ·subst hR
   refine .inr ⟨b, off, hb, by rw [X.ffzr_length]; exact hl, ?_⟩
   exact ROr.ffz rows cs b off R' (fun i v hi => hE.2.2.2 b (by simp) i v (by rw [cell_of_heap hw]; exact hi)) (hE.sub (fun _ h => by simp [h])) hr
 | .agg xs, c, R, hE, h => by
  simp only [RX, X.ffz] at h ⊢
  obtain ⟨cs, hc, hs⟩ := h
  exact ⟨cs, hc, RXs.ffz xs _ R hE hs⟩
 | .tup xs, c, R, hE, h => by
  simp only [RX, X.ffz] at h ⊢
  obtain ⟨cs, hc, hs⟩ := h
  exact ⟨cs, hc, RXt.ffz xs _ R hE hs⟩
theorem RXs.ffz {E E' : Env} : ∀ (xs : List X) (cs : List Value) (R : List Nat), E.Fzs E' R → RXs E xs cs R → RXs E' (X.ffzs xs) cs []
 | [], cs, R, _, h => by simp only [RXs, X.ffzs] at h ⊢; exact ⟨h.1, trivial⟩
 | x :: r, cs, R, hE, h => by
  simp only [RXs, X.ffzs] at h ⊢
  obtain ⟨c, cs', R₁, R₂, hc, hs, h1, h2, hR⟩ := h
  subst hR
  exact ⟨c, cs', [], [], hc, hs, RX.ffz x c R₁ (hE.sub (fun _ h => mem_app_l h)) h1, RXs.ffz r cs' R₂ (hE.sub (fun _ h => mem_app_r h)) h2, rfl⟩
theorem RXt.ffz {E E' : Env} : ∀ (xs : List X) (cs : List Value) (R : List Nat), E.Fzs E' R → RXt E xs cs R → RXt E' (X.ffzs xs) cs []
 | [], cs, R, _, h => by simp only [RXt, X.ffzs] at h ⊢; exact ⟨h.1, trivial⟩
 | x :: r, cs, R, hE, h => by
  simp only [RXt, X.ffzs] at h ⊢
  obtain ⟨c, cs', R₁, R₂, hc, h1, h2, hR⟩ := h
  subst hR
  exact ⟨c, cs', [], [], hc, RX.ffz x c R₁ (hE.sub (fun _ h => mem_app_l h)) h1, RXt.ffz r cs' R₂ (hE.sub (fun _ h => mem_app_r h)) h2, rfl⟩
theorem RO.ffz {E E' : Env} : ∀ (xs : List X) (cs : Array Value) (b off : Nat) (R : List Nat), (∀ i v, cs[i]? = some v → E'.φ b i = some v) → E.Fzs E' R → X.nrs xs = true → RO E xs cs off R → RF E' (X.ffzs xs) b off
 | [], _, _, _, _, _, _, _, _ => by simp [RF, X.ffzs]
 | x :: r, cs, b, off, R, hb, hE, hn, h => by
  simp only [RO] at h
  obtain ⟨u, R₁, R₂, hu, hs, hx, hr, hR⟩ := h
  subst hR
  simp only [X.nrs, Bool.and_eq_true] at hn
  simp only [X.ffzs, RF]
  exact ⟨⟨u, hb _ _ hu, hs, X.ffz_nr hn.1, RX.ffz x u R₁ (hE.sub (fun _ h => mem_app_l h)) hx⟩, RO.ffz r cs b (off + 1) R₂ hb (hE.sub (fun _ h => mem_app_r h)) hn.2 hr⟩
theorem ROr.ffz {E E' : Env} : ∀ (rs : List (List X)) (cs : Array Value) (b off : Nat) (R : List Nat), (∀ i v, cs[i]? = some v → E'.φ b i = some v) → E.Fzs E' R → ROr E rs cs off R → RFr E' (X.ffzr rs) b off
 | [], _, _, _, _, _, _, _ => by simp [RFr, X.ffzr]
 | r :: rs, cs, b, off, R, hb, hE, h => by
  simp only [ROr] at h
  obtain ⟨R₁, R₂, hn, hx, hr, hR⟩ := h
  subst hR
  simp only [X.ffzr, RFr]
  refine ⟨RO.ffz r cs b off R₁ hb (hE.sub (fun _ h => mem_app_l h)) hn hx, ?_⟩
  rw [X.ffzs_length]
  exact ROr.ffz rs cs b _ R₂ hb (hE.sub (fun _ h => mem_app_r h)) hr
end

section
variable {N : Frm} {st : St} {d : Nat}
theorem Sh.freezeX {x y : X} (hx : look st.slots d = some x) (he : x.ffz = y) : Sh N st (st.put d y) := by
 intro G hn a w hh
 obtain ⟨E, RR, rfl, hi⟩ := hh
 have hv := hi.slots d _ hx
 have hi2 := hi.no d
 have hRn : ∀ p, ∀ b ∈ upd RR (.slot d) [] p, b ∉ RR (.slot d) := by
  intro p b hp hb
  unfold upd at hp
  split at hp
  ·cases hp
  ·rename_i h; exact hi.apart _ _ h b hp hb
 -- what is frozen already is in no owned block
 have hle : ∀ c i v, E.φ c i = some v → (E.lend (fun b => b ∈ RR (.slot d))).φ c i = some v := by
  intro c i v h
  by_cases hc : c ∈ RR (.slot d)
  ·rw [lend_in E (LB := fun b => b ∈ RR (.slot d)) hc]; exact hi.frz c i v h
  ·rw [lend_out E (LB := fun b => b ∈ RR (.slot d)) hc]; exact h
 have hon : ∀ p, E.On (E.lend (fun b => b ∈ RR (.slot d))) (upd RR (.slot d) [] p) := by
  intro p
  refine ⟨hle, fun c hc => ⟨rfl, fun h i => ?_⟩⟩
  rw [lend_out E (LB := fun b => b ∈ RR (.slot d)) (hRn p c hc)]; exact h i
 have hf : E.Fzs (E.lend (fun b => b ∈ RR (.slot d))) (RR (.slot d)) :=
  ⟨rfl, rfl, hle, fun b hb i v h => by rw [lend_in E (LB := fun b => b ∈ RR (.slot d)) hb]; exact h⟩
 have hi3 : Inv G (E.lend (fun b => b ∈ RR (.slot d))) (upd RR (.slot d) []) (st.put d .no) a :=
  {hi2 with
   frz := by
    intro c i v h
    by_cases hc : c ∈ RR (.slot d)
    ·rw [lend_in E (LB := fun b => b ∈ RR (.slot d)) hc] at h; exact h
    ·rw [lend_out E (LB := fun b => b ∈ RR (.slot d)) hc] at h; exact hi.frz c i v h
   slots := fun q x hx => RX.mono x _ _ (hon _) (fun _ _ => rfl) (hi2.slots q x hx)
   objs := fun o ob hob => ROb.mono (hon _) rfl (fun _ _ _ _ => rfl) (hi2.objs o ob hob)
   φ0 := fun c i v h => hle c i v (hi.φ0 c i v h)
   grow := by
    intro c i v h
    by_cases hc : c ∈ RR (.slot d)
    ·exact .inr (hi.own _ _ hc).2
    ·rw [lend_out E (LB := fun b => b ∈ RR (.slot d)) hc] at h; exact hi.grow c i v h }
 have h4 := hi3.relabel (d := d) (x := y) (R := []) (he ▸ RX.ffz x _ _ hf hv) List.nodup_nil (fun _ h => by cases h)
 refine ⟨E.lend (fun b => b ∈ RR (.slot d)), upd (upd RR (.slot d) []) (.slot d) [], rfl, { h4 with slots := fun q x hx => ?_, objs := h4.objs }⟩
 refine h4.slots q x ?_
 simp only [St.put, look] at hx ⊢
 cases hq : Nat.beq d q with
 | true => rw [hq] at hx; simpa using hx
 | false => rw [hq] at hx; simpa using hx
end
end Go.AW
/- Part of the abstract walk: stores and lists, in the forms that proofs use. -/
namespace Go.AW
open Go

section
variable {P : Program} {N : Frm} {st : St} {Q : Exit → St → Prop} {all : Array Oper} {rest : List Oper} {d : Nat} {ty : TypeId} {pos : String} {af : Array Edge}

theorem AOps.storeE {t : TypeId} {x y : Operand} {o s i k m : Nat} {v : X} {ys row : List X} {rs : List (List X)} (rs' : List (List X)) (ht : TY.size P t = some m) (hx : opd st x = some (.ptr o s i k)) (hy : opd st y = some v) (hfl : v.flat = some ys) (hf : X.frees ys = true)
  (hn : X.nrs ys = true) (hm : ys.length = m) (ho : look st.objs o = some (.rows s rs)) (hr : rs[i]? = some row) (hk : k + m ≤ row.length) (he : rs.set i (putL row k ys) = rs') (kk : AOps P N all rest (st.putO o (.rows s rs')) Q) :
  AOps P N all (⟨none, .store t x y, ty, pos, af, none⟩ :: rest) st Q := by
 subst he
 exact AOps.storeR ht hx hy hfl hf hn hm ho hr hk kk

theorem Sh.adoptN {s n : Nat} {rows : List (List X)} (o : Nat) (hx : look st.slots d = some (.uni s rows)) (hn : n = rows.length) (hF : N.F.elem o = false) : Sh N st (((st.kill o).putO o (.rows s rows)).put d (.slc o s 0 n)) := by
 subst hn; exact Sh.adopt o hx hF

theorem AOps.appendE {t e s by_ tv : Nat} {z : List Value} {x : Operand} {o lo n : Nat} {rs new : List (List X)} (rs' : List (List X)) (n' : Nat) (ht : TY.slice P t = some (e, s, by_)) (hz : TY.zero P e = some z) (hzl : Nat.beq z.length s = true)
  (hy : look st.slots tv = some (.uni s new)) (hx : opd (st.put tv .no) x = some (.slc o s lo n)) (ho : look st.objs o = some (.rows s rs)) (hln : lo + n ≤ rs.length)
  (he : ((rs.drop lo).take n) ++ new = rs') (hn' : n + new.length = n') (hb46 : n' * by_ ≤ 140737488355328) (h62 : n' ≤ 4611686018427387904) (hF : N.F.elem o = false) (hd : d < N.n)
  (k : AOps P N all rest (((((st.put tv .no).kill o).putO o (.rows s rs'))).put d (.slc o s 0 n')) Q) :
  AOps P N all (⟨some d, .call ⟨.builtin .append, #[x, .tmp tv], #[t, t]⟩, ty, pos, af, none⟩ :: rest) st Q := by
 subst he hn'
 exact AOps.append ht hz hzl hy hx ho hln hb46 h62 hF hd k
end

mutual
theorem X.ren_lt0 {ν : Nat → Nat} : ∀ {x : X}, x.lt 0 = true → x.ren ν = x
 | .v _, _ | .no, _ | .fz .., _ | .uni .., _ | .fp .., _ => rfl
 | .ptr o .., h => by simp [X.lt, Nat.blt] at h
 | .slc o .., h => by simp [X.lt, Nat.blt] at h
 | .mref o, h => by simp [X.lt, Nat.blt] at h
 | .agg xs, h => by simp only [X.ren]; rw [X.rens_lt0 (xs := xs) h]
 | .tup xs, h => by simp only [X.ren]; rw [X.rens_lt0 (xs := xs) h]
 | .clo f a b, h => by
  simp only [X.lt, Bool.and_eq_true] at h
  simp only [X.ren]; rw [X.rens_lt0 h.1, X.rens_lt0 h.2]
theorem X.rens_lt0 {ν : Nat → Nat} : ∀ {xs : List X}, X.lts 0 xs = true → X.rens ν xs = xs
 | [], _ => rfl
 | x :: r, h => by
  simp only [X.lts, Bool.and_eq_true] at h
  simp only [X.rens]; rw [X.ren_lt0 h.1, X.rens_lt0 h.2]
end

section
variable {P : Program} {N : Frm} {st : St} {Q : Exit → St → Prop} {all : Array Oper} {rest : List Oper} {d : Nat} {ty : TypeId} {pos : String} {af : Array Edge}
theorem AOps.callP {f : FuncId} {fargs : Array Operand} {ats : Array TypeId} {xs args : List X} {R : X} (hok : callOK P f = true) (hspec : ACalls P f args [] [] (fun r o => r = R ∧ o = []))
  (hxs : opds st fargs.toList = some xs) (hargs : LentL st [] (nameF []) xs args) (hd : d < N.n) (hlt : R.lt 0 = true)
  (k : AOps P N all rest (st.put d R) Q) : AOps P N all (⟨some d, .call ⟨.value (.func f), fargs, ats⟩, ty, pos, af, none⟩ :: rest) st Q :=
 AOps.callR hok hspec hxs hargs hd hlt (X.ren_lt0 hlt) k
end

end Go.AW
/- Part of the abstract walk: regions in which a store may stand before operations that do not look at memory. -/
namespace Go.AW
open Go

section
variable {P : Program} {N : Frm} {st : St} {Q : Exit → St → Prop} {ops : Array Oper} {d : Nat} {ty : TypeId} {pos : String} {af : Array Edge}

def Blind (P : Program) (N : Frm) (st : St) (o : Oper) (x : X) : Prop :=
 ∀ (G : Ctx) (E : Env) (RR : Own → List Nat) (a : Act), G.fn = N → Inv G E RR st a → ∃ u, (∀ w, (execOp a.eval o).run P w = .ok (.value u) w) ∧ RX E x u []

section
variable {dst : Option Nat} {g : Option (Nat × Bool)}
theorem Blind.move {x : Operand} {y : X} (hx : opd st x = some y) (hf : y.free = true) : Blind P N st ⟨dst, .move x, ty, pos, af, g⟩ y := by
 intro G E RR a _ hi
 obtain ⟨R, hv⟩ := hi.eval hx
 have := RX.free hf hv
 subst this
 exact ⟨_, fun w => rfl, hv⟩
theorem Blind.assign {x : Operand} {y : X} (hx : opd st x = some y) (hf : y.free = true) : Blind P N st ⟨dst, .assign x, ty, pos, af, g⟩ y := by
 intro G E RR a _ hi
 obtain ⟨R, hv⟩ := hi.eval hx
 have := RX.free hf hv
 subst this
 exact ⟨_, fun w => rfl, hv⟩

end

def AAny (P : Program) (N : Frm) (ops : Array Oper) (n : Nat) (listed : Array Bool) (st : St) (K : St → Prop) : Prop :=
 ∀ G : Ctx, G.fn = N → ∀ a w, Holds G st a w → wpAny P .any ops (fun e a w => e = .normal ∧ ∃ st', K st' ∧ Holds G st' a w) n listed a w

variable {K : St → Prop}

theorem AAny.blind {n : Nat} {listed : Array Bool} (i : Nat) {op : Op} {x : X} (ho : ops[i]? = some ⟨some d, op, ty, pos, af, none⟩)
  (hB : (Region.noSelect ops && Region.free .any ops listed i && (Region.ready .any ops listed).contains i) = true) (hy : Blind P N st ⟨some d, op, ty, pos, af, none⟩ x) (hd : d < N.n)
  (k : AAny P N ops n (listed.setIfInBounds i true) (st.put d x) K) : AAny P N ops (n + 1) listed st K := by
 intro G hn a w hh
 obtain ⟨E, RR, rfl, hi⟩ := hh
 obtain ⟨u, hr, hx⟩ := hy G E RR a hn hi
 simp only [Bool.and_eq_true] at hB
 refine wpAny_take (v := u) ho hB.1.1 hB.1.2 hB.2 ?_ (.inl ⟨by simp [Region.wanted], hr⟩) (k G hn _ _ ⟨E, _, rfl, hi.put0 (hn ▸ hd) hx⟩)
 intro c a w h
 cases h.1

theorem AAny.step {n : Nat} {listed : Array Bool} (j : Nat) {o : Oper} (ho : ops[j]? = some o)
  (k : AOps P N ops [o] st (fun e st' => e = .normal ∧ AAny P N ops n (listed.setIfInBounds j true) st' K)) (G : Ctx) (hn : G.fn = N) (a : Act) (w : World) (hh : Holds G st a w) :
  wpOp P ops (fun e a w => e = .normal ∧ ∃ st', K st' ∧ Holds G st' a w) j (wpAny P .any ops (fun e a w => e = .normal ∧ ∃ st', K st' ∧ Holds G st' a w) n (listed.setIfInBounds j true)) a w := by
 have hk := k G hn a w hh
 have key : wpOp P ops (fun e a w => Post G (fun e st' => e = .normal ∧ AAny P N ops n (listed.setIfInBounds j true) st' K) e a w) j
   (fun a w => Post G (fun e st' => e = .normal ∧ AAny P N ops n (listed.setIfInBounds j true) st' K) .normal a w) a w := by
  unfold wpOp; simp only [ho]; exact hk
 have mono : ∀ {Q1 Q2 : Exit → Act → World → Prop} {K1 K2 : Act → World → Prop}, (∀ e a w, e ≠ .normal → Q1 e a w → False) → (∀ a w, K1 a w → K2 a w) → wpOp P ops Q1 j K1 a w → wpOp P ops Q2 j K2 a w := by
  intro Q1 Q2 K1 K2 hQ hK h
  unfold wpOp at *
  simp only [ho] at *
  split
  ·rename_i hw
   simp only [hw, if_true] at h
   rcases h with h | ⟨_, hl⟩
   ·refine .inl ?_
    unfold Oper.wp at *
    generalize (execOp a.eval o).run P w = r at *
    cases r with
    | ok nx w' =>
     cases nx <;> simp only [Oper.upon] at h ⊢ <;> first
      | exact hK _ _ h
      | exact Calls.mono h (fun e w'' he => by
        cases e with
        | returned u => exact hK _ _ he
        | panicked c => exact (hQ _ _ _ (by simp) he).elim
        | outgrown => exact (let ⟨_, _, h'⟩ := he; hQ _ _ _ (by simp) h').elim)
      | exact Rows.mono h (fun _ _ he => hK _ _ he)
    | halt x w' => cases x <;> simp only [Oper.upon] at h ⊢ <;> first | exact (hQ _ _ _ (by simp) h).elim | exact (let ⟨_, _, h'⟩ := h; hQ _ _ _ (by simp) h').elim | exact h
   ·obtain ⟨_, _, h'⟩ := hl
    exact (hQ _ _ _ (by simp) h').elim
  ·rename_i hw
   simp only [hw] at h
   exact hK _ _ h
 refine mono ?_ ?_ key
 ·rintro e a w he ⟨st', _, h, _⟩
  exact he h
 ·rintro a w ⟨st', hh', _, hk'⟩
  exact hk' G hn a w hh'

theorem AAny.one {n : Nat} {listed : Array Bool} (i : Nat) {o : Oper} (ho : ops[i]? = some o) (hr : (Region.ready .any ops listed == [i]) = true)
  (k : AOps P N ops [o] st (fun e st' => e = .normal ∧ AAny P N ops n (listed.setIfInBounds i true) st' K)) : AAny P N ops (n + 1) listed st K := by
 intro G hn a w hh
 refine wpAny_all (rs := [i]) (by simpa using hr) (by simp) ?_
 intro j hj
 have : j = i := by simpa using hj
 subst this
 exact AAny.step j ho k G hn a w hh

theorem AAny.two {n : Nat} {listed : Array Bool} (i i' : Nat) {o o' : Oper} (ho : ops[i]? = some o) (ho' : ops[i']? = some o') (hr : (Region.ready .any ops listed == [i, i']) = true)
  (k : AOps P N ops [o] st (fun e st' => e = .normal ∧ AAny P N ops n (listed.setIfInBounds i true) st' K))
  (k' : AOps P N ops [o'] st (fun e st' => e = .normal ∧ AAny P N ops n (listed.setIfInBounds i' true) st' K)) : AAny P N ops (n + 1) listed st K := by
 intro G hn a w hh
 refine wpAny_all (rs := [i, i']) (by simpa using hr) (by simp) ?_
 intro j hj
 simp only [List.mem_cons, List.not_mem_nil, or_false] at hj
 rcases hj with rfl | rfl
 ·exact AAny.step j ho k G hn a w hh
 ·exact AAny.step j ho' k' G hn a w hh

theorem AAny.done {n : Nat} {listed : Array Bool} (hr : (Region.ready .any ops listed).isEmpty = true) (h : K st) : AAny P N ops n listed st K :=
 fun _ _ _ _ hh => wpAny_done (by simpa using hr) ⟨rfl, st, h, hh⟩ n

theorem AWp.regionAny {id : Nat} (hm : P.follows .mixedOrders = true) (h : AAny P N ops ops.size (Array.replicate ops.size false) st (fun st' => Q .normal st')) : AWp P N (.region id ops true) st Q := by
 intro G hn a w hh
 refine wp_mono (wp_region_any hm (h G hn a _ hh.drew)) ?_
 rintro e a w ⟨rfl, st', hk, hh'⟩
 exact ⟨st', hh', hk⟩

end
end Go.AW
/- Part of the abstract walk: operations that are not wanted leave a word that is no test. -/
namespace Go.AW
open Go

def notB (want : Bool) : Value → Bool
 | .bool b => !(b == want)
 | _ => true

section
variable {P : Program} {N : Frm} {st : St} {Q : Exit → St → Prop} {K : St → Prop} {all : Array Oper} {rest : List Oper} {d dd : Nat} {ty : TypeId} {pos : String} {af : Array Edge} {dst : Option Nat} {op : Op} {j : Nat} {want : Bool} {u : Value}

theorem unwanted {G : Ctx} {E : Env} {RR : Own → List Nat} {a : Act} (hi : Inv G E RR st a) (hj : (all[j]?).bind (·.dst) = some d) (hd : d < G.fn.n) (hx : look st.slots d = some (.v u)) (hne : notB want u = true) :
  Region.wanted ⟨dst, op, ty, pos, af, some (j, want)⟩ (yielded all a.tmps) = false := by
 have hs := hi.slots d _ hx
 simp only [RX] at hs
 have hsz : d < a.tmps.size := by rw [hi.tmps]; exact hd
 have hv : a.tmps[d]? = some u := by
  have := hs.1
  simp only [Array.getD, hsz, dif_pos] at this
  rw [Array.getElem?_eq_getElem hsz]
  exact congrArg some this
 have hy : yielded all a.tmps j ≠ some want := by
  unfold yielded
  rw [hj, Option.bind_some, hv]
  intro h
  cases u <;> simp [notB] at hne h
  exact hne h
 simp only [Region.wanted]
 cases h : yielded all a.tmps j with
 | none => rfl
 | some b => rw [h] at hy; simpa using hy

theorem AOps.guardSkipV (hj : (all[j]?).bind (·.dst) = some d) (hd : d < N.n) (hdd : dd < N.n) (hx : look st.slots d = some (.v u)) (hne : notB want u = true)
  (k : AOps P N all rest (st.put dd (.v undef)) Q) : AOps P N all (⟨some dd, op, ty, pos, af, some (j, want)⟩ :: rest) st Q := by
 intro G hn a w hh
 obtain ⟨E, RR, rfl, hi⟩ := hh
 unfold wpList
 rw [if_neg (by rw [unwanted hi hj (hn ▸ hd) hx hne]; simp)]
 exact k G hn _ _ ⟨E, _, rfl, hi.put0 (hn ▸ hdd) (by simp [RX])⟩

theorem AHead.guardSkipV (hj : (all[j]?).bind (·.dst) = some d) (hd : d < N.n) (hdd : dd < N.n) (hx : look st.slots d = some (.v u)) (hne : notB want u = true)
  (k : AHead P N all rest (st.put dd (.v undef)) K) : AHead P N all (⟨some dd, op, ty, pos, af, some (j, want)⟩ :: rest) st K := by
 intro G hn a w hh
 obtain ⟨E, RR, rfl, hi⟩ := hh
 unfold wpStill
 rw [if_neg (by rw [unwanted hi hj (hn ▸ hd) hx hne]; simp)]
 exact k G hn _ _ ⟨E, _, rfl, hi.put0 (hn ▸ hdd) (by simp [RX])⟩

end
end Go.AW
/- Part of the abstract walk: from a call's arguments, as a row reads them, to the walk, and back. -/
namespace Go.AW
open Go Go.ChangeShapes Go.WideShapes Go.Deep Go.RowKit

def E0 (W : World) : Env := ⟨fun b i => W.cell? ⟨b, i, none⟩, fun _ => none, W⟩

theorem ACalls.row {P : Program} {f : FuncId} {args : List X} {u : Value} (h : ACalls P f args [] [] (fun r o => r = .v u ∧ o = [])) {W : World} {cargs : Array Value} (hn : cargs.size = args.length)
  (hx : ∀ (i : Nat) x, args[i]? = some x → RX (E0 W) x (cargs.getD i undef) []) : Calls P f cargs W (fun e W' => e = .returned u ∧ Below W.heap.size W W') := by
 have hi : Inv (ctx0 (fun b => b < W.heap.size) (E0 W) ⟨args.length, []⟩) (E0 W) (fun _ => []) ⟨enumF 0 args, enumF 0 []⟩ ⟨cargs, []⟩ :=
  {frz := fun _ _ _ h => h
   slots := fun s x hs => by
    rw [look_enum] at hs
    exact hx s x hs
   objs := fun o ob ho => by simp [enumF, look] at ho
   nodup := fun _ => List.nodup_nil
   apart := fun _ _ _ _ h => by cases h
   own := fun _ _ h => by cases h
   keep := fun _ _ => rfl
   size := Nat.le_refl _
   small := fun _ h => h
   os := rfl
   tape := rfl
   output := rfl
   φ0 := fun _ _ _ h => h
   grow := fun _ _ _ h => .inl h
   fixed := fun _ _ => rfl
   tmps := hn
   defers := rfl }
 refine Calls.mono (h _ _ _ _ hi) ?_
 rintro e W' ⟨v, r, objs', rfl, ⟨rfl, _⟩, _, E', RR', rfl, hi'⟩
 have hs := hi'.slots 0 (.v u) rfl
 simp only [RX] at hs
 have hv : v = u := hs.1
 exact ⟨by rw [hv], hi'.os, hi'.tape, hi'.output, hi'.size, fun k hk => hi'.keep k hk⟩

theorem RF.of {E : Env} {b : Nat} : ∀ {row : List X} {off : Nat}, (∀ (j : Nat) x, row[j]? = some x → ∃ u, x = .v u ∧ Single u ∧ E.φ b (off + j) = some u) → RF E row b off
 | [], _, _ => by simp [RF]
 | x :: r, off, h => by
  obtain ⟨u, rfl, hs, hu⟩ := h 0 x rfl
  simp only [RF]
  refine ⟨⟨u, by simpa using hu, hs, rfl, by simp [RX]⟩, RF.of fun j y hj => ?_⟩
  obtain ⟨u', h1, h2, h3⟩ := h (j + 1) y (by simpa using hj)
  exact ⟨u', h1, h2, by rw [show off + 1 + j = off + (j + 1) by omega]; exact h3⟩
theorem RFr.of {E : Env} {b s : Nat} : ∀ {rows : List (List X)} {off : Nat}, Uniform s rows → (∀ (i : Nat) row, rows[i]? = some row → RF E row b (off + i * s)) → RFr E rows b off
 | [], _, _, _ => by simp [RFr]
 | r :: rs, off, hu, h => by
  simp only [RFr]
  refine ⟨by simpa using h 0 r rfl, RFr.of (fun q hq => hu q (by simp [hq])) fun i row hi => ?_⟩
  have := h (i + 1) row (by simpa using hi)
  rw [hu r (by simp)]
  rw [Nat.add_mul, Nat.one_mul] at this
  rw [show off + s + i * s = off + (i * s + s) by omega]; exact this

section
variable {H : Type} {enc : TypeId × Value → H} {P : Program} {W : World} {base : Nat} {spare : Nat → Bool} {held : Bool} {n : Nat} {e : TypeId} {cs : List Value} {y : DataW H × List MemPlace}
end
end Go.AW
/- Part of the abstract walk: the greater and the less of two numbers; more of what does not look at memory; calls in the form that gives a fact on the result. -/
namespace Go.AW
open Go

section
variable {P : Program} {N : Frm} {st : St} {Q : Exit → St → Prop} {all : Array Oper} {rest : List Oper} {dst : Option Nat} {d : Nat} {ty : TypeId} {pos : String} {af : Array Edge} {g : Option (Nat × Bool)}

theorem Y.max {t t' : TypeId} {x y : Operand} {k : IntKind} {a b r : Int} (hx : opd st x = some (.v (.int k a))) (hy : opd st y = some (.v (.int k b))) (hr : r = if b > a then b else a) :
  Yields P N st ⟨dst, .call ⟨.builtin .max, #[x, y], #[t, t']⟩, ty, pos, af, g⟩ (.v (.int k r)) := by
 subst hr
 intro G E RR ac _ hi
 refine ⟨.int k (if b > a then b else a), run_callB ?_, by simp [RX]⟩
 have h1 := hi.val hx
 have h2 := hi.val hy
 simp [builtin, Builtin.max_, h1, h2, Builtin.max2]
theorem Y.min {t t' : TypeId} {x y : Operand} {k : IntKind} {a b r : Int} (hx : opd st x = some (.v (.int k a))) (hy : opd st y = some (.v (.int k b))) (hr : r = if b < a then b else a) :
  Yields P N st ⟨dst, .call ⟨.builtin .min, #[x, y], #[t, t']⟩, ty, pos, af, g⟩ (.v (.int k r)) := by
 subst hr
 intro G E RR ac _ hi
 refine ⟨.int k (if b < a then b else a), run_callB ?_, by simp [RX]⟩
 have h1 := hi.val hx
 have h2 := hi.val hy
 simp [builtin, Builtin.min_, h1, h2, Builtin.min2]

theorem Blind.extract {x : Operand} {xs : List X} {y : X} {k : Nat} (hx : opd st x = some (.tup xs)) (hy : xs[k]? = some y) (hf : y.free = true) : Blind P N st ⟨dst, .extract x k, ty, pos, af, g⟩ y := by
 intro G E RR a _ hi
 obtain ⟨R, hp⟩ := hi.eval hx
 simp only [RX] at hp
 obtain ⟨cs, hc, hxs⟩ := hp
 obtain ⟨u, R₁, hu, h1⟩ := RXt.get hxs hy
 have h0 := RX.free hf h1
 subst h0
 refine ⟨u, fun w => ?_, h1⟩
 show (do let z ← Instr.extract (a.eval x) k; pure (Next.value z) : Sem Next).run P w = _
 rw [hc]
 refine run_v ?_
 have hu' : cs[k]? = some u := by simpa using hu
 simp only [Instr.extract, hu']; rfl

theorem AOps.appendFE {t e s by_ : Nat} {z : List Value} {x y : Operand} {o lo n : Nat} {rs new : List (List X)} (rs' : List (List X)) (n' : Nat) (ht : TY.slice P t = some (e, s, by_)) (hz : TY.zero P e = some z) (hzl : Nat.beq z.length s = true)
  (hy : opd st y = some (.fz s new)) (hx : opd st x = some (.slc o s lo n)) (ho : look st.objs o = some (.rows s rs)) (hln : lo + n ≤ rs.length)
  (he : ((rs.drop lo).take n) ++ new = rs') (hn' : n + new.length = n') (hb46 : n' * by_ ≤ 140737488355328) (h62 : n' ≤ 4611686018427387904) (hF : N.F.elem o = false) (hd : d < N.n)
  (k : AOps P N all rest ((((st.kill o).putO o (.rows s rs'))).put d (.slc o s 0 n')) Q) :
  AOps P N all (⟨some d, .call ⟨.builtin .append, #[x, y], #[t, t]⟩, ty, pos, af, none⟩ :: rest) st Q := by
 subst he hn'
 exact AOps.appendF ht hz hzl hy hx ho hln hb46 h62 hF hd k
end
end Go.AW
/- Part of the abstract walk: calls that see slices of the caller's, in the form that proofs use. -/
namespace Go.AW
open Go

section
variable {P : Program} {N : Frm} {st : St} {Q : Exit → St → Prop} {all : Array Oper} {rest : List Oper} {d : Nat} {ty : TypeId} {pos : String} {af : Array Edge}
theorem LentL.lend {L : List Nat} {ν : Nat → Nat} {o s lo n : Nat} {rs rs' : List (List X)} {xs ys : List X} (ho : look st.objs o = some (.rows s rs)) (hL : L.elem o = true) (hln : lo + n ≤ rs.length) (he : (rs.drop lo).take n = rs')
  (hs : LentL st L ν xs ys) : LentL st L ν (.slc o s lo n :: xs) (.fz s rs' :: ys) := by
 subst he
 exact .cons (.view ho (List.elem_iff.1 hL) hln) hs
theorem lend1 {o : Nat} {ob : Obj} (h : look st.objs o = some ob) (h' : Owns0 ob) : ∀ q ∈ [o], ∃ ob, look st.objs q = some ob ∧ Owns0 ob := by
 intro q hq
 simp only [List.mem_singleton] at hq
 subst hq
 exact ⟨ob, h, h'⟩
theorem lend2 {o : Nat} {ob : Obj} {L : List Nat} (h : look st.objs o = some ob) (h' : Owns0 ob) (hs : ∀ q ∈ L, ∃ ob, look st.objs q = some ob ∧ Owns0 ob) : ∀ q ∈ o :: L, ∃ ob, look st.objs q = some ob ∧ Owns0 ob := by
 intro q hq
 rcases List.mem_cons.1 hq with rfl | hq
 ·exact ⟨ob, h, h'⟩
 ·exact hs q hq
theorem AOps.callLP {f : FuncId} {fargs : Array Operand} {ats : Array TypeId} {xs args : List X} {R : X} (L : List Nat) (hok : callOK P f = true) (hspec : ACalls P f args [] [] (fun r o => r = R ∧ o = []))
  (hxs : opds st fargs.toList = some xs) (hargs : LentL st L (nameF []) xs args) (h0 : ∀ o ∈ L, ∃ ob, look st.objs o = some ob ∧ Owns0 ob) (hd : d < N.n) (hlt : R.lt 0 = true) (hp : R.plain)
  (k : AOps P N all rest (st.put d R) Q) : AOps P N all (⟨some d, .call ⟨.value (.func f), fargs, ats⟩, ty, pos, af, none⟩ :: rest) st Q :=
 AOps.callL L hok hspec hxs hargs h0 hd hlt (X.ren_lt0 hlt) hp k
end
end Go.AW
/- Part of the abstract walk: maps whose keys and elements are words. -/
namespace Go.AW
open Go Go.Maps

section
variable {P : Program} {N : Frm} {st : St} {Q : Exit → St → Prop} {all : Array Oper} {rest : List Oper} {dst : Option Nat} {d : Nat} {ty : TypeId} {pos : String} {af : Array Edge} {g : Option (Nat × Bool)}

theorem Inv.tab {G : Ctx} {E : Env} {RR : Own → List Nat} {a : Act} (hi : Inv G E RR st a) {m : Operand} {o : Nat} {es : List (Value × Value)} (hm : opd st m = some (.mref o)) (ho : look st.objs o = some (.tab es)) :
  ∃ B ents clock, E.β o = some B ∧ a.eval m = .map (some B.b) ∧ E.w.heap[B.b]? = some (.map ents clock) ∧ (∀ i, E.φ B.b i = none) ∧ ents.toList.map (fun e => (e.key, e.val)) = es ∧ RR (.obj o) = [B.b] := by
 have hob := hi.objs o _ ho
 simp only [ROb] at hob
 obtain ⟨B, ents, clock, hB, hw, hf, he, hR⟩ := hob
 obtain ⟨R, hx⟩ := hi.eval hm
 simp only [RX] at hx
 obtain ⟨_, B', hB', hc⟩ := hx
 rw [hB] at hB'
 obtain rfl := Option.some.inj hB'
 exact ⟨B, ents, clock, hB, hc, hw, hf, he, hR⟩

end
end Go.AW
/- Part of the abstract walk: more of what does not look at memory. -/
namespace Go.AW
open Go

section
variable {P : Program} {N : Frm} {st : St} {ty : TypeId} {pos : String} {af : Array Edge} {dst : Option Nat} {g : Option (Nat × Bool)}
theorem Blind.nilCheck {x : Operand} {p q : X} (hx : opd st x = some p) (hq : p.on 0 = some q) : Blind P N st ⟨dst, .nilCheck x, ty, pos, af, g⟩ q := by
 intro G E RR a _ hi
 obtain ⟨R, hp⟩ := hi.eval hx
 obtain ⟨b, off, hc, h⟩ := hp.on hq
 refine ⟨_, fun w => ?_, h⟩
 simp only [execOp, hc]; rfl
theorem Blind.fieldAddr {t : TypeId} {x : Operand} {p q : X} {f off : Nat} {ft : TypeId} (ht : TY.fld P t f = some (off, ft)) (hx : opd st x = some p) (hq : p.on off = some q) :
  Blind P N st ⟨dst, .fieldAddr t x f, ty, pos, af, g⟩ q := by
 intro G E RR a _ hi
 obtain ⟨R, hp⟩ := hi.eval hx
 obtain ⟨b, o, hc, h⟩ := hp.on hq
 refine ⟨_, fun w => ?_, h⟩
 show (do let z ← Instr.fieldAt t (a.eval x) f; pure (Next.value z) : Sem Next).run P w = _
 rw [hc]
 exact run_v (TY.fld_run ht b o w)
end
end Go.AW
/- Part of the abstract walk: nil slices inside structs; lent pointers under other names. -/
namespace Go.AW
open Go

section
variable {P : Program} {N : Frm} {st : St} {d : Nat}

theorem LentL.named {L : List Nat} {ν : Nat → Nat} {x y : X} {xs ys : List X} (h : x.free = true) (he : x.ren ν = y) (hs : LentL st L ν xs ys) : LentL st L ν (y :: xs) (x :: ys) := by
 subst he
 exact .cons (.same h) hs
end
end Go.AW
/- Part of the abstract walk: loops and joins over several variables; lists in the forms that the second generator uses. -/
namespace Go.AW
open Go

section
variable {P : Program} {N : Frm} {st : St} {Q : Exit → St → Prop}
theorem AWp.join0 {x y : Code} (J : St) (I : Prop) (hx : AWp P N x st (Then (fun st' => I ∧ Le st' J) Q)) (hy : I → AWp P N y J Q) : AWp P N (.seq x y) st Q :=
 AWp.join (fun _ : Unit => J) (fun _ => I) (hx.mono fun e _ h => by cases e <;> first | exact ⟨(), h⟩ | exact h) (fun _ h => hy h)
theorem AWp.loop1 {α0 : Type} {c : Code} (S : α0 → St) (I : α0 → Prop) (μ : α0 → Nat) (i0 : α0) (hi : I i0) (hs : Le st (S i0))
  (round : ∀ a0, I a0 → AWp P N c (S a0) (Then (fun st' => ∃ b0, I b0 ∧ μ b0 < μ a0 ∧ Le st' (S b0)) Q)) : AWp P N (.loop c) st Q :=
 AWp.loop (ι := α0) (fun u => S u) (fun u => I u) (fun u => μ u) i0 hi hs (fun u h => (round u h).mono fun e _ h => by
  cases e <;> first | exact h | (obtain ⟨b0, h⟩ := h; exact ⟨b0, h⟩))
theorem AWp.join1 {α0 : Type} {x y : Code} (J : α0 → St) (I : α0 → Prop) (hx : AWp P N x st (Then (fun st' => ∃ b0, I b0 ∧ Le st' (J b0)) Q)) (hy : ∀ a0, I a0 → AWp P N y (J a0) Q) : AWp P N (.seq x y) st Q :=
 AWp.join (ι := α0) (fun u => J u) (fun u => I u) (hx.mono fun e _ h => by cases e <;> first | exact h | (obtain ⟨b0, h⟩ := h; exact ⟨b0, h⟩)) (fun u h => hy u h)
theorem AWp.loop2 {α0 α1 : Type} {c : Code} (S : α0 → α1 → St) (I : α0 → α1 → Prop) (μ : α0 → α1 → Nat) (i0 : α0) (i1 : α1) (hi : I i0 i1) (hs : Le st (S i0 i1))
  (round : ∀ a0 a1, I a0 a1 → AWp P N c (S a0 a1) (Then (fun st' => ∃ b0 b1, I b0 b1 ∧ μ b0 b1 < μ a0 a1 ∧ Le st' (S b0 b1)) Q)) : AWp P N (.loop c) st Q :=
 AWp.loop (ι := α0 × α1) (fun u => S u.1 u.2) (fun u => I u.1 u.2) (fun u => μ u.1 u.2) (i0, i1) hi hs (fun u h => (round u.1 u.2 h).mono fun e _ h => by
  cases e <;> first | exact h | (obtain ⟨b0, b1, h⟩ := h; exact ⟨(b0, b1), h⟩))
theorem AWp.join2 {α0 α1 : Type} {x y : Code} (J : α0 → α1 → St) (I : α0 → α1 → Prop) (hx : AWp P N x st (Then (fun st' => ∃ b0 b1, I b0 b1 ∧ Le st' (J b0 b1)) Q)) (hy : ∀ a0 a1, I a0 a1 → AWp P N y (J a0 a1) Q) : AWp P N (.seq x y) st Q :=
 AWp.join (ι := α0 × α1) (fun u => J u.1 u.2) (fun u => I u.1 u.2) (hx.mono fun e _ h => by cases e <;> first | exact h | (obtain ⟨b0, b1, h⟩ := h; exact ⟨(b0, b1), h⟩)) (fun u h => hy u.1 u.2 h)
theorem AWp.loop3 {α0 α1 α2 : Type} {c : Code} (S : α0 → α1 → α2 → St) (I : α0 → α1 → α2 → Prop) (μ : α0 → α1 → α2 → Nat) (i0 : α0) (i1 : α1) (i2 : α2) (hi : I i0 i1 i2) (hs : Le st (S i0 i1 i2))
  (round : ∀ a0 a1 a2, I a0 a1 a2 → AWp P N c (S a0 a1 a2) (Then (fun st' => ∃ b0 b1 b2, I b0 b1 b2 ∧ μ b0 b1 b2 < μ a0 a1 a2 ∧ Le st' (S b0 b1 b2)) Q)) : AWp P N (.loop c) st Q :=
 AWp.loop (ι := α0 × α1 × α2) (fun u => S u.1 u.2.1 u.2.2) (fun u => I u.1 u.2.1 u.2.2) (fun u => μ u.1 u.2.1 u.2.2) (i0, i1, i2) hi hs (fun u h => (round u.1 u.2.1 u.2.2 h).mono fun e _ h => by
  cases e <;> first | exact h | (obtain ⟨b0, b1, b2, h⟩ := h; exact ⟨(b0, b1, b2), h⟩))
theorem AWp.join3 {α0 α1 α2 : Type} {x y : Code} (J : α0 → α1 → α2 → St) (I : α0 → α1 → α2 → Prop) (hx : AWp P N x st (Then (fun st' => ∃ b0 b1 b2, I b0 b1 b2 ∧ Le st' (J b0 b1 b2)) Q)) (hy : ∀ a0 a1 a2, I a0 a1 a2 → AWp P N y (J a0 a1 a2) Q) : AWp P N (.seq x y) st Q :=
 AWp.join (ι := α0 × α1 × α2) (fun u => J u.1 u.2.1 u.2.2) (fun u => I u.1 u.2.1 u.2.2) (hx.mono fun e _ h => by cases e <;> first | exact h | (obtain ⟨b0, b1, b2, h⟩ := h; exact ⟨(b0, b1, b2), h⟩)) (fun u h => hy u.1 u.2.1 u.2.2 h)
theorem AWp.loop4 {α0 α1 α2 α3 : Type} {c : Code} (S : α0 → α1 → α2 → α3 → St) (I : α0 → α1 → α2 → α3 → Prop) (μ : α0 → α1 → α2 → α3 → Nat) (i0 : α0) (i1 : α1) (i2 : α2) (i3 : α3) (hi : I i0 i1 i2 i3) (hs : Le st (S i0 i1 i2 i3))
  (round : ∀ a0 a1 a2 a3, I a0 a1 a2 a3 → AWp P N c (S a0 a1 a2 a3) (Then (fun st' => ∃ b0 b1 b2 b3, I b0 b1 b2 b3 ∧ μ b0 b1 b2 b3 < μ a0 a1 a2 a3 ∧ Le st' (S b0 b1 b2 b3)) Q)) : AWp P N (.loop c) st Q :=
 AWp.loop (ι := α0 × α1 × α2 × α3) (fun u => S u.1 u.2.1 u.2.2.1 u.2.2.2) (fun u => I u.1 u.2.1 u.2.2.1 u.2.2.2) (fun u => μ u.1 u.2.1 u.2.2.1 u.2.2.2) (i0, i1, i2, i3) hi hs (fun u h => (round u.1 u.2.1 u.2.2.1 u.2.2.2 h).mono fun e _ h => by
  cases e <;> first | exact h | (obtain ⟨b0, b1, b2, b3, h⟩ := h; exact ⟨(b0, b1, b2, b3), h⟩))
theorem AWp.join4 {α0 α1 α2 α3 : Type} {x y : Code} (J : α0 → α1 → α2 → α3 → St) (I : α0 → α1 → α2 → α3 → Prop) (hx : AWp P N x st (Then (fun st' => ∃ b0 b1 b2 b3, I b0 b1 b2 b3 ∧ Le st' (J b0 b1 b2 b3)) Q)) (hy : ∀ a0 a1 a2 a3, I a0 a1 a2 a3 → AWp P N y (J a0 a1 a2 a3) Q) : AWp P N (.seq x y) st Q :=
 AWp.join (ι := α0 × α1 × α2 × α3) (fun u => J u.1 u.2.1 u.2.2.1 u.2.2.2) (fun u => I u.1 u.2.1 u.2.2.1 u.2.2.2) (hx.mono fun e _ h => by cases e <;> first | exact h | (obtain ⟨b0, b1, b2, b3, h⟩ := h; exact ⟨(b0, b1, b2, b3), h⟩)) (fun u h => hy u.1 u.2.1 u.2.2.1 u.2.2.2 h)
end

section
variable {α : Type} {f : α → List X} {l m : List α} {i n : Nat} {d a b : α}
theorem row_getD (h : i < l.length) : (l.map f)[i]? = some (f (l.getD i d)) := by
 rw [List.getElem?_map, List.getElem?_eq_getElem h, List.getD_eq_getElem?_getD, List.getElem?_eq_getElem h]; rfl
theorem row_getD0 (h : i < l.length) : (l.map f)[0 + i]? = some (f (l.getD i d)) := by rw [Nat.zero_add]; exact row_getD h
theorem set_map0 {k : Nat} {ys : List X} (h : putL (f a) k ys = f b) : (l.map f).set (0 + i) (putL (f a) k ys) = (l.set i b).map f := by
 rw [h, Nat.zero_add, List.map_set]
theorem app_map (h : n = l.length) : (((l.map f).drop 0).take n) ++ m.map f = (l ++ m).map f := by
 rw [List.drop_zero, List.take_of_length_le (by rw [List.length_map]; omega), List.map_append]
theorem app_le (h : n = l.length) : 0 + n ≤ (l.map f).length := by rw [List.length_map]; omega
theorem app_n (h : n = l.length) : n + (m.map f).length = (l ++ m).length := by rw [List.length_map, List.length_append]; omega
theorem lend_le (h : n = l.length) : 0 + n ≤ (l.map f).length := by rw [List.length_map]; omega
theorem lend_eq (h : n = l.length) : ((l.map f).drop 0).take n = l.map f := by
 rw [List.drop_zero, List.take_of_length_le (by rw [List.length_map]; omega)]
theorem rep_map {f : α → List X} {z : List X} (h : z = f a) : List.replicate n z = (List.replicate n a).map f := by rw [List.map_replicate, h]
theorem len_map (h : n = l.length) : n = (l.map f).length := by rw [List.length_map]; exact h
end

section
variable {N : Frm} {st : St} {d : Nat}
theorem Sh.adoptE {s n : Nat} {rows : List (List X)} (o : Nat) (rows' : List (List X)) (hx : look st.slots d = some (.uni s rows)) (he : rows = rows') (hn : n = rows'.length) (hF : N.F.elem o = false) : Sh N st (((st.kill o).putO o (.rows s rows')).put d (.slc o s 0 n)) := by
 subst he; exact Sh.adoptN o hx hn hF
theorem Sh.freezeE {s : Nat} {rows : List (List X)} (rows' : List (List X)) (hx : look st.slots d = some (.uni s rows)) (he : rows = rows') (hf : Frees rows') : Sh N st (st.put d (.fz s rows')) := by
 subst he; exact Sh.freeze hx hf
end

section
variable {P : Program} {N : Frm} {st : St} {dst : Option Nat} {ty : TypeId} {pos : String} {af : Array Edge} {g : Option (Nat × Bool)}
theorem Y.convK {s d : TypeId} {x : Operand} {k k' : IntKind} {n : Int} (hs : TY.isInt P s = some k') (hd : TY.isInt P d = some k) (hx : opd st x = some (.v (.int k' n))) (hr : k.wrap n = n) :
  Yields P N st ⟨dst, .convert s d x, ty, pos, af, g⟩ (.v (.int k n)) := Y.conv hs hd hx hr
end
theorem look_slc {l : List (Nat × X)} {i o s lo n n' : Nat} (h : look l i = some (.slc o s lo n)) (e : n = n') : look l i = some (.slc o s lo n') := e ▸ h
theorem look_int {l : List (Nat × X)} {i : Nat} {k : IntKind} {a b : Int} (h : look l i = some (.v (.int k a))) (e : a = b) : look l i = some (.v (.int k b)) := e ▸ h
theorem look_bool {l : List (Nat × X)} {i : Nat} {a b : Bool} (h : look l i = some (.v (.bool a))) (e : a = b) : look l i = some (.v (.bool b)) := e ▸ h
theorem look_cells {l : List (Nat × Obj)} {i : Nat} {a b : List X} (h : look l i = some (.cells a)) (e : a = b) : look l i = some (.cells b) := e ▸ h
theorem uniform_map {α : Type} {s : Nat} {f : α → List X} (h : ∀ a, (f a).length = s) {l : List α} : Uniform s (l.map f) := by
 intro r hr
 obtain ⟨a, _, rfl⟩ := List.mem_map.1 hr
 exact h a
theorem cg1 {α0 γ : Type} (f : α0 → γ) {a0 b0 : α0} (h0 : a0 = b0) : f a0 = f b0 := by subst h0; rfl
end Go.AW
/- Plain lemmas on lists with getD. -/
namespace Go.AW

section
variable {α : Type} {l m : List α} {i j n : Nat} {d a x : α}
theorem getD_rep (h : i < n) : (List.replicate n a).getD i d = a := by
 rw [List.getD_eq_getElem?_getD, List.getElem?_replicate, if_pos h]; rfl
theorem below_succ {p : Nat → Prop} (h : ∀ j, j < i → p j) (hp : p i) : ∀ j, j < i + 1 → p j := by
 intro j hj
 rcases Nat.lt_or_ge j i with h1 | h1
 ·exact h j h1
 ·obtain rfl : j = i := by omega
  exact hp
end
end Go.AW
/- Part of the abstract walk: what a row reads, whatever its type, as the walk sees it. -/
namespace Go.AW
open Go Go.ChangeShapes Go.WideShapes Go.Deep Go.RowKit

theorem RXs.app0 {E : Env} : ∀ {xs ys : List X} {cs ds : List Value}, RXs E xs cs [] → RXs E ys ds [] → RXs E (xs ++ ys) (cs ++ ds) []
 | [], _, _, _, h, h' => by simp only [RXs] at h; rw [h.1]; exact h'
 | x :: r, ys, cs, ds, h, h' => by
  simp only [RXs] at h
  obtain ⟨c, cs', R₁, R₂, rfl, hs, h1, h2, hR⟩ := h
  obtain ⟨rfl, rfl⟩ := List.append_eq_nil_iff.1 hR.symm
  simp only [List.cons_append, RXs]
  exact ⟨c, cs' ++ ds, [], [], rfl, hs, h1, RXs.app0 h2 h', rfl⟩
theorem RXs.v1 {E : Env} {u : Value} (h : Single u) : RXs E [.v u] [u] [] := by
 simp only [RXs]
 exact ⟨u, [], [], [], rfl, h, by simp [RX], ⟨rfl, rfl⟩, rfl⟩
theorem RXs.len {E : Env} : ∀ {xs : List X} {cs : List Value} {R : List Nat}, RXs E xs cs R → xs.length = cs.length
 | [], _, _, h => by simp only [RXs] at h; rw [h.1]; rfl
 | x :: r, cs, R, h => by
  simp only [RXs] at h
  obtain ⟨c, cs', R₁, R₂, rfl, _, _, h2, _⟩ := h
  simp [RXs.len h2]
theorem RF.ofX {E : Env} {b : Nat} : ∀ {row : List X} {cs : List Value} {off : Nat}, RXs E row cs [] → X.nrs row = true → (∀ (j : Nat) c, cs[j]? = some c → E.φ b (off + j) = some c) → RF E row b off
 | [], _, _, _, _, _ => by simp [RF]
 | x :: r, cs, off, h, hn, hc => by
  simp only [RXs] at h
  obtain ⟨c, cs', R₁, R₂, rfl, hs, h1, h2, hR⟩ := h
  obtain ⟨rfl, rfl⟩ := List.append_eq_nil_iff.1 hR.symm
  simp only [X.nrs, Bool.and_eq_true] at hn
  simp only [RF]
  refine ⟨⟨c, by simpa using hc 0 c rfl, hs, hn.1, h1⟩, RF.ofX h2 hn.2 fun j c' hj => ?_⟩
  rw [show off + 1 + j = off + (j + 1) by omega]
  exact hc (j + 1) c' (by simpa using hj)

mutual
def blk {H : Type} : DataW H → Nat
 | .lit (.string bytes) => bytes.length + 1
 | .lit _ => 1
 | .nil => 1
 | .ptr d => blk d + 1
 | .slice elems spare => blkAll elems + blkAll spare + 1
 | .agg parts => blkAll parts + 1
 | .iface _ d => blk d + 1
 | .map entries => blkEntries entries + 1
 | .held _ => 1
def blkAll {H : Type} : List (DataW H) → Nat
 | [] => 0
 | d :: r => blk d + blkAll r
def blkEntries {H : Type} : List (Lit × DataW H) → Nat
 | [] => 0
 | x :: r => blkEntry x + blkEntries r
def blkEntry {H : Type} : Lit × DataW H → Nat
 | (.string bytes, d) => bytes.length + blk d + 1
 | (_, d) => blk d + 1
end
theorem sum_le_blkAll {H α : Type} {m : α → Nat} : ∀ {l : List α} {ds : List (DataW H)}, l.length = ds.length → (∀ (i : Nat) a d, l[i]? = some a → ds[i]? = some d → m a ≤ blk d) → (l.map m).sum ≤ blkAll ds
 | [], _, _, _ => by simp
 | a :: l, [], h, _ => by simp at h
 | a :: l, d :: ds, h, hm => by
  have h1 := hm 0 a d rfl rfl
  have h2 := sum_le_blkAll (l := l) (ds := ds) (by simpa using h) (fun i a' d' ha hd => hm (i + 1) a' d' (by simpa using ha) (by simpa using hd))
  simp only [List.map_cons, List.sum_cons, blkAll]; omega
section
variable {H : Type} (enc : TypeId × Value → H) (P : Program) (W : World) (base : Nat)
def Sz {H : Type} (P : Program) (t : TypeId) (d : DataW H) : Prop := ∀ n ∈ d.weights P t, n ≤ 140737488351232
def Reads (t : TypeId) {α : Type} (f : α → List X) (p : α → Prop) (m : α → Nat) : Prop :=
 ∀ (n : Nat) (cs : List Value) (y : DataW H × List MemPlace), DataW.trod enc P W base (fun _ => true) true n t cs = some y → Sz P t y.1 →
  ∃ a : α, p a ∧ RXs (E0 W) (f a) cs [] ∧ X.frees (f a) = true ∧ X.nrs (f a) = true ∧ m a ≤ blk y.1
def ReadsL (fl : List Field) (off m : Nat) {α : Type} (f : α → List X) (p : α → Prop) (mm : α → Nat) : Prop :=
 ∀ (n : Nat) (cs : List Value) (xs : List (DataW H × List MemPlace)), off + m ≤ cs.length → xs.length = fl.length →
  (∀ (i : Nat) (fd : Field), fl[i]? = some fd → DataW.trod enc P W base (fun _ => true) true n fd.type ((cs.drop fd.offset).take (P.cellsOf fd.type)) = xs[i]?) →
  (∀ (i : Nat) (fd : Field) (x : DataW H × List MemPlace), fl[i]? = some fd → xs[i]? = some x → Sz P fd.type x.1) →
  ∃ a : α, p a ∧ RXs (E0 W) (f a) ((cs.drop off).take m) [] ∧ X.frees (f a) = true ∧ X.nrs (f a) = true ∧ mm a ≤ blkAll (xs.map (·.1))
end

section
variable {H : Type} {enc : TypeId × Value → H} {P : Program} {W : World} {base : Nat} {t e : TypeId} {α β : Type} {f : α → List X} {p : α → Prop} {g : β → List X} {q : β → Prop} {mf : α → Nat} {mg : β → Nat}

theorem frees_app : ∀ {a b : List X}, X.frees a = true → X.frees b = true → X.frees (a ++ b) = true
 | [], _, _, h => h
 | x :: r, b, h, h' => by
  simp only [X.frees, Bool.and_eq_true, List.cons_append] at h ⊢
  exact ⟨h.1, frees_app h.2 h'⟩
theorem nrs_app : ∀ {a b : List X}, X.nrs a = true → X.nrs b = true → X.nrs (a ++ b) = true
 | [], _, _, h => h
 | x :: r, b, h, h' => by
  simp only [X.nrs, Bool.and_eq_true, List.cons_append] at h ⊢
  exact ⟨h.1, nrs_app h.2 h'⟩

theorem Reads.map (φ : α → β) (h : Reads enc P W base t f p mf) (hf : ∀ a, g (φ a) = f a) (hp : ∀ a, p a → q (φ a)) (hm : ∀ a, mg (φ a) ≤ mf a) : Reads enc P W base t g q mg := by
 intro n cs y hy hs
 obtain ⟨a, h1, h2, h3, h4, h5⟩ := h n cs y hy hs
 exact ⟨φ a, hp a h1, by rw [hf]; exact h2, by rw [hf]; exact h3, by rw [hf]; exact h4, Nat.le_trans (hm a) h5⟩
theorem Reads.int {k : IntKind} (he : P.underlying t = some (.int k)) : Reads enc P W base t (fun z : Int => [.v (.int k z)]) (fun z => (Lit.int k z).wf = true) (fun _ => 1) := by
 intro n cs y hy _
 obtain ⟨z, rfl, hd, hw⟩ := DataW.trod_int he hy
 exact ⟨z, hw, RXs.v1 trivial, rfl, rfl, by rw [hd]; exact Nat.le_refl _⟩
theorem Reads.bool (he : P.underlying t = some .bool) : Reads enc P W base t (fun z : Bool => [.v (.bool z)]) (fun _ => True) (fun _ => 1) := by
 intro n cs y hy _
 obtain ⟨z, rfl, hd⟩ := DataW.trod_bool he hy
 exact ⟨z, trivial, RXs.v1 trivial, rfl, rfl, by rw [hd]; exact Nat.le_refl _⟩
theorem Reads.nat64 (he : P.underlying t = some (.int .u64)) : Reads enc P W base t (fun z : Nat => [.v (.int .u64 (z : Int))]) (fun z => z < 18446744073709551616) (fun _ => 1) := by
 intro n cs y hy _
 obtain ⟨z, rfl, hd, hw⟩ := DataW.trod_int he hy
 simp only [Lit.wf, IntKind.min, IntKind.max, IntKind.signed, IntKind.bits] at hw
 simp at hw
 obtain ⟨m, rfl⟩ := Int.eq_ofNat_of_zero_le (show 0 ≤ z by omega)
 exact ⟨m, om, RXs.v1 trivial, rfl, rfl, by rw [hd]; exact Nat.le_refl _⟩
theorem Reads.nat8 (he : P.underlying t = some (.int .u8)) : Reads enc P W base t (fun z : Nat => [.v (.int .u8 (z : Int))]) (fun z => z < 256) (fun _ => 1) := by
 intro n cs y hy _
 obtain ⟨z, rfl, hd, hw⟩ := DataW.trod_int he hy
 simp only [Lit.wf, IntKind.min, IntKind.max, IntKind.signed, IntKind.bits] at hw
 simp at hw
 obtain ⟨m, rfl⟩ := Int.eq_ofNat_of_zero_le (show 0 ≤ z by omega)
 exact ⟨m, om, RXs.v1 trivial, rfl, rfl, by rw [hd]; exact Nat.le_refl _⟩
theorem Reads.str (he : P.underlying t = some .string) : Reads enc P W base t (fun z : ByteArray => [.v (.string z)]) (fun z => z.size ≤ 140737488351232) (fun _ => 0) := by
 intro n cs y hy hs
 obtain ⟨z, rfl, rfl, _⟩ := DataW.trod_string he hy
 refine ⟨z, ?_, RXs.v1 trivial, rfl, rfl, Nat.zero_le _⟩
 have := hs z.data.toList.length (by simp [DataW.weights])
 simpa using this

theorem weightsAll_mem {H : Type} {P : Program} {e : TypeId} : ∀ {ds : List (DataW H)} {d : DataW H}, d ∈ ds → ∀ n ∈ d.weights P e, n ∈ DataW.weightsAll P e ds
 | d' :: r, d, h, n, hn => by
  simp only [DataW.weightsAll, List.mem_append]
  rcases List.mem_cons.1 h with rfl | h
  ·exact .inl hn
  ·exact .inr (weightsAll_mem h n hn)

theorem Reads.slice [Inhabited α] {s B : Nat} (ht : P.underlying t = some (.slice e)) (hC : P.cellsOf e = s) (hs : 0 < s) (hB : P.bytesOf e = B) (he : Reads enc P W base e f p mf) :
  Reads enc P W base t (fun l : List α => [.fz s (l.map f)]) (fun l => l.length * B ≤ 140737488351232 ∧ ∀ a ∈ l, p a) (fun l => (l.map mf).sum) := by
 intro fuel cs y hy hsz
 rcases open_slice ht hy with ⟨rfl, rfl⟩ | ⟨a, len, cap, m, n, D, Pl, rfl, _, hl, _, hm, rfl, hi⟩
 ·refine ⟨[], ⟨by simp, fun _ h => by cases h⟩, ?_, rfl, rfl, by simp⟩
  simp only [RXs, List.map_nil]
  refine ⟨.slice none 0 0, [], [], [], rfl, trivial, ?_, ⟨rfl, by trivial⟩, rfl⟩
  simp only [RX]
  exact ⟨trivial, (fun _ h => by cases h), none, 0, rfl, .inl ⟨by trivial, rfl⟩⟩
 ·simp only [if_true] at hm
  subst hm
  rw [hC] at hi
  have hD : ∀ i, i < m → Sz P e (D i) := by
   intro i him k hk
   refine hsz k ?_
   simp only [DataW.weights, ht, List.mem_cons, List.mem_append]
   right
   by_cases hil : i < len
   ·exact .inl (weightsAll_mem (List.mem_map.2 ⟨i, List.mem_range.2 hil, rfl⟩) k hk)
   ·refine .inr (weightsAll_mem (List.mem_map.2 ⟨i - len, List.mem_range.2 om, ?_⟩) k hk)
    congr 1; omega
  have hch : ∀ i, ∃ x : α, i < len → ∃ cs, W.cells? base (a.add (i * s)) s = some cs ∧ p x ∧ RXs (E0 W) (f x) cs [] ∧ X.frees (f x) = true ∧ X.nrs (f x) = true ∧ mf x ≤ blk (D i) := by
   intro i
   by_cases hil : i < len
   ·obtain ⟨cs, hc, ht'⟩ := hi i om
    obtain ⟨x, h0, h1, h2, h3, h4⟩ := he n cs _ ht' (hD i om)
    exact ⟨x, fun _ => ⟨cs, hc, h0, h1, h2, h3, h4⟩⟩
   ·exact ⟨default, fun h => absurd h hil⟩
  obtain ⟨g, hg⟩ := Classical.axiomOfChoice hch
  refine ⟨(List.range len).map g, ⟨?_, ?_⟩, ?_, rfl, rfl, ?_⟩
  rotate_right
  ·refine Nat.le_trans (sum_le_blkAll (m := mf) (ds := (List.range len).map D) (by simp) ?_) (by show _ ≤ blkAll _ + blkAll _ + 1; omega)
   intro i a' d' ha hd
   simp only [List.getElem?_map, Option.map_eq_some_iff] at ha hd
   obtain ⟨k, hk, rfl⟩ := ha
   obtain ⟨k', hk', rfl⟩ := hd
   rw [hk] at hk'
   obtain rfl := Option.some.inj hk'
   have hkl : i < len := by have := (List.getElem?_eq_some_iff.1 hk).1; simpa using this
   have hki : k = i := by rw [List.getElem?_range hkl] at hk; exact (Option.some.inj hk).symm
   subst hki
   obtain ⟨_, _, _, _, _, _, h5⟩ := hg k hkl
   exact h5
  ·have z := hsz ((((List.range len).map D).length + ((List.range (m - len)).map fun j => D (len + j)).length) * P.bytesOf e) (by simp [DataW.weights, ht])
   rw [hB] at z
   simp only [List.length_map, List.length_range] at z ⊢
   exact Nat.le_trans (Nat.mul_le_mul_right _ om) z
  ·intro x hx
   simp only [List.mem_map, List.mem_range] at hx
   obtain ⟨i, hi', rfl⟩ := hx
   obtain ⟨_, _, h0, _⟩ := hg i hi'
   exact h0
  ·have hu : Uniform s (((List.range len).map g).map f) := by
    intro r hr
    simp only [List.map_map, List.mem_map, List.mem_range, Function.comp] at hr
    obtain ⟨i, hi', rfl⟩ := hr
    obtain ⟨cs, hc, _, h1, _⟩ := hg i hi'
    rw [RXs.len h1]
    exact (World.cells?_some hc).2.1
   simp only [RXs]
   refine ⟨_, [], [], [], rfl, trivial, ?_, ⟨rfl, rfl⟩, rfl⟩
   simp only [RX]
   refine ⟨trivial, hu, some a, m, by simp, ?_⟩
   by_cases hm0 : m = 0
   ·exact .inl ⟨by simp [show len = 0 by omega], hm0⟩
   ·have hspot : a = ⟨a.block, a.off, none⟩ := by
     obtain ⟨cs, hc, _⟩ := hi 0 om
     have h1 := (World.cells?_some hc).2.2 0 hs
     have hlen := (World.cells?_some hc).2.1
     simp only [Nat.zero_mul, Addr.add, if_true] at h1
     rw [List.getElem?_eq_getElem (show 0 < cs.length by omega)] at h1
     unfold World.cell? at h1
     obtain ⟨b, o, sp⟩ := a
     cases sp with
     | none => rfl
     | some q => split at h1 <;> simp at h1
    refine .inr ⟨a.block, a.off, by rw [← hspot], by simp; omega, RFr.of hu ?_⟩
    intro i row hrow
    simp only [List.map_map, List.getElem?_map, Option.map_eq_some_iff, Function.comp] at hrow
    obtain ⟨k, hk, rfl⟩ := hrow
    have hkl : i < len := by have := (List.getElem?_eq_some_iff.1 hk).1; simpa using this
    have hki : k = i := by rw [List.getElem?_range hkl] at hk; exact (Option.some.inj hk).symm
    subst hki
    obtain ⟨cs, hc, _, h1, _, h2, _⟩ := hg k hkl
    refine RF.ofX h1 h2 fun j c hcj => ?_
    have hjl : j < s := by have := (List.getElem?_eq_some_iff.1 hcj).1; rw [(World.cells?_some hc).2.1] at this; exact this
    have h3 := (World.cells?_some hc).2.2 j hjl
    rw [hcj, add_add, hspot, add_mk] at h3
    show W.cell? _ = _
    rw [← h3]
    congr 2
    omega

theorem ReadsL.nil {off : Nat} : ReadsL enc P W base [] off 0 (fun _ : Unit => []) (fun _ => True) (fun _ => 0) := by
 intro n cs xs _ _ _ _
 exact ⟨(), trivial, by simp [RXs], rfl, rfl, Nat.zero_le _⟩
theorem ReadsL.cons {fd : Field} {fl : List Field} {off s m : Nat} (ho : fd.offset = off) (hC : P.cellsOf fd.type = s) (h : Reads enc P W base fd.type f p mf) (hr : ReadsL enc P W base fl (off + s) m g q mg) :
  ReadsL enc P W base (fd :: fl) off (s + m) (fun x : α × β => f x.1 ++ g x.2) (fun x => p x.1 ∧ q x.2) (fun x => mf x.1 + mg x.2) := by
 intro n cs xs hlen hxl hx hsz
 cases xs with
 | nil => simp at hxl
 | cons x xs =>
  have h0 := hx 0 fd rfl
  rw [ho, hC] at h0
  obtain ⟨a, ha, h1, h2, h3, h4⟩ := h n _ x h0 (hsz 0 fd x rfl rfl)
  obtain ⟨b, hb, g1, g2, g3, g4⟩ := hr n cs xs om (by simpa using hxl) (fun i fd' hi => by simpa using hx (i + 1) fd' (by simpa using hi)) (fun i fd' x' hi hx' => hsz (i + 1) fd' x' (by simpa using hi) (by simpa using hx'))
  refine ⟨(a, b), ⟨ha, hb⟩, ?_, frees_app h2 g2, nrs_app h3 g3, by simp only [List.map_cons, blkAll]; omega⟩
  have hsplit : (cs.drop off).take (s + m) = (cs.drop off).take s ++ (cs.drop (off + s)).take m := by
   rw [List.take_add, List.drop_drop]
  rw [hsplit]
  exact RXs.app0 h1 g1

theorem weightsEach_mem {H : Type} {P : Program} : ∀ {fl : List Field} {xs : List (DataW H × List MemPlace)} {i : Nat} {fd : Field} {x : DataW H × List MemPlace}, fl[i]? = some fd → xs[i]? = some x →
  ∀ n ∈ x.1.weights P fd.type, n ∈ DataW.weightsEach P (fl.map (·.type)) (xs.map (·.1))
 | f :: fl, y :: xs, 0, fd, x, h, h', n, hn => by
  simp only [List.getElem?_cons_zero, Option.some.injEq] at h h'
  subst h h'
  simp only [List.map_cons, DataW.weightsEach, List.mem_append]
  exact .inl hn
 | f :: fl, y :: xs, i + 1, fd, x, h, h', n, hn => by
  simp only [List.map_cons, DataW.weightsEach, List.mem_append]
  exact .inr (weightsEach_mem (i := i) (by simpa using h) (by simpa using h') n hn)
theorem Reads.struct {fs : Array Field} {m : Nat} (ht : P.underlying t = some (.struct fs)) (hC : P.cellsOf t = m) (h : ReadsL enc P W base fs.toList 0 m f p mf) : Reads enc P W base t f p mf := by
 intro fuel cs y hy hsz
 obtain ⟨xs, n, _, rfl, hlen, hxl, hx⟩ := DataW.trod_struct ht hy
 obtain ⟨a, ha, h1, h2, h3, h4⟩ := h n cs xs om (by simpa using hxl) (fun i fd hi => hx i fd (by simpa using hi)) (fun i fd x hi hx' k hk => by
  refine hsz k ?_
  simp only [DataW.weights, ht]
  exact weightsEach_mem hi hx' k hk)
 refine ⟨a, ha, ?_, h2, h3, by show _ ≤ blkAll _ + 1; omega⟩
 rw [List.drop_zero, List.take_of_length_le om] at h1
 exact h1
theorem Reads.arr2 {s : Nat} (ht : P.underlying t = some (.array 2 e)) (hC : P.cellsOf e = s) (hT : P.cellsOf t = 2 * s) (h : Reads enc P W base e f p mf) :
  Reads enc P W base t (fun x : α × α => f x.1 ++ f x.2) (fun x => p x.1 ∧ p x.2) (fun _ => 0) := by
 intro fuel cs y hy hsz
 obtain ⟨xs, n, _, rfl, hlen, hxl, hx⟩ := DataW.trod_array ht hy
 match xs, hxl with
 | [x0, x1], _ =>
  have w0 : ∀ x ∈ [x0, x1], Sz P e x.1 := fun x hx k hk => hsz k (by
   simp only [DataW.weights, ht]
   exact weightsAll_mem (List.mem_map.2 ⟨x, hx, rfl⟩) k hk)
  obtain ⟨a, ha, a1, a2, a3, _⟩ := h n _ x0 (hx 0 om) (w0 x0 (by simp))
  obtain ⟨b, hb, b1, b2, b3, _⟩ := h n _ x1 (hx 1 om) (w0 x1 (by simp))
  refine ⟨(a, b), ⟨ha, hb⟩, ?_, frees_app a2 b2, nrs_app a3 b3, Nat.zero_le _⟩
  have hsplit : cs = (cs.drop (0 * P.cellsOf e)).take (P.cellsOf e) ++ (cs.drop (1 * P.cellsOf e)).take (P.cellsOf e) := by
   rw [Nat.zero_mul, Nat.one_mul, List.drop_zero, hC, List.take_of_length_le (l := cs.drop s) (by rw [List.length_drop]; omega), List.take_append_drop]
  rw [hsplit]
  exact RXs.app0 a1 b1
theorem Reads.arr3 {s : Nat} (ht : P.underlying t = some (.array 3 e)) (hC : P.cellsOf e = s) (hT : P.cellsOf t = 3 * s) (h : Reads enc P W base e f p mf) :
  Reads enc P W base t (fun x : α × α × α => f x.1 ++ (f x.2.1 ++ f x.2.2)) (fun x => p x.1 ∧ p x.2.1 ∧ p x.2.2) (fun _ => 0) := by
 intro fuel cs y hy hsz
 obtain ⟨xs, n, _, rfl, hlen, hxl, hx⟩ := DataW.trod_array ht hy
 match xs, hxl with
 | [x0, x1, x2], _ =>
  have w0 : ∀ x ∈ [x0, x1, x2], Sz P e x.1 := fun x hx k hk => hsz k (by
   simp only [DataW.weights, ht]
   exact weightsAll_mem (List.mem_map.2 ⟨x, hx, rfl⟩) k hk)
  obtain ⟨a, ha, a1, a2, a3, _⟩ := h n _ x0 (hx 0 om) (w0 x0 (by simp))
  obtain ⟨b, hb, b1, b2, b3, _⟩ := h n _ x1 (hx 1 om) (w0 x1 (by simp))
  obtain ⟨c, hc, c1, c2, c3, _⟩ := h n _ x2 (hx 2 om) (w0 x2 (by simp))
  refine ⟨(a, b, c), ⟨ha, hb, hc⟩, ?_, frees_app a2 (frees_app b2 c2), nrs_app a3 (nrs_app b3 c3), Nat.zero_le _⟩
  have hsplit : cs = (cs.drop (0 * P.cellsOf e)).take (P.cellsOf e) ++ ((cs.drop (1 * P.cellsOf e)).take (P.cellsOf e) ++ (cs.drop (2 * P.cellsOf e)).take (P.cellsOf e)) := by
   rw [Nat.zero_mul, Nat.one_mul, List.drop_zero, hC, List.take_of_length_le (l := cs.drop (2 * s)) (by rw [List.length_drop]; omega), show 2 * s = s + s by omega, ← List.drop_drop, List.take_append_drop, List.take_append_drop]
  rw [hsplit]
  exact RXs.app0 a1 (RXs.app0 b1 c1)

theorem Reads.one {x : α → X} {v : Value} {d : DataW H} {ps : List MemPlace} (h : Reads enc P W base t (fun a => [x a]) p mf) (hs : Sz P t d) (hv : v.cells.toList = [v]) (ht : DataW.Trod enc P W base (fun _ => true) true t v d ps) :
  ∃ a, p a ∧ RX (E0 W) (x a) v [] ∧ mf a ≤ blk d := by
 obtain ⟨fuel, hf⟩ := ht
 rw [hv] at hf
 obtain ⟨a, ha, h1, _, _, h5⟩ := h fuel _ _ hf hs
 simp only [RXs] at h1
 obtain ⟨c, cs', R₁, R₂, hc, _, h2, _, hR⟩ := h1
 obtain ⟨rfl, rfl⟩ := List.append_eq_nil_iff.1 hR.symm
 simp only [List.cons.injEq] at hc
 exact ⟨a, ha, by rw [hc.1]; exact h2, h5⟩
theorem Reads.agg {cs : Array Value} {d : DataW H} {ps : List MemPlace} (h : Reads enc P W base t f p mf) (hs : Sz P t d) (ht : DataW.Trod enc P W base (fun _ => true) true t (.agg cs) d ps) :
  ∃ a, p a ∧ RX (E0 W) (.agg (f a)) (.agg cs) [] ∧ mf a ≤ blk d := by
 obtain ⟨fuel, hf⟩ := ht
 obtain ⟨a, ha, h1, _, _, h5⟩ := h fuel _ _ hf hs
 exact ⟨a, ha, by simp only [RX]; exact ⟨cs, rfl, h1⟩, h5⟩
theorem Sz.of {ts : List TypeId} {ds : List (DataW H)} (h : (DataW.weightsEach P ts ds).all (· ≤ reachBytes) = true) {j : Nat} {d : DataW H} (hts : ts[j]? = some t) (hds : ds[j]? = some d) : Sz P t d := by
 intro n hn
 have := List.all_eq_true.1 h _ (DataW.weights_mem_each hts hds n hn)
 have h2 := of_decide_eq_true this
 exact h2
end
end Go.AW
/- Part of the abstract walk: in an open order, operations that leave memory as it is may be taken in a row, if nothing else can come up before them. -/
namespace Go.AW
open Go

def waitsB (ops : Array Oper) (j i : Nat) : Bool := match ops[j]? with
 | some o => o.after.any fun e => Region.binds .any e && e.on == i
 | none => false
def rowB (ops : Array Oper) (l rest : List Nat) (t : Nat) (listed : Array Bool) : Bool :=
 listed.size == ops.size && ((List.range ops.size).all fun j => !listed.getD j false || match ops[j]? with
  | some o => o.after.all fun e => !Region.binds .any e || listed.getD e.on false
  | none => true) && ((List.range ops.size).all fun j => listed.getD j true || l.contains j || rest.contains j) && (rest.all fun j => !listed.getD j true && !l.contains j) && (l.all fun j => !listed.getD j true) &&
  (rest.isEmpty || l.all fun i => (t :: l).any fun j => decide (i < j) && waitsB ops j i) && (rest.all fun j => j == t || rest.any fun k => waitsB ops j k) && decide l.Nodup

structure On (ops : Array Oper) (l0 rest : List Nat) (t : Nat) (l : List Nat) (listed : Array Bool) : Prop where
 size : listed.size = ops.size
 closed : ∀ j o, ops[j]? = some o → listed.getD j false = true → ∀ e ∈ o.after, Region.binds .any e = true → listed.getD e.on false = true
 part : ∀ j, listed.getD j true = false → j ∈ l ∨ j ∈ rest
 out : ∀ j ∈ rest, listed.getD j true = false ∧ j ∉ l0
 open_ : ∀ j ∈ l, listed.getD j true = false
 sub : ∀ j ∈ l, j ∈ l0
 sink : rest ≠ [] → ∀ i ∈ l0, ∃ j, (j = t ∨ j ∈ l0) ∧ i < j ∧ waitsB ops j i = true
 wait : ∀ j ∈ rest, j = t ∨ ∃ k ∈ rest, waitsB ops j k = true
 nodup : l.Nodup

theorem getD_flip {listed : Array Bool} {i : Nat} (h : listed.getD i true = false) : listed.getD i false = false := by
 rcases Nat.lt_or_ge i listed.size with h' | h'
 ·simp [h'] at h ⊢; exact h
 ·simp [Array.getElem?_eq_none h'] at h
theorem getD_flip' {listed : Array Bool} {i : Nat} (hi : i < listed.size) (h : listed.getD i false = false) : listed.getD i true = false := by
 simp [hi] at h ⊢; exact h
theorem waitsB_spec {ops : Array Oper} {j i : Nat} (h : waitsB ops j i = true) : ∃ o, ops[j]? = some o ∧ ∃ e ∈ o.after, Region.binds .any e = true ∧ e.on = i := by
 unfold waitsB at h
 split at h
 ·rename_i o ho
  obtain ⟨e, he, hb⟩ := Array.any_eq_true'.1 h
  simp only [Bool.and_eq_true, beq_iff_eq] at hb
  exact ⟨o, ho, e, he, hb.1, hb.2⟩
 ·cases h
theorem rowB_on {ops : Array Oper} {l rest : List Nat} {t : Nat} {listed : Array Bool} (h : rowB ops l rest t listed = true) : On ops l rest t l listed := by
 simp only [rowB, Bool.and_eq_true, beq_iff_eq, List.all_eq_true, decide_eq_true_eq, List.mem_range, Bool.or_eq_true, Bool.not_eq_true', List.any_eq_true, List.contains_iff_mem] at h
 obtain ⟨⟨⟨⟨⟨⟨⟨h1, h2⟩, h3⟩, h4⟩, h5⟩, h6⟩, h7⟩, h8⟩ := h
 refine ⟨h1, ?_, ?_, ?_, h5, fun _ h => h, ?_, ?_, h8⟩
 ·intro j o ho hl e he hb
  have := h2 j (Array.getElem?_eq_some_iff.1 ho).1
  rw [hl, ho] at this
  simp only [Bool.true_eq_false, false_or] at this
  have h9 := Array.all_eq_true_iff_forall_mem.1 this e he
  simpa [hb] using h9
 ·intro j hj
  have hjs : j < ops.size := by
   rcases Nat.lt_or_ge j listed.size with h' | h'
   ·omega
   ·simp [Array.getElem?_eq_none h'] at hj
  have := h3 j hjs
  rw [hj] at this
  simpa using this
 ·intro j hj
  have := h4 j hj
  exact ⟨this.1, by simpa using this.2⟩
 ·intro hne i hi
  obtain ⟨j, hj, hlt, hw⟩ := (h6.resolve_left (by simpa using hne)) i hi
  exact ⟨j, by simpa using hj, hlt, hw⟩
 ·intro j hj
  exact h7 j hj
theorem not_ready {ops : Array Oper} {listed : Array Bool} {j k : Nat} (hw : waitsB ops j k = true) (hk : listed.getD k true = false) : j ∉ Region.ready .any ops listed := by
 intro hj
 obtain ⟨_, o, ho, hall⟩ := mem_ready.1 hj
 obtain ⟨o', ho', e, he, hb, hon⟩ := waitsB_spec hw
 rw [ho] at ho'
 cases ho'
 have := hall e he hb
 rw [hon, getD_flip hk] at this
 cases this
theorem exists_max : ∀ {l : List Nat}, l ≠ [] → ∃ m ∈ l, ∀ x ∈ l, x ≤ m
 | [], h => absurd rfl h
 | [a], _ => ⟨a, by simp, by simp⟩
 | a :: b :: r, _ => by
  obtain ⟨m, hm, hx⟩ := exists_max (l := b :: r) (by simp)
  rcases Nat.le_total a m with h | h
  ·exact ⟨m, List.mem_cons_of_mem _ hm, fun x hx' => by rcases List.mem_cons.1 hx' with rfl | hx'; exact h; exact hx x hx'⟩
  ·exact ⟨a, by simp, fun x hx' => by rcases List.mem_cons.1 hx' with rfl | hx'; exact Nat.le_refl _; exact Nat.le_trans (hx x hx') h⟩
theorem On.ready {ops : Array Oper} {l0 rest l : List Nat} {t : Nat} {listed : Array Bool} (h : On ops l0 rest t l listed) (hne : l ≠ []) : ∀ j ∈ Region.ready .any ops listed, j ∈ l := by
 intro j hj
 have hun := (mem_ready.1 hj).1
 rcases h.part j hun with hl | hr
 ·exact hl
 ·exfalso
  rcases h.wait j hr with rfl | ⟨k, hk, hw⟩
  ·obtain ⟨m, hm, hmax⟩ := exists_max hne
   obtain ⟨j', hj', hlt, hw⟩ := h.sink (fun e => by rw [e] at hr; cases hr) m (h.sub m hm)
   rcases hj' with rfl | hj'
   ·exact not_ready hw (h.open_ m hm) hj
   ·obtain ⟨o, ho, e, he, hb, hon⟩ := waitsB_spec hw
    cases hl : listed.getD j' false with
    | true =>
     have := h.closed j' o ho hl e he hb
     rw [hon, getD_flip (h.open_ m hm)] at this
     cases this
    | false =>
     have hs : j' < listed.size := by rw [h.size]; exact (Array.getElem?_eq_some_iff.1 ho).1
     rcases h.part j' (getD_flip' hs hl) with h1 | h1
     ·have := hmax j' h1; omega
     ·exact (h.out j' h1).2 hj'
  ·exact not_ready hw (h.out k hk).1 hj
theorem On.step {ops : Array Oper} {l0 rest l : List Nat} {t j : Nat} {listed : Array Bool} (h : On ops l0 rest t l listed) (hj : j ∈ Region.ready .any ops listed) (hl : j ∈ l) : On ops l0 rest t (l.erase j) (listed.setIfInBounds j true) := by
 obtain ⟨_, oj, hoj, hall⟩ := mem_ready.1 hj
 have other : ∀ k (d : Bool), j ≠ k → (listed.setIfInBounds j true).getD k d = listed.getD k d := fun k d hjk => by
  simp only [Array.getD_eq_getD_getElem?, Array.getElem?_setIfInBounds_ne hjk]
 refine ⟨by simp [h.size], ?_, ?_, ?_, ?_, fun k hk => h.sub k (List.mem_of_mem_erase hk), h.sink, h.wait, h.nodup.erase j⟩
 ·intro k o ho hk e he hb
  by_cases hjk : j = k
  ·subst hjk
   rw [hoj] at ho
   cases ho
   exact getD_set_true (hall e he hb)
  ·rw [other k false hjk] at hk
   exact getD_set_true (h.closed k o ho hk e he hb)
 ·intro k hk
  by_cases hjk : j = k
  ·subst hjk
   rw [Array.getD_eq_getD_getElem?] at hk
   rcases Nat.lt_or_ge j listed.size with h' | h'
   ·simp [h'] at hk
   ·simp at hk
  ·rw [other k true hjk] at hk
   rcases h.part k hk with h1 | h1
   ·exact .inl ((List.mem_erase_of_ne (fun e => hjk e.symm)).2 h1)
   ·exact .inr h1
 ·intro k hk
  have h1 := h.out k hk
  have hjk : j ≠ k := fun e => h1.2 (e ▸ h.sub j hl)
  exact ⟨by rw [other k true hjk]; exact h1.1, h1.2⟩
 ·intro k hk
  have hjk : j ≠ k := fun e => by subst e; exact (List.Nodup.not_mem_erase h.nodup) hk
  rw [other k true hjk]; exact h.open_ k (List.mem_of_mem_erase hk)

section
variable {P : Program} {N : Frm} {ops : Array Oper} {d : Nat} {ty : TypeId} {pos : String} {af : Array Edge}
def Quiet (P : Program) (ops : Array Oper) (w : World) (L : Array Bool → Act → Prop) : Nat → Array Bool → Act → Prop
 | 0, listed, a => L listed a
 | n + 1, listed, a => Region.ready .any ops listed ≠ [] ∧ ∀ j ∈ Region.ready .any ops listed, stOp P ops w j (Quiet P ops w L n (listed.setIfInBounds j true)) a

theorem Quiet.any {w : World} {L : Array Bool → Act → Prop} {Q' : Exit → Act → World → Prop} {k : Nat} (hL : ∀ listed a, L listed a → wpAny P .any ops Q' k listed a w) :
  ∀ (n : Nat) (listed : Array Bool) (a : Act), Quiet P ops w L n listed a → wpAny P .any ops Q' (n + k) listed a w
 | 0, listed, a, h => by rw [Nat.zero_add]; exact hL _ _ h
 | n + 1, listed, a, h => by
  rw [Nat.add_right_comm]
  exact ⟨fun e => absurd e h.1, fun j hj => wpOp_of_stOp (fun a' => Quiet.any hL n _ a') (h.2 j hj)⟩

theorem Quiet.first {l0 rest : List Nat} {t : Nat} {w : World} {L : Array Bool → Act → Prop} {i : Nat} {oi : Oper} {v : Value} (hi : ops[i]? = some oi) (hsel : Region.noSelect ops = true) : ∀ (n : Nat) (l : List Nat) (listed : Array Bool) (a : Act),
  l.length = n → On ops l0 rest t (i :: l) listed → (∀ j oj, ops[j]? = some oj → j ≠ i → listed.getD j true = false → (∀ e ∈ oj.after, Region.binds .any e = true → e.on ≠ i) → oi.apart ops oj = true) →
  i ∈ Region.ready .any ops listed → YieldsAt P ops w oi v a → Quiet P ops w L n (listed.setIfInBounds i true) (a.put oi.dst v) → Quiet P ops w L (n + 1) listed a := by
 intro n
 induction n with
 | zero =>
  intro l listed a hl hB _ hr hy H
  refine ⟨fun e => (by rw [e] at hr; cases hr), fun j hj => ?_⟩
  have h1 := hB.ready (by simp) j hj
  have hl0 : l = [] := List.length_eq_zero_iff.1 hl
  subst hl0
  obtain rfl : j = i := by simpa using h1
  exact hy.stOp hi H
 | succ n ih =>
  intro l listed a hl hB hfree hr hy H
  refine ⟨fun e => (by rw [e] at hr; cases hr), fun j hj => ?_⟩
  by_cases hji : j = i
  ·subst hji; exact hy.stOp hi H
  ·have h1 := hB.ready (by simp) j hj
   have h2 := hB.step hj h1
   have hjl : j ∈ l := by simpa [hji] using h1
   have hne : (i == j) = false := by simpa using fun h => hji h.symm
   rw [List.erase_cons, hne] at h2
   obtain ⟨hun, oj, hoj, hall⟩ := mem_ready.1 hj
   have hnot : ∀ e ∈ oj.after, Region.binds .any e = true → e.on ≠ i := by
    intro e he hb heq
    have h3 := hall e he hb
    have h4 := (mem_ready.1 hr).1
    rw [heq] at h3
    rcases Nat.lt_or_ge i listed.size with h' | h'
    ·simp [h'] at h3 h4; rw [h3] at h4; cases h4
    ·simp [Array.getElem?_eq_none h'] at h3
   have h5 := stOp_put hoj (hfree j oj hoj hji hun hnot) (fun cs b => Region.noSelect_spec hsel i oi cs b hi) (fun cs b => Region.noSelect_spec hsel j oj cs b hoj) hy (H.2 j (ready_mono hj hji))
   refine stOp_mono (fun a' h6 => ih (l.erase j) _ a' (by rw [List.length_erase_of_mem hjl, hl]; rfl) h2 ?_ (ready_mono hr (fun h => hji h.symm)) h6.1 ?_) h5
   ·intro k ok hk hki hku hno
    refine hfree k ok hk hki ?_ hno
    by_cases hjk : j = k
    ·subst hjk; exact hun
    ·have : (listed.setIfInBounds j true).getD k true = listed.getD k true := by
      simp only [Array.getD_eq_getD_getElem?, Array.getElem?_setIfInBounds_ne hjk]
     rw [this] at hku; exact hku
   ·have : (listed.setIfInBounds j true).setIfInBounds i true = (listed.setIfInBounds i true).setIfInBounds j true := Array.setIfInBounds_comm _ _ hji
    rw [this]; exact h6.2

def AQ (P : Program) (N : Frm) (ops : Array Oper) (l0 rest : List Nat) (t : Nat) (l : List Nat) (listed : Array Bool) (st : St) (K : Array Bool → St → Prop) : Prop :=
 On ops l0 rest t l listed → ∀ G : Ctx, G.fn = N → ∀ a w, Holds G st a w → Quiet P ops w (fun listed' a' => ∃ st', K listed' st' ∧ Holds G st' a' w) l.length listed a

theorem AQ.nil {l0 rest : List Nat} {t : Nat} {listed : Array Bool} {st : St} {K : Array Bool → St → Prop} (h : K listed st) : AQ P N ops l0 rest t [] listed st K := fun _ _ _ _ _ hh => ⟨st, h, hh⟩
theorem AQ.cons {l0 rest : List Nat} {t i : Nat} {l : List Nat} {listed : Array Bool} {st : St} {K : Array Bool → St → Prop} {op : Op} {x : X} (ho : ops[i]? = some ⟨some d, op, ty, pos, af, none⟩)
  (hB : (Region.noSelect ops && Region.free .any ops listed i && (Region.ready .any ops listed).contains i) = true) (hy : Yields P N st ⟨some d, op, ty, pos, af, none⟩ x) (hd : d < N.n)
  (k : AQ P N ops l0 rest t l (listed.setIfInBounds i true) (st.put d x) K) : AQ P N ops l0 rest t (i :: l) listed st K := by
 intro h4 G hn a w hh
 obtain ⟨E, RR, rfl, hi⟩ := hh
 obtain ⟨u, hr, hx⟩ := hy G E RR a hn hi
 simp only [Bool.and_eq_true] at hB
 obtain ⟨⟨h1, h2⟩, h3⟩ := hB
 have h5 := h4.step (j := i) (by simpa using h3) (by simp)
 rw [List.erase_cons_head] at h5
 exact Quiet.first ho h1 l.length l listed a rfl h4 (Region.free_spec ho h2) (by simpa using h3) (v := u) (.inl ⟨by simp [Region.wanted], .inl hr⟩) (k h5 G hn _ _ ⟨E, _, rfl, hi.put0 (hn ▸ hd) hx⟩)
theorem AQ.skip {l0 rest : List Nat} {t i : Nat} {l : List Nat} {listed : Array Bool} {st : St} {K : Array Bool → St → Prop} {op : Op} {j dj : Nat} {want : Bool} {u : Value} (ho : ops[i]? = some ⟨some d, op, ty, pos, af, some (j, want)⟩)
  (hB : (Region.noSelect ops && Region.free .any ops listed i && (Region.ready .any ops listed).contains i) = true)
  (hj : (ops[j]?).bind (·.dst) = some dj) (hdj : dj < N.n) (hd : d < N.n) (hx : look st.slots dj = some (.v u)) (hne : notB want u = true)
  (k : AQ P N ops l0 rest t l (listed.setIfInBounds i true) (st.put d (.v undef)) K) : AQ P N ops l0 rest t (i :: l) listed st K := by
 intro h4 G hn a w hh
 obtain ⟨E, RR, rfl, hi⟩ := hh
 simp only [Bool.and_eq_true] at hB
 obtain ⟨⟨h1, h2⟩, h3⟩ := hB
 have h5 := h4.step (j := i) (by simpa using h3) (by simp)
 rw [List.erase_cons_head] at h5
 have hw := unwanted (all := ops) (dst := some d) (op := op) (ty := ty) (pos := pos) (af := af) hi hj (hn ▸ hdj) hx hne
 exact Quiet.first ho h1 l.length l listed a rfl h4 (Region.free_spec ho h2) (by simpa using h3) (v := undef) (.inr ⟨hw, rfl⟩) (k h5 G hn _ _ ⟨E, _, rfl, hi.put0 (hn ▸ hd) (by simp [RX])⟩)
theorem AQ.run {l0 rest : List Nat} {t i : Nat} {l : List Nat} {listed : Array Bool} {st : St} {K : Array Bool → St → Prop} {op : Op} {x : X} {j dj : Nat} {want : Bool} (ho : ops[i]? = some ⟨some d, op, ty, pos, af, some (j, want)⟩)
  (hB : (Region.noSelect ops && Region.free .any ops listed i && (Region.ready .any ops listed).contains i) = true)
  (hj : (ops[j]?).bind (·.dst) = some dj) (hdj : dj < N.n) (hx : look st.slots dj = some (.v (.bool want))) (hy : Yields P N st ⟨some d, op, ty, pos, af, some (j, want)⟩ x) (hd : d < N.n)
  (k : AQ P N ops l0 rest t l (listed.setIfInBounds i true) (st.put d x) K) : AQ P N ops l0 rest t (i :: l) listed st K := by
 intro h4 G hn a w hh
 obtain ⟨E, RR, rfl, hi⟩ := hh
 obtain ⟨u, hr, hx'⟩ := hy G E RR a hn hi
 simp only [Bool.and_eq_true] at hB
 obtain ⟨⟨h1, h2⟩, h3⟩ := hB
 have h5 := h4.step (j := i) (by simpa using h3) (by simp)
 rw [List.erase_cons_head] at h5
 have hs := hi.slots dj _ hx
 simp only [RX] at hs
 have hsz : dj < a.tmps.size := by rw [hi.tmps, hn]; exact hdj
 have hv : a.tmps[dj]? = some (.bool want) := by
  have := hs.1
  simp only [Array.getD, hsz, dif_pos] at this
  rw [Array.getElem?_eq_getElem hsz]
  exact congrArg some this
 have hw : Region.wanted ⟨some d, op, ty, pos, af, some (j, want)⟩ (yielded ops a.tmps) = true := by
  simp [Region.wanted, yielded, hj, hv]
 exact Quiet.first ho h1 l.length l listed a rfl h4 (Region.free_spec ho h2) (by simpa using h3) (v := u) (.inl ⟨hw, .inl hr⟩) (k h5 G hn _ _ ⟨E, _, rfl, hi.put0 (hn ▸ hd) hx'⟩)
theorem AAny.quietN (l rest : List Nat) (t : Nat) {m n : Nat} (hm : m = l.length + n) {listed : Array Bool} {st : St} {K : St → Prop} (hB : rowB ops l rest t listed = true)
  (h : AQ P N ops l rest t l listed st (fun listed' st' => AAny P N ops n listed' st' K)) : AAny P N ops m listed st K := by
 subst hm
 intro G hn a w hh
 refine Quiet.any (fun listed' a' ⟨st', hk, hh'⟩ => ?_) l.length listed a (h (rowB_on hB) G hn a w hh)
 exact hk G hn a' w hh'
end
end Go.AW
/- Part of the abstract walk: values of one's own that move. -/
namespace Go.AW
open Go

section
variable {P : Program} {N : Frm} {st : St} {Q : Exit → St → Prop} {all : Array Oper} {rest : List Oper} {d : Nat} {ty : TypeId} {pos : String} {af : Array Edge}

theorem Inv.moveX {G : Ctx} {E : Env} {RR : Own → List Nat} {a : Act} (hi : Inv G E RR st a) {tv : Nat} {x : X} (hy : look st.slots tv = some x) (hd : d < G.fn.n) :
  ∃ RR', Inv G E RR' ((st.put tv .no).put d x) (a.put (some d) (a.eval (.tmp tv))) := by
 have hv := hi.slots tv _ hy
 have hi2 := hi.no tv
 refine ⟨_, hi2.put (R := RR (.slot tv)) hd hv (hi.nodup _) (fun b hb => ⟨(hi.own _ _ hb).1, (hi.own _ _ hb).2, fun p _ hp => ?_⟩)⟩
 unfold upd at hp
 split at hp
 ·cases hp
 ·rename_i h; exact hi.apart _ _ h b hp hb
theorem AOps.assignX {tv : Nat} {x : X} (hy : look st.slots tv = some x) (hd : d < N.n) (k : AOps P N all rest ((st.put tv .no).put d x) Q) :
  AOps P N all (⟨some d, .assign (.tmp tv), ty, pos, af, none⟩ :: rest) st Q :=
 AOps.eff (fun G E RR a hn hi => let ⟨RR', h⟩ := hi.moveX hy (by rw [hn]; exact hd); ⟨a.eval (.tmp tv), E, RR', rfl, h⟩) k
theorem AOps.moveX {tv : Nat} {x : X} (hy : look st.slots tv = some x) (hd : d < N.n) (k : AOps P N all rest ((st.put tv .no).put d x) Q) :
  AOps P N all (⟨some d, .move (.tmp tv), ty, pos, af, none⟩ :: rest) st Q :=
 AOps.eff (fun G E RR a hn hi => let ⟨RR', h⟩ := hi.moveX hy (by rw [hn]; exact hd); ⟨a.eval (.tmp tv), E, RR', rfl, h⟩) k

theorem RXt.takeOut {E : Env} : ∀ {xs : List X} {cs : List Value} {R : List Nat} {k : Nat} {x : X}, RXt E xs cs R → xs[k]? = some x →
  ∃ u Ra Rk Rb, cs[k]? = some u ∧ RX E x u Rk ∧ R = Ra ++ (Rk ++ Rb) ∧ RXt E (xs.set k .no) cs (Ra ++ Rb)
 | [], _, _, _, _, _, h => by simp at h
 | y :: r, cs, R, 0, x, h, hx => by
  simp only [RXt] at h
  simp only [List.getElem?_cons_zero, Option.some.injEq] at hx
  subst hx
  obtain ⟨c, cs', R₁, R₂, rfl, h1, h2, rfl⟩ := h
  refine ⟨c, [], R₁, R₂, rfl, h1, rfl, ?_⟩
  simp only [List.set_cons_zero, RXt, List.nil_append]
  exact ⟨c, cs', [], R₂, rfl, by simp [RX], h2, rfl⟩
 | y :: r, cs, R, k + 1, x, h, hx => by
  simp only [RXt] at h
  obtain ⟨c, cs', R₁, R₂, rfl, h1, h2, rfl⟩ := h
  obtain ⟨u, Ra, Rk, Rb, hu, h3, rfl, h4⟩ := RXt.takeOut (k := k) h2 (by simpa using hx)
  refine ⟨u, R₁ ++ Ra, Rk, Rb, by simpa using hu, h3, by simp, ?_⟩
  simp only [List.set_cons_succ, RXt]
  exact ⟨c, cs', R₁, Ra ++ Rb, rfl, h1, h4, by simp⟩

theorem AOps.extractU {tv : Nat} {xs : List X} {y : X} {k : Nat} (hx : look st.slots tv = some (.tup xs)) (hy : xs[k]? = some y) (hd : d < N.n)
  (kk : AOps P N all rest ((st.put tv (.tup (xs.set k .no))).put d y) Q) : AOps P N all (⟨some d, .extract (.tmp tv) k, ty, pos, af, none⟩ :: rest) st Q := by
 refine AOps.eff (fun G E RR a hn hi => ?_) kk
 have hp := hi.slots tv _ hx
 have hnd := hi.nodup (.slot tv)
 simp only [RX] at hp
 obtain ⟨cs, hc, hxs⟩ := hp
 obtain ⟨u, Ra, Rk, Rb, hu, h1, hR, h2⟩ := RXt.takeOut hxs hy
 have hsub : ∀ b ∈ Ra ++ Rb, b ∈ RR (.slot tv) := by
  intro b hb
  rw [hR]
  rcases List.mem_append.1 hb with h | h
  ·exact mem_app_l h
  ·exact mem_app_r (mem_app_r h)
 have hsubk : ∀ b ∈ Rk, b ∈ RR (.slot tv) := fun b hb => by rw [hR]; exact mem_app_r (mem_app_l hb)
 rw [hR, List.nodup_append, List.nodup_append] at hnd
 obtain ⟨hna, ⟨hnk, hnb, hkb⟩, hab⟩ := hnd
 have hndab : (Ra ++ Rb).Nodup := List.nodup_append.2 ⟨hna, hnb, fun x hx y hy => hab x hx y (mem_app_r hy)⟩
 have hi2 := hi.relabel (d := tv) (x := .tup (xs.set k .no)) (R := Ra ++ Rb) (by simp only [RX]; exact ⟨cs, hc, h2⟩) hndab
  (fun b hb => ⟨(hi.own _ _ (hsub b hb)).1, (hi.own _ _ (hsub b hb)).2, fun p hp hbp => hi.apart p (.slot tv) hp b hbp (hsub b hb)⟩)
 refine ⟨u, E, _, ?_, hi2.put (R := Rk) (by rw [hn]; exact hd) h1 hnk (fun b hb => ⟨(hi.own _ _ (hsubk b hb)).1, (hi.own _ _ (hsubk b hb)).2, fun p _ hbp => ?_⟩)⟩
 ·show (do let z ← Instr.extract (a.eval (.tmp tv)) k; pure (Next.value z) : Sem Next).run P E.w = _
  have hc' : a.eval (.tmp tv) = .tuple cs := hc
  rw [hc']
  refine run_v ?_
  have hu' : cs[k]? = some u := by simpa using hu
  simp only [Instr.extract, hu']; rfl
 ·unfold upd at hbp
  split at hbp
  ·rcases List.mem_append.1 hbp with h | h
   ·exact hab b h b (mem_app_l hb) rfl
   ·exact hkb b hb b h rfl
  ·rename_i h; exact hi.apart _ _ h b hbp (hsubk b hb)
end
end Go.AW
/- Part of the abstract walk: calls whose result is known by a relation. -/
namespace Go.AW
open Go

section
variable {P : Program} {N : Frm} {st : St} {Q : Exit → St → Prop} {all : Array Oper} {rest : List Oper} {d : Nat} {ty : TypeId} {pos : String} {af : Array Edge}
theorem AOps.callLV {f : FuncId} {fargs : Array Operand} {ats : Array TypeId} {xs args : List X} {Q' : X → List Obj → Prop} (L : List Nat) (hok : callOK P f = true) (hspec : ACalls P f args [] [] Q')
  (hxs : opds st fargs.toList = some xs) (hargs : LentL st L (nameF []) xs args) (h0 : ∀ o ∈ L, ∃ ob, look st.objs o = some ob ∧ Owns0 ob) (hd : d < N.n)
  (k : ∀ r, Q' r [] → r.lt 0 = true ∧ r.plain ∧ AOps P N all rest (st.put d (r.ren (nameF []))) Q) :
  AOps P N all (⟨some d, .call ⟨.value (.func f), fargs, ats⟩, ty, pos, af, none⟩ :: rest) st Q := by
 refine AOps.call [] L hok hspec hxs hargs (fun j ob h => by simp at h) rfl List.nodup_nil (fun _ _ h => by cases h) h0 (fun _ h => by cases h) hd ?_
 intro r objs' hq hl
 have : objs' = [] := List.eq_nil_of_length_eq_zero hl
 subst this
 obtain ⟨h1, h2, h3⟩ := k r hq
 refine ⟨⟨h1, fun _ h => (by cases h), .inr ⟨h2, fun _ h => (by cases h)⟩⟩, ?_⟩
 rw [callSt_nil]; exact h3
end
end Go.AW
/- Part of the abstract walk: boxes that are written no more; functions as values; tests in open orders. -/
namespace Go.AW
open Go

mutual
def X.fzp (o : Nat) (row : List X) : X → X
 | .ptr p s i k => bif Nat.beq p o && Nat.beq (i * s) 0 then .fp row k else .ptr p s i k
 | .agg xs => .agg (X.fzps o row xs)
 | .tup xs => .tup (X.fzps o row xs)
 | .clo f a b => .clo f (X.fzps o row a) (X.fzps o row b)
 | .v u => .v u
 | .no => .no
 | .fz s rs => .fz s rs
 | .uni s rs => .uni s rs
 | .slc p s l n => .slc p s l n
 | .mref p => .mref p
 | .fp r k => .fp r k
def X.fzps (o : Nat) (row : List X) : List X → List X
 | [] => []
 | x :: r => X.fzp o row x :: X.fzps o row r
end
def Obj.fzp (o : Nat) (row : List X) : Obj → Obj
 | .cells xs => .cells (X.fzps o row xs)
 | ob => ob

mutual
theorem X.fzp_free {o : Nat} {row : List X} : ∀ {x : X}, x.free = true → (x.fzp o row).free = true
 | .ptr p s i k, _ => by
  simp only [X.fzp]
  cases Nat.beq p o && Nat.beq (i * s) 0 <;> rfl
 | .agg xs, h => X.fzps_frees (xs := xs) h
 | .tup xs, h => X.fzps_frees (xs := xs) h
 | .clo f a b, _ => rfl
 | .v u, _ | .no, _ | .fz s rs, _ | .slc p s l n, _ | .mref p, _ | .fp r k, _ => rfl
theorem X.fzps_frees {o : Nat} {row : List X} : ∀ {xs : List X}, X.frees xs = true → X.frees (X.fzps o row xs) = true
 | [], _ => rfl
 | x :: r, h => by
  simp only [X.frees, Bool.and_eq_true] at h
  simp only [X.fzps, X.frees, X.fzp_free h.1, X.fzps_frees h.2, Bool.and_self]
end
theorem X.fzps_len {o : Nat} {row : List X} : ∀ {xs : List X}, (X.fzps o row xs).length = xs.length
 | [] => rfl
 | x :: r => by simp [X.fzps, X.fzps_len (xs := r)]

mutual
theorem RX.fzp {E E' : Env} {o : Nat} {row : List X} {B : Blk} (hB : E.β o = some B) (hF : RF E' row B.b B.off) (hβ : E'.β = E.β) : ∀ (x : X) (c : Value) (R : List Nat), E.On E' R → RX E x c R → RX E' (x.fzp o row) c R
 | .ptr p s i k, c, R, hE, h => by
  simp only [X.fzp]
  cases hc : Nat.beq p o && Nat.beq (i * s) 0 with
  | false => simp only [cond_false]; exact RX.mono _ c R hE (fun q _ => by rw [hβ]) h
  | true =>
   simp only [Bool.and_eq_true] at hc
   have h1 := Nat.eq_of_beq_eq_true hc.1
   have h2 := Nat.eq_of_beq_eq_true hc.2
   subst h1
   simp only [cond_true, RX] at h ⊢
   obtain ⟨hR, B', hB', rfl⟩ := h
   rw [hB] at hB'
   obtain rfl := Option.some.inj hB'
   exact ⟨hR, B.b, B.off, by rw [h2, Nat.zero_add], hF⟩
 | .agg xs, c, R, hE, h => by
  simp only [RX, X.fzp] at h ⊢
  obtain ⟨cs, hc, hs⟩ := h
  exact ⟨cs, hc, RXs.fzp hB hF hβ xs _ R hE hs⟩
 | .tup xs, c, R, hE, h => by
  simp only [RX, X.fzp] at h ⊢
  obtain ⟨cs, hc, hs⟩ := h
  exact ⟨cs, hc, RXt.fzp hB hF hβ xs _ R hE hs⟩
 | .clo fn a b, c, R, hE, h => by
  simp only [RX, X.fzp] at h ⊢
  obtain ⟨hR, f, cc, hc, h1, h2⟩ := h
  exact ⟨hR, f, cc, hc, RXt.fzp hB hF hβ a _ [] (hE.sub (by simp)) h1, RXt.fzp hB hF hβ b _ [] (hE.sub (by simp)) h2⟩
 | .v u, c, R, hE, h => RX.mono (.v u) c R hE (fun q _ => by rw [hβ]) h
 | .no, c, R, hE, h => RX.mono .no c R hE (fun q _ => by rw [hβ]) h
 | .fz s rs, c, R, hE, h => RX.mono (.fz s rs) c R hE (fun q _ => by rw [hβ]) h
 | .uni s rs, c, R, hE, h => RX.mono (.uni s rs) c R hE (fun q _ => by rw [hβ]) h
 | .slc p s l n, c, R, hE, h => RX.mono (.slc p s l n) c R hE (fun q _ => by rw [hβ]) h
 | .mref p, c, R, hE, h => RX.mono (.mref p) c R hE (fun q _ => by rw [hβ]) h
 | .fp r k, c, R, hE, h => RX.mono (.fp r k) c R hE (fun q _ => by rw [hβ]) h
theorem RXs.fzp {E E' : Env} {o : Nat} {row : List X} {B : Blk} (hB : E.β o = some B) (hF : RF E' row B.b B.off) (hβ : E'.β = E.β) : ∀ (xs : List X) (cs : List Value) (R : List Nat), E.On E' R → RXs E xs cs R → RXs E' (X.fzps o row xs) cs R
 | [], _, _, _, h => by simpa [RXs, X.fzps] using h
 | x :: r, cs, R, hE, h => by
  simp only [RXs, X.fzps] at h ⊢
  obtain ⟨c, cs', R₁, R₂, hc, hs, h1, h2, hR⟩ := h
  subst hR
  exact ⟨c, cs', R₁, R₂, hc, hs, RX.fzp hB hF hβ x c R₁ (hE.sub (fun _ h => mem_app_l h)) h1, RXs.fzp hB hF hβ r cs' R₂ (hE.sub (fun _ h => mem_app_r h)) h2, rfl⟩
theorem RXt.fzp {E E' : Env} {o : Nat} {row : List X} {B : Blk} (hB : E.β o = some B) (hF : RF E' row B.b B.off) (hβ : E'.β = E.β) : ∀ (xs : List X) (cs : List Value) (R : List Nat), E.On E' R → RXt E xs cs R → RXt E' (X.fzps o row xs) cs R
 | [], _, _, _, h => by simpa [RXt, X.fzps] using h
 | x :: r, cs, R, hE, h => by
  simp only [RXt, X.fzps] at h ⊢
  obtain ⟨c, cs', R₁, R₂, hc, h1, h2, hR⟩ := h
  subst hR
  exact ⟨c, cs', R₁, R₂, hc, RX.fzp hB hF hβ x c R₁ (hE.sub (fun _ h => mem_app_l h)) h1, RXt.fzp hB hF hβ r cs' R₂ (hE.sub (fun _ h => mem_app_r h)) h2, rfl⟩
theorem RO.fzp {E E' : Env} {o : Nat} {row : List X} {B : Blk} (hB : E.β o = some B) (hF : RF E' row B.b B.off) (hβ : E'.β = E.β) : ∀ (xs : List X) (cs : Array Value) (off : Nat) (R : List Nat), E.On E' R → RO E xs cs off R → RO E' (X.fzps o row xs) cs off R
 | [], _, _, _, _, h => by simpa [RO, X.fzps] using h
 | x :: r, cs, off, R, hE, h => by
  simp only [RO, X.fzps] at h ⊢
  obtain ⟨u, R₁, R₂, hu, hs, h1, h2, hR⟩ := h
  subst hR
  exact ⟨u, R₁, R₂, hu, hs, RX.fzp hB hF hβ x u R₁ (hE.sub (fun _ h => mem_app_l h)) h1, RO.fzp hB hF hβ r cs (off + 1) R₂ (hE.sub (fun _ h => mem_app_r h)) h2, rfl⟩
end

def fzpS (o : Nat) (row : List X) (l : List (Nat × X)) : List (Nat × X) := l.map fun p => (p.1, p.2.fzp o row)
def fzpO (o : Nat) (row : List X) (l : List (Nat × Obj)) : List (Nat × Obj) := l.map fun p => (p.1, p.2.fzp o row)
theorem look_mapX {α β : Type} {f : α → β} : ∀ {l : List (Nat × α)} {s : Nat} {y : β}, look (l.map fun p => (p.1, f p.2)) s = some y → ∃ x, look l s = some x ∧ y = f x
 | [], _, _, h => by cases h
 | (t, x) :: r, s, y, h => by
  simp only [List.map_cons, look] at h ⊢
  cases hb : Nat.beq t s with
  | true => rw [hb] at h; simp only [cond_true, Option.some.injEq] at h ⊢; exact ⟨x, rfl, h.symm⟩
  | false => rw [hb] at h; simp only [cond_false] at h ⊢; exact look_mapX h

section
variable {N : Frm} {st : St}
theorem Sh.freezeO (o : Nat) {xs : List X} (ho : look st.objs o = some (.cells xs)) (hn : X.nrs xs = true) : Sh N st ⟨fzpS o xs st.slots, (o, .gone) :: fzpO o xs st.objs⟩ := by
 intro G _ a w hh
 obtain ⟨E, RR, rfl, hi⟩ := hh
 have hob := hi.objs o _ ho
 simp only [ROb] at hob
 obtain ⟨hfr, B, cs, ty, hB, hw, hφ, hlen, hRO, hRR⟩ := hob
 have hcell : ∀ i v, cs[i]? = some v → (E.lend (fun b => b = B.b)).φ B.b i = some v := by
  intro i v h
  rw [lend_in E (LB := fun b => b = B.b) rfl]
  unfold World.cell?
  simp [hw, h]
 have hle : ∀ c i v, E.φ c i = some v → (E.lend (fun b => b = B.b)).φ c i = some v := by
  intro c i v h
  by_cases hc : c = B.b
  ·subst hc; rw [hφ i] at h; cases h
  ·rw [lend_out E (LB := fun b => b = B.b) hc]; exact h
 have hF : RF (E.lend (fun b => b = B.b)) xs B.b B.off := by
  have h1 := RO.ffz (E := E) (E' := E.lend (fun b => b = B.b)) xs cs B.b B.off [] hcell ⟨rfl, rfl, hle, fun _ h => by cases h⟩ hn hRO
  rw [X.ffzs_frees hfr] at h1
  exact h1
 have hout : ∀ p, p ≠ .obj o → B.b ∉ RR p := fun p hp hb => hi.apart p (.obj o) hp _ hb (by rw [hRR]; simp)
 have hon : ∀ p, p ≠ .obj o → E.On (E.lend (fun b => b = B.b)) (RR p) := by
  intro p hp
  refine ⟨hle, fun c hc => ⟨rfl, fun h i => ?_⟩⟩
  rw [lend_out E (LB := fun b => b = B.b) (fun e => hout p hp (e ▸ hc))]; exact h i
 have hin : B.b ∈ RR (.obj o) := by rw [hRR]; simp
 have hsame : ∀ p, p ≠ .obj o → upd RR (.obj o) [] p = RR p := fun p hp => by simp [upd, hp]
 have hsub : ∀ p, ∀ b ∈ upd RR (.obj o) [] p, b ∈ RR p := by
  intro p b hb
  unfold upd at hb
  split at hb
  ·cases hb
  ·exact hb
 refine ⟨E.lend (fun b => b = B.b), upd RR (.obj o) [], rfl, { hi with frz := ?_, slots := ?_, objs := ?_, nodup := ?_, apart := ?_, own := ?_, φ0 := ?_, grow := ?_ }⟩
 ·intro c i v h
  by_cases hc : c = B.b
  ·rw [lend_in E (LB := fun b => b = B.b) hc] at h; exact h
  ·rw [lend_out E (LB := fun b => b = B.b) hc] at h; exact hi.frz c i v h
 ·intro s x hx
  obtain ⟨y, hy, rfl⟩ := look_mapX (f := X.fzp o xs) hx
  rw [hsame _ (by simp)]
  exact RX.fzp hB hF rfl y _ _ (hon _ (by simp)) (hi.slots s y hy)
 ·intro q ob hob
  simp only [look] at hob
  cases hq : Nat.beq o q with
  | true =>
   rw [hq] at hob
   simp only [cond_true, Option.some.injEq] at hob
   obtain rfl := Nat.eq_of_beq_eq_true hq
   subst hob
   simp [ROb, upd]
  | false =>
   rw [hq] at hob
   simp only [cond_false] at hob
   have hne : q ≠ o := fun e => by subst e; simp at hq
   obtain ⟨ob', hob', rfl⟩ := look_mapX (f := Obj.fzp o xs) hob
   rw [hsame _ (by simp [hne])]
   have h1 := hi.objs q ob' hob'
   have hon' := hon (.obj q) (by simp [hne])
   cases ob' with
   | cells ys =>
    simp only [ROb, Obj.fzp] at h1 ⊢
    obtain ⟨h1, B', cs', ty', h2, h3, h4, h5, h6, h7⟩ := h1
    exact ⟨X.fzps_frees h1, B', cs', ty', h2, h3, (hon'.2 B'.b (by rw [h7]; simp)).2 h4, by rw [X.fzps_len]; exact h5, RO.fzp hB hF rfl ys cs' _ [] (hon'.sub (fun _ h => by cases h)) h6, h7⟩
   | rows s rs => exact ROb.mono hon' rfl (fun _ _ _ _ => rfl) h1
   | tab es => exact ROb.mono hon' rfl (fun _ _ _ _ => rfl) h1
   | gone => exact ROb.mono hon' rfl (fun _ _ _ _ => rfl) h1
 ·intro p
  unfold upd
  split
  ·exact List.nodup_nil
  ·exact hi.nodup p
 ·intro p q hpq b hb hb'
  exact hi.apart p q hpq b (hsub p b hb) (hsub q b hb')
 ·intro p b hb
  exact hi.own p b (hsub p b hb)
 ·intro c i v h
  exact hle c i v (hi.φ0 c i v h)
 ·intro c i v h
  by_cases hc : c = B.b
  ·subst hc; exact .inr (hi.own _ _ hin).2
  ·rw [lend_out E (LB := fun b => b = B.b) hc] at h; exact hi.grow c i v h
end

section
variable {P : Program} {N : Frm} {st : St} {Q : Exit → St → Prop} {all : Array Oper} {rest : List Oper} {dst : Option Nat} {d : Nat} {ty : TypeId} {pos : String} {af : Array Edge} {g : Option (Nat × Bool)}

theorem opds_rxt {G : Ctx} {E : Env} {RR : Own → List Nat} {a : Act} (hi : Inv G E RR st a) : ∀ {l : List Operand} {xs : List X}, opds st l = some xs → X.frees xs = true → RXt E xs (l.map a.eval) []
 | [], xs, h, _ => by simp only [opds, Option.some.injEq] at h; subst h; simp [RXt]
 | o :: r, xs, h, hf => by
  simp only [opds] at h
  cases h1 : opd st o with
  | none => simp [h1] at h
  | some y =>
   cases h2 : opds st r with
   | none => simp [h1, h2] at h
   | some ys =>
    rw [h1, h2] at h
    simp only [Option.some.injEq] at h
    subst h
    simp only [X.frees, Bool.and_eq_true] at hf
    obtain ⟨R, hR⟩ := hi.eval h1
    have h0 := RX.free hf.1 hR
    subst h0
    simp only [List.map_cons, RXt]
    exact ⟨_, _, [], [], rfl, hR, opds_rxt hi h2 hf.2, rfl⟩
theorem Y.makeFunc {fn : Fn} {first caps : Array Operand} {xs ys : List X} (hx : opds st first.toList = some xs) (hy : opds st caps.toList = some ys) (hfx : X.frees xs = true) (hfy : X.frees ys = true) :
  Yields P N st ⟨dst, .makeFunc fn first caps, ty, pos, af, g⟩ (.clo fn xs ys) := by
 intro G E RR a _ hi
 refine ⟨.func fn (first.map a.eval) (caps.map a.eval), rfl, ?_⟩
 simp only [RX]
 refine ⟨trivial, _, _, rfl, ?_, ?_⟩
 ·rw [Array.toList_map]; exact opds_rxt hi hx hfx
 ·rw [Array.toList_map]; exact opds_rxt hi hy hfy

theorem AOps.callCW {f : FuncId} {x : Operand} {fargs : Array Operand} {ats : Array TypeId} {caps xs args : List X} {objs : List Obj} {F : List Nat} {Q' : X → List Obj → Prop} (ν L : List Nat) (hx : opd st x = some (.clo (.func f) [] caps)) (hok : callOK P f = true) (hspec : ACalls P f args objs F Q')
  (hxs : opds st fargs.toList = some xs) (hargs : LentL st L (nameF ν) (xs ++ caps) args) (hobjs : ObjsAt st (nameF ν) 0 objs) (hlen : ν.length = objs.length) (hνn : ν.Nodup) (hLν : ∀ o ∈ L, o ∉ ν)
  (h0 : ∀ o ∈ L, ∃ ob, look st.objs o = some ob ∧ Owns0 ob) (hNF : ∀ o ∈ loose ν F, N.F.elem o = false) (hd : d < N.n)
  (k : ∀ r objs', Q' r objs' → objs'.length = objs.length → (r.lt objs.length = true ∧ (∀ ob ∈ objs', ob.lt objs.length = true) ∧ (L = [] ∨ (r.plain ∧ ∀ ob ∈ objs', ob.plain))) ∧ AOps P N all rest ((callSt st ν F objs').put d (r.ren (nameF ν))) Q) :
  AOps P N all (⟨some d, .call ⟨.value x, fargs, ats⟩, ty, pos, af, none⟩ :: rest) st Q := by
 intro G hn a w hh
 obtain ⟨E, RR, rfl, hi⟩ := hh
 obtain ⟨Rx, hfx⟩ := hi.eval hx
 simp only [RX] at hfx
 obtain ⟨_, ff, cc, hfc, hff, hcc⟩ := hfx
 simp only [RXt] at hff
 have hff0 : ff = #[] := by
  have := hff.1
  cases ff; simp_all
 subst hff0
 obtain ⟨hxl, hxg⟩ := opds_get hi hxs
 have hcl : caps.length = cc.toList.length := by
  have : ∀ {l : List X} {c : List Value} {R : List Nat}, RXt E l c R → l.length = c.length := by
   intro l
   induction l with
   | nil => intro c R h; simp only [RXt] at h; rw [h.1]; rfl
   | cons y r ih =>
    intro c R h
    simp only [RXt] at h
    obtain ⟨_, c', _, _, rfl, _, h2, _⟩ := h
    simp [ih h2]
  exact this hcc
 have hc := hi.callW (vs := fargs.toList.map a.eval ++ cc.toList) hspec (by simp only [List.length_append, List.length_map]; omega) (fun j y hy => by
  rcases Nat.lt_or_ge j xs.length with hj | hj
  ·rw [List.getElem?_append_left hj] at hy
   obtain ⟨o, ho, R, hR⟩ := hxg j y hy
   exact ⟨a.eval o, by rw [List.getElem?_append_left (by rw [List.length_map]; omega)]; simp [ho], R, hR⟩
  ·rw [List.getElem?_append_right hj] at hy
   obtain ⟨u, R, hu, hR⟩ := RXt.get hcc hy
   exact ⟨u, by rw [List.getElem?_append_right (by rw [List.length_map]; omega), List.length_map, ← hxl]; exact hu, R, hR⟩) hargs
  (fun j ob h => by have := hobjs.get j ob h; rwa [Nat.zero_add] at this) hlen hνn hLν h0 (fun o ho => by rw [hn]; exact hNF o ho) (d := d) (by rw [hn]; exact hd)
 have hrun : (execOp a.eval ⟨some d, .call ⟨.value x, fargs, ats⟩, ty, pos, af, none⟩).run P E.w = .ok (.enter f (fargs.toList.map a.eval ++ cc.toList).toArray) E.w := by
  have e : (execOp a.eval ⟨some d, .call ⟨.value x, fargs, ats⟩, ty, pos, af, none⟩).run P E.w = (do let d ← Deferred.ofValue (a.eval x) (fargs.map a.eval); invoke d.target d.args : Sem Next).run P E.w := rfl
  rw [e, hfc]
  have e2 : (do let d ← Deferred.ofValue (.func (.func f) #[] cc) (fargs.map a.eval); invoke d.target d.args : Sem Next).run P E.w = (callFunc f ((#[] ++ fargs.map a.eval) ++ cc)).run P E.w := rfl
  rw [e2, callOK_run hok]
  congr 2
  apply Array.ext'
  simp
 refine wpList_plain rfl fun K hK => ?_
 simp only [Oper.wp, hrun, Oper.upon_enter]
 refine hc.mono ?_
 rintro e w' ⟨v, r, objs', rfl, hQ', hl', hcont⟩
 obtain ⟨⟨h1, h2, h3⟩, hk⟩ := k r objs' hQ' hl'
 obtain ⟨E'', RR'', hw, hI⟩ := hcont h1 h2 h3
 exact hK _ _ (hk G hn _ _ ⟨E'', RR'', hw, hI⟩)
theorem AOps.callCP {f : FuncId} {x : Operand} {fargs : Array Operand} {ats : Array TypeId} {caps xs args : List X} {R : X} (hx : opd st x = some (.clo (.func f) [] caps)) (hok : callOK P f = true) (hspec : ACalls P f args [] [] (fun r o => r = R ∧ o = []))
  (hxs : opds st fargs.toList = some xs) (hargs : LentL st [] (nameF []) (xs ++ caps) args) (hd : d < N.n) (hlt : R.lt 0 = true)
  (k : AOps P N all rest (st.put d R) Q) : AOps P N all (⟨some d, .call ⟨.value x, fargs, ats⟩, ty, pos, af, none⟩ :: rest) st Q := by
 refine AOps.callCW [] [] hx hok hspec hxs hargs trivial rfl List.nodup_nil (fun _ h => by cases h) (fun _ h => by cases h) (fun _ h => by cases h) hd ?_
 rintro r objs' ⟨rfl, rfl⟩ _
 refine ⟨⟨hlt, fun _ h => (by cases h), .inl rfl⟩, ?_⟩
 rw [callSt_nil, X.ren_lt0 hlt]; exact k
end

section
variable {P : Program} {N : Frm} {ops : Array Oper} {st : St} {d : Nat} {listed : Array Bool} {n : Nat} {K : St → Prop} {KK : Array Bool → St → Prop} {l0 rest l : List Nat} {t : Nat}
theorem AAny.le {st' : St} (hl : Le st st') (h : AAny P N ops n listed st' K) : AAny P N ops n listed st K := fun G hn a w hh => h G hn a w (hl.holds hh)
theorem AAny.split {b : Bool} (hx : look st.slots d = some (.v (.bool b))) (ht : b = true → AAny P N ops n listed (st.put d (.v (.bool true))) K) (hf : b = false → AAny P N ops n listed (st.put d (.v (.bool false))) K) : AAny P N ops n listed st K := by
 have : Le st (st.put d (.v (.bool b))) := ⟨SubL.cons hx (fun _ _ h => h), fun _ _ h => h⟩
 cases b
 ·exact (hf rfl).le this
 ·exact (ht rfl).le this
theorem AAny.splitD {p : Prop} {inst : Decidable p} (hx : look st.slots d = some (.v (.bool (decide p)))) (ht : p → AAny P N ops n listed (st.put d (.v (.bool true))) K) (hf : ¬ p → AAny P N ops n listed (st.put d (.v (.bool false))) K) : AAny P N ops n listed st K :=
 AAny.split hx (fun h => ht (of_decide_eq_true h)) (fun h => hf (of_decide_eq_false h))
theorem AQ.le {st' : St} (hl : Le st st') (h : AQ P N ops l0 rest t l listed st' KK) : AQ P N ops l0 rest t l listed st KK := fun ho G hn a w hh => h ho G hn a w (hl.holds hh)
theorem AQ.split {b : Bool} (hx : look st.slots d = some (.v (.bool b))) (ht : b = true → AQ P N ops l0 rest t l listed (st.put d (.v (.bool true))) KK) (hf : b = false → AQ P N ops l0 rest t l listed (st.put d (.v (.bool false))) KK) : AQ P N ops l0 rest t l listed st KK := by
 have : Le st (st.put d (.v (.bool b))) := ⟨SubL.cons hx (fun _ _ h => h), fun _ _ h => h⟩
 cases b
 ·exact (hf rfl).le this
 ·exact (ht rfl).le this
theorem AQ.splitD {p : Prop} {inst : Decidable p} (hx : look st.slots d = some (.v (.bool (decide p)))) (ht : p → AQ P N ops l0 rest t l listed (st.put d (.v (.bool true))) KK) (hf : ¬ p → AQ P N ops l0 rest t l listed (st.put d (.v (.bool false))) KK) : AQ P N ops l0 rest t l listed st KK :=
 AQ.split hx (fun h => ht (of_decide_eq_true h)) (fun h => hf (of_decide_eq_false h))
end
def sbyte (b : ByteArray) (m : Nat) : Nat := (b.data.toList.getD m 0).toNat
theorem Y.indexSb {P : Program} {N : Frm} {st : St} {dst : Option Nat} {ty : TypeId} {pos : String} {af : Array Edge} {g : Option (Nat × Bool)} {t : TypeId} {x ix : Operand} {b : ByteArray} {k : IntKind} {n : Int} {m : Nat} (ht : P.underlying t = some .string) (hx : opd st x = some (.v (.string b)))
  (hix : opd st ix = some (.v (.int k n))) (hn : n = (m : Int)) (hm : m < b.size) : Yields P N st ⟨dst, .index t x ix, ty, pos, af, g⟩ (.v (.int .u8 ((sbyte b m : Nat) : Int))) := by
 have h := Y.indexS (P := P) (N := N) (st := st) (dst := dst) (ty := ty) (pos := pos) (af := af) (g := g) ht hx hix hn hm
 have e : b[m].toNat = sbyte b m := by
  unfold sbyte
  have : b.data.toList.getD m 0 = b[m] := by
   rw [List.getD_eq_getElem?_getD, List.getElem?_eq_getElem (by simpa using hm)]
   rfl
  rw [this]
 rw [e] at h
 exact h
theorem sbyte_le (b : ByteArray) (m : Nat) : sbyte b m ≤ 255 := by
 unfold sbyte
 have := (b.data.toList.getD m 0).toNat_lt
 omega
end Go.AW
