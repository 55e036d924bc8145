/- Part of the abstract walk: contracts, and how the body of a call proves one. -/
import Derived.Test.YtlimckldnjmabaaAWx0
import Derived.StillTail
import Derived.Orders
import Derived.Below
import Derived.Carry
import Derived.Deep.Slices
import Derived.Deep.Fields
import Derived.ChangeSame
import Derived.ChangeSlices
import Derived.SizedLaws
import Derived.Deep.Grids
import Derived.Maps.Keyed
import Derived.DeepKeys4
import Derived.OpenShut
import Derived.Lib.AppendZeros
set_option linter.unusedSimpArgs false
set_option linter.unusedVariables false
set_option linter.unusedSectionVars false
namespace Go.AW
open Go
def dy {α : Type} : Nat → List α → List (Nat × α)
 | _, [] => []
 | i, x :: r => (i, x) :: dy (i + 1) r
theorem oD {α : Type} : ∀ (l : List α) (i s : Nat), look (dy i l) s = if i ≤ s then l[s - i]? else none
 | [], i, s => by simp [dy, look]
 | x :: r, i, s => by
  simp only [dy, look]
  cases hb : Nat.beq i s with
  | true => have := Nat.eq_of_beq_eq_true hb; subst this; simp
  | false =>
   have eB := Nat.ne_of_beq_eq_false hb
   simp only [cond_false]
   rw [oD r (i + 1) s]
   by_cases h : i ≤ s
   ·rw [if_pos h, if_pos om, show s - i = (s - (i + 1)) + 1 by omega]; simp
   ·rw [if_neg h, if_neg om]
theorem gi {α : Type} (l : List α) (s : Nat) : look (dy 0 l) s = l[s]? := by
 rw [oD]; simp
def pN (K : Nat → Prop) (E : Env) (fn : dV) : Ctx := ⟨K, E.w, E.φ, E.β, fn, []⟩
def al (P : Program) (f : FuncId) (args : List X) (aA : List Obj) (F : List Nat) (Q : X → List Obj → Prop) : Prop :=
 ∀ (K : Nat → Prop) (E : Env) (RR : Own → List Nat) (dq : Array Value), Inv (pN K E ⟨args.length, F⟩) E RR ⟨dy 0 args, dy 0 aA⟩ ⟨dq, []⟩ →
  Calls P f dq E.w fun e w' => ∃ v r aD, e = .returned v ∧ Q r aD ∧ aD.length = aA.length ∧ ∃ E' eC, E'.w = w' ∧ Inv (pN K E ⟨1, F⟩) E' eC ⟨[(0, r)], dy 0 aD⟩ ⟨#[v], []⟩
theorem al.mono {P : Program} {f : FuncId} {args : List X} {aA : List Obj} {F : List Nat} {Q Q' : X → List Obj → Prop} (h : al P f args aA F Q) (hq : ∀ r o, Q r o → Q' r o) : al P f args aA F Q' :=
 fun K E RR dq hi => Calls.mono (h K E RR dq hi) fun _ _ ⟨v, r, aD, he, hQ, hl, hx⟩ => ⟨v, r, aD, he, hq _ _ hQ, hl, hx⟩
def qV (P : Program) (st : St) : ResultVar → Option X
 | .tmp t => look st.a7 t
 | .cell a t => match look st.a7 a with
  | some p => match rowAt st p with
   | some row => match TY.shape P t with
    | some none => match row[jq p]? with
     | some y => bif y.free then some y else none
     | none => none
    | some (some m) => bif Nat.ble (jq p + m) row.length && X.bc ((row.drop (jq p)).take m) then some (.agg ((row.drop (jq p)).take m)) else none
    | none => none
   | none => none
  | none => none
def jA (P : Program) (st : St) : List ResultVar → Option (List X)
 | [] => some []
 | r :: rs => match qV P st r, jA P st rs with
  | some x, some xs => some (x :: xs)
  | _, _ => none
def g8 : List ResultVar → List Nat
 | [] => []
 | .tmp t :: r => t :: g8 r
 | .cell _ _ :: r => g8 r
def tD : List X → X
 | [x] => x
 | xs => .tup xs
section
variable {P : Program} {N : dV} {G : Ctx} {E : Env} {RR : Own → List Nat} {st : St} {a : Act}
def mU (tmps : Array Value) (rv : ResultVar) : Sem Value :=
 match rv with
 | .tmp t => pure (tmps.getD t undef)
 | .cell a t => do loadVar t (← asAddr (tmps.getD a undef))
theorem zO (hi : Inv G E RR st a) {rv : ResultVar} {x : X} (h : qV P st rv = some x) :
  ∃ c R, (mU a.tmps rv).run P E.w = .ok c E.w ∧ RX E x c R ∧ ((∃ t, rv = .tmp t ∧ R = RR (.slot t)) ∨ R = []) := by
 cases rv with
 | tmp t => exact ⟨_, _, rfl, hi.a7 t x h, .inl ⟨t, rfl, rfl⟩⟩
 | cell ad t =>
  simp only [qV] at h
  cases hp : look st.a7 ad with
  | none => simp [hp] at h
  | some p =>
   rw [hp] at h
   simp only at h
   cases mP : rowAt st p with
   | none => simp [mP] at h
   | some row =>
    rw [mP] at h
    simp only at h
    obtain ⟨b, off, hc, fO⟩ := hi.behind (hi.a7 ad p hp) mP
    cases hs : TY.shape P t with
    | none => simp [hs] at h
    | some sh =>
     rw [hs] at h
     cases sh with
     | none =>
      simp only at h
      cases hk : row[jq p]? with
      | none => simp [hk] at h
      | some y =>
       rw [hk] at h
       simp only at h
       cases hf : y.free with
       | false => simp [hf] at h
       | true =>
        rw [hf] at h
        simp only [cond_true, Option.some.injEq] at h
        subst h
        have wZ : jq p < row.length := by
         rcases Nat.lt_or_ge (jq p) row.length with h' | h'
         ·exact h'
         ·simp [List.getElem?_eq_none h'] at hk
        obtain ⟨vs, R', hl, hv, eU⟩ := fO (jq p) 1 om
        rw [getElem?_drop_take_one hk] at eU
        simp only [br] at eU
        obtain ⟨c, c1, R₁, R₂, Cw, _, h1, ⟨rfl, rfl⟩, rfl⟩ := eU
        subst Cw
        have h0 := RX.free hf h1
        subst h0
        refine ⟨c, [], ?_, h1, .inr rfl⟩
        have fP := hv 0 c rfl
        simp only [Nat.add_zero] at fP
        simp [mU, hc, asAddr, loadVar, (TY.gg hs E.w).1, fP]
     | some m =>
      simp only at h
      cases hb : Nat.ble (jq p + m) row.length && X.bc ((row.drop (jq p)).take m) with
      | false => simp [hb] at h
      | true =>
       rw [hb] at h
       simp only [cond_true, Option.some.injEq] at h
       subst h
       simp only [Bool.and_eq_true] at hb
       obtain ⟨vs, R', hl, hv, eU⟩ := fO (jq p) m (Nat.le_of_ble_eq_true hb.1)
       have h0 := br.free hb.2 eU
       subst h0
       refine ⟨.agg vs.toArray, [], ?_, by simp only [RX]; exact ⟨_, rfl, eU⟩, .inr rfl⟩
       obtain ⟨h1, h2⟩ := TY.j8 hs E.w
       have h3 : (loadCells ⟨b, off + jq p, none⟩ m).run P E.w = .ok vs.toArray E.w := by
        rw [← hl]
        exact run_loadCells_list (w := E.w) _ vs fun j v hj => by rw [eY, Nat.add_assoc]; exact hv j v hj
       simp [mU, hc, asAddr, loadVar, h1, h2, h3]
theorem uM (hi : Inv G E RR st a) : ∀ {od : List ResultVar} {xs : List X}, jA P st od = some xs → (g8 od).Nodup →
  ∃ cs R, (od.mapM (mU a.tmps)).run P E.w = .ok cs E.w ∧ dL E xs cs R ∧ R.Nodup ∧ (∀ b ∈ R, ∃ t ∈ g8 od, b ∈ RR (.slot t))
 | [], xs, h, _ => by
  simp only [jA, Option.some.injEq] at h
  subst h
  exact ⟨[], [], rfl, by simp [dL], List.nodup_nil, fun _ h => by cases h⟩
 | rv :: od, xs, h, hn => by
  simp only [jA] at h
  cases h1 : qV P st rv with
  | none => simp [h1] at h
  | some x =>
   cases h2 : jA P st od with
   | none => simp [h1, h2] at h
   | some ys =>
    rw [h1, h2] at h
    simp only [Option.some.injEq] at h
    subst h
    have o5 : (g8 od).Nodup := by
     cases rv with
     | tmp t => exact (List.nodup_cons.1 hn).2
     | cell _ _ => exact hn
    obtain ⟨c, R1, Oi, IU, o8⟩ := zO hi h1
    obtain ⟨cs, R2, Mf, IV, Fk, vA⟩ := uM hi h2 o5
    refine ⟨c :: cs, R1 ++ R2, ?_, ?_, ?_, ?_⟩
    ·rw [List.mapM_cons]
     refine iq Oi ?_
     refine iq Mf rfl
    ·simp only [dL]; exact ⟨c, cs, R1, R2, rfl, IU, IV, rfl⟩
    ·rcases o8 with ⟨t, rfl, rfl⟩ | rfl
     ·rw [List.nodup_append]
      refine ⟨hi.nodup _, Fk, fun b hb b' fe e => ?_⟩
      subst e
      obtain ⟨t', IW, wY⟩ := vA b fe
      have eB : t ≠ t' := fun e => by subst e; exact (List.nodup_cons.1 hn).1 IW
      exact hi.apart (.slot t) (.slot t') (by simpa using eB) b hb wY
     ·simpa using Fk
    ·intro b hb
     rcases List.mem_append.1 hb with hb | hb
     ·rcases o8 with ⟨t, rfl, rfl⟩ | rfl
      ·exact ⟨t, by simp [g8], hb⟩
      ·cases hb
     ·obtain ⟨t, ht, fe⟩ := vA b hb
      refine ⟨t, ?_, fe⟩
      cases rv with
      | tmp t' => exact List.mem_cons.2 (.inr ht)
      | cell _ _ => exact ht
def jB (l : List (Nat × Obj)) : Nat → Nat → Option (List Obj)
 | _, 0 => some []
 | i, k + 1 => match look l i, jB l (i + 1) k with
  | some ob, some r => some (ob :: r)
  | _, _ => none
theorem mr : ∀ {l : List (Nat × Obj)} {k i : Nat} {r : List Obj}, jB l i k = some r → r.length = k ∧ ∀ j, j < k → look l (i + j) = r[j]?
 | _, 0, _, r, h => by simp only [jB, Option.some.injEq] at h; subst h; exact ⟨rfl, fun j hj => by omega⟩
 | l, k + 1, i, r, h => by
  simp only [jB] at h
  cases h1 : look l i with
  | none => simp [h1] at h
  | some ob =>
   cases h2 : jB l (i + 1) k with
   | none => simp [h1, h2] at h
   | some r' =>
    rw [h1, h2] at h
    simp only [Option.some.injEq] at h
    subst h
    obtain ⟨hl, hg⟩ := mr h2
    refine ⟨by simp [hl], fun j hj => ?_⟩
    cases j with
    | zero => simpa using h1
    | succ j =>
     have := hg j om
     rw [show i + (j + 1) = i + 1 + j by omega, this]; simp
def Ends (P : Program) (od : List ResultVar) (k : Nat) (Q : X → List Obj → Prop) : Exit → St → Prop
 | .normal, st | .ret, st => ∃ xs aD, jA P st od = some xs ∧ jB st.aA 0 k = some aD ∧ Q (tD xs) aD
 | _, _ => False
theorem Inv.enter {fn : Func} {args : List X} {aA : List Obj} {F : List Nat} {n : Nat} {K : Nat → Prop} {E : Env} {RR : Own → List Nat} {dq : Array Value} (hn : fn.ntmps = n) (hle : args.length ≤ n) (hi : Inv (pN K E ⟨args.length, F⟩) E RR ⟨dy 0 args, dy 0 aA⟩ ⟨dq, []⟩) :
  Inv (pN K E ⟨n, F⟩) E RR ⟨dy 0 args, dy 0 aA⟩ ⟨dq ++ Array.replicate (fn.ntmps - dq.size) undef, []⟩ := by
 have rU : dq.size = args.length := hi.tmps
 refine { hi with a7 := ?_, tmps := ?_, defers := rfl }
 ·intro s x hx
  have h0 := hi.a7 s x hx
  have hs : s < dq.size := by
   rw [rU]
   have iK : look (dy 0 args) s = some x := hx
   rw [gi] at iK
   rcases Nat.lt_or_ge s args.length with h' | h'
   ·exact h'
   ·simp [List.getElem?_eq_none h'] at iK
  have : (dq ++ Array.replicate (fn.ntmps - dq.size) undef).getD s undef = dq.getD s undef := by
   simp only [Array.getD_eq_getD_getElem?, Array.getElem?_append_left hs]
  show RX E x ((dq ++ Array.replicate (fn.ntmps - dq.size) undef).getD s undef) (RR (.slot s))
  rw [this]; exact h0
 ·show (dq ++ Array.replicate (fn.ntmps - dq.size) undef).size = n
  simp; omega
theorem xa {fn : Func} {aA : List Obj} {F : List Nat} {Q : X → List Obj → Prop} {n : Nat} {od : List ResultVar} {K : Nat → Prop} {E E' : Env} {eC : Own → List Nat} {st : St} {a : Act} (hr : fn.results.toList = od) (iP : (g8 od).Nodup) (h1 : Inv (pN K E ⟨n, F⟩) E' eC st a) :
  (∃ xs aD, jA P st od = some xs ∧ jB st.aA 0 aA.length = some aD ∧ Q (tD xs) aD) → a.defers = [] ∧ ∃ v, (results fn a.tmps).run P E'.w = .ok v E'.w ∧
   ∃ v' r aD, Ending.returned v = .returned v' ∧ Q r aD ∧ aD.length = aA.length ∧ ∃ jt qW, jt.w = E'.w ∧ Inv (pN K E ⟨1, F⟩) jt qW ⟨[(0, r)], dy 0 aD⟩ ⟨#[v'], []⟩ := by
 rintro ⟨xs, aD, CE, mu, hQ⟩
 obtain ⟨hlen, Fl⟩ := mr mu
 have kd : ∀ j, j < aA.length → look st.aA j = aD[j]? := fun j hj => by have := Fl j hj; rwa [Nat.zero_add] at this
 refine ⟨h1.defers, ?_⟩
 obtain ⟨cs, R, gh, hx, IX, Oj⟩ := uM h1 CE iP
 have xb : (results fn a.tmps).run P E'.w = .ok (if h : cs.toArray.size = 1 then cs.toArray[0] else .tuple cs.toArray) E'.w := by
  have e : results fn a.tmps = (do let vs ← fn.results.mapM (mU a.tmps); Pure.pure (if h : vs.size = 1 then vs[0] else .tuple vs) : Sem Value) := rfl
  rw [e, show fn.results = od.toArray by rw [← hr]]
  refine iq (u := cs.toArray) ?_ rfl
  rw [List.mapM_toArray]
  simp only [Sem.run_map, gh]
  rfl
 refine ⟨_, xb, _, tD xs, aD, rfl, hQ, hlen, ?_⟩
 have Ol : RX E' (tD xs) (if h : cs.toArray.size = 1 then cs.toArray[0] else .tuple cs.toArray) R := by
  cases xs with
  | nil =>
   simp only [dL] at hx
   obtain ⟨rfl, rfl⟩ := hx
   simp only [tD, RX]
   exact ⟨#[], by simp, by simp [dL]⟩
  | cons x xs =>
   cases xs with
   | nil =>
    simp only [dL] at hx
    obtain ⟨c, c1, R₁, R₂, rfl, h1, ⟨rfl, rfl⟩, rfl⟩ := hx
    simpa [tD] using h1
   | cons y ys =>
    have iK := hx
    simp only [dL] at hx
    obtain ⟨c, c1, R₁, R₂, rfl, _, ⟨c', IY, R₃, R₄, rfl, _⟩, _⟩ := hx
    simp only [tD, RX]
    exact ⟨(c :: c' :: IY).toArray, by simp, by simpa using iK⟩
 let nG : Own → List Nat := fun p => match p with
  | .slot s => if s = 0 then R else []
  | .obj o => if o < aA.length then eC (.obj o) else []
 have w8 : ∀ p b, b ∈ nG p → ∃ q, b ∈ eC q ∧ ((∃ o, p = .obj o ∧ q = .obj o) ∨ (p = .slot 0 ∧ ∃ t, q = .slot t)) := by
  intro p b hb
  cases p with
  | slot s =>
   by_cases hs : s = 0
   ·subst hs
    simp only [nG, if_true] at hb
    obtain ⟨t, _, ht⟩ := Oj b hb
    exact ⟨.slot t, ht, .inr ⟨rfl, t, rfl⟩⟩
   ·simp [nG, hs] at hb
  | obj o =>
   by_cases ho : o < aA.length
   ·simp only [nG, ho, if_true] at hb
    exact ⟨.obj o, hb, .inl ⟨o, rfl, rfl⟩⟩
   ·simp [nG, ho] at hb
 refine ⟨E', nG, rfl, { h1 with a7 := ?_, aA := ?_, nodup := ?_, apart := ?_, own := ?_, tmps := ?_, defers := rfl }⟩
 ·intro s x iK
  simp only [look] at iK
  cases zJ : Nat.beq 0 s with
  | false => simp [zJ] at iK
  | true =>
   have := Nat.eq_of_beq_eq_true zJ
   subst this
   simp only [zJ, cond_true, Option.some.injEq] at iK
   subst iK
   simpa [nG] using Ol
 ·intro o ob ho
  have ll : look (dy 0 aD) o = some ob := ho
  rw [gi] at ll
  have gK : o < aA.length := by
   rcases Nat.lt_or_ge o aA.length with h' | h'
   ·exact h'
   ·rw [List.getElem?_eq_none om] at ll; cases ll
  have := h1.aA o ob (by rw [kd o gK]; exact ll)
  simpa [nG, gK] using this
 ·intro p
  cases p with
  | slot s => by_cases hs : s = 0 <;> simp [nG, hs, IX]
  | obj o => by_cases ho : o < aA.length <;> simp [nG, ho, h1.nodup]
 ·intro p q kj b hb fe
  obtain ⟨p', Ep, Om⟩ := w8 p b hb
  obtain ⟨q', zI, Mg⟩ := w8 q b fe
  have eB : p' ≠ q' := by
   rcases Om with ⟨o, rfl, rfl⟩ | ⟨rfl, t, rfl⟩
   ·rcases Mg with ⟨o', rfl, rfl⟩ | ⟨rfl, t', rfl⟩
    ·exact kj
    ·simp
   ·rcases Mg with ⟨o', rfl, rfl⟩ | ⟨rfl, t', rfl⟩
    ·simp
    ·exact absurd rfl kj
  exact h1.apart p' q' eB b Ep zI
 ·intro p b hb
  obtain ⟨q, zI, _⟩ := w8 p b hb
  exact h1.own q b zI
 ·rfl
theorem al.of {f : FuncId} {fn : Func} {c : Code} {args : List X} {aA : List Obj} {F : List Nat} {Q : X → List Obj → Prop} {n : Nat} {od : List ResultVar} (hf : P.funcs[f]? = some fn) (hb : fn.body = some c) (hn : fn.ntmps = n) (hr : fn.results.toList = od)
  (iP : (g8 od).Nodup) (hle : args.length ≤ n) (h : ae P ⟨n, F⟩ c ⟨dy 0 args, dy 0 aA⟩ (Ends P od aA.length Q)) : al P f args aA F Q := by
 intro K E RR dq hi
 refine calls_of_wp hf hb ?_
 refine wp_mono (h (pN K E ⟨n, F⟩) rfl _ _ ⟨E, RR, rfl, hi.enter hn hle⟩) ?_
 rintro e a w ⟨st, ⟨E', eC, rfl, h1⟩, hq⟩
 have key := xa (P := P) (aA := aA) (Q := Q) hr iP h1
 cases e with
 | normal => exact key hq
 | ret => exact key hq
 | _ => exact hq.elim
end
end Go.AW
namespace Go.AW
open Go
mutual
def X.eD (ν : Nat → Nat) : X → X
 | .ptr o s i k => .ptr (ν o) s i k
 | .aY o s lo n => .aY (ν o) s lo n
 | .mref o => .mref (ν o)
 | .agg xs => .agg (X.jg ν xs)
 | .tup xs => .tup (X.jg ν xs)
 | .gd f a b => .gd f (X.jg ν a) (X.jg ν b)
 | .v u => .v u
 | .no => .no
 | .fz s rows => .fz s rows
 | .di s rows => .di s rows
 | .fp row k => .fp row k
def X.jg (ν : Nat → Nat) : List X → List X
 | [] => []
 | x :: r => x.eD ν :: X.jg ν r
end
def Env.names (E : Env) (ν : Nat → Nat) : Env := { E with β := fun o => E.β (ν o) }
theorem eE (E : Env) (ν : Nat → Nat) (R : List Nat) : (E.names ν).On E R ∧ E.On (E.names ν) R := ⟨⟨fun _ _ _ h => h, fun _ _ => ⟨rfl, fun h => h⟩⟩, ⟨fun _ _ _ h => h, fun _ _ => ⟨rfl, fun h => h⟩⟩⟩
mutual
theorem RX.eD {E : Env} {ν : Nat → Nat} : ∀ (x : X) (c : Value) (R : List Nat), RX (E.names ν) x c R ↔ RX E (x.eD ν) c R
 | .ptr .., _, _ => by simp only [X.eD, RX]; exact Iff.rfl
 | .aY .., _, _ => by simp only [X.eD, RX]; exact Iff.rfl
 | .mref _, _, _ => by simp only [X.eD, RX]; exact Iff.rfl
 | .v _, _, _ => by simp only [X.eD, RX]
 | .no, _, _ => by simp only [X.eD, RX]
 | .fz s rows, c, R => ⟨RX.mono _ c R (eE E ν R).1 (fun o h => by simp [X.dp] at h), RX.mono _ c R (eE E ν R).2 (fun o h => by simp [X.eD, X.dp] at h)⟩
 | .di s rows, c, R => ⟨RX.mono _ c R (eE E ν R).1 (fun o h => by simp [X.dp] at h), RX.mono _ c R (eE E ν R).2 (fun o h => by simp [X.eD, X.dp] at h)⟩
 | .fp row k, c, R => ⟨RX.mono _ c R (eE E ν R).1 (fun o h => by simp [X.dp] at h), RX.mono _ c R (eE E ν R).2 (fun o h => by simp [X.eD, X.dp] at h)⟩
 | .agg xs, c, R => by
  simp only [X.eD, RX]
  exact ⟨fun ⟨cs, h1, h2⟩ => ⟨cs, h1, (br.eD xs _ R).1 h2⟩, fun ⟨cs, h1, h2⟩ => ⟨cs, h1, (br.eD xs _ R).2 h2⟩⟩
 | .tup xs, c, R => by
  simp only [X.eD, RX]
  exact ⟨fun ⟨cs, h1, h2⟩ => ⟨cs, h1, (dL.eD xs _ R).1 h2⟩, fun ⟨cs, h1, h2⟩ => ⟨cs, h1, (dL.eD xs _ R).2 h2⟩⟩
 | .gd f xs ys, c, R => by
  simp only [X.eD, RX]
  exact ⟨fun ⟨h0, f, cc, h1, h2, h3⟩ => ⟨h0, f, cc, h1, (dL.eD xs _ []).1 h2, (dL.eD ys _ []).1 h3⟩, fun ⟨h0, f, cc, h1, h2, h3⟩ => ⟨h0, f, cc, h1, (dL.eD xs _ []).2 h2, (dL.eD ys _ []).2 h3⟩⟩
theorem br.eD {E : Env} {ν : Nat → Nat} : ∀ (xs : List X) (cs : List Value) (R : List Nat), br (E.names ν) xs cs R ↔ br E (X.jg ν xs) cs R
 | [], _, _ => by simp only [X.jg, br]
 | x :: r, cs, R => by
  simp only [X.jg, br]
  exact ⟨fun ⟨c, c1, R₁, R₂, h1, h2, h3, h4, h5⟩ => ⟨c, c1, R₁, R₂, h1, h2, (RX.eD x c R₁).1 h3, (br.eD r c1 R₂).1 h4, h5⟩,
   fun ⟨c, c1, R₁, R₂, h1, h2, h3, h4, h5⟩ => ⟨c, c1, R₁, R₂, h1, h2, (RX.eD x c R₁).2 h3, (br.eD r c1 R₂).2 h4, h5⟩⟩
theorem dL.eD {E : Env} {ν : Nat → Nat} : ∀ (xs : List X) (cs : List Value) (R : List Nat), dL (E.names ν) xs cs R ↔ dL E (X.jg ν xs) cs R
 | [], _, _ => by simp only [X.jg, dL]
 | x :: r, cs, R => by
  simp only [X.jg, dL]
  exact ⟨fun ⟨c, c1, R₁, R₂, h1, h3, h4, h5⟩ => ⟨c, c1, R₁, R₂, h1, (RX.eD x c R₁).1 h3, (dL.eD r c1 R₂).1 h4, h5⟩,
   fun ⟨c, c1, R₁, R₂, h1, h3, h4, h5⟩ => ⟨c, c1, R₁, R₂, h1, (RX.eD x c R₁).2 h3, (dL.eD r c1 R₂).2 h4, h5⟩⟩
end
theorem RO.eD {E : Env} {ν : Nat → Nat} : ∀ (xs : List X) (cs : Array Value) (off : Nat) (R : List Nat), RO (E.names ν) xs cs off R ↔ RO E (X.jg ν xs) cs off R
 | [], _, _, _ => by simp only [X.jg, RO]
 | x :: r, cs, off, R => by
  simp only [X.jg, RO]
  exact ⟨fun ⟨u, R₁, R₂, h1, h2, h3, h4, h5⟩ => ⟨u, R₁, R₂, h1, h2, (RX.eD x u R₁).1 h3, (RO.eD r cs _ R₂).1 h4, h5⟩,
   fun ⟨u, R₁, R₂, h1, h2, h3, h4, h5⟩ => ⟨u, R₁, R₂, h1, h2, (RX.eD x u R₁).2 h3, (RO.eD r cs _ R₂).2 h4, h5⟩⟩
theorem nH (ν : Nat → Nat) : ∀ xs : List X, (X.jg ν xs).length = xs.length
 | [] => rfl
 | _ :: r => by simp [X.jg, nH ν r]
mutual
theorem X.rZ (ν : Nat → Nat) : ∀ x : X, (x.eD ν).free = x.free
 | .ptr .. | .aY .. | .mref _ | .v _ | .no | .fz .. | .di .. | .fp .. | .gd .. => rfl
 | .agg xs => X.kV ν xs
 | .tup xs => X.kV ν xs
theorem X.kV (ν : Nat → Nat) : ∀ xs : List X, X.bc (X.jg ν xs) = X.bc xs
 | [] => rfl
 | x :: r => by simp only [X.jg, X.bc, X.rZ ν x, X.kV ν r]
end
def Obj.eD (ν : Nat → Nat) : Obj → Obj
 | .cells xs => .cells (X.jg ν xs)
 | .rows s rs => .rows s rs
 | .tk es => .tk es
 | .gone => .gone
theorem dD.eD {E : Env} {ν : Nat → Nat} {j : Nat} {ob : Obj} {R : List Nat} : dD (E.names ν) j ob R ↔ dD E (ν j) (ob.eD ν) R := by
 cases ob with
 | cells xs =>
  simp only [Obj.eD, dD, X.kV, nH]
  exact ⟨fun ⟨h0, B, cs, ty, h1, h2, h3, h4, h5, h6⟩ => ⟨h0, B, cs, ty, h1, h2, h3, h4, (RO.eD xs cs _ []).1 h5, h6⟩,
   fun ⟨h0, B, cs, ty, h1, h2, h3, h4, h5, h6⟩ => ⟨h0, B, cs, ty, h1, h2, h3, h4, (RO.eD xs cs _ []).2 h5, h6⟩⟩
 | rows s rs =>
  simp only [Obj.eD, dD]
  refine ⟨fun ⟨hu, h⟩ => ⟨hu, h.imp (fun h => h) ?_⟩, fun ⟨hu, h⟩ => ⟨hu, h.imp (fun h => h) ?_⟩⟩
  ·exact fun ⟨B, cs, ty, R', h1, h2, h3, h4, h5, h6, h7⟩ => ⟨B, cs, ty, R', h1, h2, h3, h4, h5, bR.mono rs cs _ R' (eE E ν R').1 h6, h7⟩
  ·exact fun ⟨B, cs, ty, R', h1, h2, h3, h4, h5, h6, h7⟩ => ⟨B, cs, ty, R', h1, h2, h3, h4, h5, bR.mono rs cs _ R' (eE E ν R').2 h6, h7⟩
 | tk es => exact Iff.rfl
 | gone => simp only [Obj.eD, dD]
mutual
def X.plain : X → Prop
 | .v _ | .no | .ptr .. | .aY .. | .mref _ => True
 | .fz _ _ | .fp _ _ | .gd .. => False
 | .di _ rows => X.mV rows
 | .agg xs => X.gO xs
 | .tup xs => X.gO xs
def X.gO : List X → Prop
 | [] => True
 | x :: r => x.plain ∧ X.gO r
def X.mV : List (List X) → Prop
 | [] => True
 | x :: r => X.gO x ∧ X.mV r
end
def Env.zP (E E' : Env) (R : List Nat) : Prop := ∀ b ∈ R, E'.w.heap[b]? = E.w.heap[b]? ∧ ((∀ i, E.φ b i = none) → ∀ i, E'.φ b i = none)
theorem Env.zP.sub {E E' : Env} {R R' : List Nat} (h : E.zP E' R) (hs : ∀ b ∈ R', b ∈ R) : E.zP E' R' := fun b hb => h b (hs b hb)
mutual
theorem RX.off {E E' : Env} : ∀ (x : X) (c : Value) (R : List Nat), x.plain → E.zP E' R → (∀ o, E'.β o = E.β o) → RX E x c R → RX E' x c R
 | .v _, _, _, _, _, _, h => by simpa [RX] using h
 | .no, _, _, _, _, _, h => by simpa [RX] using h
 | .fz .., _, _, hp, _, _, _ => hp.elim
 | .fp .., _, _, hp, _, _, _ => hp.elim
 | .gd .., _, _, hp, _, _, _ => hp.elim
 | .ptr o .., _, _, _, _, hβ, h => by simp only [RX] at h ⊢; rw [hβ]; exact h
 | .aY o .., _, _, _, _, hβ, h => by simp only [RX] at h ⊢; rw [hβ]; exact h
 | .mref o, _, _, _, _, hβ, h => by simp only [RX] at h ⊢; rw [hβ]; exact h
 | .di s rows, c, R, hp, hE, hβ, h => by
  simp only [RX] at h ⊢
  obtain ⟨hu, base, cap, hc, hh⟩ := h
  refine ⟨hu, base, cap, hc, ?_⟩
  rcases hh with hh | ⟨b, off, cs, ty, R', hb, hw, hl, ho, hf, hr, hR⟩
  ·exact .inl hh
  ·subst hR
   have h2 := hE b (by simp)
   exact .inr ⟨b, off, cs, ty, R', hb, h2.1.trans hw, hl, ho, h2.2 hf, bR.off rows cs off R' hp (hE.sub (fun _ h => by simp [h])) hβ hr, rfl⟩
 | .agg xs, c, R, hp, hE, hβ, h => by
  simp only [RX] at h ⊢
  obtain ⟨cs, hc, hs⟩ := h
  exact ⟨cs, hc, br.off xs _ R hp hE hβ hs⟩
 | .tup xs, c, R, hp, hE, hβ, h => by
  simp only [RX] at h ⊢
  obtain ⟨cs, hc, hs⟩ := h
  exact ⟨cs, hc, dL.off xs _ R hp hE hβ hs⟩
theorem br.off {E E' : Env} : ∀ (xs : List X) (cs : List Value) (R : List Nat), X.gO xs → E.zP E' R → (∀ o, E'.β o = E.β o) → br E xs cs R → br E' xs cs R
 | [], _, _, _, _, _, h => by simpa [br] using h
 | x :: r, cs, R, hp, hE, hβ, h => by
  simp only [br] at h ⊢
  simp only [X.gO] at hp
  obtain ⟨c, c1, R₁, R₂, hc, hs, h1, h2, hR⟩ := h
  subst hR
  exact ⟨c, c1, R₁, R₂, hc, hs, RX.off x c R₁ hp.1 (hE.sub (fun _ h => bO h)) hβ h1, br.off r c1 R₂ hp.2 (hE.sub (fun _ h => bI h)) hβ h2, rfl⟩
theorem dL.off {E E' : Env} : ∀ (xs : List X) (cs : List Value) (R : List Nat), X.gO xs → E.zP E' R → (∀ o, E'.β o = E.β o) → dL E xs cs R → dL E' xs cs R
 | [], _, _, _, _, _, h => by simpa [dL] using h
 | x :: r, cs, R, hp, hE, hβ, h => by
  simp only [dL] at h ⊢
  simp only [X.gO] at hp
  obtain ⟨c, c1, R₁, R₂, hc, h1, h2, hR⟩ := h
  subst hR
  exact ⟨c, c1, R₁, R₂, hc, RX.off x c R₁ hp.1 (hE.sub (fun _ h => bO h)) hβ h1, dL.off r c1 R₂ hp.2 (hE.sub (fun _ h => bI h)) hβ h2, rfl⟩
theorem RO.off {E E' : Env} : ∀ (xs : List X) (cs : Array Value) (off : Nat) (R : List Nat), X.gO xs → E.zP E' R → (∀ o, E'.β o = E.β o) → RO E xs cs off R → RO E' xs cs off R
 | [], _, _, _, _, _, _, h => by simpa [RO] using h
 | x :: r, cs, off, R, hp, hE, hβ, h => by
  simp only [RO] at h ⊢
  simp only [X.gO] at hp
  obtain ⟨u, R₁, R₂, hu, hs, h1, h2, hR⟩ := h
  subst hR
  exact ⟨u, R₁, R₂, hu, hs, RX.off x u R₁ hp.1 (hE.sub (fun _ h => bO h)) hβ h1, RO.off r cs (off + 1) R₂ hp.2 (hE.sub (fun _ h => bI h)) hβ h2, rfl⟩
theorem bR.off {E E' : Env} : ∀ (rs : List (List X)) (cs : Array Value) (off : Nat) (R : List Nat), X.mV rs → E.zP E' R → (∀ o, E'.β o = E.β o) → bR E rs cs off R → bR E' rs cs off R
 | [], _, _, _, _, _, _, h => by simpa [bR] using h
 | r :: rs, cs, off, R, hp, hE, hβ, h => by
  simp only [bR] at h ⊢
  simp only [X.mV] at hp
  obtain ⟨R₁, R₂, hn, h1, h2, hR⟩ := h
  subst hR
  exact ⟨R₁, R₂, hn, RO.off r cs off R₁ hp.1 (hE.sub (fun _ h => bO h)) hβ h1, bR.off rs cs _ R₂ hp.2 (hE.sub (fun _ h => bI h)) hβ h2, rfl⟩
end
def Obj.plain : Obj → Prop
 | .cells xs => X.gO xs
 | .rows _ rs => X.mV rs
 | .tk _ => True
 | .gone => True
theorem dD.off {E E' : Env} {o : Nat} {ob : Obj} {R : List Nat} (hp : ob.plain) (hE : E.zP E' R) (hβ : ∀ o, E'.β o = E.β o) (h : dD E o ob R) : dD E' o ob R := by
 cases ob with
 | cells xs =>
  simp only [dD] at h ⊢
  obtain ⟨oc, B, cs, ty, hB, hw, hf, hl, hR, rfl⟩ := h
  have h2 := hE B.b (by simp)
  exact ⟨oc, B, cs, ty, (hβ o).trans hB, h2.1.trans hw, h2.2 hf, hl, RO.off xs cs _ [] hp (hE.sub (fun _ h => by cases h)) hβ hR, rfl⟩
 | rows s rs =>
  simp only [dD] at h ⊢
  obtain ⟨hu, h⟩ := h
  refine ⟨hu, ?_⟩
  rcases h with ⟨h1, h2, h3⟩ | ⟨B, cs, ty, R', hB, hw, hf, hl, hc, hR, rfl⟩
  ·exact .inl ⟨(hβ o).trans h1, h2, h3⟩
  ·have h2 := hE B.b (by simp)
   exact .inr ⟨B, cs, ty, R', (hβ o).trans hB, h2.1.trans hw, h2.2 hf, hl, hc, bR.off rs cs _ R' hp (hE.sub (fun _ h => by simp [h])) hβ hR, rfl⟩
 | tk es =>
  simp only [dD] at h ⊢
  obtain ⟨B, nT, clock, hB, hw, hf, he, rfl⟩ := h
  have h2 := hE B.b (by simp)
  exact ⟨B, nT, clock, (hβ o).trans hB, h2.1.trans hw, h2.2 hf, he, rfl⟩
 | gone => simpa [dD] using h
mutual
def X.lt (k : Nat) : X → Bool
 | .v _ | .no | .fz .. | .di .. | .fp .. => true
 | .ptr o .. => Nat.blt o k
 | .aY o .. => Nat.blt o k
 | .mref o => Nat.blt o k
 | .agg xs => X.z5 k xs
 | .tup xs => X.z5 k xs
 | .gd _ a b => X.z5 k a && X.z5 k b
def X.z5 (k : Nat) : List X → Bool
 | [] => true
 | x :: r => x.lt k && X.z5 k r
end
theorem tE {o k : Nat} (h : Nat.blt o k = true) : o < k := Nat.le_of_ble_eq_true h
mutual
theorem X.uN {k o : Nat} : ∀ {x : X}, x.lt k = true → x.dp o = true → o < k
 | .v _, _, h | .no, _, h | .fz .., _, h | .di .., _, h | .fp .., _, h => by simp [X.dp] at h
 | .ptr p .., h, hm => by simp only [X.dp] at hm; rw [← Nat.eq_of_beq_eq_true hm]; exact tE h
 | .aY p .., h, hm => by simp only [X.dp] at hm; rw [← Nat.eq_of_beq_eq_true hm]; exact tE h
 | .mref p, h, hm => by simp only [X.dp] at hm; rw [← Nat.eq_of_beq_eq_true hm]; exact tE h
 | .agg xs, h, hm => X.ie (xs := xs) h hm
 | .tup xs, h, hm => X.ie (xs := xs) h hm
 | .gd _ a b, h, hm => by
  simp only [X.lt, Bool.and_eq_true] at h
  simp only [X.dp, Bool.or_eq_true] at hm
  exact hm.elim (X.ie h.1) (X.ie h.2)
theorem X.ie {k o : Nat} : ∀ {xs : List X}, X.z5 k xs = true → X.c3 o xs = true → o < k
 | [], _, h => by simp [X.c3] at h
 | x :: r, h, hm => by
  simp only [X.z5, Bool.and_eq_true] at h
  simp only [X.c3, Bool.or_eq_true] at hm
  exact hm.elim (X.uN h.1) (X.ie h.2)
end
def Obj.lt (k : Nat) : Obj → Bool
 | .cells xs => X.z5 k xs
 | _ => true
def dc (l : List Nat) (x : X) : X := bif l.any (fun o => x.dp o) then .no else x
def Obj.dc (l : List Nat) : Obj → Obj
 | .cells xs => .cells (xs.map (AW.dc l))
 | ob => ob
def St.dc (st : St) (l : List Nat) : St := ⟨st.a7.map fun p => (p.1, AW.dc l p.2), st.aA.map fun p => (p.1, p.2.dc l)⟩
theorem tF {l : List Nat} {x : X} {q : Nat} (h : (dc l x).dp q = true) : q ∉ l ∧ dc l x = x ∧ x.dp q = true := by
 unfold dc at h ⊢
 cases hk : l.any (fun o => x.dp o) with
 | true => simp [hk, X.dp] at h
 | false =>
  rw [hk] at h
  simp only [cond_false] at h ⊢
  refine ⟨fun hq => ?_, trivial, h⟩
  have : l.any (fun o => x.dp o) = true := List.any_eq_true.2 ⟨q, hq, h⟩
  rw [hk] at this; cases this
theorem nI (l : List Nat) : ∀ {xs : List X}, X.bc xs = true → X.bc (xs.map (dc l)) = true
 | [], _ => rfl
 | x :: r, h => by
  simp only [X.bc, Bool.and_eq_true] at h
  have h1 : (dc l x).free = true := by
   unfold dc
   cases l.any (fun o => x.dp o) with
   | true => rfl
   | false => exact h.1
  simp only [List.map_cons, X.bc, h1, nI l h.2, Bool.and_self]
theorem RO.dc {E : Env} {l : List Nat} : ∀ {xs : List X} {cs : Array Value} {off : Nat}, X.bc xs = true → RO E xs cs off [] → RO E (xs.map (AW.dc l)) cs off []
 | [], _, _, _, h => h
 | x :: r, _, _, hf, h => by
  simp only [RO] at h
  obtain ⟨u, R₁, R₂, hu, hs, h1, h2, hR⟩ := h
  simp only [X.bc, Bool.and_eq_true] at hf
  have I4 := RX.free hf.1 h1
  have I5 := RO.free hf.2 h2
  subst I4; subst I5
  have h3 := RO.dc (l := l) hf.2 h2
  simp only [List.map_cons, RO]
  refine ⟨u, [], [], hu, hs, ?_, h3, rfl⟩
  unfold AW.dc
  cases l.any (fun o => x.dp o) with
  | true => simp [RX]
  | false => exact h1
theorem nJ {l : List Nat} : ∀ {xs : List X} {q : Nat}, X.c3 q (xs.map (dc l)) = true → q ∉ l
 | [], _, h => by simp [X.c3] at h
 | x :: r, q, h => by
  simp only [List.map_cons, X.c3, Bool.or_eq_true] at h
  rcases h with h | h
  ·exact (tF h).1
  ·exact nJ h
end Go.AW
namespace Go.AW
open Go
inductive sa (st : St) (L : List Nat) (ν : Nat → Nat) : X → X → Prop where
 | same {x : X} (h : x.free = true) : sa st L ν (x.eD ν) x
 | view {o s lo n : Nat} {rs : List (List X)} (ho : look st.aA o = some (.rows s rs)) (hL : o ∈ L) (lH : lo + n ≤ rs.length) : sa st L ν (.aY o s lo n) (.fz s ((rs.drop lo).take n))
 | deref {o s i k : Nat} {row : List X} (ho : rowAt st (.ptr o s i k) = some row) (hL : o ∈ L) (wz : X.fm row = true) : sa st L ν (.ptr o s i k) (.fp row k)
inductive cV (st : St) (L : List Nat) (ν : Nat → Nat) : List X → List X → Prop where
 | nil : cV st L ν [] []
 | cons {x y : X} {xs ys : List X} (h : sa st L ν x y) (hs : cV st L ν xs ys) : cV st L ν (x :: xs) (y :: ys)
 | agg {us vs xs ys : List X} (h : cV st L ν us vs) (h1 : X.pJ vs = true) (hs : cV st L ν xs ys) : cV st L ν (.agg us :: xs) (.agg vs :: ys)
def fi : List Nat → Nat → Option Nat
 | [], _ => none
 | o :: r, q => bif Nat.beq o q then some 0 else (fi r q).map (· + 1)
theorem lI : ∀ {l : List Nat} {q j : Nat}, fi l q = some j → l[j]? = some q
 | [], _, _, h => by cases h
 | o :: r, q, j, h => by
  simp only [fi] at h
  cases hb : Nat.beq o q with
  | true => rw [hb] at h; simp at h; subst h; simp [Nat.eq_of_beq_eq_true hb]
  | false =>
   rw [hb] at h
   simp only [cond_false, Option.map_eq_some_iff] at h
   obtain ⟨j', h1, rfl⟩ := h
   simpa using lI h1
theorem mw : ∀ {l : List Nat} {q j : Nat}, l.Nodup → l[j]? = some q → fi l q = some j
 | [], _, _, _, h => by simp at h
 | o :: r, q, j, hn, h => by
  simp only [fi]
  have o5 := List.nodup_cons.1 hn
  cases j with
  | zero =>
   simp at h; subst h
   simp
  | succ j =>
   have h' : r[j]? = some q := by simpa using h
   have eB : o ≠ q := fun e => o5.1 (by rw [e]; exact List.mem_of_getElem? h')
   have : Nat.beq o q = false := by
    cases hb : Nat.beq o q with
    | false => rfl
    | true => exact absurd (Nat.eq_of_beq_eq_true hb) eB
   rw [this]
   simp [mw o5.2 h']
theorem lJ : ∀ {l : List Nat} {q : Nat}, fi l q = none → q ∉ l
 | [], _, _ => by simp
 | o :: r, q, h => by
  simp only [fi] at h
  cases hb : Nat.beq o q with
  | true => simp [hb] at h
  | false =>
   rw [hb] at h
   simp only [cond_false, Option.map_eq_none_iff] at h
   have := lJ h
   have eB := Nat.ne_of_beq_eq_false hb
   simp [this, Ne.symm eB]
def iL (st : St) : List Operand → Option (List X)
 | [] => some []
 | x :: r => match bx st x, iL st r with
  | some y, some l => some (y :: l)
  | _, _ => none
def aM (P : Program) (f : FuncId) : Bool :=
 match P.funcs[f]? with
 | some fn => fn.body.isSome && fn.name != "runtime.NumGoroutine"
 | none => false
theorem oE {P : Program} {f : FuncId} (h : aM P f = true) (args : Array Value) (w : World) : (callFunc f args).run P w = .ok (.enter f args) w := by
 unfold aM at h
 cases hf : P.funcs[f]? with
 | none => simp [hf] at h
 | some fn =>
  rw [hf] at h
  simp only [Bool.and_eq_true] at h
  have h1 : fn.name ≠ "runtime.NumGoroutine" := by
   have := h.2
   simpa [bne] using this
  have h2 : fn.body ≠ none := fun e => by rw [e] at h; simp at h
  simp [callFunc, hf, h1, h2]
def loose (ν F : List Nat) : List Nat := ((dy 0 ν).filter fun p => !F.elem p.1).map (·.2)
theorem vC {ν F : List Nat} {o : Nat} (h : o ∉ loose ν F) {j : Nat} (hj : ν[j]? = some o) : F.elem j = true := by
 cases hF : F.elem j with
 | true => rfl
 | false =>
  refine absurd ?_ h
  unfold loose
  refine List.mem_map.2 ⟨(j, o), List.mem_filter.2 ⟨?_, by simpa using hF⟩, rfl⟩
  have : ∀ (l : List Nat) (i : Nat), l[j]? = some o → (i + j, o) ∈ dy i l := by
   clear h hj hF
   induction j with
   | zero =>
    intro l i h
    cases l with
    | nil => simp at h
    | cons x r => simp at h; subst h; simp [dy]
   | succ j ih =>
    intro l i h
    cases l with
    | nil => simp at h
    | cons x r =>
     simp only [dy, List.mem_cons]
     right
     have := ih r (i + 1) (by simpa using h)
     rw [show i + (j + 1) = i + 1 + j by omega]; exact this
  simpa using this ν 0 hj
def bz (ν : List Nat) (j : Nat) : Nat := ν.getD j 0
def ku (st : St) (ν F : List Nat) (aD : List Obj) : St :=
 ⟨(st.dc (loose ν F)).a7, ν.zip (aD.map (Obj.eD (bz ν))) ++ (st.dc (loose ν F)).aA⟩
theorem sb : ∀ {ν : List Nat} {l : List Obj} {r : List (Nat × Obj)} {o : Nat}, ν.length = l.length → look (ν.zip l ++ r) o = match fi ν o with | some j => l[j]? | none => look r o
 | [], [], _, _, _ => rfl
 | [], _ :: _, _, _, h => by simp at h
 | _ :: _, [], _, _, h => by simp at h
 | q :: ν, x :: l, r, o, h => by
  simp only [List.zip_cons_cons, List.cons_append, look, fi]
  cases hb : Nat.beq q o with
  | true => simp
  | false =>
   simp only [cond_false]
   rw [sb (by simpa using h)]
   cases hp : fi ν o with
   | none => simp
   | some j => simp
section
variable {P : Program} {N : dV} {st : St} {Q : Exit → St → Prop} {all : Array Oper} {rest : List Oper} {d : Nat} {ty : TypeId} {pos : String} {af : Array Edge}
theorem RO.freeze {E E1 : Env} {b : Nat} : ∀ {xs : List X} {cs : Array Value} {off : Nat} , (∀ i v, cs[i]? = some v → E1.φ b i = some v) → (∀ c i v, E.φ c i = some v → E1.φ c i = some v) → X.fm xs = true →
  RO E xs cs off [] → RF E1 xs b off
 | [], _, _, _, _, _, _ => by simp [RF]
 | x :: r, cs, off, h1, h2, hn, h => by
  simp only [RO] at h
  obtain ⟨u, R₁, R₂, hu, hs, hx, hr, hR⟩ := h
  obtain ⟨rfl, rfl⟩ := List.append_eq_nil_iff.1 hR.symm
  simp only [X.fm, Bool.and_eq_true] at hn
  simp only [RF]
  refine ⟨⟨u, h1 _ _ hu, hs, hn.1, RX.mono x u [] ⟨h2, fun _ h => by cases h⟩ (fun o ho => by rw [X.lD hn.1] at ho; cases ho) hx⟩, RO.freeze h1 h2 hn.2 hr⟩
theorem bR.freeze {E E1 : Env} {b : Nat} : ∀ {rs : List (List X)} {cs : Array Value} {off : Nat}, (∀ i v, cs[i]? = some v → E1.φ b i = some v) → (∀ c i v, E.φ c i = some v → E1.φ c i = some v) →
  bR E rs cs off [] → gJ E1 rs b off
 | [], _, _, _, _, _ => by simp [gJ]
 | r :: rs, cs, off, h1, h2, h => by
  simp only [bR] at h
  obtain ⟨R₁, R₂, hn, hx, hr, hR⟩ := h
  obtain ⟨rfl, rfl⟩ := List.append_eq_nil_iff.1 hR.symm
  simp only [gJ]
  exact ⟨RO.freeze h1 h2 hn hx, bR.freeze h1 h2 hr⟩
def iQ : Obj → Prop
 | .rows _ rs => ∀ r ∈ rs, X.bc r = true
 | .cells _ => True
 | .tk _ => True
 | .gone => True
theorem bR.free {E : Env} : ∀ {rs : List (List X)} {cs : Array Value} {off : Nat} {R : List Nat}, (∀ r ∈ rs, X.bc r = true) → bR E rs cs off R → R = []
 | [], _, _, _, _, h => by simpa [bR] using h
 | r :: rs, _, _, _, hf, h => by
  simp only [bR] at h
  obtain ⟨R₁, R₂, _, h1, h2, hR⟩ := h
  rw [hR, RO.free (hf r (by simp)) h1, bR.free (fun q hq => hf q (by simp [hq])) h2]; rfl
noncomputable def Env.eZ (E : Env) (LB : Nat → Prop) : Env := by
 classical
 exact { E with φ := fun b i => if LB b then E.w.cell? ⟨b, i, none⟩ else E.φ b i }
theorem gX (E : Env) {LB : Nat → Prop} {b : Nat} (h : LB b) (i : Nat) : (E.eZ LB).φ b i = E.w.cell? ⟨b, i, none⟩ := by simp [Env.eZ, h]
theorem ea (E : Env) {LB : Nat → Prop} {b : Nat} (h : ¬ LB b) (i : Nat) : (E.eZ LB).φ b i = E.φ b i := by simp [Env.eZ, h]
theorem sa.rx {G : Ctx} {E : Env} {RR : Own → List Nat} {a : Act} {L : List Nat} {ν : Nat → Nat} {LB : Nat → Prop} (hi : Inv G E RR st a) (zQ : ∀ o ∈ L, ∀ b ∈ RR (.obj o), LB b) (hle : ∀ c i v, E.φ c i = some v → (E.eZ LB).φ c i = some v)
  (h0 : ∀ o ∈ L, ∀ ob, look st.aA o = some ob → iQ ob) {x y : X} {c : Value} {R : List Nat} (h : sa st L ν x y) (hx : RX E x c R) : RX ((E.eZ LB).names ν) y c [] := by
 have gL : E.On (E.eZ LB) [] := ⟨hle, fun _ h => by cases h⟩
 cases h with
 | same hf =>
  have : R = [] := RX.free (by rw [X.rZ]; exact hf) hx
  subst this
  exact (RX.eD y c []).2 (RX.mono _ c [] gL (fun _ _ => rfl) hx)
 | view ho hL lH =>
  rename_i o s lo n rs
  have aP := hi.aA o _ ho
  have ju : ∀ r ∈ rs, X.bc r = true := h0 o hL _ ho
  simp only [RX] at hx ⊢
  obtain ⟨_, base, cap, rfl, cA⟩ := hx
  simp only [dD] at aP
  obtain ⟨hu, aP⟩ := aP
  have tf : ((rs.drop lo).take n).length = n := by simp; omega
  refine ⟨trivial, (hu.drop lo).take n, base, cap, by rw [tf], ?_⟩
  by_cases kt : cap = 0
  ·refine .inl ⟨?_, kt⟩
   have zL : n = 0 := by rcases cA with ⟨_, _, h, _⟩ | ⟨_, _, _, h, _⟩ <;> omega
   subst zL; simp
  ·rcases cA with ⟨_, _, _, h⟩ | ⟨B, hB, EK, o5, hb⟩
   ·exact absurd h kt
   have fe := hb.resolve_left kt
   rcases aP with ⟨h1, _⟩ | ⟨B', cs, tb, R', g7, hw, hφ, qQ, et, iJ, gM⟩
   ·rw [hB] at h1; cases h1
   rw [hB] at g7
   obtain rfl := Option.some.inj g7
   have zR := bR.free ju iJ
   subst zR
   obtain ⟨R1, vB, cF, _⟩ := bR.tB hu iJ lH
   have o8 : R1 = [] := by
    cases R1 with
    | nil => rfl
    | cons b r => have := cF b (by simp); cases this
   subst o8
   have Fm : LB B.b := zQ o hL _ (by rw [gM]; simp)
   refine .inr ⟨B.b, B.off + lo * s, fe, om, ?_⟩
   have oc : gJ (E.eZ LB) ((rs.drop lo).take n) B.b (B.off + lo * s) := bR.freeze (fun i v hv => by rw [gX E Fm, cp hw]; exact hv) hle vB
   exact gJ.mono _ _ _ (eE (E.eZ LB) ν []).2 oc
 | deref ho hL wz =>
  rename_i o s i k row
  simp only [RX] at hx ⊢
  obtain ⟨_, B, hB, rfl⟩ := hx
  simp only [rowAt] at ho
  split at ho
  ·rename_i xs kd
   have aP := hi.aA o _ kd
   simp only [dD] at aP
   obtain ⟨_, B', cs, tb, g7, hw, _, _, iJ, gM⟩ := aP
   rw [hB] at g7
   obtain rfl := Option.some.inj g7
   cases me : Nat.beq i 0 with
   | false => simp [me] at ho
   | true =>
    have := Nat.eq_of_beq_eq_true me
    subst this
    simp only [me, cond_true, Option.some.injEq] at ho
    subst ho
    have Fm : LB B.b := zQ o hL _ (by rw [gM]; simp)
    refine ⟨trivial, B.b, B.off, by simp, ?_⟩
    exact RF.mono _ _ _ (eE (E.eZ LB) ν []).2 (RO.freeze (fun i v hv => by rw [gX E Fm, cp hw]; exact hv) hle wz iJ)
  ·rename_i s' rs kd
   have aP := hi.aA o _ kd
   have ju : ∀ r ∈ rs, X.bc r = true := h0 o hL _ kd
   simp only [dD] at aP
   obtain ⟨hu, aP⟩ := aP
   cases Cv : Nat.beq s s' with
   | false => simp [Cv] at ho
   | true =>
    have := Nat.eq_of_beq_eq_true Cv
    subst this
    simp only [Cv, cond_true] at ho
    rcases aP with ⟨_, h1, _⟩ | ⟨B', cs, tb, R', g7, hw, _, _, _, iJ, gM⟩
    ·subst h1; simp at ho
    rw [hB] at g7
    obtain rfl := Option.some.inj g7
    have zR := bR.free ju iJ
    subst zR
    obtain ⟨R1, _, mP, cF⟩ := bR.get hu iJ ho
    have o8 : R1 = [] := by
     cases R1 with
     | nil => rfl
     | cons b r => have := cF b (by simp); cases this
    subst o8
    have Fm : LB B.b := zQ o hL _ (by rw [gM]; simp)
    refine ⟨trivial, B.b, B.off + i * s, by rw [Nat.add_assoc], ?_⟩
    exact RF.mono _ _ _ (eE (E.eZ LB) ν []).2 (RO.freeze (fun i v hv => by rw [gX E Fm, cp hw]; exact hv) hle wz mP)
  ·cases ho
theorem cV.get {L : List Nat} {ν : Nat → Nat} : ∀ {xs ys : List X} {j : Nat} {y : X}, cV st L ν xs ys → ys[j]? = some y → ∃ x, xs[j]? = some x ∧ (sa st L ν x y ∨ ∃ us vs, x = .agg us ∧ y = .agg vs ∧ cV st L ν us vs ∧ X.pJ vs = true)
 | _, _, j, y, .nil, h => by simp at h
 | _, _, 0, y, .cons h _, hy => by simp at hy; subst hy; exact ⟨_, rfl, .inl h⟩
 | _, _, j + 1, y, .cons _ hs, hy => by simpa using cV.get hs (by simpa using hy)
 | _, _, 0, y, .agg h h1 _, hy => by simp at hy; subst hy; exact ⟨_, rfl, .inr ⟨_, _, rfl, rfl, h, h1⟩⟩
 | _, _, j + 1, y, .agg _ _ hs, hy => by simpa using cV.get hs (by simpa using hy)
theorem cV.length {L : List Nat} {ν : Nat → Nat} : ∀ {xs ys : List X}, cV st L ν xs ys → xs.length = ys.length
 | _, _, .nil => rfl
 | _, _, .cons _ hs => by simp [hs.length]
 | _, _, .agg _ _ hs => by simp [hs.length]
theorem cV.Mh {G : Ctx} {E : Env} {RR : Own → List Nat} {a : Act} {L : List Nat} {ν : Nat → Nat} {LB : Nat → Prop} (hi : Inv G E RR st a) (zQ : ∀ o ∈ L, ∀ b ∈ RR (.obj o), LB b) (hle : ∀ c i v, E.φ c i = some v → (E.eZ LB).φ c i = some v)
  (h0 : ∀ o ∈ L, ∀ ob, look st.aA o = some ob → iQ ob) : ∀ {xs ys : List X} {cs : List Value} {R : List Nat}, cV st L ν xs ys → br E xs cs R → br ((E.eZ LB).names ν) ys cs []
 | _, _, cs, R, .nil, h => by simp only [br] at h ⊢; exact ⟨h.1, trivial⟩
 | _, _, cs, R, .cons hl hs, h => by
  simp only [br] at h ⊢
  obtain ⟨c, c1, R₁, R₂, rfl, h1, h2, h3, _⟩ := h
  exact ⟨c, c1, [], [], rfl, h1, hl.rx hi zQ hle h0 h2, hs.Mh hi zQ hle h0 h3, rfl⟩
 | _, _, cs, R, .agg hl _ hs, h => by
  simp only [br] at h ⊢
  obtain ⟨c, c1, R₁, R₂, rfl, h1, h2, h3, _⟩ := h
  simp only [RX] at h2
  obtain ⟨ds, rfl, h4⟩ := h2
  exact h1.elim
end
end Go.AW
namespace Go.AW
open Go
section
variable {P : Program} {N : dV} {st : St} {Q : Exit → St → Prop} {all : Array Oper} {rest : List Oper} {d : Nat} {ty : TypeId} {pos : String} {af : Array Edge}
theorem mx {G : Ctx} {E : Env} {RR : Own → List Nat} {a : Act} (hi : Inv G E RR st a) : ∀ {l : List Operand} {xs : List X}, iL st l = some xs → xs.length = l.length ∧ ∀ (j : Nat) (x : X), xs[j]? = some x → ∃ o : Operand, l[j]? = some o ∧ ∃ R, RX E x (a.eval o) R
 | [], xs, h => by simp only [iL, Option.some.injEq] at h; subst h; exact ⟨rfl, by simp⟩
 | o :: r, xs, h => by
  simp only [iL] at h
  cases h1 : bx st o with
  | none => simp [h1] at h
  | some y =>
   cases h2 : iL st r with
   | none => simp [h1, h2] at h
   | some ys =>
    rw [h1, h2] at h
    simp only [Option.some.injEq] at h
    subst h
    obtain ⟨hl, hg⟩ := mx hi h2
    refine ⟨by simp [hl], fun j x hx => ?_⟩
    cases j with
    | zero => simp at hx; subst hx; exact ⟨o, rfl, hi.eval h1⟩
    | succ j => simpa using hg j x (by simpa using hx)
theorem Inv.BD {G : Ctx} {E : Env} {RR : Own → List Nat} {a : Act} {f : FuncId} {vs : List Value} {xs args : List X} {aA : List Obj} {F ν L : List Nat} {Q' : X → List Obj → Prop} (hi : Inv G E RR st a) (fj : al P f args aA F Q')
  (uO : xs.length = vs.length) (BE : ∀ (j : Nat) (x : X), xs[j]? = some x → ∃ v : Value, vs[j]? = some v ∧ ∃ R, RX E x v R) (dW : cV st L (bz ν) xs args) (my : ∀ j ob, aA[j]? = some ob → look st.aA (bz ν j) = some (ob.eD (bz ν))) (hlen : ν.length = aA.length) (xc : ν.Nodup) (zS : ∀ o ∈ L, o ∉ ν)
  (h0 : ∀ o ∈ L, ∃ ob, look st.aA o = some ob ∧ iQ ob) (zT : ∀ o ∈ loose ν F, G.fn.F.elem o = false) (hd : d < G.fn.n) :
  Calls P f vs.toArray E.w fun e w' => ∃ v r aD, e = .returned v ∧ Q' r aD ∧ aD.length = aA.length ∧
   (r.lt aA.length = true → (∀ ob ∈ aD, ob.lt aA.length = true) → (L = [] ∨ (r.plain ∧ ∀ ob ∈ aD, ob.plain)) → ∃ jt qW, jt.w = w' ∧ Inv G jt qW ((ku st ν F aD).put d (r.eD (bz ν))) (a.put (some d) v)) := by
 classical
 -- the blocks that are lent, and those that are handed sc
 let LB : Nat → Prop := fun b => ∃ o ∈ L, b ∈ RR (.obj o)
 let PB : Nat → Prop := fun b => ∃ j, j < aA.length ∧ b ∈ RR (.obj (bz ν j))
 have Er : ∀ j, j < aA.length → ν[j]? = some (bz ν j) := by
  intro j hj
  have : j < ν.length := by omega
  simp [bz, List.getD, List.getElem?_eq_getElem this]
 have Mi : ∀ b, LB b → ∀ i, E.φ b i = none := by
  rintro b ⟨o, Es, hb⟩
  obtain ⟨ob, aP, mT⟩ := h0 o Es
  have h := hi.aA o ob aP
  cases ob with
  | cells ys =>
   simp only [dD] at h
   obtain ⟨_, B, cs, tb, _, _, hφ, _, _, gM⟩ := h
   rw [gM] at hb
   simp only [List.mem_singleton] at hb
   rw [hb]; exact hφ
  | rows s rs =>
   simp only [dD] at h
   obtain ⟨_, h⟩ := h
   rcases h with ⟨_, _, h3⟩ | ⟨B, cs, tb, R', _, _, hφ, _, _, iJ, gM⟩
   ·rw [h3] at hb; cases hb
   ·have zR := bR.free mT iJ
    subst zR
    rw [gM] at hb
    simp only [List.mem_singleton] at hb
    rw [hb]; exact hφ
  | tk es =>
   simp only [dD] at h
   obtain ⟨B, nT, clock, _, _, hφ, _, gM⟩ := h
   rw [gM] at hb
   simp only [List.mem_singleton] at hb
   rw [hb]; exact hφ
  | gone =>
   simp only [dD] at h
   rw [h] at hb; cases hb
 have Oo : ∀ b, LB b → ¬ PB b := by
  rintro b ⟨o, Es, hb⟩ ⟨j, hj, fe⟩
  have eB : o ≠ bz ν j := fun e => zS o Es (by rw [e]; exact List.mem_of_getElem? (Er j hj))
  exact hi.apart (.obj o) (.obj (bz ν j)) (by simpa using eB) b hb fe
 have hle : ∀ c i v, E.φ c i = some v → (E.eZ LB).φ c i = some v := by
  intro c i v h
  have : ¬ LB c := fun hL => by rw [Mi c hL i] at h; cases h
  rw [ea E this]; exact h
 let E1 : Env := (E.eZ LB).names (bz ν)
 have Oq : E1.w = E.w := rfl
 have Ot : ∀ o, E1.β o = E.β (bz ν o) := fun _ => rfl
 have IZ : ∀ b i, E1.φ b i = (E.eZ LB).φ b i := fun _ _ => rfl
 let K1 : Nat → Prop := fun b => b < E.w.heap.size ∧ ¬ PB b
 let z6 : Own → List Nat := fun p => match p with
  | .obj j => if j < aA.length then RR (.obj (bz ν j)) else []
  | .slot _ => []
 have Ja : ∀ i j, i < aA.length → j < aA.length → bz ν i = bz ν j → i = j := by
  intro i j fL tG h
  have h1 := mw xc (Er i fL)
  have h2 := mw xc (Er j tG)
  rw [h] at h1
  rw [h1] at h2
  exact Option.some.inj h2
 have Ou : Inv (pN K1 E1 ⟨args.length, F⟩) E1 z6 ⟨dy 0 args, dy 0 aA⟩ ⟨vs.toArray, []⟩ := by
  constructor
  ·intro b i v h
   rw [IZ] at h
   by_cases hL : LB b
   ·rw [gX E hL] at h; exact h
   ·rw [ea E hL] at h; exact hi.kh b i v h
  ·intro s y hy
   have z3 : look (dy 0 args) s = some y := hy
   rw [gi] at z3
   obtain ⟨x, hx, cA⟩ := dW.get z3
   obtain ⟨o, ho, R, hR⟩ := BE s x hx
   have xd : vs.toArray.getD s undef = o := by
    simp [Array.getD_eq_getD_getElem?, ho]
   show RX E1 y (vs.toArray.getD s undef) []
   rw [xd]
   have zQ : ∀ o ∈ L, ∀ b ∈ RR (.obj o), LB b := fun o ho b hb => ⟨o, ho, hb⟩
   have Mj : ∀ o ∈ L, ∀ ob, look st.aA o = some ob → iQ ob := fun o ho ob aP => by
    obtain ⟨td, h1, h2⟩ := h0 o ho
    rw [h1] at aP
    obtain rfl := Option.some.inj aP
    exact h2
   rcases cA with hl | ⟨us, vs, rfl, rfl, hl, _⟩
   ·exact hl.rx hi zQ hle Mj hR
   ·simp only [RX] at hR ⊢
    obtain ⟨cs, hc, h2⟩ := hR
    exact ⟨cs, hc, hl.Mh hi zQ hle Mj h2⟩
  ·intro j ob ho
   have ll : look (dy 0 aA) j = some ob := ho
   rw [gi] at ll
   have hj : j < aA.length := by
    rcases Nat.lt_or_ge j aA.length with h' | h'
    ·exact h'
    ·simp [List.getElem?_eq_none h'] at ll
   have h1 := hi.aA _ _ (my j ob ll)
   have o8 : z6 (.obj j) = RR (.obj (bz ν j)) := by simp [z6, hj]
   rw [o8]
   have h2 : dD (E.names (bz ν)) j ob (RR (.obj (bz ν j))) := dD.eD.2 h1
   refine dD.mono (E := E.names (bz ν)) ⟨hle, fun b hb => ⟨rfl, fun hφ i => ?_⟩⟩ rfl (fun _ _ _ _ => rfl) h2
   have : ¬ LB b := fun hL => Oo b hL ⟨j, hj, hb⟩
   show (E.eZ LB).φ b i = none
   rw [ea E this]; exact hφ i
  ·intro p
   cases p with
   | slot s => exact List.nodup_nil
   | obj j => by_cases hj : j < aA.length <;> simp [z6, hj, hi.nodup]
  ·intro p q kj b hb fe
   cases p with
   | slot s => cases hb
   | obj i =>
    cases q with
    | slot s => cases fe
    | obj j =>
     by_cases wT : i < aA.length
     ·by_cases kT : j < aA.length
      ·simp only [z6, wT, kT, if_true] at hb fe
       have eB : bz ν i ≠ bz ν j := fun e => kj (by rw [Ja i j wT kT e])
       exact hi.apart (.obj (bz ν i)) (.obj (bz ν j)) (by simpa using eB) b hb fe
      ·simp [z6, kT] at fe
     ·simp [z6, wT] at hb
  ·intro p b hb
   cases p with
   | slot s => cases hb
   | obj j =>
    by_cases hj : j < aA.length
    ·simp only [z6, hj, if_true] at hb
     exact ⟨(hi.own _ _ hb).1, fun h => h.2 ⟨j, hj, hb⟩⟩
    ·simp [z6, hj] at hb
  ·intro b _; rfl
  ·exact Nat.le_refl _
  ·intro b hb; exact hb.1
  ·rfl
  ·rfl
  ·rfl
  ·intro b i v h; exact h
  ·intro b i v h; exact .inl h
  ·intro o _; rfl
  ·show vs.toArray.size = args.length
   have := dW.length
   simp; omega
  ·rfl
 refine (fj K1 E1 z6 _ Ou).mono ?_
 rintro e w' ⟨v, r, aD, he, Fo, uF, E', eC, rfl, sd⟩
 refine ⟨v, r, aD, he, Fo, uF, fun Jb Jc xe => ?_⟩
 -- what the callee leaves
 have BF : ∀ b, b < E.w.heap.size → ¬ PB b → E'.w.heap[b]? = E.w.heap[b]? := fun b h1 h2 => sd.ao b ⟨h1, h2⟩
 have et : E.w.heap.size ≤ E'.w.heap.size := sd.size
 let jt : Env := { φ := fun b i => if LB b then none else E'.φ b i, β := fun o => match fi ν o with | some j => E'.β j | none => E.β o, w := E'.w }
 have zU : ∀ b i, LB b → jt.φ b i = none := fun b i h => by simp [jt, h]
 have q5 : ∀ b i, ¬ LB b → jt.φ b i = E'.φ b i := fun b i h => by simp [jt, h]
 have Fp : ∀ b i v, E.φ b i = some v → jt.φ b i = some v := by
  intro b i v h
  have hn : ¬ LB b := fun hL => by rw [Mi b hL i] at h; cases h
  rw [q5 b i hn]
  refine sd.φ0 b i v ?_
  show (E.eZ LB).φ b i = some v
  exact hle b i v h
 have CF : ∀ b, b < E.w.heap.size → ¬ PB b → (∀ i, E.φ b i = none) → ∀ i, jt.φ b i = none := by
  intro b hb hP hφ i
  by_cases hL : LB b
  ·exact zU b i hL
  ·rw [q5 b i hL]
   cases h : E'.φ b i with
   | none => rfl
   | some v =>
    rcases sd.grow b i v h with h1 | h1
    ·have Fq : (E.eZ LB).φ b i = some v := h1
     rw [ea E hL, hφ i] at Fq; cases Fq
    ·exact absurd ⟨hb, hP⟩ h1
 have gL : ∀ R, (∀ b ∈ R, b < E.w.heap.size ∧ ¬ PB b) → E.On jt R := fun R h => ⟨Fp, fun b hb => ⟨BF b (h b hb).1 (h b hb).2, CF b (h b hb).1 (h b hb).2⟩⟩
 have hβ : ∀ o, o ∉ loose ν F → jt.β o = E.β o := by
  intro o ho
  show (match fi ν o with | some j => E'.β j | none => E.β o) = E.β o
  cases hp : fi ν o with
  | none => rfl
  | some j =>
   have h1 := lI hp
   have hF := vC ho h1
   have h2 := sd.fixed j hF
   have h3 : (pN K1 E1 ⟨1, F⟩).β0 j = E.β (bz ν j) := rfl
   rw [h3] at h2
   have h4 : bz ν j = o := by simp [bz, List.getD, h1]
   rw [h4] at h2
   exact h2
 have Jd : ∀ j, j < aA.length → jt.β (bz ν j) = E'.β j := by
  intro j hj
  show (match fi ν (bz ν j) with | some j => E'.β j | none => E.β (bz ν j)) = E'.β j
  rw [mw xc (Er j hj)]
 -- who owns what then
 let nG : Own → List Nat := fun p => match p with
  | .slot s => match look st.a7 s with
   | some x => bif (loose ν F).any (fun o => x.dp o) then [] else RR (.slot s)
   | none => []
  | .obj o => match fi ν o with
   | some j => eC (.obj j)
   | none => RR (.obj o)
 have zV : ∀ s b, b ∈ nG (.slot s) → b ∈ RR (.slot s) := by
  intro s b hb
  simp only [nG] at hb
  cases hs : look st.a7 s with
  | none => simp [hs] at hb
  | some x =>
   rw [hs] at hb
   simp only at hb
   cases hk : (loose ν F).any (fun o => x.dp o) with
   | true => simp [hk] at hb
   | false => simpa [hk] using hb
 have tH : ∀ p b, b ∈ RR p → (∀ j, j < aA.length → p ≠ .obj (bz ν j)) → b < E.w.heap.size ∧ ¬ PB b := by
  intro p b hb hp
  refine ⟨(hi.own p b hb).1, ?_⟩
  rintro ⟨j, hj, fe⟩
  exact hi.apart p _ (hp j hj) b hb fe
 have qX : ∀ q b, b ∈ eC q → b < E'.w.heap.size ∧ (E.w.heap.size ≤ b ∨ PB b) := by
  intro q b hb
  have h := sd.own q b hb
  refine ⟨h.1, ?_⟩
  by_cases wY : b < E.w.heap.size
  ·right
   by_cases hP : PB b
   ·exact hP
   ·exact absurd ⟨wY, hP⟩ h.2
  ·left; omega
 have tI : ∀ p b, b ∈ RR p → (∀ j, j < aA.length → p ≠ .obj (bz ν j)) → ∀ q, b ∉ eC q := by
  intro p b hb hp q hq
  have h1 := tH p b hb hp
  rcases (qX q b hq).2 with h | h
  ·omega
  ·exact h1.2 h
 have BG : ∀ q b, b ∈ eC q → ¬ G.K b := by
  intro q b hb hK
  rcases (qX q b hb).2 with h | ⟨j, hj, h⟩
  ·have := hi.small b hK; have := hi.size; omega
  ·exact (hi.own _ _ h).2 hK
 have zW : ∀ o j, fi ν o = some j → j < aA.length ∧ bz ν j = o := by
  intro o j h
  have h1 := lI h
  have hj : j < ν.length := by
   rcases Nat.lt_or_ge j ν.length with h' | h'
   ·exact h'
   ·simp [List.getElem?_eq_none h'] at h1
  exact ⟨om, by simp [bz, List.getD, h1]⟩
 have uP : L = [] → ∀ b i, jt.φ b i = E'.φ b i := by
  intro hL b i
  refine q5 b i ?_
  rintro ⟨o, ho, _⟩
  rw [hL] at ho; cases ho
 have xf : ∀ b, (∀ i, E'.φ b i = none) → ∀ i, jt.φ b i = none := by
  intro b h i
  by_cases hL : LB b
  ·exact zU b i hL
  ·rw [q5 b i hL]; exact h i
 have se : ∀ p b, b ∈ nG p → (b ∈ RR p ∧ ∀ j, j < aA.length → p ≠ .obj (bz ν j)) ∨ (∃ o j, p = .obj o ∧ fi ν o = some j ∧ b ∈ eC (.obj j)) := by
  intro p b hb
  cases p with
  | slot s => exact .inl ⟨zV s b hb, fun j hj => by simp⟩
  | obj o =>
   simp only [nG] at hb
   cases hp : fi ν o with
   | some j => rw [hp] at hb; exact .inr ⟨o, j, rfl, hp, hb⟩
   | none =>
    rw [hp] at hb
    refine .inl ⟨hb, fun j hj e => lJ hp ?_⟩
    have : o = bz ν j := by simpa using e
    rw [this]; exact List.mem_of_getElem? (Er j hj)
 have vD : Inv G jt nG (ku st ν F aD) a := by
  refine { hi with kh := ?_, a7 := ?_, aA := ?_, nodup := ?_, apart := ?_, own := ?_, ao := ?_, size := ?_, os := ?_, tape := ?_, output := ?_, φ0 := ?_, grow := ?_, fixed := ?_ }
  ·intro b i v h
   by_cases hL : LB b
   ·rw [zU b i hL] at h; cases h
   ·rw [q5 b i hL] at h; exact sd.kh b i v h
  ·intro s y hy
   have z3 : look ((st.a7).map fun p => (p.1, AW.dc (loose ν F) p.2)) s = some y := hy
   rw [km (AW.dc (loose ν F))] at z3
   cases hs : look st.a7 s with
   | none => simp [hs] at z3
   | some x =>
    rw [hs] at z3
    simp only [Option.map_some, Option.some.injEq] at z3
    subst z3
    cases hk : (loose ν F).any (fun o => x.dp o) with
    | true =>
     have : nG (.slot s) = [] := by simp [nG, hs, hk]
     rw [this]
     simp [AW.dc, hk, RX]
    | false =>
     have : nG (.slot s) = RR (.slot s) := by simp [nG, hs, hk]
     rw [this]
     simp only [AW.dc, hk, cond_false]
     refine RX.mono x _ _ (gL _ (fun b hb => tH _ b hb (fun j hj => by simp))) (fun o ho => hβ o (fun oB => ?_)) (hi.a7 s x hs)
     have : (loose ν F).any (fun o => x.dp o) = true := List.any_eq_true.2 ⟨o, oB, ho⟩
     rw [hk] at this; cases this
  ·intro o ob ho
   have ll : look (ν.zip (aD.map (Obj.eD (bz ν))) ++ (st.aA.map fun p => (p.1, p.2.dc (loose ν F)))) o = some ob := ho
   rw [sb (by simp [uF, hlen])] at ll
   cases hp : fi ν o with
   | some j =>
    rw [hp] at ll
    simp only [List.getElem?_map, Option.map_eq_some_iff] at ll
    obtain ⟨td, zX, rfl⟩ := ll
    obtain ⟨hj, Ov⟩ := zW o j hp
    have vA : nG (.obj o) = eC (.obj j) := by simp [nG, hp]
    rw [vA, ← Ov]
    have h1 : dD E' j td (eC (.obj j)) := sd.aA j td (by rw [gi]; exact zX)
    have vE : td ∈ aD := List.mem_of_getElem? zX
    refine dD.eD.1 (?_ : dD (jt.names (bz ν)) j td (eC (.obj j)))
    have h3 : dD { E' with φ := jt.φ } j td (eC (.obj j)) := by
     rcases xe with hL | tt
     ·exact dD.mono (E := E') ⟨fun b i v h => by show jt.φ b i = _; rw [uP hL b i]; exact h, fun b _ => ⟨rfl, fun h i => by show jt.φ b i = _; rw [uP hL b i]; exact h i⟩⟩ rfl (fun _ _ _ _ => rfl) h1
     ·exact dD.off (E := E') (tt.2 td vE) (fun b _ => ⟨rfl, xf b⟩) (fun _ => rfl) h1
    refine dD.mono (E := { E' with φ := jt.φ }) ⟨fun _ _ _ h => h, fun b _ => ⟨rfl, fun h => h⟩⟩ (Jd j hj) (fun ys rP q hq => ?_) h3
    subst rP
    exact Jd q (X.ie (Jc _ vE) hq)
   | none =>
    rw [hp] at ll
    simp only at ll
    rw [km (Obj.dc (loose ν F))] at ll
    cases hs : look st.aA o with
    | none => simp [hs] at ll
    | some EL =>
     rw [hs] at ll
     simp only [Option.map_some, Option.some.injEq] at ll
     subst ll
     have vA : nG (.obj o) = RR (.obj o) := by simp [nG, hp]
     rw [vA]
     have Fs : ∀ j, j < aA.length → Own.obj o ≠ .obj (bz ν j) := fun j hj e => lJ hp (by
      have : o = bz ν j := by simpa using e
      rw [this]; exact List.mem_of_getElem? (Er j hj))
     have pO := gL _ (fun b hb => tH _ b hb Fs)
     have kd := hi.aA o EL hs
     have Je : jt.β o = E.β o := by
      show (match fi ν o with | some j => E'.β j | none => E.β o) = E.β o
      rw [hp]
     cases EL with
     | cells ys =>
      simp only [Obj.dc, dD] at kd ⊢
      obtain ⟨oc, B, cs, tb, hB, hw, hf, Ft, iJ, gM⟩ := kd
      have h2 := pO.2 B.b (by rw [gM]; simp)
      exact ⟨nI _ oc, B, cs, tb, Je.trans hB, h2.1.trans hw, h2.2 hf, by simpa using Ft,
       RO.mono _ cs _ [] (pO.sub (fun _ h => by cases h)) (fun q hq => hβ q (nJ hq)) (RO.dc oc iJ), gM⟩
     | rows s rs => exact dD.mono pO Je (fun ys h => by cases h) kd
     | tk es => exact dD.mono pO Je (fun ys h => by cases h) kd
     | gone => simpa [Obj.dc, dD] using kd
  ·intro p
   cases p with
   | slot s =>
    simp only [nG]
    cases hs : look st.a7 s with
    | none => exact List.nodup_nil
    | some x =>
     simp only
     cases (loose ν F).any (fun o => x.dp o) with
     | true => exact List.nodup_nil
     | false => exact hi.nodup _
   | obj o =>
    simp only [nG]
    cases fi ν o with
    | some j => exact sd.nodup _
    | none => exact hi.nodup _
  ·intro p q kj b hb fe
   rcases se p b hb with ⟨h1, h2⟩ | ⟨o, j, rfl, hp, h1⟩
   ·rcases se q b fe with ⟨h3, h4⟩ | ⟨o', j', rfl, Ep, h3⟩
    ·exact hi.apart p q kj b h1 h3
    ·exact tI p b h1 h2 _ h3
   ·rcases se q b fe with ⟨h3, h4⟩ | ⟨o', j', rfl, Ep, h3⟩
    ·exact tI q b h3 h4 _ h1
    ·have Ow : j ≠ j' := fun e => by
      subst e
      have := (zW o j hp).2.symm.trans (zW o' j Ep).2
      exact kj (by rw [this])
     exact sd.apart (.obj j) (.obj j') (by simpa using Ow) b h1 h3
  ·intro p b hb
   rcases se p b hb with ⟨h1, h2⟩ | ⟨o, j, rfl, hp, h1⟩
   ·have h4 := hi.own p b h1
    exact ⟨Nat.lt_of_lt_of_le h4.1 et, h4.2⟩
   ·exact ⟨(qX _ b h1).1, BG _ b h1⟩
  ·intro b hK
   have h1 : b < E.w.heap.size := Nat.lt_of_lt_of_le (hi.small b hK) hi.size
   have h2 : ¬ PB b := fun ⟨j, hj, h⟩ => (hi.own _ _ h).2 hK
   have := BF b h1 h2
   exact this.trans (hi.ao b hK)
  ·exact Nat.le_trans hi.size et
  ·exact sd.os.trans hi.os
  ·exact sd.tape.trans hi.tape
  ·exact sd.output.trans hi.output
  ·exact fun b i v h => Fp b i v (hi.φ0 b i v h)
  ·intro b i v h
   by_cases hL : LB b
   ·rw [zU b i hL] at h; cases h
   ·rw [q5 b i hL] at h
    rcases sd.grow b i v h with h1 | h1
    ·have Fq : (E.eZ LB).φ b i = some v := h1
     rw [ea E hL] at Fq
     exact hi.grow b i v Fq
    ·right
     intro hK
     exact h1 ⟨Nat.lt_of_lt_of_le (hi.small b hK) hi.size, fun ⟨j, hj, h⟩ => (hi.own _ _ h).2 hK⟩
  ·intro o ho
   rw [hβ o (fun oB => by rw [zT o oB] at ho; cases ho)]
   exact hi.fixed o ho
 have hr : RX jt (r.eD (bz ν)) v (eC (.slot 0)) := by
  have h1 : RX E' r v (eC (.slot 0)) := sd.a7 0 r rfl
  have h3 : RX { E' with φ := jt.φ } r v (eC (.slot 0)) := by
   rcases xe with hL | tt
   ·exact RX.mono (E := E') r _ _ ⟨fun b i v h => by show jt.φ b i = _; rw [uP hL b i]; exact h, fun b _ => ⟨rfl, fun h i => by show jt.φ b i = _; rw [uP hL b i]; exact h i⟩⟩ (fun _ _ => rfl) h1
   ·exact RX.off (E := E') r _ _ tt.1 (fun b _ => ⟨rfl, xf b⟩) (fun _ => rfl) h1
  refine (RX.eD r v _).1 (?_ : RX (jt.names (bz ν)) r v (eC (.slot 0)))
  exact RX.mono (E := { E' with φ := jt.φ }) r _ _ ⟨fun _ _ _ h => h, fun b _ => ⟨rfl, fun h => h⟩⟩ (fun q hq => Jd q (X.uN Jb hq)) h3
 refine ⟨jt, _, rfl, vD.put hd hr (sd.nodup _) (fun b hb => ⟨(qX _ b hb).1, BG _ b hb, fun p _ v9 => ?_⟩)⟩
 rcases se p b v9 with ⟨h1, h2⟩ | ⟨o, j, rfl, hp, h1⟩
 ·exact tI p b h1 h2 _ hb
 ·exact sd.apart (.slot 0) (.obj j) (by simp) b hb h1
theorem Inv.call {G : Ctx} {E : Env} {RR : Own → List Nat} {a : Act} {f : FuncId} {bL : List Operand} {xs args : List X} {aA : List Obj} {F ν L : List Nat} {Q' : X → List Obj → Prop} (hi : Inv G E RR st a) (fj : al P f args aA F Q')
  (eU : iL st bL = some xs) (dW : cV st L (bz ν) xs args) (my : ∀ j ob, aA[j]? = some ob → look st.aA (bz ν j) = some (ob.eD (bz ν))) (hlen : ν.length = aA.length) (xc : ν.Nodup) (zS : ∀ o ∈ L, o ∉ ν)
  (h0 : ∀ o ∈ L, ∃ ob, look st.aA o = some ob ∧ iQ ob) (zT : ∀ o ∈ loose ν F, G.fn.F.elem o = false) (hd : d < G.fn.n) :
  Calls P f (bL.map a.eval).toArray E.w fun e w' => ∃ v r aD, e = .returned v ∧ Q' r aD ∧ aD.length = aA.length ∧
   (r.lt aA.length = true → (∀ ob ∈ aD, ob.lt aA.length = true) → (L = [] ∨ (r.plain ∧ ∀ ob ∈ aD, ob.plain)) → ∃ jt qW, jt.w = w' ∧ Inv G jt qW ((ku st ν F aD).put d (r.eD (bz ν))) (a.put (some d) v)) := by
 obtain ⟨uO, BE⟩ := mx hi eU
 exact hi.BD fj (by simpa using uO) (fun j x hx => by
  obtain ⟨o, ho, R, hR⟩ := BE j x hx
  exact ⟨a.eval o, by simp [ho], R, hR⟩) dW my hlen xc zS h0 zT hd
theorem aa.call {f : FuncId} {bL : Array Operand} {mh : Array TypeId} {xs args : List X} {aA : List Obj} {F : List Nat} {Q' : X → List Obj → Prop} (ν L : List Nat) (mi : aM P f = true) (fj : al P f args aA F Q')
  (eU : iL st bL.toList = some xs) (dW : cV st L (bz ν) xs args) (my : ∀ j ob, aA[j]? = some ob → look st.aA (bz ν j) = some (ob.eD (bz ν))) (hlen : ν.length = aA.length) (xc : ν.Nodup) (zS : ∀ o ∈ L, o ∉ ν)
  (h0 : ∀ o ∈ L, ∃ ob, look st.aA o = some ob ∧ iQ ob) (zT : ∀ o ∈ loose ν F, N.F.elem o = false) (hd : d < N.n)
  (k : ∀ r aD, Q' r aD → aD.length = aA.length → (r.lt aA.length = true ∧ (∀ ob ∈ aD, ob.lt aA.length = true) ∧ (L = [] ∨ (r.plain ∧ ∀ ob ∈ aD, ob.plain))) ∧ aa P N all rest ((ku st ν F aD).put d (r.eD (bz ν))) Q) :
  aa P N all (⟨some d, .call ⟨.value (.func f), bL, mh⟩, ty, pos, af, none⟩ :: rest) st Q := by
 intro G hn a w hh
 obtain ⟨E, RR, rfl, hi⟩ := hh
 have hc := hi.call fj eU dW my hlen xc zS h0 (fun o ho => by rw [hn]; exact zT o ho) (d := d) (by rw [hn]; exact hd)
 have gh : (execOp a.eval ⟨some d, .call ⟨.value (.func f), bL, mh⟩, ty, pos, af, none⟩).run P E.w = .ok (.enter f (bL.toList.map a.eval).toArray) E.w := by
  have e : (execOp a.eval ⟨some d, .call ⟨.value (.func f), bL, mh⟩, ty, pos, af, none⟩).run P E.w = (callFunc f ((#[] ++ bL.map a.eval) ++ #[])).run P E.w := rfl
  rw [e, oE mi]
  congr 2
  apply Array.ext'
  simp
 refine wpList_plain rfl fun K hK => ?_
 simp only [Oper.wp, gh, Oper.upon_enter]
 refine hc.mono ?_
 rintro e w' ⟨v, r, aD, rfl, Fo, uF, xg⟩
 obtain ⟨⟨h1, h2, h3⟩, hk⟩ := k r aD Fo uF
 obtain ⟨jt, qW, hw, hI⟩ := xg h1 h2 h3
 exact hK _ _ (hk G hn _ _ ⟨jt, qW, hw, hI⟩)
end
end Go.AW
namespace Go.AW
open Go
section
variable {P : Program} {N : dV} {st : St} {Q : Exit → St → Prop} {all : Array Oper} {rest : List Oper} {d : Nat} {ty : TypeId} {pos : String} {af : Array Edge}
theorem ae.aE {c : Operand} {x y : Code} (hc : bx st c = some (.v (.bool true))) (h : ae P N x st Q) : ae P N (.cond c x y) st Q := ae.cond hc (fun _ => h) (fun h => by cases h)
theorem ae.bY {c : Operand} {x y : Code} (hc : bx st c = some (.v (.bool false))) (h : ae P N y st Q) : ae P N (.cond c x y) st Q := ae.cond hc (fun h => by cases h) (fun _ => h)
section ints
variable {dst : Option Nat} {g : Option (Nat × Bool)} {t t' : TypeId} {x y : Operand} {a b : Int}
theorem Y.qb (hx : bx st x = some (.v (.int .i64 a))) (hy : bx st y = some (.v (.int .i64 b))) (hr : -9223372036854775808 ≤ a + b ∧ a + b ≤ 9223372036854775807) : Yields P N st ⟨dst, .binOp .add t x y t', ty, pos, af, g⟩ (.v (.int .i64 (a + b))) :=
 Y.qa hx hy (IntWalk.i64_in _ hr)
theorem Y.zx (hx : bx st x = some (.v (.int .i64 a))) (hy : bx st y = some (.v (.int .i64 b))) (hr : -9223372036854775808 ≤ a - b ∧ a - b ≤ 9223372036854775807) : Yields P N st ⟨dst, .binOp .sub t x y t', ty, pos, af, g⟩ (.v (.int .i64 (a - b))) :=
 Y.zw hx hy (IntWalk.i64_in _ hr)
theorem Y.zh (hx : bx st x = some (.v (.int .i64 a))) (hy : bx st y = some (.v (.int .i64 b))) (hr : -9223372036854775808 ≤ a * b ∧ a * b ≤ 9223372036854775807) : Yields P N st ⟨dst, .binOp .mul t x y t', ty, pos, af, g⟩ (.v (.int .i64 (a * b))) :=
 Y.zg hx hy (IntWalk.i64_in _ hr)
theorem Y.zn (hx : bx st x = some (.v (.int .i64 a))) (hy : bx st y = some (.v (.int .i64 b))) (hr : 0 ≤ a ∧ a ≤ 9223372036854775807 ∧ 1 ≤ b) : Yields P N st ⟨dst, .binOp .quo t x y t', ty, pos, af, g⟩ (.v (.int .i64 (a / b))) :=
 Y.zm hx hy om (IntWalk.i64_quo a b hr)
theorem Y.zp {k : IntKind} (hx : bx st x = some (.v (.int k a))) (hy : bx st y = some (.v (.int k b))) (hr : 0 ≤ a ∧ 1 ≤ b) : Yields P N st ⟨dst, .binOp .rem t x y t', ty, pos, af, g⟩ (.v (.int k (a % b))) :=
 Y.zo hx hy om (IntWalk.rem_in a b hr.1)
end ints
theorem q6 (x : X) : dc [] x = x := rfl
theorem lK (st : St) : ku st [] [] [] = st := by
 have h1 : ∀ (l : List (Nat × X)), l.map (fun p => (p.1, AW.dc [] p.2)) = l := by
  intro l
  induction l with
  | nil => rfl
  | cons p r ih => simp [q6]
 have h2 : ∀ ob : Obj, ob.dc [] = ob := by
  intro ob
  cases ob with
  | cells xs =>
   have : xs.map (AW.dc []) = xs := by
    induction xs with
    | nil => rfl
    | cons x r ih => simp [ih, q6]
   simp [Obj.dc, this]
  | rows => rfl
  | tk => rfl
  | gone => rfl
 have h3 : ∀ (l : List (Nat × Obj)), l.map (fun p => (p.1, p.2.dc [])) = l := by
  intro l
  induction l with
  | nil => rfl
  | cons p r ih => simp [h2]
 cases st
 simp [ku, St.dc, loose, dy, h1, h3]
def lL (st : St) (ν : Nat → Nat) : Nat → List Obj → Prop
 | _, [] => True
 | j, ob :: r => look st.aA (ν j) = some (ob.eD ν) ∧ lL st ν (j + 1) r
theorem lL.get {ν : Nat → Nat} : ∀ {aA : List Obj} {i : Nat}, lL st ν i aA → ∀ j ob, aA[j]? = some ob → look st.aA (ν (i + j)) = some (ob.eD ν)
 | [], _, _, _, _, h => by simp at h
 | o :: r, i, h, j, ob, hj => by
  simp only [lL] at h
  cases j with
  | zero => simp at hj; subst hj; simpa using h.1
  | succ j =>
   have := lL.get h.2 j ob (by simpa using hj)
   rw [show i + (j + 1) = i + 1 + j by omega]; exact this
theorem aa.jV {f : FuncId} {bL : Array Operand} {mh : Array TypeId} {xs args : List X} {Q' : X → List Obj → Prop} (mi : aM P f = true) (fj : al P f args [] [] Q')
  (eU : iL st bL.toList = some xs) (dW : cV st [] (bz []) xs args) (hd : d < N.n)
  (k : ∀ r, Q' r [] → r.lt 0 = true ∧ aa P N all rest (st.put d (r.eD (bz []))) Q) :
  aa P N all (⟨some d, .call ⟨.value (.func f), bL, mh⟩, ty, pos, af, none⟩ :: rest) st Q := by
 refine aa.call [] [] mi fj eU dW (fun j ob h => by simp at h) rfl List.nodup_nil (fun _ h => by cases h) (fun _ h => by cases h) (fun _ h => by cases h) hd ?_
 intro r aD hq hl
 have : aD = [] := List.eq_nil_of_length_eq_zero hl
 subst this
 obtain ⟨h1, h2⟩ := k r hq
 refine ⟨⟨h1, fun _ h => (by cases h), .inl rfl⟩, ?_⟩
 rw [lK]; exact h2
theorem aa.Fu {f : FuncId} {bL : Array Operand} {mh : Array TypeId} {xs args : List X} {R R' : X} (mi : aM P f = true) (fj : al P f args [] [] (fun r o => r = R ∧ o = []))
  (eU : iL st bL.toList = some xs) (dW : cV st [] (bz []) xs args) (hd : d < N.n) (gK : R.lt 0 = true) (hR : R.eD (bz []) = R')
  (k : aa P N all rest (st.put d R') Q) : aa P N all (⟨some d, .call ⟨.value (.func f), bL, mh⟩, ty, pos, af, none⟩ :: rest) st Q := by
 refine aa.jV mi fj eU dW hd ?_
 rintro r ⟨rfl, _⟩
 rw [hR]; exact ⟨gK, k⟩
theorem aa.Fv {f : FuncId} {bL : Array Operand} {mh : Array TypeId} {xs args : List X} {R R' : X} (L : List Nat) (mi : aM P f = true) (fj : al P f args [] [] (fun r o => r = R ∧ o = []))
  (eU : iL st bL.toList = some xs) (dW : cV st L (bz []) xs args) (h0 : ∀ o ∈ L, ∃ ob, look st.aA o = some ob ∧ iQ ob) (hd : d < N.n) (gK : R.lt 0 = true) (hR : R.eD (bz []) = R') (hp : R.plain)
  (k : aa P N all rest (st.put d R') Q) : aa P N all (⟨some d, .call ⟨.value (.func f), bL, mh⟩, ty, pos, af, none⟩ :: rest) st Q := by
 refine aa.call [] L mi fj eU dW (fun j ob h => by simp at h) rfl List.nodup_nil (fun _ _ h => by cases h) h0 (fun _ h => by cases h) hd ?_
 rintro r aD ⟨rfl, rfl⟩ hl
 refine ⟨⟨gK, fun _ h => (by cases h), .inr ⟨hp, fun _ h => (by cases h)⟩⟩, ?_⟩
 rw [lK, hR]; exact k
theorem aa.bm {f : FuncId} {bL : Array Operand} {mh : Array TypeId} {xs args : List X} {aA : List Obj} {F : List Nat} {Q' : X → List Obj → Prop} (ν L : List Nat) (mi : aM P f = true) (fj : al P f args aA F Q')
  (eU : iL st bL.toList = some xs) (dW : cV st L (bz ν) xs args) (my : lL st (bz ν) 0 aA) (hlen : ν.length = aA.length) (xc : ν.Nodup) (zS : ∀ o ∈ L, o ∉ ν)
  (h0 : ∀ o ∈ L, ∃ ob, look st.aA o = some ob ∧ iQ ob) (zT : ∀ o ∈ loose ν F, N.F.elem o = false) (hd : d < N.n)
  (k : ∀ r aD, Q' r aD → aD.length = aA.length → (r.lt aA.length = true ∧ (∀ ob ∈ aD, ob.lt aA.length = true) ∧ (L = [] ∨ (r.plain ∧ ∀ ob ∈ aD, ob.plain))) ∧ aa P N all rest ((ku st ν F aD).put d (r.eD (bz ν))) Q) :
  aa P N all (⟨some d, .call ⟨.value (.func f), bL, mh⟩, ty, pos, af, none⟩ :: rest) st Q :=
 aa.call ν L mi fj eU dW (fun j ob h => by have := my.get j ob h; rwa [Nat.zero_add] at this) hlen xc zS h0 zT hd k
theorem xh {α : Type} {s : Nat} {f : α → List X} {l : List α} (h : ∀ a, X.bc (f a) = true) : iQ (.rows s (l.map f)) := by
 intro r hr
 obtain ⟨a, _, rfl⟩ := List.mem_map.1 hr
 exact h a
end
end Go.AW
namespace Go.AW
open Go
section
variable {P : Program} {N : dV} {st : St} {Q : Exit → St → Prop} {K : St → Prop} {all : Array Oper} {rest : List Oper} {d : Nat} {ty : TypeId} {pos : String} {af : Array Edge}
def aG (P : Program) (N : dV) (all : Array Oper) (l : List Oper) (st : St) (K : St → Prop) : Prop :=
 ∀ G : Ctx, G.fn = N → ∀ a w, bT G st a w → wpStill P all w (fun a' => ∃ aW, K aW ∧ bT G aW a' w) l a
theorem bT.drew {G : Ctx} {a : Act} {w : World} (h : bT G st a w) : bT G st a { w with drawn := w.drawn + 1 } := by
 obtain ⟨E, RR, rfl, hi⟩ := h
 exact ⟨{ E with w := E.w.drew }, RR, rfl, hi.uG (ct.drew G E) rfl⟩
theorem aG.nil (h : K st) : aG P N all [] st K := fun _ _ _ _ hh => ⟨st, h, hh⟩
theorem aG.val {op : Op} {x : X} (hy : Yields P N st ⟨some d, op, ty, pos, af, none⟩ x) (hd : d < N.n) (k : aG P N all rest (st.put d x) K) : aG P N all (⟨some d, op, ty, pos, af, none⟩ :: rest) st K := by
 intro G hn a w hh
 obtain ⟨E, RR, rfl, hi⟩ := hh
 obtain ⟨u, hr, hx⟩ := hy G E RR a hn hi
 unfold wpStill
 rw [if_pos (by simp [Region.wanted])]
 simp only [Oper.still, hr, Oper.stillUpon_value]
 exact k G hn _ _ ⟨E, _, rfl, hi.fg (hn ▸ hd) hx⟩
theorem aG.split {b : Bool} (hx : look st.a7 d = some (.v (.bool b))) (ht : b = true → aG P N all rest (st.put d (.v (.bool true))) K) (hf : b = false → aG P N all rest (st.put d (.v (.bool false))) K) : aG P N all rest st K := by
 have : Le st (st.put d (.v (.bool b))) := ⟨eO.cons hx (fun _ _ h => h), fun _ _ h => h⟩
 intro G hn a w hh
 cases b
 ·exact hf rfl G hn a w (this.holds hh)
 ·exact ht rfl G hn a w (this.holds hh)
theorem vF {G : Ctx} {E : Env} {RR : Own → List Nat} {a : Act} (hi : Inv G E RR st a) {b : Bool} (hd : d < G.fn.n) (hx : look st.a7 d = some (.v (.bool b))) : a.tmps[d]? = some (.bool b) := by
 have hs := hi.a7 d _ hx
 simp only [RX] at hs
 have et : d < a.tmps.size := by rw [hi.tmps]; exact hd
 have := hs.1
 simp only [Array.getD, et, dif_pos] at this
 rw [Array.getElem?_eq_getElem et]
 exact congrArg some this
theorem aG.aO {dst : Option Nat} {op : Op} {j : Nat} {want : Bool} (hj : (all[j]?).bind (·.dst) = some d) (hd : d < N.n) (hx : look st.a7 d = some (.v (.bool want)))
  (k : aG P N all (⟨dst, op, ty, pos, af, none⟩ :: rest) st K) : aG P N all (⟨dst, op, ty, pos, af, some (j, want)⟩ :: rest) st K := by
 intro G hn a w hh
 have hk := k G hn a w hh
 obtain ⟨E, RR, rfl, hi⟩ := hh
 have hv := vF hi (by rw [hn]; exact hd) hx
 have hw : Region.wanted ⟨dst, op, ty, pos, af, some (j, want)⟩ (yielded all a.tmps) = true := by
  simp [Region.wanted, yielded, hj, hv]
 unfold wpStill at hk ⊢
 rw [if_pos hw]
 rw [if_pos (by simp [Region.wanted])] at hk
 exact hk
theorem ae.oe {id : Nat} {l : List Oper} (n : Nat) (hm : P.follows .mixedOrders = true) (hB : Region.lexTailB .any l.toArray n = true)
  (h : aG P N l.toArray (l.take n) st (fun aW => aa P N l.toArray (l.drop n) aW Q)) : ae P N (.region id l.toArray true) st Q := by
 intro G hn a w hh
 refine wp_region_still_tail n hm hB ?_
 have h1 := h G hn a _ hh.drew
 have mono : ∀ (l' : List Oper) (a : Act) {w : World} {K1 K2 : Act → Prop}, (∀ a, K1 a → K2 a) → wpStill P l.toArray w K1 l' a → wpStill P l.toArray w K2 l' a := by
  intro l'
  induction l' with
  | nil => intro a w K1 K2 hk h; exact hk _ h
  | cons o r ih =>
   intro a w K1 K2 hk h
   unfold wpStill at h ⊢
   split
   ·rename_i hw; rw [if_pos hw] at h; exact Oper.still_mono (fun a' h' => ih a' hk h') h
   ·rename_i hw; rw [if_neg hw] at h; exact ih _ hk h
 exact mono _ _ (fun a' ⟨aW, hk, gf⟩ => hk G hn a' _ gf) h1
theorem ae.fR {id : Nat} {l : List Oper} (hm : P.follows .mixedOrders = true) (hB : Region.lexB .any l.toArray = true)
  (h : aG P N l.toArray l st (fun aW => Q .normal aW)) : ae P N (.region id l.toArray true) st Q := by
 intro G hn a w hh
 refine wp_region_still_lit hm hB ?_
 have h1 := h G hn a _ hh.drew
 have mono : ∀ (l' : List Oper) (a : Act) {w : World} {K1 K2 : Act → Prop}, (∀ a, K1 a → K2 a) → wpStill P l.toArray w K1 l' a → wpStill P l.toArray w K2 l' a := by
  intro l'
  induction l' with
  | nil => intro a w K1 K2 hk h; exact hk _ h
  | cons o r ih =>
   intro a w K1 K2 hk h
   unfold wpStill at h ⊢
   split
   ·rename_i hw; rw [if_pos hw] at h; exact Oper.still_mono (fun a' h' => ih a' hk h') h
   ·rename_i hw; rw [if_neg hw] at h; exact ih _ hk h
 exact mono _ _ (fun a' ⟨aW, hk, gf⟩ => ⟨aW, gf, hk⟩) h1
end
end Go.AW
namespace Go.AW
open Go
section
variable {P : Program} {N : dV} {st aW : St} {Q : Exit → St → Prop} {K : St → Prop} {all : Array Oper} {rest : List Oper} {d : Nat} {ty : TypeId} {pos : String} {af : Array Edge}
theorem ae.ay {c : Operand} {x y : Code} {p : Prop} {inst : Decidable p} (hc : bx st c = some (.v (.bool (decide p)))) (ht : p → ae P N x st Q) (hf : ¬ p → ae P N y st Q) :
  ae P N (.cond c x y) st Q := ae.cond hc (fun h => ht (of_decide_eq_true h)) (fun h => hf (of_decide_eq_false h))
theorem ae.iR {c : Operand} {x y : Code} {p : Prop} {inst : Decidable p} (hc : bx st c = some (.v (.bool (!decide p)))) (ht : ¬ p → ae P N x st Q) (hf : p → ae P N y st Q) :
 ae P N (.cond c x y) st Q := ae.cond hc (fun h => ht (by simpa using h)) (fun h => hf (by simpa using h))
theorem Le.test {b : Bool} (hx : look st.a7 d = some (.v (.bool b))) : Le st (st.put d (.v (.bool b))) := ⟨eO.cons hx (fun _ _ h => h), fun _ _ h => h⟩
theorem ae.xi {x y : Code} {b : Bool} (hc : look st.a7 d = some (.v (.bool b))) (ht : b = true → ae P N x (st.put d (.v (.bool true))) Q) (hf : b = false → ae P N y (st.put d (.v (.bool false))) Q) :
  ae P N (.cond (.tmp d) x y) st Q := by
 refine ae.cond (b := b) hc (fun h => ?_) (fun h => ?_)
 ·subst h; exact (ht rfl).le (Le.test hc)
 ·subst h; exact (hf rfl).le (Le.test hc)
theorem ae.aU {x y : Code} {p : Prop} {inst : Decidable p} (hc : look st.a7 d = some (.v (.bool (decide p)))) (ht : p → ae P N x (st.put d (.v (.bool true))) Q) (hf : ¬ p → ae P N y (st.put d (.v (.bool false))) Q) :
  ae P N (.cond (.tmp d) x y) st Q := ae.xi hc (fun h => ht (of_decide_eq_true h)) (fun h => hf (of_decide_eq_false h))
theorem aa.ax {p : Prop} {inst : Decidable p} (hx : look st.a7 d = some (.v (.bool (decide p))))
  (ht : p → aa P N all rest (st.put d (.v (.bool true))) Q) (hf : ¬ p → aa P N all rest (st.put d (.v (.bool false))) Q) : aa P N all rest st Q :=
 aa.split hx (fun h => ht (of_decide_eq_true h)) (fun h => hf (of_decide_eq_false h))
theorem aa.lM {p : Prop} {inst : Decidable p} (hx : look st.a7 d = some (.v (.bool (!decide p))))
 (ht : ¬ p → aa P N all rest (st.put d (.v (.bool true))) Q) (hf : p → aa P N all rest (st.put d (.v (.bool false))) Q) : aa P N all rest st Q :=
 aa.split hx (fun h => ht (by simpa using h)) (fun h => hf (by simpa using h))
theorem aG.ax {p : Prop} {inst : Decidable p} (hx : look st.a7 d = some (.v (.bool (decide p))))
  (ht : p → aG P N all rest (st.put d (.v (.bool true))) K) (hf : ¬ p → aG P N all rest (st.put d (.v (.bool false))) K) : aG P N all rest st K :=
 aG.split hx (fun h => ht (of_decide_eq_true h)) (fun h => hf (of_decide_eq_false h))
theorem ae.join {x y : Code} {ι : Type} (J : ι → St) (I : ι → Prop) (hx : ae P N x st (jr (fun aW => ∃ i, I i ∧ Le aW (J i)) Q)) (hy : ∀ i, I i → ae P N y (J i) Q) : ae P N (.seq x y) st Q := by
 refine ae.seq (hx.mono ?_)
 intro e z7 h
 cases e with
 | normal => obtain ⟨i, hI, hle⟩ := h; exact (hy i hI).le hle
 | _ => exact h
theorem cV.ao {L : List Nat} {ν : Nat → Nat} {x : X} {xs ys : List X} (h : x.free = true) (he : x.eD ν = x) (hs : cV st L ν xs ys) : cV st L ν (x :: xs) (x :: ys) := by
 have := sa.same (st := st) (L := L) (ν := ν) h
 rw [he] at this
 exact .cons this hs
def de (rs : List (List X)) : Prop := ∀ r ∈ rs, X.bc r = true
theorem de.map {α : Type} {f : α → List X} {l : List α} (h : ∀ a, X.bc (f a) = true) : de (l.map f) := by
 intro r hr
 obtain ⟨a, _, rfl⟩ := List.mem_map.1 hr
 exact h a
theorem Sh.freeze {s : Nat} {rows : List (List X)} (hx : look st.a7 d = some (.di s rows)) (hf : de rows) : Sh N st (st.put d (.fz s rows)) := by
 intro G hn a w hh
 obtain ⟨E, RR, rfl, hi⟩ := hh
 have hv := hi.a7 d _ hx
 have iP := hi.nodup (.slot d)
 simp only [RX] at hv
 obtain ⟨hu, base, cap, hc, cA⟩ := hv
 rcases cA with ⟨h1, h2, h3⟩ | ⟨b, off, cs, ty, R', hb, hw, hl, ho, hφ, iJ, gM⟩
 ·refine ⟨E, _, rfl, hi.relabel (d := d) (R := []) ?_ List.nodup_nil (fun _ h => by cases h)⟩
  simp only [RX]
  exact ⟨trivial, hu, base, cap, hc, .inl ⟨h1, h2⟩⟩
 ·have zR := bR.free hf iJ
  subst zR
  have ks : b ∈ RR (.slot d) := by rw [gM]; simp
  have jT := hi.no d
  have hle : ∀ c i v, E.φ c i = some v → (if c = b then cs[i]? else E.φ c i) = some v := by
   intro c i v h
   by_cases og : c = b
   ·subst og; rw [hφ i] at h; cases h
   ·rw [if_neg og]; exact h
  have gL : ∀ R : List Nat, b ∉ R → E.On { E with φ := fun c i => if c = b then cs[i]? else E.φ c i } R := by
   intro R Cx
   refine ⟨hle, fun c mo => ⟨rfl, fun h i => ?_⟩⟩
   have : c ≠ b := fun e => Cx (e ▸ mo)
   show (if c = b then cs[i]? else E.φ c i) = none
   rw [if_neg this]; exact h i
  have CG : ∀ p, b ∉ e9 RR (.slot d) [] p := by
   intro p hp
   unfold e9 at hp
   split at hp
   ·cases hp
   ·rename_i h; exact hi.apart _ _ h b hp ks
  have Jf : Inv G { E with φ := fun c i => if c = b then cs[i]? else E.φ c i } (e9 RR (.slot d) []) (st.put d .no) a :=
   {jT with
    kh := by
     intro c i v h
     change (if c = b then cs[i]? else E.φ c i) = some v at h
     by_cases og : c = b
     ·subst og; rw [if_pos rfl] at h
      show E.w.cell? _ = _
      rw [cp hw]; exact h
     ·rw [if_neg og] at h; exact hi.kh c i v h
    a7 := fun q x hx => RX.mono x _ _ (gL _ (CG _)) (fun _ _ => rfl) (jT.a7 q x hx)
    aA := fun o ob aP => dD.mono (gL _ (CG _)) rfl (fun _ _ _ _ => rfl) (jT.aA o ob aP)
    φ0 := fun c i v h => hle c i v (hi.φ0 c i v h)
    grow := by
     intro c i v h
     change (if c = b then cs[i]? else E.φ c i) = some v at h
     by_cases og : c = b
     ·subst og; exact .inr (hi.own _ _ ks).2
     ·rw [if_neg og] at h; exact hi.grow c i v h }
  have h4 := Jf.relabel (d := d) (x := .fz s rows) (R := []) (by
   simp only [RX]
   refine ⟨trivial, hu, base, cap, hc, .inr ⟨b, off, hb, hl, ?_⟩⟩
   refine bR.freeze (E := E) (fun i v h => ?_) hle iJ
   show (if b = b then cs[i]? else E.φ b i) = some v
   rw [if_pos rfl]; exact h) List.nodup_nil (fun _ h => by cases h)
  refine ⟨{ E with φ := fun c i => if c = b then cs[i]? else E.φ c i }, e9 (e9 RR (.slot d) []) (.slot d) [], rfl, { h4 with a7 := fun q x hx => ?_, aA := h4.aA }⟩
  refine h4.a7 q x ?_
  simp only [St.put, look] at hx ⊢
  cases hq : Nat.beq d q with
  | true => rw [hq] at hx; simpa using hx
  | false => rw [hq] at hx; simpa using hx
end
end Go.AW
namespace Go.AW
open Go
mutual
def X.lN : X → X
 | .di s rows => .fz s (X.lO rows)
 | .agg xs => .agg (X.iM xs)
 | .tup xs => .tup (X.iM xs)
 | .v u => .v u
 | .no => .no
 | .fz s rows => .fz s rows
 | .ptr o s i k => .ptr o s i k
 | .aY o s lo n => .aY o s lo n
 | .mref o => .mref o
 | .fp row k => .fp row k
 | .gd f a b => .gd f a b
def X.iM : List X → List X
 | [] => []
 | x :: r => x.lN :: X.iM r
def X.lO : List (List X) → List (List X)
 | [] => []
 | r :: rs => X.iM r :: X.lO rs
end
theorem X.kv : ∀ xs : List X, (X.iM xs).length = xs.length
 | [] => rfl
 | _ :: r => by simp [X.iM, X.kv r]
theorem X.kx : ∀ rs : List (List X), (X.lO rs).length = rs.length
 | [] => rfl
 | _ :: r => by simp [X.lO, X.kx r]
theorem bG.lO {s : Nat} : ∀ {rs : List (List X)}, bG s rs → bG s (X.lO rs)
 | [], _ => fun _ h => by cases h
 | r :: rs, h => by
  intro q hq
  simp only [X.lO, List.mem_cons] at hq
  rcases hq with rfl | hq
  ·rw [X.kv]; exact h r (by simp)
  ·exact bG.lO (fun q hq => h q (by simp [hq])) q hq
mutual
theorem X.xj : ∀ {x : X}, x.free = true → x.lN = x
 | .v _, _ | .no, _ | .fz .., _ | .ptr .., _ | .aY .., _ | .mref _, _ | .fp .., _ | .gd .., _ => rfl
 | .di .., h => by cases h
 | .agg xs, h => by simp only [X.lN]; rw [X.jC (xs := xs) h]
 | .tup xs, h => by simp only [X.lN]; rw [X.jC (xs := xs) h]
theorem X.jC : ∀ {xs : List X}, X.bc xs = true → X.iM xs = xs
 | [], _ => rfl
 | x :: r, h => by
  simp only [X.bc, Bool.and_eq_true] at h
  simp only [X.iM]
  rw [X.xj h.1, X.jC h.2]
end
mutual
theorem X.xk : ∀ {x : X}, x.nr = true → x.lN.nr = true
 | .v _, _ | .no, _ | .fz .., _ | .fp .., _ => rfl
 | .di .., _ => rfl
 | .agg xs, h => X.qY (xs := xs) h
 | .tup xs, h => X.qY (xs := xs) h
 | .gd .., h => h
 | .ptr .., h => h
 | .aY .., h => h
 | .mref _, h => h
theorem X.qY : ∀ {xs : List X}, X.fm xs = true → X.fm (X.iM xs) = true
 | [], _ => rfl
 | x :: r, h => by
  simp only [X.fm, Bool.and_eq_true] at h
  simp only [X.iM, X.fm, Bool.and_eq_true]
  exact ⟨X.xk h.1, X.qY h.2⟩
end
def Env.xm (E E' : Env) (R : List Nat) : Prop :=
 E'.w = E.w ∧ E'.β = E.β ∧ (∀ c i v, E.φ c i = some v → E'.φ c i = some v) ∧ ∀ b ∈ R, ∀ i v, E.w.cell? ⟨b, i, none⟩ = some v → E'.φ b i = some v
theorem Env.xm.sub {E E' : Env} {R R' : List Nat} (h : E.xm E' R) (hs : ∀ b ∈ R', b ∈ R) : E.xm E' R' := ⟨h.1, h.2.1, h.2.2.1, fun b hb => h.2.2.2 b (hs b hb)⟩
theorem Env.xm.on {E E' : Env} {R : List Nat} (h : E.xm E' R) : E.On E' [] := ⟨h.2.2.1, fun _ h => by cases h⟩
mutual
theorem RX.lN {E E' : Env} : ∀ (x : X) (c : Value) (R : List Nat), E.xm E' R → RX E x c R → RX E' x.lN c []
 | .v u, c, R, hE, h => by simp only [RX, X.lN] at h ⊢; exact ⟨h.1, trivial⟩
 | .no, c, R, hE, h => by simp only [RX, X.lN]
 | .fz s rows, c, R, hE, h => by
  have h0 : R = [] := by simp only [RX] at h; exact h.1
  subst h0; exact RX.mono _ _ _ hE.on (fun _ _ => by rw [hE.2.1]) h
 | .ptr o s i k, c, R, hE, h => by
  have h0 : R = [] := by simp only [RX] at h; exact h.1
  subst h0; exact RX.mono _ _ _ hE.on (fun _ _ => by rw [hE.2.1]) h
 | .aY o s lo n, c, R, hE, h => by
  have h0 : R = [] := by simp only [RX] at h; exact h.1
  subst h0; exact RX.mono _ _ _ hE.on (fun _ _ => by rw [hE.2.1]) h
 | .mref o, c, R, hE, h => by
  have h0 : R = [] := by simp only [RX] at h; exact h.1
  subst h0; exact RX.mono _ _ _ hE.on (fun _ _ => by rw [hE.2.1]) h
 | .fp row k, c, R, hE, h => by
  have h0 : R = [] := by simp only [RX] at h; exact h.1
  subst h0; exact RX.mono _ _ _ hE.on (fun _ _ => by rw [hE.2.1]) h
 | .gd fn a b, c, R, hE, h => by
  have h0 : R = [] := by simp only [RX] at h; exact h.1
  subst h0; exact RX.mono _ _ _ hE.on (fun _ _ => by rw [hE.2.1]) h
 | .di s rows, c, R, hE, h => by
  simp only [RX, X.lN] at h ⊢
  obtain ⟨hu, base, cap, hc, hh⟩ := h
  refine ⟨trivial, hu.lO, base, cap, by rw [X.kx]; exact hc, ?_⟩
  rcases hh with ⟨h1, h2, h3⟩ | ⟨b, off, cs, ty, R', hb, hw, hl, ho, hφ, hr, hR⟩
  ·subst h1; exact .inl ⟨rfl, h2⟩
  ·subst hR
   refine .inr ⟨b, off, hb, by rw [X.kx]; exact hl, ?_⟩
   exact bR.lN rows cs b off R' (fun i v hi => hE.2.2.2 b (by simp) i v (by rw [cp hw]; exact hi)) (hE.sub (fun _ h => by simp [h])) hr
 | .agg xs, c, R, hE, h => by
  simp only [RX, X.lN] at h ⊢
  obtain ⟨cs, hc, hs⟩ := h
  exact ⟨cs, hc, br.lN xs _ R hE hs⟩
 | .tup xs, c, R, hE, h => by
  simp only [RX, X.lN] at h ⊢
  obtain ⟨cs, hc, hs⟩ := h
  exact ⟨cs, hc, dL.lN xs _ R hE hs⟩
theorem br.lN {E E' : Env} : ∀ (xs : List X) (cs : List Value) (R : List Nat), E.xm E' R → br E xs cs R → br E' (X.iM xs) cs []
 | [], cs, R, _, h => by simp only [br, X.iM] at h ⊢; exact ⟨h.1, trivial⟩
 | x :: r, cs, R, hE, h => by
  simp only [br, X.iM] at h ⊢
  obtain ⟨c, c1, R₁, R₂, hc, hs, h1, h2, hR⟩ := h
  subst hR
  exact ⟨c, c1, [], [], hc, hs, RX.lN x c R₁ (hE.sub (fun _ h => bO h)) h1, br.lN r c1 R₂ (hE.sub (fun _ h => bI h)) h2, rfl⟩
theorem dL.lN {E E' : Env} : ∀ (xs : List X) (cs : List Value) (R : List Nat), E.xm E' R → dL E xs cs R → dL E' (X.iM xs) cs []
 | [], cs, R, _, h => by simp only [dL, X.iM] at h ⊢; exact ⟨h.1, trivial⟩
 | x :: r, cs, R, hE, h => by
  simp only [dL, X.iM] at h ⊢
  obtain ⟨c, c1, R₁, R₂, hc, h1, h2, hR⟩ := h
  subst hR
  exact ⟨c, c1, [], [], hc, RX.lN x c R₁ (hE.sub (fun _ h => bO h)) h1, dL.lN r c1 R₂ (hE.sub (fun _ h => bI h)) h2, rfl⟩
theorem RO.lN {E E' : Env} : ∀ (xs : List X) (cs : Array Value) (b off : Nat) (R : List Nat), (∀ i v, cs[i]? = some v → E'.φ b i = some v) → E.xm E' R → X.fm xs = true → RO E xs cs off R → RF E' (X.iM xs) b off
 | [], _, _, _, _, _, _, _, _ => by simp [RF, X.iM]
 | x :: r, cs, b, off, R, hb, hE, hn, h => by
  simp only [RO] at h
  obtain ⟨u, R₁, R₂, hu, hs, hx, hr, hR⟩ := h
  subst hR
  simp only [X.fm, Bool.and_eq_true] at hn
  simp only [X.iM, RF]
  exact ⟨⟨u, hb _ _ hu, hs, X.xk hn.1, RX.lN x u R₁ (hE.sub (fun _ h => bO h)) hx⟩, RO.lN r cs b (off + 1) R₂ hb (hE.sub (fun _ h => bI h)) hn.2 hr⟩
theorem bR.lN {E E' : Env} : ∀ (rs : List (List X)) (cs : Array Value) (b off : Nat) (R : List Nat), (∀ i v, cs[i]? = some v → E'.φ b i = some v) → E.xm E' R → bR E rs cs off R → gJ E' (X.lO rs) b off
 | [], _, _, _, _, _, _, _ => by simp [gJ, X.lO]
 | r :: rs, cs, b, off, R, hb, hE, h => by
  simp only [bR] at h
  obtain ⟨R₁, R₂, hn, hx, hr, hR⟩ := h
  subst hR
  simp only [X.lO, gJ]
  refine ⟨RO.lN r cs b off R₁ hb (hE.sub (fun _ h => bO h)) hn hx, ?_⟩
  rw [X.kv]
  exact bR.lN rs cs b _ R₂ hb (hE.sub (fun _ h => bI h)) hr
end
section
variable {N : dV} {st : St} {d : Nat}
theorem Sh.zY {x y : X} (hx : look st.a7 d = some x) (he : x.lN = y) : Sh N st (st.put d y) := by
 intro G hn a w hh
 obtain ⟨E, RR, rfl, hi⟩ := hh
 have hv := hi.a7 d _ hx
 have jT := hi.no d
 have IX : ∀ p, ∀ b ∈ e9 RR (.slot d) [] p, b ∉ RR (.slot d) := by
  intro p b hp hb
  unfold e9 at hp
  split at hp
  ·cases hp
  ·rename_i h; exact hi.apart _ _ h b hp hb
 -- what is frozen already is in no owned block
 have hle : ∀ c i v, E.φ c i = some v → (E.eZ (fun b => b ∈ RR (.slot d))).φ c i = some v := by
  intro c i v h
  by_cases hc : c ∈ RR (.slot d)
  ·rw [gX E (LB := fun b => b ∈ RR (.slot d)) hc]; exact hi.kh c i v h
  ·rw [ea E (LB := fun b => b ∈ RR (.slot d)) hc]; exact h
 have gL : ∀ p, E.On (E.eZ (fun b => b ∈ RR (.slot d))) (e9 RR (.slot d) [] p) := by
  intro p
  refine ⟨hle, fun c hc => ⟨rfl, fun h i => ?_⟩⟩
  rw [ea E (LB := fun b => b ∈ RR (.slot d)) (IX p c hc)]; exact h i
 have hf : E.xm (E.eZ (fun b => b ∈ RR (.slot d))) (RR (.slot d)) :=
  ⟨rfl, rfl, hle, fun b hb i v h => by rw [gX E (LB := fun b => b ∈ RR (.slot d)) hb]; exact h⟩
 have Jf : Inv G (E.eZ (fun b => b ∈ RR (.slot d))) (e9 RR (.slot d) []) (st.put d .no) a :=
  {jT with
   kh := by
    intro c i v h
    by_cases hc : c ∈ RR (.slot d)
    ·rw [gX E (LB := fun b => b ∈ RR (.slot d)) hc] at h; exact h
    ·rw [ea E (LB := fun b => b ∈ RR (.slot d)) hc] at h; exact hi.kh c i v h
   a7 := fun q x hx => RX.mono x _ _ (gL _) (fun _ _ => rfl) (jT.a7 q x hx)
   aA := fun o ob aP => dD.mono (gL _) rfl (fun _ _ _ _ => rfl) (jT.aA o ob aP)
   φ0 := fun c i v h => hle c i v (hi.φ0 c i v h)
   grow := by
    intro c i v h
    by_cases hc : c ∈ RR (.slot d)
    ·exact .inr (hi.own _ _ hc).2
    ·rw [ea E (LB := fun b => b ∈ RR (.slot d)) hc] at h; exact hi.grow c i v h }
 have h4 := Jf.relabel (d := d) (x := y) (R := []) (he ▸ RX.lN x _ _ hf hv) List.nodup_nil (fun _ h => by cases h)
 refine ⟨E.eZ (fun b => b ∈ RR (.slot d)), e9 (e9 RR (.slot d) []) (.slot d) [], rfl, { h4 with a7 := fun q x hx => ?_, aA := h4.aA }⟩
 refine h4.a7 q x ?_
 simp only [St.put, look] at hx ⊢
 cases hq : Nat.beq d q with
 | true => rw [hq] at hx; simpa using hx
 | false => rw [hq] at hx; simpa using hx
end
end Go.AW
namespace Go.AW
open Go
section
variable {P : Program} {N : dV} {st : St} {Q : Exit → St → Prop} {all : Array Oper} {rest : List Oper} {d : Nat} {ty : TypeId} {pos : String} {af : Array Edge}
theorem aa.ky {t : TypeId} {x y : Operand} {o s i k m : Nat} {v : X} {ys row : List X} {rs : List (List X)} (q7 : List (List X)) (ht : TY.size P t = some m) (hx : bx st x = some (.ptr o s i k)) (hy : bx st y = some v) (rS : v.flat = some ys) (hf : X.bc ys = true)
  (hn : X.fm ys = true) (hm : ys.length = m) (ho : look st.aA o = some (.rows s rs)) (hr : rs[i]? = some row) (hk : k + m ≤ row.length) (he : rs.set i (gW row k ys) = q7) (kk : aa P N all rest (st.dE o (.rows s q7)) Q) :
  aa P N all (⟨none, .store t x y, ty, pos, af, none⟩ :: rest) st Q := by
 subst he
 exact aa.C9 ht hx hy rS hf hn hm ho hr hk kk
theorem Sh.CH {s n : Nat} {rows : List (List X)} (o : Nat) (hx : look st.a7 d = some (.di s rows)) (hn : n = rows.length) (hF : N.F.elem o = false) : Sh N st (((st.kill o).dE o (.rows s rows)).put d (.aY o s 0 n)) := by
 subst hn; exact Sh.EW o hx hF
theorem aa.bZ {t e s cy tv : Nat} {z : List Value} {x : Operand} {o lo n : Nat} {rs new : List (List X)} (q7 : List (List X)) (n' : Nat) (ht : TY.slice P t = some (e, s, cy)) (hz : TY.zero P e = some z) (nE : Nat.beq z.length s = true)
  (hy : look st.a7 tv = some (.di s new)) (hx : bx (st.put tv .no) x = some (.aY o s lo n)) (ho : look st.aA o = some (.rows s rs)) (lH : lo + n ≤ rs.length)
  (he : ((rs.drop lo).take n) ++ new = q7) (o5 : n + new.length = n') (mS : n' * cy ≤ 140737488355328) (w7 : n' ≤ 4611686018427387904) (hF : N.F.elem o = false) (hd : d < N.n)
  (k : aa P N all rest (((((st.put tv .no).kill o).dE o (.rows s q7))).put d (.aY o s 0 n')) Q) :
  aa P N all (⟨some d, .call ⟨.builtin .append, #[x, .tmp tv], #[t, t]⟩, ty, pos, af, none⟩ :: rest) st Q := by
 subst he o5
 exact aa.append ht hz nE hy hx ho lH mS w7 hF hd k
theorem aa.xn {α : Type} {t e s cy tv : Nat} {z : List Value} {x : Operand} {o lo n : Nat} {rs new : List (List X)} (f : α → List X) (l : List α) (ht : TY.slice P t = some (e, s, cy)) (hz : TY.zero P e = some z) (nE : Nat.beq z.length s = true)
 (hy : look st.a7 tv = some (.di s new)) (hx : bx (st.put tv .no) x = some (.aY o s lo n)) (ho : look st.aA o = some (.rows s rs)) (lH : lo + n ≤ rs.length)
 (he : ((rs.drop lo).take n) ++ new = l.map f) (o5 : n + new.length = l.length) (mS : l.length * cy ≤ 140737488355328) (w7 : l.length ≤ 4611686018427387904) (hF : N.F.elem o = false) (hd : d < N.n)
 (k : aa P N all rest (((((st.put tv .no).kill o).dE o (.rows s (l.map f)))).put d (.aY o s 0 l.length)) Q) :
 aa P N all (⟨some d, .call ⟨.builtin .append, #[x, .tmp tv], #[t, t]⟩, ty, pos, af, none⟩ :: rest) st Q := aa.bZ (l.map f) l.length ht hz nE hy hx ho lH he o5 mS w7 hF hd k
end
mutual
theorem X.oh {ν : Nat → Nat} : ∀ {x : X}, x.lt 0 = true → x.eD ν = x
 | .v _, _ | .no, _ | .fz .., _ | .di .., _ | .fp .., _ => rfl
 | .ptr o .., h => by simp [X.lt, Nat.blt] at h
 | .aY o .., h => by simp [X.lt, Nat.blt] at h
 | .mref o, h => by simp [X.lt, Nat.blt] at h
 | .agg xs, h => by simp only [X.eD]; rw [X.kz (xs := xs) h]
 | .tup xs, h => by simp only [X.eD]; rw [X.kz (xs := xs) h]
 | .gd f a b, h => by
  simp only [X.lt, Bool.and_eq_true] at h
  simp only [X.eD]; rw [X.kz h.1, X.kz h.2]
theorem X.kz {ν : Nat → Nat} : ∀ {xs : List X}, X.z5 0 xs = true → X.jg ν xs = xs
 | [], _ => rfl
 | x :: r, h => by
  simp only [X.z5, Bool.and_eq_true] at h
  simp only [X.jg]; rw [X.oh h.1, X.kz h.2]
end
section
variable {P : Program} {N : dV} {st : St} {Q : Exit → St → Prop} {all : Array Oper} {rest : List Oper} {d : Nat} {ty : TypeId} {pos : String} {af : Array Edge}
theorem aa.bd {f : FuncId} {bL : Array Operand} {mh : Array TypeId} {xs args : List X} {R : X} (mi : aM P f = true) (fj : al P f args [] [] (fun r o => r = R ∧ o = []))
  (eU : iL st bL.toList = some xs) (dW : cV st [] (bz []) xs args) (hd : d < N.n) (gK : R.lt 0 = true)
  (k : aa P N all rest (st.put d R) Q) : aa P N all (⟨some d, .call ⟨.value (.func f), bL, mh⟩, ty, pos, af, none⟩ :: rest) st Q :=
 aa.Fu mi fj eU dW hd gK (X.oh gK) k
end
end Go.AW
namespace Go.AW
open Go
section
variable {P : Program} {N : dV} {st : St} {Q : Exit → St → Prop} {ops : Array Oper} {d : Nat} {ty : TypeId} {pos : String} {af : Array Edge}
def aJ (P : Program) (N : dV) (st : St) (o : Oper) (x : X) : Prop :=
 ∀ (G : Ctx) (E : Env) (RR : Own → List Nat) (a : Act), G.fn = N → Inv G E RR st a → ∃ u, (∀ w, (execOp a.eval o).run P w = .ok (.value u) w) ∧ RX E x u []
section
variable {dst : Option Nat} {g : Option (Nat × Bool)}
theorem aJ.move {x : Operand} {y : X} (hx : bx st x = some y) (hf : y.free = true) : aJ P N st ⟨dst, .move x, ty, pos, af, g⟩ y := by
 intro G E RR a _ hi
 obtain ⟨R, hv⟩ := hi.eval hx
 have := RX.free hf hv
 subst this
 exact ⟨_, fun w => rfl, hv⟩
theorem aJ.assign {x : Operand} {y : X} (hx : bx st x = some y) (hf : y.free = true) : aJ P N st ⟨dst, .assign x, ty, pos, af, g⟩ y := by
 intro G E RR a _ hi
 obtain ⟨R, hv⟩ := hi.eval hx
 have := RX.free hf hv
 subst this
 exact ⟨_, fun w => rfl, hv⟩
theorem aJ.Jg {t e s cy : Nat} {x : Operand} {lo fL : Option Operand} {rows : List (List X)} {l h : Nat} {js : List (List X)} (ht : TY.slice P t = some (e, s, cy)) (hx : bx st x = some (.fz s rows))
  (hl : Bd st lo 0 l) (hh : Bd st fL rows.length h) (h1 : l ≤ h) (h2 : h ≤ rows.length) (hr : (rows.take h).drop l = js) :
  aJ P N st ⟨dst, .slice t x lo fL none, ty, pos, af, g⟩ (.fz s js) := by
 intro G E RR a _ hi
 obtain ⟨R, hp⟩ := hi.eval hx
 simp only [RX] at hp
 obtain ⟨_, hu, base, cap, hc, cA⟩ := hp
 obtain ⟨tc, i, fh, et, _⟩ := TY.c7 ht
 subst hr
 have kl : h ≤ cap := by
  rcases cA with ⟨h', qQ⟩ | ⟨_, _, _, uF, _⟩
  ·subst h'; simp at h2; omega
  ·omega
 refine ⟨.slice (if cap = l then base else base.map (·.add (l * s))) (h - l) (cap - l), fun w => ?_, ?_⟩
 ·show (do let z ← Instr.sliceAt t (a.eval x) (lo.map a.eval) (fL.map a.eval) none; pure (Next.value z) : Sem Next).run P w = _
  rw [hc]
  refine cE ?_
  simp only [Instr.sliceAt, Sem.run_bind, run_underlying tc, Result.andThen_ok, Instr.slice, fo hi hl hh h1 kl, run_sizeOf fh, et]
  rfl
 ·have hlen : ((rows.take h).drop l).length = h - l := by simp; omega
  simp only [RX, hlen]
  refine ⟨trivial, (hu.take h).drop l, _, _, rfl, ?_⟩
  rcases cA with ⟨h', qQ⟩ | ⟨b, off, hb, uF, hf⟩
  ·exact .inl ⟨by subst h'; simp, om⟩
  ·refine .inr ?_
   subst hb
   by_cases qR : cap = l
   ·refine ⟨b, off, by rw [if_pos qR], om, ?_⟩
    have : (rows.take h).drop l = [] := by
     apply List.eq_nil_of_length_eq_zero
     rw [hlen]; omega
    rw [this]; simp [gJ]
   ·refine ⟨b, off + l * s, by rw [if_neg qR]; simp [eY], om, ?_⟩
    exact gJ.drop l (hu.take h) (by simp; omega) (hf.take h)
end
def aR (P : Program) (N : dV) (ops : Array Oper) (n : Nat) (ag : Array Bool) (st : St) (K : St → Prop) : Prop :=
 ∀ G : Ctx, G.fn = N → ∀ a w, bT G st a w → wpAny P .any ops (fun e a w => e = .normal ∧ ∃ aW, K aW ∧ bT G aW a w) n ag a w
variable {K : St → Prop}
theorem aR.blind {n : Nat} {ag : Array Bool} (i : Nat) {op : Op} {x : X} (ho : ops[i]? = some ⟨some d, op, ty, pos, af, none⟩)
  (hB : (Region.noSelect ops && Region.free .any ops ag i && (Region.ready .any ops ag).contains i) = true) (hy : aJ P N st ⟨some d, op, ty, pos, af, none⟩ x) (hd : d < N.n)
  (k : aR P N ops n (ag.setIfInBounds i true) (st.put d x) K) : aR P N ops (n + 1) ag st K := by
 intro G hn a w hh
 obtain ⟨E, RR, rfl, hi⟩ := hh
 obtain ⟨u, hr, hx⟩ := hy G E RR a hn hi
 simp only [Bool.and_eq_true] at hB
 refine wpAny_take (v := u) ho hB.1.1 hB.1.2 hB.2 ?_ (.inl ⟨by simp [Region.wanted], hr⟩) (k G hn _ _ ⟨E, _, rfl, hi.fg (hn ▸ hd) hx⟩)
 intro c a w h
 cases h.1
theorem aR.step {n : Nat} {ag : Array Bool} (j : Nat) {o : Oper} (ho : ops[j]? = some o)
  (k : aa P N ops [o] st (fun e aW => e = .normal ∧ aR P N ops n (ag.setIfInBounds j true) aW K)) (G : Ctx) (hn : G.fn = N) (a : Act) (w : World) (hh : bT G st a w) :
  wpOp P ops (fun e a w => e = .normal ∧ ∃ aW, K aW ∧ bT G aW a w) j (wpAny P .any ops (fun e a w => e = .normal ∧ ∃ aW, K aW ∧ bT G aW a w) n (ag.setIfInBounds j true)) a w := by
 have hk := k G hn a w hh
 have key : wpOp P ops (fun e a w => kb G (fun e aW => e = .normal ∧ aR P N ops n (ag.setIfInBounds j true) aW K) e a w) j
   (fun a w => kb G (fun e aW => e = .normal ∧ aR P N ops n (ag.setIfInBounds j true) aW K) .normal a w) a w := by
  unfold wpOp; simp only [ho]; exact hk
 have mono : ∀ {Q1 Q2 : Exit → Act → World → Prop} {K1 K2 : Act → World → Prop}, (∀ e a w, e ≠ .normal → Q1 e a w → False) → (∀ a w, K1 a w → K2 a w) → wpOp P ops Q1 j K1 a w → wpOp P ops Q2 j K2 a w := by
  intro Q1 Q2 K1 K2 hQ hK h
  unfold wpOp at *
  simp only [ho] at *
  split
  ·rename_i hw
   simp only [hw, if_true] at h
   rcases h with h | ⟨_, hl⟩
   ·refine .inl ?_
    unfold Oper.wp at *
    generalize (execOp a.eval o).run P w = r at *
    cases r with
    | ok nx w' =>
     cases nx <;> simp only [Oper.upon] at h ⊢ <;> first
      | exact hK _ _ h
      | exact Calls.mono h (fun e Mk he => by
        cases e with
        | returned u => exact hK _ _ he
        | panicked c => exact (hQ _ _ _ (by simp) he).elim
        | outgrown => exact (let ⟨_, _, h'⟩ := he; hQ _ _ _ (by simp) h').elim)
      | exact Rows.mono h (fun _ _ he => hK _ _ he)
    | halt x w' => cases x <;> simp only [Oper.upon] at h ⊢ <;> first | exact (hQ _ _ _ (by simp) h).elim | exact (let ⟨_, _, h'⟩ := h; hQ _ _ _ (by simp) h').elim | exact h
   ·obtain ⟨_, _, h'⟩ := hl
    exact (hQ _ _ _ (by simp) h').elim
  ·rename_i hw
   simp only [hw] at h
   exact hK _ _ h
 refine mono ?_ ?_ key
 ·rintro e a w he ⟨aW, _, h, _⟩
  exact he h
 ·rintro a w ⟨aW, gf, _, uQ⟩
  exact uQ G hn a w gf
theorem aR.one {n : Nat} {ag : Array Bool} (i : Nat) {o : Oper} (ho : ops[i]? = some o) (hr : (Region.ready .any ops ag == [i]) = true)
  (k : aa P N ops [o] st (fun e aW => e = .normal ∧ aR P N ops n (ag.setIfInBounds i true) aW K)) : aR P N ops (n + 1) ag st K := by
 intro G hn a w hh
 refine wpAny_all (rs := [i]) (by simpa using hr) (by simp) ?_
 intro j hj
 have : j = i := by simpa using hj
 subst this
 exact aR.step j ho k G hn a w hh
theorem aR.two {n : Nat} {ag : Array Bool} (i i' : Nat) {o o' : Oper} (ho : ops[i]? = some o) (ll : ops[i']? = some o') (hr : (Region.ready .any ops ag == [i, i']) = true)
  (k : aa P N ops [o] st (fun e aW => e = .normal ∧ aR P N ops n (ag.setIfInBounds i true) aW K))
  (k' : aa P N ops [o'] st (fun e aW => e = .normal ∧ aR P N ops n (ag.setIfInBounds i' true) aW K)) : aR P N ops (n + 1) ag st K := by
 intro G hn a w hh
 refine wpAny_all (rs := [i, i']) (by simpa using hr) (by simp) ?_
 intro j hj
 simp only [List.mem_cons, List.not_mem_nil, or_false] at hj
 rcases hj with rfl | rfl
 ·exact aR.step j ho k G hn a w hh
 ·exact aR.step j ll k' G hn a w hh
theorem aR.done {n : Nat} {ag : Array Bool} (hr : (Region.ready .any ops ag).isEmpty = true) (h : K st) : aR P N ops n ag st K :=
 fun _ _ _ _ hh => wpAny_done (by simpa using hr) ⟨rfl, st, h, hh⟩ n
theorem ae.cC {id : Nat} (hm : P.follows .mixedOrders = true) (h : aR P N ops ops.size (Array.replicate ops.size false) st (fun aW => Q .normal aW)) : ae P N (.region id ops true) st Q := by
 intro G hn a w hh
 refine wp_mono (wp_region_any hm (h G hn a _ hh.drew)) ?_
 rintro e a w ⟨rfl, aW, hk, gf⟩
 exact ⟨aW, gf, hk⟩
end
end Go.AW
namespace Go.AW
open Go
def oF (want : Bool) : Value → Bool
 | .bool b => !(b == want)
 | _ => true
section
variable {P : Program} {N : dV} {st : St} {Q : Exit → St → Prop} {K : St → Prop} {all : Array Oper} {rest : List Oper} {d dd : Nat} {ty : TypeId} {pos : String} {af : Array Edge} {dst : Option Nat} {op : Op} {j : Nat} {want : Bool} {u : Value}
theorem jv {G : Ctx} {E : Env} {RR : Own → List Nat} {a : Act} (hi : Inv G E RR st a) (hj : (all[j]?).bind (·.dst) = some d) (hd : d < G.fn.n) (hx : look st.a7 d = some (.v u)) (eB : oF want u = true) :
  Region.wanted ⟨dst, op, ty, pos, af, some (j, want)⟩ (yielded all a.tmps) = false := by
 have hs := hi.a7 d _ hx
 simp only [RX] at hs
 have et : d < a.tmps.size := by rw [hi.tmps]; exact hd
 have hv : a.tmps[d]? = some u := by
  have := hs.1
  simp only [Array.getD, et, dif_pos] at this
  rw [Array.getElem?_eq_getElem et]
  exact congrArg some this
 have hy : yielded all a.tmps j ≠ some want := by
  unfold yielded
  rw [hj, Option.bind_some, hv]
  intro h
  cases u <;> simp [oF] at eB h
  exact eB h
 simp only [Region.wanted]
 cases h : yielded all a.tmps j with
 | none => rfl
 | some b => rw [h] at hy; simpa using hy
theorem aa.aF (hj : (all[j]?).bind (·.dst) = some d) (hd : d < N.n) (zZ : dd < N.n) (hx : look st.a7 d = some (.v u)) (eB : oF want u = true)
  (k : aa P N all rest (st.put dd (.v undef)) Q) : aa P N all (⟨some dd, op, ty, pos, af, some (j, want)⟩ :: rest) st Q := by
 intro G hn a w hh
 obtain ⟨E, RR, rfl, hi⟩ := hh
 unfold wpList
 rw [if_neg (by rw [jv hi hj (hn ▸ hd) hx eB]; simp)]
 exact k G hn _ _ ⟨E, _, rfl, hi.fg (hn ▸ zZ) (by simp [RX])⟩
theorem aG.aF (hj : (all[j]?).bind (·.dst) = some d) (hd : d < N.n) (zZ : dd < N.n) (hx : look st.a7 d = some (.v u)) (eB : oF want u = true)
  (k : aG P N all rest (st.put dd (.v undef)) K) : aG P N all (⟨some dd, op, ty, pos, af, some (j, want)⟩ :: rest) st K := by
 intro G hn a w hh
 obtain ⟨E, RR, rfl, hi⟩ := hh
 unfold wpStill
 rw [if_neg (by rw [jv hi hj (hn ▸ hd) hx eB]; simp)]
 exact k G hn _ _ ⟨E, _, rfl, hi.fg (hn ▸ zZ) (by simp [RX])⟩
end
end Go.AW
namespace Go.AW
open Go Go.ChangeShapes Go.WideShapes Go.Deep Go.RowKit
def E0 (W : World) : Env := ⟨fun b i => W.cell? ⟨b, i, none⟩, fun _ => none, W⟩
theorem al.row {P : Program} {f : FuncId} {args : List X} {u : Value} (h : al P f args [] [] (fun r o => r = .v u ∧ o = [])) {W : World} {dq : Array Value} (hn : dq.size = args.length)
  (hx : ∀ (i : Nat) x, args[i]? = some x → RX (E0 W) x (dq.getD i undef) []) : Calls P f dq W (fun e W' => e = .returned u ∧ Below W.heap.size W W') := by
 have hi : Inv (pN (fun b => b < W.heap.size) (E0 W) ⟨args.length, []⟩) (E0 W) (fun _ => []) ⟨dy 0 args, dy 0 []⟩ ⟨dq, []⟩ :=
  {kh := fun _ _ _ h => h
   a7 := fun s x hs => by
    rw [gi] at hs
    exact hx s x hs
   aA := fun o ob ho => by simp [dy, look] at ho
   nodup := fun _ => List.nodup_nil
   apart := fun _ _ _ _ h => by cases h
   own := fun _ _ h => by cases h
   ao := fun _ _ => rfl
   size := Nat.le_refl _
   small := fun _ h => h
   os := rfl
   tape := rfl
   output := rfl
   φ0 := fun _ _ _ h => h
   grow := fun _ _ _ h => .inl h
   fixed := fun _ _ => rfl
   tmps := hn
   defers := rfl }
 refine Calls.mono (h _ _ _ _ hi) ?_
 rintro e W' ⟨v, r, aD, rfl, ⟨rfl, _⟩, _, E', eC, rfl, fL⟩
 have hs := fL.a7 0 (.v u) rfl
 simp only [RX] at hs
 have hv : v = u := hs.1
 exact ⟨by rw [hv], fL.os, fL.tape, fL.output, fL.size, fun k hk => fL.ao k hk⟩
theorem RF.of {E : Env} {b : Nat} : ∀ {row : List X} {off : Nat}, (∀ (j : Nat) x, row[j]? = some x → ∃ u, x = .v u ∧ gI u ∧ E.φ b (off + j) = some u) → RF E row b off
 | [], _, _ => by simp [RF]
 | x :: r, off, h => by
  obtain ⟨u, rfl, hs, hu⟩ := h 0 x rfl
  simp only [RF]
  refine ⟨⟨u, by simpa using hu, hs, rfl, by simp [RX]⟩, RF.of fun j y hj => ?_⟩
  obtain ⟨u', h1, h2, h3⟩ := h (j + 1) y (by simpa using hj)
  exact ⟨u', h1, h2, by rw [show off + 1 + j = off + (j + 1) by omega]; exact h3⟩
theorem gJ.of {E : Env} {b s : Nat} : ∀ {rows : List (List X)} {off : Nat}, bG s rows → (∀ (i : Nat) row, rows[i]? = some row → RF E row b (off + i * s)) → gJ E rows b off
 | [], _, _, _ => by simp [gJ]
 | r :: rs, off, hu, h => by
  simp only [gJ]
  refine ⟨by simpa using h 0 r rfl, gJ.of (fun q hq => hu q (by simp [hq])) fun i row hi => ?_⟩
  have := h (i + 1) row (by simpa using hi)
  rw [hu r (by simp)]
  rw [Nat.add_mul, Nat.one_mul] at this
  rw [show off + s + i * s = off + (i * s + s) by omega]; exact this
section
variable {H : Type} {enc : TypeId × Value → H} {P : Program} {W : World} {base : Nat} {spare : Nat → Bool} {held : Bool} {n : Nat} {e : TypeId} {cs : List Value} {y : DataW H × List MemPlace}
end
end Go.AW
namespace Go.AW
open Go
section
variable {P : Program} {N : dV} {st : St} {Q : Exit → St → Prop} {all : Array Oper} {rest : List Oper} {dst : Option Nat} {d : Nat} {ty : TypeId} {pos : String} {af : Array Edge} {g : Option (Nat × Bool)}
theorem Y.zd {t t' : TypeId} {x y : Operand} {k : IntKind} {a b r : Int} (hx : bx st x = some (.v (.int k a))) (hy : bx st y = some (.v (.int k b))) (hr : r = if b > a then b else a) :
  Yields P N st ⟨dst, .call ⟨.builtin .max, #[x, y], #[t, t']⟩, ty, pos, af, g⟩ (.v (.int k r)) := by
 subst hr
 intro G E RR ac _ hi
 refine ⟨.int k (if b > a then b else a), fC ?_, by simp [RX]⟩
 have h1 := hi.val hx
 have h2 := hi.val hy
 simp [builtin, Builtin.max_, h1, h2, Builtin.max2]
theorem Y.ze {t t' : TypeId} {x y : Operand} {k : IntKind} {a b r : Int} (hx : bx st x = some (.v (.int k a))) (hy : bx st y = some (.v (.int k b))) (hr : r = if b < a then b else a) :
  Yields P N st ⟨dst, .call ⟨.builtin .min, #[x, y], #[t, t']⟩, ty, pos, af, g⟩ (.v (.int k r)) := by
 subst hr
 intro G E RR ac _ hi
 refine ⟨.int k (if b < a then b else a), fC ?_, by simp [RX]⟩
 have h1 := hi.val hx
 have h2 := hi.val hy
 simp [builtin, Builtin.min_, h1, h2, Builtin.min2]
theorem aJ.extract {x : Operand} {xs : List X} {y : X} {k : Nat} (hx : bx st x = some (.tup xs)) (hy : xs[k]? = some y) (hf : y.free = true) : aJ P N st ⟨dst, .extract x k, ty, pos, af, g⟩ y := by
 intro G E RR a _ hi
 obtain ⟨R, hp⟩ := hi.eval hx
 simp only [RX] at hp
 obtain ⟨cs, hc, eU⟩ := hp
 obtain ⟨u, R₁, hu, h1⟩ := dL.get eU hy
 have h0 := RX.free hf h1
 subst h0
 refine ⟨u, fun w => ?_, h1⟩
 show (do let z ← Instr.extract (a.eval x) k; pure (Next.value z) : Sem Next).run P w = _
 rw [hc]
 refine cE ?_
 have wy : cs[k]? = some u := by simpa using hu
 simp only [Instr.extract, wy]; rfl
theorem aa.oG {t e s cy : Nat} {z : List Value} {x y : Operand} {o lo n : Nat} {rs new : List (List X)} (q7 : List (List X)) (n' : Nat) (ht : TY.slice P t = some (e, s, cy)) (hz : TY.zero P e = some z) (nE : Nat.beq z.length s = true)
  (hy : bx st y = some (.fz s new)) (hx : bx st x = some (.aY o s lo n)) (ho : look st.aA o = some (.rows s rs)) (lH : lo + n ≤ rs.length)
  (he : ((rs.drop lo).take n) ++ new = q7) (o5 : n + new.length = n') (mS : n' * cy ≤ 140737488355328) (w7 : n' ≤ 4611686018427387904) (hF : N.F.elem o = false) (hd : d < N.n)
  (k : aa P N all rest ((((st.kill o).dE o (.rows s q7))).put d (.aY o s 0 n')) Q) :
  aa P N all (⟨some d, .call ⟨.builtin .append, #[x, y], #[t, t]⟩, ty, pos, af, none⟩ :: rest) st Q := by
 subst he o5
 exact aa.zM ht hz nE hy hx ho lH mS w7 hF hd k
end
end Go.AW
namespace Go.AW
open Go
section
variable {P : Program} {N : dV} {st : St} {Q : Exit → St → Prop} {all : Array Oper} {rest : List Oper} {d : Nat} {ty : TypeId} {pos : String} {af : Array Edge}
theorem cV.eZ {L : List Nat} {ν : Nat → Nat} {o s lo n : Nat} {rs q7 : List (List X)} {xs ys : List X} (ho : look st.aA o = some (.rows s rs)) (hL : L.elem o = true) (lH : lo + n ≤ rs.length) (he : (rs.drop lo).take n = q7)
  (hs : cV st L ν xs ys) : cV st L ν (.aY o s lo n :: xs) (.fz s q7 :: ys) := by
 subst he
 exact .cons (.view ho (List.elem_iff.1 hL) lH) hs
theorem Fw {o : Nat} {ob : Obj} (h : look st.aA o = some ob) (h' : iQ ob) : ∀ q ∈ [o], ∃ ob, look st.aA q = some ob ∧ iQ ob := by
 intro q hq
 simp only [List.mem_singleton] at hq
 subst hq
 exact ⟨ob, h, h'⟩
theorem aa.CI {f : FuncId} {bL : Array Operand} {mh : Array TypeId} {xs args : List X} {R : X} (L : List Nat) (mi : aM P f = true) (fj : al P f args [] [] (fun r o => r = R ∧ o = []))
  (eU : iL st bL.toList = some xs) (dW : cV st L (bz []) xs args) (h0 : ∀ o ∈ L, ∃ ob, look st.aA o = some ob ∧ iQ ob) (hd : d < N.n) (gK : R.lt 0 = true) (hp : R.plain)
  (k : aa P N all rest (st.put d R) Q) : aa P N all (⟨some d, .call ⟨.value (.func f), bL, mh⟩, ty, pos, af, none⟩ :: rest) st Q :=
 aa.Fv L mi fj eU dW h0 hd gK (X.oh gK) hp k
end
end Go.AW
namespace Go.AW
open Go Go.Maps
section
variable {P : Program} {N : dV} {st : St} {Q : Exit → St → Prop} {all : Array Oper} {rest : List Oper} {dst : Option Nat} {d : Nat} {ty : TypeId} {pos : String} {af : Array Edge} {g : Option (Nat × Bool)}
theorem Inv.tk {G : Ctx} {E : Env} {RR : Own → List Nat} {a : Act} (hi : Inv G E RR st a) {m : Operand} {o : Nat} {es : List (Value × Value)} (hm : bx st m = some (.mref o)) (ho : look st.aA o = some (.tk es)) :
  ∃ B nT clock, E.β o = some B ∧ a.eval m = .map (some B.b) ∧ E.w.heap[B.b]? = some (.map nT clock) ∧ (∀ i, E.φ B.b i = none) ∧ nT.toList.map (fun e => (e.key, e.val)) = es ∧ RR (.obj o) = [B.b] := by
 have aP := hi.aA o _ ho
 simp only [dD] at aP
 obtain ⟨B, nT, clock, hB, hw, hf, he, hR⟩ := aP
 obtain ⟨R, hx⟩ := hi.eval hm
 simp only [RX] at hx
 obtain ⟨_, B', g7, hc⟩ := hx
 rw [hB] at g7
 obtain rfl := Option.some.inj g7
 exact ⟨B, nT, clock, hB, hc, hw, hf, he, hR⟩
end
end Go.AW
namespace Go.AW
open Go
section
variable {P : Program} {N : dV} {st : St} {ty : TypeId} {pos : String} {af : Array Edge} {dst : Option Nat} {g : Option (Nat × Bool)}
theorem aJ.nilCheck {x : Operand} {p q : X} (hx : bx st x = some p) (hq : p.on 0 = some q) : aJ P N st ⟨dst, .nilCheck x, ty, pos, af, g⟩ q := by
 intro G E RR a _ hi
 obtain ⟨R, hp⟩ := hi.eval hx
 obtain ⟨b, off, hc, h⟩ := hp.on hq
 refine ⟨_, fun w => ?_, h⟩
 simp only [execOp, hc]; rfl
theorem aJ.fieldAddr {t : TypeId} {x : Operand} {p q : X} {f off : Nat} {ft : TypeId} (ht : TY.iI P t f = some (off, ft)) (hx : bx st x = some p) (hq : p.on off = some q) :
  aJ P N st ⟨dst, .fieldAddr t x f, ty, pos, af, g⟩ q := by
 intro G E RR a _ hi
 obtain ⟨R, hp⟩ := hi.eval hx
 obtain ⟨b, o, hc, h⟩ := hp.on hq
 refine ⟨_, fun w => ?_, h⟩
 show (do let z ← Instr.fieldAt t (a.eval x) f; pure (Next.value z) : Sem Next).run P w = _
 rw [hc]
 exact cE (TY.uE ht b o w)
end
end Go.AW
namespace Go.AW
open Go
section
variable {P : Program} {N : dV} {st : St} {d : Nat}
theorem cV.named {L : List Nat} {ν : Nat → Nat} {x y : X} {xs ys : List X} (h : x.free = true) (he : x.eD ν = y) (hs : cV st L ν xs ys) : cV st L ν (y :: xs) (x :: ys) := by
 subst he
 exact .cons (.same h) hs
end
end Go.AW
namespace Go.AW
open Go
section
variable {P : Program} {N : dV} {st : St} {Q : Exit → St → Prop}
theorem ae.nK {x y : Code} (J : St) (I : Prop) (hx : ae P N x st (jr (fun aW => I ∧ Le aW J) Q)) (hy : I → ae P N y J Q) : ae P N (.seq x y) st Q :=
 ae.join (fun _ : Unit => J) (fun _ => I) (hx.mono fun e _ h => by cases e <;> first | exact ⟨(), h⟩ | exact h) (fun _ h => hy h)
theorem ae.iS {α0 : Type} {c : Code} (S : α0 → St) (I : α0 → Prop) (μ : α0 → Nat) (i0 : α0) (hi : I i0) (hs : Le st (S i0))
  (round : ∀ a0, I a0 → ae P N c (S a0) (jr (fun aW => ∃ b0, I b0 ∧ μ b0 < μ a0 ∧ Le aW (S b0)) Q)) : ae P N (.loop c) st Q :=
 ae.loop (ι := α0) (fun u => S u) (fun u => I u) (fun u => μ u) i0 hi hs (fun u h => (round u h).mono fun e _ h => by
  cases e <;> first | exact h | (obtain ⟨b0, h⟩ := h; exact ⟨b0, h⟩))
theorem ae.jw {α0 : Type} {x y : Code} (J : α0 → St) (I : α0 → Prop) (hx : ae P N x st (jr (fun aW => ∃ b0, I b0 ∧ Le aW (J b0)) Q)) (hy : ∀ a0, I a0 → ae P N y (J a0) Q) : ae P N (.seq x y) st Q :=
 ae.join (ι := α0) (fun u => J u) (fun u => I u) (hx.mono fun e _ h => by cases e <;> first | exact h | (obtain ⟨b0, h⟩ := h; exact ⟨b0, h⟩)) (fun u h => hy u h)
theorem ae.k0 {α0 α1 : Type} {c : Code} (S : α0 → α1 → St) (I : α0 → α1 → Prop) (μ : α0 → α1 → Nat) (i0 : α0) (i1 : α1) (hi : I i0 i1) (hs : Le st (S i0 i1))
  (round : ∀ a0 a1, I a0 a1 → ae P N c (S a0 a1) (jr (fun aW => ∃ b0 b1, I b0 b1 ∧ μ b0 b1 < μ a0 a1 ∧ Le aW (S b0 b1)) Q)) : ae P N (.loop c) st Q :=
 ae.loop (ι := α0 × α1) (fun u => S u.1 u.2) (fun u => I u.1 u.2) (fun u => μ u.1 u.2) (i0, i1) hi hs (fun u h => (round u.1 u.2 h).mono fun e _ h => by
  cases e <;> first | exact h | (obtain ⟨b0, b1, h⟩ := h; exact ⟨(b0, b1), h⟩))
theorem ae.ly {α0 α1 : Type} {x y : Code} (J : α0 → α1 → St) (I : α0 → α1 → Prop) (hx : ae P N x st (jr (fun aW => ∃ b0 b1, I b0 b1 ∧ Le aW (J b0 b1)) Q)) (hy : ∀ a0 a1, I a0 a1 → ae P N y (J a0 a1) Q) : ae P N (.seq x y) st Q :=
 ae.join (ι := α0 × α1) (fun u => J u.1 u.2) (fun u => I u.1 u.2) (hx.mono fun e _ h => by cases e <;> first | exact h | (obtain ⟨b0, b1, h⟩ := h; exact ⟨(b0, b1), h⟩)) (fun u h => hy u.1 u.2 h)
theorem ae.eW {α0 α1 α2 : Type} {c : Code} (S : α0 → α1 → α2 → St) (I : α0 → α1 → α2 → Prop) (μ : α0 → α1 → α2 → Nat) (i0 : α0) (i1 : α1) (i2 : α2) (hi : I i0 i1 i2) (hs : Le st (S i0 i1 i2))
  (round : ∀ a0 a1 a2, I a0 a1 a2 → ae P N c (S a0 a1 a2) (jr (fun aW => ∃ b0 b1 b2, I b0 b1 b2 ∧ μ b0 b1 b2 < μ a0 a1 a2 ∧ Le aW (S b0 b1 b2)) Q)) : ae P N (.loop c) st Q :=
 ae.loop (ι := α0 × α1 × α2) (fun u => S u.1 u.2.1 u.2.2) (fun u => I u.1 u.2.1 u.2.2) (fun u => μ u.1 u.2.1 u.2.2) (i0, i1, i2) hi hs (fun u h => (round u.1 u.2.1 u.2.2 h).mono fun e _ h => by
  cases e <;> first | exact h | (obtain ⟨b0, b1, b2, h⟩ := h; exact ⟨(b0, b1, b2), h⟩))
theorem ae.BH {α0 α1 α2 : Type} {x y : Code} (J : α0 → α1 → α2 → St) (I : α0 → α1 → α2 → Prop) (hx : ae P N x st (jr (fun aW => ∃ b0 b1 b2, I b0 b1 b2 ∧ Le aW (J b0 b1 b2)) Q)) (hy : ∀ a0 a1 a2, I a0 a1 a2 → ae P N y (J a0 a1 a2) Q) : ae P N (.seq x y) st Q :=
 ae.join (ι := α0 × α1 × α2) (fun u => J u.1 u.2.1 u.2.2) (fun u => I u.1 u.2.1 u.2.2) (hx.mono fun e _ h => by cases e <;> first | exact h | (obtain ⟨b0, b1, b2, h⟩ := h; exact ⟨(b0, b1, b2), h⟩)) (fun u h => hy u.1 u.2.1 u.2.2 h)
theorem ae.BK {α0 α1 α2 α3 : Type} {c : Code} (S : α0 → α1 → α2 → α3 → St) (I : α0 → α1 → α2 → α3 → Prop) (μ : α0 → α1 → α2 → α3 → Nat) (i0 : α0) (i1 : α1) (i2 : α2) (i3 : α3) (hi : I i0 i1 i2 i3) (hs : Le st (S i0 i1 i2 i3))
  (round : ∀ a0 a1 a2 a3, I a0 a1 a2 a3 → ae P N c (S a0 a1 a2 a3) (jr (fun aW => ∃ b0 b1 b2 b3, I b0 b1 b2 b3 ∧ μ b0 b1 b2 b3 < μ a0 a1 a2 a3 ∧ Le aW (S b0 b1 b2 b3)) Q)) : ae P N (.loop c) st Q :=
 ae.loop (ι := α0 × α1 × α2 × α3) (fun u => S u.1 u.2.1 u.2.2.1 u.2.2.2) (fun u => I u.1 u.2.1 u.2.2.1 u.2.2.2) (fun u => μ u.1 u.2.1 u.2.2.1 u.2.2.2) (i0, i1, i2, i3) hi hs (fun u h => (round u.1 u.2.1 u.2.2.1 u.2.2.2 h).mono fun e _ h => by
  cases e <;> first | exact h | (obtain ⟨b0, b1, b2, b3, h⟩ := h; exact ⟨(b0, b1, b2, b3), h⟩))
theorem ae.xo {α0 α1 α2 α3 : Type} {x y : Code} (J : α0 → α1 → α2 → α3 → St) (I : α0 → α1 → α2 → α3 → Prop) (hx : ae P N x st (jr (fun aW => ∃ b0 b1 b2 b3, I b0 b1 b2 b3 ∧ Le aW (J b0 b1 b2 b3)) Q)) (hy : ∀ a0 a1 a2 a3, I a0 a1 a2 a3 → ae P N y (J a0 a1 a2 a3) Q) : ae P N (.seq x y) st Q :=
 ae.join (ι := α0 × α1 × α2 × α3) (fun u => J u.1 u.2.1 u.2.2.1 u.2.2.2) (fun u => I u.1 u.2.1 u.2.2.1 u.2.2.2) (hx.mono fun e _ h => by cases e <;> first | exact h | (obtain ⟨b0, b1, b2, b3, h⟩ := h; exact ⟨(b0, b1, b2, b3), h⟩)) (fun u h => hy u.1 u.2.1 u.2.2.1 u.2.2.2 h)
theorem ae.Fx {α0 α1 α2 α3 α4 : Type} {c : Code} (S : α0 → α1 → α2 → α3 → α4 → St) (I : α0 → α1 → α2 → α3 → α4 → Prop) (μ : α0 → α1 → α2 → α3 → α4 → Nat) (i0 : α0) (i1 : α1) (i2 : α2) (i3 : α3) (i4 : α4) (hi : I i0 i1 i2 i3 i4) (hs : Le st (S i0 i1 i2 i3 i4))
  (round : ∀ a0 a1 a2 a3 a4, I a0 a1 a2 a3 a4 → ae P N c (S a0 a1 a2 a3 a4) (jr (fun aW => ∃ b0 b1 b2 b3 b4, I b0 b1 b2 b3 b4 ∧ μ b0 b1 b2 b3 b4 < μ a0 a1 a2 a3 a4 ∧ Le aW (S b0 b1 b2 b3 b4)) Q)) : ae P N (.loop c) st Q :=
 ae.loop (ι := α0 × α1 × α2 × α3 × α4) (fun u => S u.1 u.2.1 u.2.2.1 u.2.2.2.1 u.2.2.2.2) (fun u => I u.1 u.2.1 u.2.2.1 u.2.2.2.1 u.2.2.2.2) (fun u => μ u.1 u.2.1 u.2.2.1 u.2.2.2.1 u.2.2.2.2) (i0, i1, i2, i3, i4) hi hs (fun u h => (round u.1 u.2.1 u.2.2.1 u.2.2.2.1 u.2.2.2.2 h).mono fun e _ h => by
  cases e <;> first | exact h | (obtain ⟨b0, b1, b2, b3, b4, h⟩ := h; exact ⟨(b0, b1, b2, b3, b4), h⟩))
end
section
variable {α : Type} {f : α → List X} {l m : List α} {i n : Nat} {d a b : α}
theorem aw (h : i < l.length) : (l.map f)[i]? = some (f (l.getD i d)) := by
 rw [List.getElem?_map, List.getElem?_eq_getElem h, List.getD_eq_getElem?_getD, List.getElem?_eq_getElem h]; rfl
theorem aS (h : i < l.length) : (l.map f)[0 + i]? = some (f (l.getD i d)) := by rw [Nat.zero_add]; exact aw h
theorem g9 {k : Nat} {ys : List X} (h : gW (f a) k ys = f b) : (l.map f).set (0 + i) (gW (f a) k ys) = (l.set i b).map f := by
 rw [h, Nat.zero_add, List.map_set]
theorem bE (h : n = l.length) : (((l.map f).drop 0).take n) ++ m.map f = (l ++ m).map f := by
 rw [List.drop_zero, List.take_of_length_le (by rw [List.length_map]; omega), List.map_append]
theorem cb (h : n = l.length) : 0 + n ≤ (l.map f).length := by rw [List.length_map]; omega
theorem dg (h : n = l.length) : n + (m.map f).length = (l ++ m).length := by rw [List.length_map, List.length_append]; omega
theorem Aa (h : n = l.length) : 0 + n ≤ (l.map f).length := by rw [List.length_map]; omega
theorem Ab (h : n = l.length) : ((l.map f).drop 0).take n = l.map f := by
 rw [List.drop_zero, List.take_of_length_le (by rw [List.length_map]; omega)]
theorem Ac {f : α → List X} {z : List X} (h : z = f a) : List.replicate n z = (List.replicate n a).map f := by rw [List.map_replicate, h]
theorem jW {p : Prop} (h : p := by first | rfl | exact Ac rfl) : p := h
theorem bn (h : n = l.length) : n = (l.map f).length := by rw [List.length_map]; exact h
theorem Qv {p : Prop} (h : p := by first | rfl | exact bn rfl | exact bn (by omega)) : p := h
end
section
variable {N : dV} {st : St} {d : Nat}
theorem Sh.gj {s n : Nat} {rows : List (List X)} (o : Nat) (js : List (List X)) (hx : look st.a7 d = some (.di s rows)) (he : rows = js) (hn : n = js.length) (hF : N.F.elem o = false) : Sh N st (((st.kill o).dE o (.rows s js)).put d (.aY o s 0 n)) := by
 subst he; exact Sh.CH o hx hn hF
theorem Sh.cq {s : Nat} {rows : List (List X)} (js : List (List X)) (hx : look st.a7 d = some (.di s rows)) (he : rows = js) (hf : de js) : Sh N st (st.put d (.fz s js)) := by
 subst he; exact Sh.freeze hx hf
end
section
variable {P : Program} {N : dV} {st : St} {dst : Option Nat} {ty : TypeId} {pos : String} {af : Array Edge} {g : Option (Nat × Bool)}
theorem Y.qj {s d : TypeId} {x : Operand} {k k' : IntKind} {n : Int} (hs : TY.isInt P s = some k') (hd : TY.isInt P d = some k) (hx : bx st x = some (.v (.int k' n))) (hr : k.wrap n = n) :
  Yields P N st ⟨dst, .convert s d x, ty, pos, af, g⟩ (.v (.int k n)) := Y.qi hs hd hx hr
end
theorem aL {l : List (Nat × X)} {i o s lo n n' : Nat} (h : look l i = some (.aY o s lo n)) (e : n = n') : look l i = some (.aY o s lo n') := e ▸ h
theorem ak {l : List (Nat × X)} {i : Nat} {k : IntKind} {a b : Int} (h : look l i = some (.v (.int k a))) (e : a = b) : look l i = some (.v (.int k b)) := e ▸ h
theorem au {l : List (Nat × X)} {i : Nat} {a b : Bool} (h : look l i = some (.v (.bool a))) (e : a = b) : look l i = some (.v (.bool b)) := e ▸ h
theorem aH {l : List (Nat × Obj)} {i : Nat} {a b : List X} (h : look l i = some (.cells a)) (e : a = b) : look l i = some (.cells b) := e ▸ h
theorem a9 {α : Type} {s : Nat} {f : α → List X} (h : ∀ a, (f a).length = s) {l : List α} : bG s (l.map f) := by
 intro r hr
 obtain ⟨a, _, rfl⟩ := List.mem_map.1 hr
 exact h a
theorem z8 {α0 γ : Type} (f : α0 → γ) {a0 b0 : α0} (h0 : a0 = b0) : f a0 = f b0 := by subst h0; rfl
end Go.AW
namespace Go.AW
section
variable {α : Type} {l m : List α} {i j n : Nat} {d a x : α}
theorem mz (h : i < n) : (List.replicate n a).getD i d = a := by
 rw [List.getD_eq_getElem?_getD, List.getElem?_replicate, if_pos h]; rfl
theorem tJ {p : Nat → Prop} (h : ∀ j, j < i → p j) (hp : p i) : ∀ j, j < i + 1 → p j := by
 intro j hj
 rcases Nat.lt_or_ge j i with h1 | h1
 ·exact h j h1
 ·obtain rfl : j = i := by omega
  exact hp
end
end Go.AW
namespace Go.AW
open Go Go.ChangeShapes Go.WideShapes Go.Deep Go.RowKit
theorem br.CJ {E : Env} : ∀ {xs ys : List X} {cs ds : List Value}, br E xs cs [] → br E ys ds [] → br E (xs ++ ys) (cs ++ ds) []
 | [], _, _, _, h, h' => by simp only [br] at h; rw [h.1]; exact h'
 | x :: r, ys, cs, ds, h, h' => by
  simp only [br] at h
  obtain ⟨c, c1, R₁, R₂, rfl, hs, h1, h2, hR⟩ := h
  obtain ⟨rfl, rfl⟩ := List.append_eq_nil_iff.1 hR.symm
  simp only [List.cons_append, br]
  exact ⟨c, c1 ++ ds, [], [], rfl, hs, h1, br.CJ h2 h', rfl⟩
theorem br.v1 {E : Env} {u : Value} (h : gI u) : br E [.v u] [u] [] := by
 simp only [br]
 exact ⟨u, [], [], [], rfl, h, by simp [RX], ⟨rfl, rfl⟩, rfl⟩
theorem br.len {E : Env} : ∀ {xs : List X} {cs : List Value} {R : List Nat}, br E xs cs R → xs.length = cs.length
 | [], _, _, h => by simp only [br] at h; rw [h.1]; rfl
 | x :: r, cs, R, h => by
  simp only [br] at h
  obtain ⟨c, c1, R₁, R₂, rfl, _, _, h2, _⟩ := h
  simp [br.len h2]
theorem RF.Ml {E : Env} {b : Nat} : ∀ {row : List X} {cs : List Value} {off : Nat}, br E row cs [] → X.fm row = true → (∀ (j : Nat) c, cs[j]? = some c → E.φ b (off + j) = some c) → RF E row b off
 | [], _, _, _, _, _ => by simp [RF]
 | x :: r, cs, off, h, hn, hc => by
  simp only [br] at h
  obtain ⟨c, c1, R₁, R₂, rfl, hs, h1, h2, hR⟩ := h
  obtain ⟨rfl, rfl⟩ := List.append_eq_nil_iff.1 hR.symm
  simp only [X.fm, Bool.and_eq_true] at hn
  simp only [RF]
  refine ⟨⟨c, by simpa using hc 0 c rfl, hs, hn.1, h1⟩, RF.Ml h2 hn.2 fun j c' hj => ?_⟩
  rw [show off + 1 + j = off + (j + 1) by omega]
  exact hc (j + 1) c' (by simpa using hj)
mutual
def pL {H : Type} : DataW H → Nat
 | .lit (.string bytes) => bytes.length + 1
 | .lit _ => 1
 | .nil => 1
 | .ptr d => pL d + 1
 | .slice elems spare => iu elems + iu spare + 1
 | .agg parts => iu parts + 1
 | .iface _ d => pL d + 1
 | .map entries => oH entries + 1
 | .held _ => 1
def iu {H : Type} : List (DataW H) → Nat
 | [] => 0
 | d :: r => pL d + iu r
def oH {H : Type} : List (Lit × DataW H) → Nat
 | [] => 0
 | x :: r => xp x + oH r
def xp {H : Type} : Lit × DataW H → Nat
 | (.string bytes, d) => bytes.length + pL d + 1
 | (_, d) => pL d + 1
end
theorem lz {H α : Type} {m : α → Nat} : ∀ {l : List α} {ds : List (DataW H)}, l.length = ds.length → (∀ (i : Nat) a d, l[i]? = some a → ds[i]? = some d → m a ≤ pL d) → (l.map m).sum ≤ iu ds
 | [], _, _, _ => by simp
 | a :: l, [], h, _ => by simp at h
 | a :: l, d :: ds, h, hm => by
  have h1 := hm 0 a d rfl rfl
  have h2 := lz (l := l) (ds := ds) (by simpa using h) (fun i a' d' ha hd => hm (i + 1) a' d' (by simpa using ha) (by simpa using hd))
  simp only [List.map_cons, List.sum_cons, iu]; omega
section
variable {H : Type} (enc : TypeId × Value → H) (P : Program) (W : World) (base : Nat)
def Sz {H : Type} (P : Program) (t : TypeId) (d : DataW H) : Prop := ∀ n ∈ d.weights P t, n ≤ 140737488351232
def Reads (t : TypeId) {α : Type} (f : α → List X) (p : α → Prop) (m : α → Nat) : Prop :=
 ∀ (n : Nat) (cs : List Value) (y : DataW H × List MemPlace), DataW.trod enc P W base (fun _ => true) true n t cs = some y → Sz P t y.1 →
  ∃ a : α, p a ∧ br (E0 W) (f a) cs [] ∧ X.bc (f a) = true ∧ X.fm (f a) = true ∧ m a ≤ pL y.1
def mW (fl : List Field) (off m : Nat) {α : Type} (f : α → List X) (p : α → Prop) (mm : α → Nat) : Prop :=
 ∀ (n : Nat) (cs : List Value) (xs : List (DataW H × List MemPlace)), off + m ≤ cs.length → xs.length = fl.length →
  (∀ (i : Nat) (fd : Field), fl[i]? = some fd → DataW.trod enc P W base (fun _ => true) true n fd.type ((cs.drop fd.offset).take (P.cellsOf fd.type)) = xs[i]?) →
  (∀ (i : Nat) (fd : Field) (x : DataW H × List MemPlace), fl[i]? = some fd → xs[i]? = some x → Sz P fd.type x.1) →
  ∃ a : α, p a ∧ br (E0 W) (f a) ((cs.drop off).take m) [] ∧ X.bc (f a) = true ∧ X.fm (f a) = true ∧ mm a ≤ iu (xs.map (·.1))
end
section
variable {H : Type} {enc : TypeId × Value → H} {P : Program} {W : World} {base : Nat} {t e : TypeId} {α β : Type} {f : α → List X} {p : α → Prop} {g : β → List X} {q : β → Prop} {mf : α → Nat} {mg : β → Nat}
theorem mX : ∀ {a b : List X}, X.bc a = true → X.bc b = true → X.bc (a ++ b) = true
 | [], _, _, h => h
 | x :: r, b, h, h' => by
  simp only [X.bc, Bool.and_eq_true, List.cons_append] at h ⊢
  exact ⟨h.1, mX h.2 h'⟩
theorem qZ : ∀ {a b : List X}, X.fm a = true → X.fm b = true → X.fm (a ++ b) = true
 | [], _, _, h => h
 | x :: r, b, h, h' => by
  simp only [X.fm, Bool.and_eq_true, List.cons_append] at h ⊢
  exact ⟨h.1, qZ h.2 h'⟩
theorem Reads.map (φ : α → β) (h : Reads enc P W base t f p mf) (hf : ∀ a, g (φ a) = f a) (hp : ∀ a, p a → q (φ a)) (hm : ∀ a, mg (φ a) ≤ mf a) : Reads enc P W base t g q mg := by
 intro n cs y hy hs
 obtain ⟨a, h1, h2, h3, h4, h5⟩ := h n cs y hy hs
 exact ⟨φ a, hp a h1, by rw [hf]; exact h2, by rw [hf]; exact h3, by rw [hf]; exact h4, Nat.le_trans (hm a) h5⟩
theorem Reads.int {k : IntKind} (he : P.underlying t = some (.int k)) : Reads enc P W base t (fun z : Int => [.v (.int k z)]) (fun z => (Lit.int k z).wf = true) (fun _ => 1) := by
 intro n cs y hy _
 obtain ⟨z, rfl, hd, hw⟩ := DataW.trod_int he hy
 exact ⟨z, hw, br.v1 trivial, rfl, rfl, by rw [hd]; exact Nat.le_refl _⟩
theorem Reads.bool (he : P.underlying t = some .bool) : Reads enc P W base t (fun z : Bool => [.v (.bool z)]) (fun _ => True) (fun _ => 1) := by
 intro n cs y hy _
 obtain ⟨z, rfl, hd⟩ := DataW.trod_bool he hy
 exact ⟨z, trivial, br.v1 trivial, rfl, rfl, by rw [hd]; exact Nat.le_refl _⟩
theorem Reads.Jh (he : P.underlying t = some (.int .u8)) : Reads enc P W base t (fun z : Nat => [.v (.int .u8 (z : Int))]) (fun z => z < 256) (fun _ => 1) := by
 intro n cs y hy _
 obtain ⟨z, rfl, hd, hw⟩ := DataW.trod_int he hy
 simp only [Lit.wf, IntKind.min, IntKind.max, IntKind.signed, IntKind.bits] at hw
 simp at hw
 obtain ⟨m, rfl⟩ := Int.eq_ofNat_of_zero_le (show 0 ≤ z by omega)
 exact ⟨m, om, br.v1 trivial, rfl, rfl, by rw [hd]; exact Nat.le_refl _⟩
theorem fS {H : Type} {P : Program} {e : TypeId} : ∀ {ds : List (DataW H)} {d : DataW H}, d ∈ ds → ∀ n ∈ d.weights P e, n ∈ DataW.weightsAll P e ds
 | d' :: r, d, h, n, hn => by
  simp only [DataW.weightsAll, List.mem_append]
  rcases List.mem_cons.1 h with rfl | h
  ·exact .inl hn
  ·exact .inr (fS h n hn)
theorem Reads.slice [Inhabited α] {s B : Nat} (ht : P.underlying t = some (.slice e)) (hC : P.cellsOf e = s) (hs : 0 < s) (hB : P.bytesOf e = B) (he : Reads enc P W base e f p mf) :
  Reads enc P W base t (fun l : List α => [.fz s (l.map f)]) (fun l => l.length * B ≤ 140737488351232 ∧ ∀ a ∈ l, p a) (fun l => (l.map mf).sum) := by
 intro fuel cs y hy et
 rcases open_slice ht hy with ⟨rfl, rfl⟩ | ⟨a, len, cap, m, n, D, Pl, rfl, _, hl, _, hm, rfl, hi⟩
 ·refine ⟨[], ⟨by simp, fun _ h => by cases h⟩, ?_, rfl, rfl, by simp⟩
  simp only [br, List.map_nil]
  refine ⟨.slice none 0 0, [], [], [], rfl, trivial, ?_, ⟨rfl, by trivial⟩, rfl⟩
  simp only [RX]
  exact ⟨trivial, (fun _ h => by cases h), none, 0, rfl, .inl ⟨by trivial, rfl⟩⟩
 ·simp only [if_true] at hm
  subst hm
  rw [hC] at hi
  have hD : ∀ i, i < m → Sz P e (D i) := by
   intro i Qw k hk
   refine et k ?_
   simp only [DataW.weights, ht, List.mem_cons, List.mem_append]
   right
   by_cases wT : i < len
   ·exact .inl (fS (List.mem_map.2 ⟨i, List.mem_range.2 wT, rfl⟩) k hk)
   ·refine .inr (fS (List.mem_map.2 ⟨i - len, List.mem_range.2 om, ?_⟩) k hk)
    congr 1; omega
  have Ox : ∀ i, ∃ x : α, i < len → ∃ cs, W.cells? base (a.add (i * s)) s = some cs ∧ p x ∧ br (E0 W) (f x) cs [] ∧ X.bc (f x) = true ∧ X.fm (f x) = true ∧ mf x ≤ pL (D i) := by
   intro i
   by_cases wT : i < len
   ·obtain ⟨cs, hc, IW⟩ := hi i om
    obtain ⟨x, h0, h1, h2, h3, h4⟩ := he n cs _ IW (hD i om)
    exact ⟨x, fun _ => ⟨cs, hc, h0, h1, h2, h3, h4⟩⟩
   ·exact ⟨default, fun h => absurd h wT⟩
  obtain ⟨g, hg⟩ := Classical.axiomOfChoice Ox
  refine ⟨(List.range len).map g, ⟨?_, ?_⟩, ?_, rfl, rfl, ?_⟩
  rotate_right
  ·refine Nat.le_trans (lz (m := mf) (ds := (List.range len).map D) (by simp) ?_) (by show _ ≤ iu _ + iu _ + 1; omega)
   intro i a' d' ha hd
   simp only [List.getElem?_map, Option.map_eq_some_iff] at ha hd
   obtain ⟨k, hk, rfl⟩ := ha
   obtain ⟨k', uQ, rfl⟩ := hd
   rw [hk] at uQ
   obtain rfl := Option.some.inj uQ
   have wZ : i < len := by have := (List.getElem?_eq_some_iff.1 hk).1; simpa using this
   have pE : k = i := by rw [List.getElem?_range wZ] at hk; exact (Option.some.inj hk).symm
   subst pE
   obtain ⟨_, _, _, _, _, _, h5⟩ := hg k wZ
   exact h5
  ·have z := et ((((List.range len).map D).length + ((List.range (m - len)).map fun j => D (len + j)).length) * P.bytesOf e) (by simp [DataW.weights, ht])
   rw [hB] at z
   simp only [List.length_map, List.length_range] at z ⊢
   exact Nat.le_trans (Nat.mul_le_mul_right _ om) z
  ·intro x hx
   simp only [List.mem_map, List.mem_range] at hx
   obtain ⟨i, fL, rfl⟩ := hx
   obtain ⟨_, _, h0, _⟩ := hg i fL
   exact h0
  ·have hu : bG s (((List.range len).map g).map f) := by
    intro r hr
    simp only [List.map_map, List.mem_map, List.mem_range, Function.comp] at hr
    obtain ⟨i, fL, rfl⟩ := hr
    obtain ⟨cs, hc, _, h1, _⟩ := hg i fL
    rw [br.len h1]
    exact (World.cells?_some hc).2.1
   simp only [br]
   refine ⟨_, [], [], [], rfl, trivial, ?_, ⟨rfl, rfl⟩, rfl⟩
   simp only [RX]
   refine ⟨trivial, hu, some a, m, by simp, ?_⟩
   by_cases Oy : m = 0
   ·exact .inl ⟨by simp [show len = 0 by omega], Oy⟩
   ·have BL : a = ⟨a.block, a.off, none⟩ := by
     obtain ⟨cs, hc, _⟩ := hi 0 om
     have h1 := (World.cells?_some hc).2.2 0 hs
     have hlen := (World.cells?_some hc).2.1
     simp only [Nat.zero_mul, Addr.add, if_true] at h1
     rw [List.getElem?_eq_getElem (show 0 < cs.length by omega)] at h1
     unfold World.cell? at h1
     obtain ⟨b, o, sp⟩ := a
     cases sp with
     | none => rfl
     | some q => split at h1 <;> simp at h1
    refine .inr ⟨a.block, a.off, by rw [← BL], by simp; omega, gJ.of hu ?_⟩
    intro i row mP
    simp only [List.map_map, List.getElem?_map, Option.map_eq_some_iff, Function.comp] at mP
    obtain ⟨k, hk, rfl⟩ := mP
    have wZ : i < len := by have := (List.getElem?_eq_some_iff.1 hk).1; simpa using this
    have pE : k = i := by rw [List.getElem?_range wZ] at hk; exact (Option.some.inj hk).symm
    subst pE
    obtain ⟨cs, hc, _, h1, _, h2, _⟩ := hg k wZ
    refine RF.Ml h1 h2 fun j c Mm => ?_
    have kT : j < s := by have := (List.getElem?_eq_some_iff.1 Mm).1; rw [(World.cells?_some hc).2.1] at this; exact this
    have h3 := (World.cells?_some hc).2.2 j kT
    rw [Mm, add_add, BL, eY] at h3
    show W.cell? _ = _
    rw [← h3]
    congr 2
    omega
theorem mW.nil {off : Nat} : mW enc P W base [] off 0 (fun _ : Unit => []) (fun _ => True) (fun _ => 0) := by
 intro n cs xs _ _ _ _
 exact ⟨(), trivial, by simp [br], rfl, rfl, Nat.zero_le _⟩
theorem mW.cons {fd : Field} {fl : List Field} {off s m : Nat} (ho : fd.offset = off) (hC : P.cellsOf fd.type = s) (h : Reads enc P W base fd.type f p mf) (hr : mW enc P W base fl (off + s) m g q mg) :
  mW enc P W base (fd :: fl) off (s + m) (fun x : α × β => f x.1 ++ g x.2) (fun x => p x.1 ∧ q x.2) (fun x => mf x.1 + mg x.2) := by
 intro n cs xs hlen uO hx et
 cases xs with
 | nil => simp at uO
 | cons x xs =>
  have h0 := hx 0 fd rfl
  rw [ho, hC] at h0
  obtain ⟨a, ha, h1, h2, h3, h4⟩ := h n _ x h0 (et 0 fd x rfl rfl)
  obtain ⟨b, hb, g1, g2, g3, g4⟩ := hr n cs xs om (by simpa using uO) (fun i Ji hi => by simpa using hx (i + 1) Ji (by simpa using hi)) (fun i Ji x' hi iK => et (i + 1) Ji x' (by simpa using hi) (by simpa using iK))
  refine ⟨(a, b), ⟨ha, hb⟩, ?_, mX h2 g2, qZ h3 g3, by simp only [List.map_cons, iu]; omega⟩
  have tK : (cs.drop off).take (s + m) = (cs.drop off).take s ++ (cs.drop (off + s)).take m := by
   rw [List.take_add, List.drop_drop]
  rw [tK]
  exact br.CJ h1 g1
theorem jX {H : Type} {P : Program} : ∀ {fl : List Field} {xs : List (DataW H × List MemPlace)} {i : Nat} {fd : Field} {x : DataW H × List MemPlace}, fl[i]? = some fd → xs[i]? = some x →
  ∀ n ∈ x.1.weights P fd.type, n ∈ DataW.weightsEach P (fl.map (·.type)) (xs.map (·.1))
 | f :: fl, y :: xs, 0, fd, x, h, h', n, hn => by
  simp only [List.getElem?_cons_zero, Option.some.injEq] at h h'
  subst h h'
  simp only [List.map_cons, DataW.weightsEach, List.mem_append]
  exact .inl hn
 | f :: fl, y :: xs, i + 1, fd, x, h, h', n, hn => by
  simp only [List.map_cons, DataW.weightsEach, List.mem_append]
  exact .inr (jX (i := i) (by simpa using h) (by simpa using h') n hn)
theorem Reads.struct {fs : Array Field} {m : Nat} (ht : P.underlying t = some (.struct fs)) (hC : P.cellsOf t = m) (h : mW enc P W base fs.toList 0 m f p mf) : Reads enc P W base t f p mf := by
 intro fuel cs y hy et
 obtain ⟨xs, n, _, rfl, hlen, uO, hx⟩ := DataW.trod_struct ht hy
 obtain ⟨a, ha, h1, h2, h3, h4⟩ := h n cs xs om (by simpa using uO) (fun i fd hi => hx i fd (by simpa using hi)) (fun i fd x hi iK k hk => by
  refine et k ?_
  simp only [DataW.weights, ht]
  exact jX hi iK k hk)
 refine ⟨a, ha, ?_, h2, h3, by show _ ≤ iu _ + 1; omega⟩
 rw [List.drop_zero, List.take_of_length_le om] at h1
 exact h1
theorem Reads.Jj {s : Nat} (ht : P.underlying t = some (.array 2 e)) (hC : P.cellsOf e = s) (hT : P.cellsOf t = 2 * s) (h : Reads enc P W base e f p mf) :
  Reads enc P W base t (fun x : α × α => f x.1 ++ f x.2) (fun x => p x.1 ∧ p x.2) (fun _ => 0) := by
 intro fuel cs y hy et
 obtain ⟨xs, n, _, rfl, hlen, uO, hx⟩ := DataW.trod_array ht hy
 match xs, uO with
 | [x0, x1], _ =>
  have w0 : ∀ x ∈ [x0, x1], Sz P e x.1 := fun x hx k hk => et k (by
   simp only [DataW.weights, ht]
   exact fS (List.mem_map.2 ⟨x, hx, rfl⟩) k hk)
  obtain ⟨a, ha, a1, a2, a3, _⟩ := h n _ x0 (hx 0 om) (w0 x0 (by simp))
  obtain ⟨b, hb, b1, b2, b3, _⟩ := h n _ x1 (hx 1 om) (w0 x1 (by simp))
  refine ⟨(a, b), ⟨ha, hb⟩, ?_, mX a2 b2, qZ a3 b3, Nat.zero_le _⟩
  have tK : cs = (cs.drop (0 * P.cellsOf e)).take (P.cellsOf e) ++ (cs.drop (1 * P.cellsOf e)).take (P.cellsOf e) := by
   rw [Nat.zero_mul, Nat.one_mul, List.drop_zero, hC, List.take_of_length_le (l := cs.drop s) (by rw [List.length_drop]; omega), List.take_append_drop]
  rw [tK]
  exact br.CJ a1 b1
theorem Reads.one {x : α → X} {v : Value} {d : DataW H} {ps : List MemPlace} (h : Reads enc P W base t (fun a => [x a]) p mf) (hs : Sz P t d) (hv : v.cells.toList = [v]) (ht : DataW.Trod enc P W base (fun _ => true) true t v d ps) :
  ∃ a, p a ∧ RX (E0 W) (x a) v [] ∧ mf a ≤ pL d := by
 obtain ⟨fuel, hf⟩ := ht
 rw [hv] at hf
 obtain ⟨a, ha, h1, _, _, h5⟩ := h fuel _ _ hf hs
 simp only [br] at h1
 obtain ⟨c, c1, R₁, R₂, hc, _, h2, _, hR⟩ := h1
 obtain ⟨rfl, rfl⟩ := List.append_eq_nil_iff.1 hR.symm
 simp only [List.cons.injEq] at hc
 exact ⟨a, ha, by rw [hc.1]; exact h2, h5⟩
theorem Reads.agg {cs : Array Value} {d : DataW H} {ps : List MemPlace} (h : Reads enc P W base t f p mf) (hs : Sz P t d) (ht : DataW.Trod enc P W base (fun _ => true) true t (.agg cs) d ps) :
  ∃ a, p a ∧ RX (E0 W) (.agg (f a)) (.agg cs) [] ∧ mf a ≤ pL d := by
 obtain ⟨fuel, hf⟩ := ht
 obtain ⟨a, ha, h1, _, _, h5⟩ := h fuel _ _ hf hs
 exact ⟨a, ha, by simp only [RX]; exact ⟨cs, rfl, h1⟩, h5⟩
theorem Sz.of {ts : List TypeId} {ds : List (DataW H)} (h : (DataW.weightsEach P ts ds).all (· ≤ reachBytes) = true) {j : Nat} {d : DataW H} (Oz : ts[j]? = some t) (O0 : ds[j]? = some d) : Sz P t d := by
 intro n hn
 have := List.all_eq_true.1 h _ (DataW.weights_mem_each Oz O0 n hn)
 have h2 := of_decide_eq_true this
 exact h2
end
end Go.AW
namespace Go.AW
open Go
def lP (ops : Array Oper) (j i : Nat) : Bool := match ops[j]? with
 | some o => o.after.any fun e => Region.binds .any e && e.on == i
 | none => false
def CK (ops : Array Oper) (l rest : List Nat) (t : Nat) (ag : Array Bool) : Bool :=
 ag.size == ops.size && ((List.range ops.size).all fun j => !ag.getD j false || match ops[j]? with
  | some o => o.after.all fun e => !Region.binds .any e || ag.getD e.on false
  | none => true) && ((List.range ops.size).all fun j => ag.getD j true || l.contains j || rest.contains j) && (rest.all fun j => !ag.getD j true && !l.contains j) && (l.all fun j => !ag.getD j true) &&
  (rest.isEmpty || l.all fun i => (t :: l).any fun j => decide (i < j) && lP ops j i) && (rest.all fun j => j == t || rest.any fun k => lP ops j k) && decide l.Nodup
structure On (ops : Array Oper) (l0 rest : List Nat) (t : Nat) (l : List Nat) (ag : Array Bool) : Prop where
 size : ag.size = ops.size
 closed : ∀ j o, ops[j]? = some o → ag.getD j false = true → ∀ e ∈ o.after, Region.binds .any e = true → ag.getD e.on false = true
 part : ∀ j, ag.getD j true = false → j ∈ l ∨ j ∈ rest
 out : ∀ j ∈ rest, ag.getD j true = false ∧ j ∉ l0
 open_ : ∀ j ∈ l, ag.getD j true = false
 sub : ∀ j ∈ l, j ∈ l0
 sink : rest ≠ [] → ∀ i ∈ l0, ∃ j, (j = t ∨ j ∈ l0) ∧ i < j ∧ lP ops j i = true
 wait : ∀ j ∈ rest, j = t ∨ ∃ k ∈ rest, lP ops j k = true
 nodup : l.Nodup
theorem q8 {ag : Array Bool} {i : Nat} (h : ag.getD i true = false) : ag.getD i false = false := by
 rcases Nat.lt_or_ge i ag.size with h' | h'
 ·simp [h'] at h ⊢; exact h
 ·simp [Array.getElem?_eq_none h'] at h
theorem tL {ag : Array Bool} {i : Nat} (hi : i < ag.size) (h : ag.getD i false = false) : ag.getD i true = false := by
 simp [hi] at h ⊢; exact h
theorem nL {ops : Array Oper} {j i : Nat} (h : lP ops j i = true) : ∃ o, ops[j]? = some o ∧ ∃ e ∈ o.after, Region.binds .any e = true ∧ e.on = i := by
 unfold lP at h
 split at h
 ·rename_i o ho
  obtain ⟨e, he, hb⟩ := Array.any_eq_true'.1 h
  simp only [Bool.and_eq_true, beq_iff_eq] at hb
  exact ⟨o, ho, e, he, hb.1, hb.2⟩
 ·cases h
theorem Ad {ops : Array Oper} {l rest : List Nat} {t : Nat} {ag : Array Bool} (h : CK ops l rest t ag = true) : On ops l rest t l ag := by
 simp only [CK, Bool.and_eq_true, beq_iff_eq, List.all_eq_true, decide_eq_true_eq, List.mem_range, Bool.or_eq_true, Bool.not_eq_true', List.any_eq_true, List.contains_iff_mem] at h
 obtain ⟨⟨⟨⟨⟨⟨⟨h1, h2⟩, h3⟩, h4⟩, h5⟩, h6⟩, h7⟩, h8⟩ := h
 refine ⟨h1, ?_, ?_, ?_, h5, fun _ h => h, ?_, ?_, h8⟩
 ·intro j o ho hl e he hb
  have := h2 j (Array.getElem?_eq_some_iff.1 ho).1
  rw [hl, ho] at this
  simp only [Bool.true_eq_false, false_or] at this
  have h9 := Array.all_eq_true_iff_forall_mem.1 this e he
  simpa [hb] using h9
 ·intro j hj
  have Em : j < ops.size := by
   rcases Nat.lt_or_ge j ag.size with h' | h'
   ·omega
   ·simp [Array.getElem?_eq_none h'] at hj
  have := h3 j Em
  rw [hj] at this
  simpa using this
 ·intro j hj
  have := h4 j hj
  exact ⟨this.1, by simpa using this.2⟩
 ·intro eB i hi
  obtain ⟨j, hj, gK, hw⟩ := (h6.resolve_left (by simpa using eB)) i hi
  exact ⟨j, by simpa using hj, gK, hw⟩
 ·intro j hj
  exact h7 j hj
theorem q9 {ops : Array Oper} {ag : Array Bool} {j k : Nat} (hw : lP ops j k = true) (hk : ag.getD k true = false) : j ∉ Region.ready .any ops ag := by
 intro hj
 obtain ⟨_, o, ho, pK⟩ := mem_ready.1 hj
 obtain ⟨o', ll, e, he, hb, gL⟩ := nL hw
 rw [ho] at ll
 cases ll
 have := pK e he hb
 rw [gL, q8 hk] at this
 cases this
theorem oI : ∀ {l : List Nat}, l ≠ [] → ∃ m ∈ l, ∀ x ∈ l, x ≤ m
 | [], h => absurd rfl h
 | [a], _ => ⟨a, by simp, by simp⟩
 | a :: b :: r, _ => by
  obtain ⟨m, hm, hx⟩ := oI (l := b :: r) (by simp)
  rcases Nat.le_total a m with h | h
  ·exact ⟨m, List.mem_cons_of_mem _ hm, fun x iK => by rcases List.mem_cons.1 iK with rfl | iK; exact h; exact hx x iK⟩
  ·exact ⟨a, by simp, fun x iK => by rcases List.mem_cons.1 iK with rfl | iK; exact Nat.le_refl _; exact Nat.le_trans (hx x iK) h⟩
theorem On.ready {ops : Array Oper} {l0 rest l : List Nat} {t : Nat} {ag : Array Bool} (h : On ops l0 rest t l ag) (eB : l ≠ []) : ∀ j ∈ Region.ready .any ops ag, j ∈ l := by
 intro j hj
 have tc := (mem_ready.1 hj).1
 rcases h.part j tc with hl | hr
 ·exact hl
 ·exfalso
  rcases h.wait j hr with rfl | ⟨k, hk, hw⟩
  ·obtain ⟨m, hm, Jk⟩ := oI eB
   obtain ⟨j', tG, gK, hw⟩ := h.sink (fun e => by rw [e] at hr; cases hr) m (h.sub m hm)
   rcases tG with rfl | tG
   ·exact q9 hw (h.open_ m hm) hj
   ·obtain ⟨o, ho, e, he, hb, gL⟩ := nL hw
    cases hl : ag.getD j' false with
    | true =>
     have := h.closed j' o ho hl e he hb
     rw [gL, q8 (h.open_ m hm)] at this
     cases this
    | false =>
     have hs : j' < ag.size := by rw [h.size]; exact (Array.getElem?_eq_some_iff.1 ho).1
     rcases h.part j' (tL hs hl) with h1 | h1
     ·have := Jk j' h1; omega
     ·exact (h.out j' h1).2 tG
  ·exact q9 hw (h.out k hk).1 hj
theorem On.step {ops : Array Oper} {l0 rest l : List Nat} {t j : Nat} {ag : Array Bool} (h : On ops l0 rest t l ag) (hj : j ∈ Region.ready .any ops ag) (hl : j ∈ l) : On ops l0 rest t (l.erase j) (ag.setIfInBounds j true) := by
 obtain ⟨_, oj, w9, pK⟩ := mem_ready.1 hj
 have other : ∀ k (d : Bool), j ≠ k → (ag.setIfInBounds j true).getD k d = ag.getD k d := fun k d q3 => by
  simp only [Array.getD_eq_getD_getElem?, Array.getElem?_setIfInBounds_ne q3]
 refine ⟨by simp [h.size], ?_, ?_, ?_, ?_, fun k hk => h.sub k (List.mem_of_mem_erase hk), h.sink, h.wait, h.nodup.erase j⟩
 ·intro k o ho hk e he hb
  by_cases q3 : j = k
  ·subst q3
   rw [w9] at ho
   cases ho
   exact getD_set_true (pK e he hb)
  ·rw [other k false q3] at hk
   exact getD_set_true (h.closed k o ho hk e he hb)
 ·intro k hk
  by_cases q3 : j = k
  ·subst q3
   rw [Array.getD_eq_getD_getElem?] at hk
   rcases Nat.lt_or_ge j ag.size with h' | h'
   ·simp [h'] at hk
   ·simp at hk
  ·rw [other k true q3] at hk
   rcases h.part k hk with h1 | h1
   ·exact .inl ((List.mem_erase_of_ne (fun e => q3 e.symm)).2 h1)
   ·exact .inr h1
 ·intro k hk
  have h1 := h.out k hk
  have q3 : j ≠ k := fun e => h1.2 (e ▸ h.sub j hl)
  exact ⟨by rw [other k true q3]; exact h1.1, h1.2⟩
 ·intro k hk
  have q3 : j ≠ k := fun e => by subst e; exact (List.Nodup.not_mem_erase h.nodup) hk
  rw [other k true q3]; exact h.open_ k (List.mem_of_mem_erase hk)
section
variable {P : Program} {N : dV} {ops : Array Oper} {d : Nat} {ty : TypeId} {pos : String} {af : Array Edge}
def jY (P : Program) (ops : Array Oper) (w : World) (L : Array Bool → Act → Prop) : Nat → Array Bool → Act → Prop
 | 0, ag, a => L ag a
 | n + 1, ag, a => Region.ready .any ops ag ≠ [] ∧ ∀ j ∈ Region.ready .any ops ag, stOp P ops w j (jY P ops w L n (ag.setIfInBounds j true)) a
theorem jY.any {w : World} {L : Array Bool → Act → Prop} {Q' : Exit → Act → World → Prop} {k : Nat} (hL : ∀ ag a, L ag a → wpAny P .any ops Q' k ag a w) :
  ∀ (n : Nat) (ag : Array Bool) (a : Act), jY P ops w L n ag a → wpAny P .any ops Q' (n + k) ag a w
 | 0, ag, a, h => by rw [Nat.zero_add]; exact hL _ _ h
 | n + 1, ag, a, h => by
  rw [Nat.add_right_comm]
  exact ⟨fun e => absurd e h.1, fun j hj => wpOp_of_stOp (fun a' => jY.any hL n _ a') (h.2 j hj)⟩
theorem jY.first {l0 rest : List Nat} {t : Nat} {w : World} {L : Array Bool → Act → Prop} {i : Nat} {oi : Oper} {v : Value} (hi : ops[i]? = some oi) (xq : Region.noSelect ops = true) : ∀ (n : Nat) (l : List Nat) (ag : Array Bool) (a : Act),
  l.length = n → On ops l0 rest t (i :: l) ag → (∀ j oj, ops[j]? = some oj → j ≠ i → ag.getD j true = false → (∀ e ∈ oj.after, Region.binds .any e = true → e.on ≠ i) → oi.apart ops oj = true) →
  i ∈ Region.ready .any ops ag → YieldsAt P ops w oi v a → jY P ops w L n (ag.setIfInBounds i true) (a.put oi.dst v) → jY P ops w L (n + 1) ag a := by
 intro n
 induction n with
 | zero =>
  intro l ag a hl hB _ hr hy H
  refine ⟨fun e => (by rw [e] at hr; cases hr), fun j hj => ?_⟩
  have h1 := hB.ready (by simp) j hj
  have O1 : l = [] := List.length_eq_zero_iff.1 hl
  subst O1
  obtain rfl : j = i := by simpa using h1
  exact hy.stOp hi H
 | succ n ih =>
  intro l ag a hl hB ju hr hy H
  refine ⟨fun e => (by rw [e] at hr; cases hr), fun j hj => ?_⟩
  by_cases tg : j = i
  ·subst tg; exact hy.stOp hi H
  ·have h1 := hB.ready (by simp) j hj
   have h2 := hB.step hj h1
   have kT : j ∈ l := by simpa [tg] using h1
   have eB : (i == j) = false := by simpa using fun h => tg h.symm
   rw [List.erase_cons, eB] at h2
   obtain ⟨tc, oj, w9, pK⟩ := mem_ready.1 hj
   have Ae : ∀ e ∈ oj.after, Region.binds .any e = true → e.on ≠ i := by
    intro e he hb heq
    have h3 := pK e he hb
    have h4 := (mem_ready.1 hr).1
    rw [heq] at h3
    rcases Nat.lt_or_ge i ag.size with h' | h'
    ·simp [h'] at h3 h4; rw [h3] at h4; cases h4
    ·simp [Array.getElem?_eq_none h'] at h3
   have h5 := stOp_put w9 (ju j oj w9 tg tc Ae) (fun cs b => Region.noSelect_spec xq i oi cs b hi) (fun cs b => Region.noSelect_spec xq j oj cs b w9) hy (H.2 j (ready_mono hj tg))
   refine stOp_mono (fun a' h6 => ih (l.erase j) _ a' (by rw [List.length_erase_of_mem kT, hl]; rfl) h2 ?_ (ready_mono hr (fun h => tg h.symm)) h6.1 ?_) h5
   ·intro k ok hk pE Fy Fs
    refine ju k ok hk pE ?_ Fs
    by_cases q3 : j = k
    ·subst q3; exact tc
    ·have : (ag.setIfInBounds j true).getD k true = ag.getD k true := by
      simp only [Array.getD_eq_getD_getElem?, Array.getElem?_setIfInBounds_ne q3]
     rw [this] at Fy; exact Fy
   ·have : (ag.setIfInBounds j true).setIfInBounds i true = (ag.setIfInBounds i true).setIfInBounds j true := Array.setIfInBounds_comm _ _ tg
    rw [this]; exact h6.2
def AQ (P : Program) (N : dV) (ops : Array Oper) (l0 rest : List Nat) (t : Nat) (l : List Nat) (ag : Array Bool) (st : St) (K : Array Bool → St → Prop) : Prop :=
 On ops l0 rest t l ag → ∀ G : Ctx, G.fn = N → ∀ a w, bT G st a w → jY P ops w (fun oo a' => ∃ aW, K oo aW ∧ bT G aW a' w) l.length ag a
theorem AQ.nil {l0 rest : List Nat} {t : Nat} {ag : Array Bool} {st : St} {K : Array Bool → St → Prop} (h : K ag st) : AQ P N ops l0 rest t [] ag st K := fun _ _ _ _ _ hh => ⟨st, h, hh⟩
theorem AQ.cons {l0 rest : List Nat} {t i : Nat} {l : List Nat} {ag : Array Bool} {st : St} {K : Array Bool → St → Prop} {op : Op} {x : X} (ho : ops[i]? = some ⟨some d, op, ty, pos, af, none⟩)
  (hB : (Region.noSelect ops && Region.free .any ops ag i && (Region.ready .any ops ag).contains i) = true) (hy : Yields P N st ⟨some d, op, ty, pos, af, none⟩ x) (hd : d < N.n)
  (k : AQ P N ops l0 rest t l (ag.setIfInBounds i true) (st.put d x) K) : AQ P N ops l0 rest t (i :: l) ag st K := by
 intro h4 G hn a w hh
 obtain ⟨E, RR, rfl, hi⟩ := hh
 obtain ⟨u, hr, hx⟩ := hy G E RR a hn hi
 simp only [Bool.and_eq_true] at hB
 obtain ⟨⟨h1, h2⟩, h3⟩ := hB
 have h5 := h4.step (j := i) (by simpa using h3) (by simp)
 rw [List.erase_cons_head] at h5
 exact jY.first ho h1 l.length l ag a rfl h4 (Region.free_spec ho h2) (by simpa using h3) (v := u) (.inl ⟨by simp [Region.wanted], .inl hr⟩) (k h5 G hn _ _ ⟨E, _, rfl, hi.fg (hn ▸ hd) hx⟩)
theorem AQ.skip {l0 rest : List Nat} {t i : Nat} {l : List Nat} {ag : Array Bool} {st : St} {K : Array Bool → St → Prop} {op : Op} {j dj : Nat} {want : Bool} {u : Value} (ho : ops[i]? = some ⟨some d, op, ty, pos, af, some (j, want)⟩)
  (hB : (Region.noSelect ops && Region.free .any ops ag i && (Region.ready .any ops ag).contains i) = true)
  (hj : (ops[j]?).bind (·.dst) = some dj) (pP : dj < N.n) (hd : d < N.n) (hx : look st.a7 dj = some (.v u)) (eB : oF want u = true)
  (k : AQ P N ops l0 rest t l (ag.setIfInBounds i true) (st.put d (.v undef)) K) : AQ P N ops l0 rest t (i :: l) ag st K := by
 intro h4 G hn a w hh
 obtain ⟨E, RR, rfl, hi⟩ := hh
 simp only [Bool.and_eq_true] at hB
 obtain ⟨⟨h1, h2⟩, h3⟩ := hB
 have h5 := h4.step (j := i) (by simpa using h3) (by simp)
 rw [List.erase_cons_head] at h5
 have hw := jv (all := ops) (dst := some d) (op := op) (ty := ty) (pos := pos) (af := af) hi hj (hn ▸ pP) hx eB
 exact jY.first ho h1 l.length l ag a rfl h4 (Region.free_spec ho h2) (by simpa using h3) (v := undef) (.inr ⟨hw, rfl⟩) (k h5 G hn _ _ ⟨E, _, rfl, hi.fg (hn ▸ hd) (by simp [RX])⟩)
theorem AQ.run {l0 rest : List Nat} {t i : Nat} {l : List Nat} {ag : Array Bool} {st : St} {K : Array Bool → St → Prop} {op : Op} {x : X} {j dj : Nat} {want : Bool} (ho : ops[i]? = some ⟨some d, op, ty, pos, af, some (j, want)⟩)
  (hB : (Region.noSelect ops && Region.free .any ops ag i && (Region.ready .any ops ag).contains i) = true)
  (hj : (ops[j]?).bind (·.dst) = some dj) (pP : dj < N.n) (hx : look st.a7 dj = some (.v (.bool want))) (hy : Yields P N st ⟨some d, op, ty, pos, af, some (j, want)⟩ x) (hd : d < N.n)
  (k : AQ P N ops l0 rest t l (ag.setIfInBounds i true) (st.put d x) K) : AQ P N ops l0 rest t (i :: l) ag st K := by
 intro h4 G hn a w hh
 obtain ⟨E, RR, rfl, hi⟩ := hh
 obtain ⟨u, hr, iK⟩ := hy G E RR a hn hi
 simp only [Bool.and_eq_true] at hB
 obtain ⟨⟨h1, h2⟩, h3⟩ := hB
 have h5 := h4.step (j := i) (by simpa using h3) (by simp)
 rw [List.erase_cons_head] at h5
 have hs := hi.a7 dj _ hx
 simp only [RX] at hs
 have et : dj < a.tmps.size := by rw [hi.tmps, hn]; exact pP
 have hv : a.tmps[dj]? = some (.bool want) := by
  have := hs.1
  simp only [Array.getD, et, dif_pos] at this
  rw [Array.getElem?_eq_getElem et]
  exact congrArg some this
 have hw : Region.wanted ⟨some d, op, ty, pos, af, some (j, want)⟩ (yielded ops a.tmps) = true := by
  simp [Region.wanted, yielded, hj, hv]
 exact jY.first ho h1 l.length l ag a rfl h4 (Region.free_spec ho h2) (by simpa using h3) (v := u) (.inl ⟨hw, .inl hr⟩) (k h5 G hn _ _ ⟨E, _, rfl, hi.fg (hn ▸ hd) iK⟩)
theorem aR.bj (l rest : List Nat) (t : Nat) {m n : Nat} (hm : m = l.length + n) {ag : Array Bool} {st : St} {K : St → Prop} (hB : CK ops l rest t ag = true)
  (h : AQ P N ops l rest t l ag st (fun oo aW => aR P N ops n oo aW K)) : aR P N ops m ag st K := by
 subst hm
 intro G hn a w hh
 refine jY.any (fun oo a' ⟨aW, hk, gf⟩ => ?_) l.length ag a (h (Ad hB) G hn a w hh)
 exact hk G hn a' w gf
end
end Go.AW
namespace Go.AW
open Go
section
variable {P : Program} {N : dV} {st : St} {Q : Exit → St → Prop} {all : Array Oper} {rest : List Oper} {d : Nat} {ty : TypeId} {pos : String} {af : Array Edge}
theorem Inv.nM {G : Ctx} {E : Env} {RR : Own → List Nat} {a : Act} (hi : Inv G E RR st a) {tv : Nat} {x : X} (hy : look st.a7 tv = some x) (hd : d < G.fn.n) :
  ∃ eC, Inv G E eC ((st.put tv .no).put d x) (a.put (some d) (a.eval (.tmp tv))) := by
 have hv := hi.a7 tv _ hy
 have jT := hi.no tv
 refine ⟨_, jT.put (R := RR (.slot tv)) hd hv (hi.nodup _) (fun b hb => ⟨(hi.own _ _ hb).1, (hi.own _ _ hb).2, fun p _ hp => ?_⟩)⟩
 unfold e9 at hp
 split at hp
 ·cases hp
 ·rename_i h; exact hi.apart _ _ h b hp hb
theorem aa.bh {tv : Nat} {x : X} (hy : look st.a7 tv = some x) (hd : d < N.n) (k : aa P N all rest ((st.put tv .no).put d x) Q) :
  aa P N all (⟨some d, .assign (.tmp tv), ty, pos, af, none⟩ :: rest) st Q :=
 aa.wO (fun G E RR a hn hi => let ⟨eC, h⟩ := hi.nM hy (by rw [hn]; exact hd); ⟨a.eval (.tmp tv), E, eC, rfl, h⟩) k
theorem aa.nM {tv : Nat} {x : X} (hy : look st.a7 tv = some x) (hd : d < N.n) (k : aa P N all rest ((st.put tv .no).put d x) Q) :
  aa P N all (⟨some d, .move (.tmp tv), ty, pos, af, none⟩ :: rest) st Q :=
 aa.wO (fun G E RR a hn hi => let ⟨eC, h⟩ := hi.nM hy (by rw [hn]; exact hd); ⟨a.eval (.tmp tv), E, eC, rfl, h⟩) k
theorem dL.uR {E : Env} : ∀ {xs : List X} {cs : List Value} {R : List Nat} {k : Nat} {x : X}, dL E xs cs R → xs[k]? = some x →
  ∃ u Ra Rk Rb, cs[k]? = some u ∧ RX E x u Rk ∧ R = Ra ++ (Rk ++ Rb) ∧ dL E (xs.set k .no) cs (Ra ++ Rb)
 | [], _, _, _, _, _, h => by simp at h
 | y :: r, cs, R, 0, x, h, hx => by
  simp only [dL] at h
  simp only [List.getElem?_cons_zero, Option.some.injEq] at hx
  subst hx
  obtain ⟨c, c1, R₁, R₂, rfl, h1, h2, rfl⟩ := h
  refine ⟨c, [], R₁, R₂, rfl, h1, rfl, ?_⟩
  simp only [List.set_cons_zero, dL, List.nil_append]
  exact ⟨c, c1, [], R₂, rfl, by simp [RX], h2, rfl⟩
 | y :: r, cs, R, k + 1, x, h, hx => by
  simp only [dL] at h
  obtain ⟨c, c1, R₁, R₂, rfl, h1, h2, rfl⟩ := h
  obtain ⟨u, Ra, Rk, Rb, hu, h3, rfl, h4⟩ := dL.uR (k := k) h2 (by simpa using hx)
  refine ⟨u, R₁ ++ Ra, Rk, Rb, by simpa using hu, h3, by simp, ?_⟩
  simp only [List.set_cons_succ, dL]
  exact ⟨c, c1, R₁, Ra ++ Rb, rfl, h1, h4, by simp⟩
theorem aa.jx {tv : Nat} {xs : List X} {y : X} {k : Nat} (hx : look st.a7 tv = some (.tup xs)) (hy : xs[k]? = some y) (hd : d < N.n)
  (kk : aa P N all rest ((st.put tv (.tup (xs.set k .no))).put d y) Q) : aa P N all (⟨some d, .extract (.tmp tv) k, ty, pos, af, none⟩ :: rest) st Q := by
 refine aa.wO (fun G E RR a hn hi => ?_) kk
 have hp := hi.a7 tv _ hx
 have iP := hi.nodup (.slot tv)
 simp only [RX] at hp
 obtain ⟨cs, hc, eU⟩ := hp
 obtain ⟨u, Ra, Rk, Rb, hu, h1, hR, h2⟩ := dL.uR eU hy
 have cF : ∀ b ∈ Ra ++ Rb, b ∈ RR (.slot tv) := by
  intro b hb
  rw [hR]
  rcases List.mem_append.1 hb with h | h
  ·exact bO h
  ·exact bI (bI h)
 have xr : ∀ b ∈ Rk, b ∈ RR (.slot tv) := fun b hb => by rw [hR]; exact bI (bO hb)
 rw [hR, List.nodup_append, List.nodup_append] at iP
 obtain ⟨O2, ⟨HZ, CG, Jl⟩, Cy⟩ := iP
 have FA : (Ra ++ Rb).Nodup := List.nodup_append.2 ⟨O2, CG, fun x hx y hy => Cy x hx y (bI hy)⟩
 have jT := hi.relabel (d := tv) (x := .tup (xs.set k .no)) (R := Ra ++ Rb) (by simp only [RX]; exact ⟨cs, hc, h2⟩) FA
  (fun b hb => ⟨(hi.own _ _ (cF b hb)).1, (hi.own _ _ (cF b hb)).2, fun p hp v9 => hi.apart p (.slot tv) hp b v9 (cF b hb)⟩)
 refine ⟨u, E, _, ?_, jT.put (R := Rk) (by rw [hn]; exact hd) h1 HZ (fun b hb => ⟨(hi.own _ _ (xr b hb)).1, (hi.own _ _ (xr b hb)).2, fun p _ v9 => ?_⟩)⟩
 ·show (do let z ← Instr.extract (a.eval (.tmp tv)) k; pure (Next.value z) : Sem Next).run P E.w = _
  have mo : a.eval (.tmp tv) = .tuple cs := hc
  rw [mo]
  refine cE ?_
  have wy : cs[k]? = some u := by simpa using hu
  simp only [Instr.extract, wy]; rfl
 ·unfold e9 at v9
  split at v9
  ·rcases List.mem_append.1 v9 with h | h
   ·exact Cy b h b (bO hb) rfl
   ·exact Jl b hb b h rfl
  ·rename_i h; exact hi.apart _ _ h b v9 (xr b hb)
end
end Go.AW
namespace Go.AW
open Go
section
variable {P : Program} {N : dV} {st : St} {Q : Exit → St → Prop} {all : Array Oper} {rest : List Oper} {d : Nat} {ty : TypeId} {pos : String} {af : Array Edge}
end
end Go.AW
namespace Go.AW
open Go
mutual
def X.mj (o : Nat) (row : List X) : X → X
 | .ptr p s i k => bif Nat.beq p o && Nat.beq (i * s) 0 then .fp row k else .ptr p s i k
 | .agg xs => .agg (X.jD o row xs)
 | .tup xs => .tup (X.jD o row xs)
 | .gd f a b => .gd f (X.jD o row a) (X.jD o row b)
 | .v u => .v u
 | .no => .no
 | .fz s rs => .fz s rs
 | .di s rs => .di s rs
 | .aY p s l n => .aY p s l n
 | .mref p => .mref p
 | .fp r k => .fp r k
def X.jD (o : Nat) (row : List X) : List X → List X
 | [] => []
 | x :: r => X.mj o row x :: X.jD o row r
end
def Obj.mj (o : Nat) (row : List X) : Obj → Obj
 | .cells xs => .cells (X.jD o row xs)
 | ob => ob
mutual
theorem X.xt {o : Nat} {row : List X} : ∀ {x : X}, x.free = true → (x.mj o row).free = true
 | .ptr p s i k, _ => by
  simp only [X.mj]
  cases Nat.beq p o && Nat.beq (i * s) 0 <;> rfl
 | .agg xs, h => X.jE (xs := xs) h
 | .tup xs, h => X.jE (xs := xs) h
 | .gd f a b, _ => rfl
 | .v u, _ | .no, _ | .fz s rs, _ | .aY p s l n, _ | .mref p, _ | .fp r k, _ => rfl
theorem X.jE {o : Nat} {row : List X} : ∀ {xs : List X}, X.bc xs = true → X.bc (X.jD o row xs) = true
 | [], _ => rfl
 | x :: r, h => by
  simp only [X.bc, Bool.and_eq_true] at h
  simp only [X.jD, X.bc, X.xt h.1, X.jE h.2, Bool.and_self]
end
theorem X.sf {o : Nat} {row : List X} : ∀ {xs : List X}, (X.jD o row xs).length = xs.length
 | [] => rfl
 | x :: r => by simp [X.jD, X.sf (xs := r)]
mutual
theorem RX.mj {E E' : Env} {o : Nat} {row : List X} {B : Bw} (hB : E.β o = some B) (hF : RF E' row B.b B.off) (hβ : E'.β = E.β) : ∀ (x : X) (c : Value) (R : List Nat), E.On E' R → RX E x c R → RX E' (x.mj o row) c R
 | .ptr p s i k, c, R, hE, h => by
  simp only [X.mj]
  cases hc : Nat.beq p o && Nat.beq (i * s) 0 with
  | false => simp only [cond_false]; exact RX.mono _ c R hE (fun q _ => by rw [hβ]) h
  | true =>
   simp only [Bool.and_eq_true] at hc
   have h1 := Nat.eq_of_beq_eq_true hc.1
   have h2 := Nat.eq_of_beq_eq_true hc.2
   subst h1
   simp only [cond_true, RX] at h ⊢
   obtain ⟨hR, B', g7, rfl⟩ := h
   rw [hB] at g7
   obtain rfl := Option.some.inj g7
   exact ⟨hR, B.b, B.off, by rw [h2, Nat.zero_add], hF⟩
 | .agg xs, c, R, hE, h => by
  simp only [RX, X.mj] at h ⊢
  obtain ⟨cs, hc, hs⟩ := h
  exact ⟨cs, hc, br.mj hB hF hβ xs _ R hE hs⟩
 | .tup xs, c, R, hE, h => by
  simp only [RX, X.mj] at h ⊢
  obtain ⟨cs, hc, hs⟩ := h
  exact ⟨cs, hc, dL.mj hB hF hβ xs _ R hE hs⟩
 | .gd fn a b, c, R, hE, h => by
  simp only [RX, X.mj] at h ⊢
  obtain ⟨hR, f, cc, hc, h1, h2⟩ := h
  exact ⟨hR, f, cc, hc, dL.mj hB hF hβ a _ [] (hE.sub (by simp)) h1, dL.mj hB hF hβ b _ [] (hE.sub (by simp)) h2⟩
 | .v u, c, R, hE, h => RX.mono (.v u) c R hE (fun q _ => by rw [hβ]) h
 | .no, c, R, hE, h => RX.mono .no c R hE (fun q _ => by rw [hβ]) h
 | .fz s rs, c, R, hE, h => RX.mono (.fz s rs) c R hE (fun q _ => by rw [hβ]) h
 | .di s rs, c, R, hE, h => RX.mono (.di s rs) c R hE (fun q _ => by rw [hβ]) h
 | .aY p s l n, c, R, hE, h => RX.mono (.aY p s l n) c R hE (fun q _ => by rw [hβ]) h
 | .mref p, c, R, hE, h => RX.mono (.mref p) c R hE (fun q _ => by rw [hβ]) h
 | .fp r k, c, R, hE, h => RX.mono (.fp r k) c R hE (fun q _ => by rw [hβ]) h
theorem br.mj {E E' : Env} {o : Nat} {row : List X} {B : Bw} (hB : E.β o = some B) (hF : RF E' row B.b B.off) (hβ : E'.β = E.β) : ∀ (xs : List X) (cs : List Value) (R : List Nat), E.On E' R → br E xs cs R → br E' (X.jD o row xs) cs R
 | [], _, _, _, h => by simpa [br, X.jD] using h
 | x :: r, cs, R, hE, h => by
  simp only [br, X.jD] at h ⊢
  obtain ⟨c, c1, R₁, R₂, hc, hs, h1, h2, hR⟩ := h
  subst hR
  exact ⟨c, c1, R₁, R₂, hc, hs, RX.mj hB hF hβ x c R₁ (hE.sub (fun _ h => bO h)) h1, br.mj hB hF hβ r c1 R₂ (hE.sub (fun _ h => bI h)) h2, rfl⟩
theorem dL.mj {E E' : Env} {o : Nat} {row : List X} {B : Bw} (hB : E.β o = some B) (hF : RF E' row B.b B.off) (hβ : E'.β = E.β) : ∀ (xs : List X) (cs : List Value) (R : List Nat), E.On E' R → dL E xs cs R → dL E' (X.jD o row xs) cs R
 | [], _, _, _, h => by simpa [dL, X.jD] using h
 | x :: r, cs, R, hE, h => by
  simp only [dL, X.jD] at h ⊢
  obtain ⟨c, c1, R₁, R₂, hc, h1, h2, hR⟩ := h
  subst hR
  exact ⟨c, c1, R₁, R₂, hc, RX.mj hB hF hβ x c R₁ (hE.sub (fun _ h => bO h)) h1, dL.mj hB hF hβ r c1 R₂ (hE.sub (fun _ h => bI h)) h2, rfl⟩
theorem RO.mj {E E' : Env} {o : Nat} {row : List X} {B : Bw} (hB : E.β o = some B) (hF : RF E' row B.b B.off) (hβ : E'.β = E.β) : ∀ (xs : List X) (cs : Array Value) (off : Nat) (R : List Nat), E.On E' R → RO E xs cs off R → RO E' (X.jD o row xs) cs off R
 | [], _, _, _, _, h => by simpa [RO, X.jD] using h
 | x :: r, cs, off, R, hE, h => by
  simp only [RO, X.jD] at h ⊢
  obtain ⟨u, R₁, R₂, hu, hs, h1, h2, hR⟩ := h
  subst hR
  exact ⟨u, R₁, R₂, hu, hs, RX.mj hB hF hβ x u R₁ (hE.sub (fun _ h => bO h)) h1, RO.mj hB hF hβ r cs (off + 1) R₂ (hE.sub (fun _ h => bI h)) h2, rfl⟩
end
def Jm (o : Nat) (row : List X) (l : List (Nat × X)) : List (Nat × X) := l.map fun p => (p.1, p.2.mj o row)
def Jn (o : Nat) (row : List X) (l : List (Nat × Obj)) : List (Nat × Obj) := l.map fun p => (p.1, p.2.mj o row)
theorem mY {α β : Type} {f : α → β} : ∀ {l : List (Nat × α)} {s : Nat} {y : β}, look (l.map fun p => (p.1, f p.2)) s = some y → ∃ x, look l s = some x ∧ y = f x
 | [], _, _, h => by cases h
 | (t, x) :: r, s, y, h => by
  simp only [List.map_cons, look] at h ⊢
  cases hb : Nat.beq t s with
  | true => rw [hb] at h; simp only [cond_true, Option.some.injEq] at h ⊢; exact ⟨x, rfl, h.symm⟩
  | false => rw [hb] at h; simp only [cond_false] at h ⊢; exact mY h
section
variable {N : dV} {st : St}
theorem Sh.m0 (o : Nat) {xs : List X} (ho : look st.aA o = some (.cells xs)) (hn : X.fm xs = true) : Sh N st ⟨Jm o xs st.a7, (o, .gone) :: Jn o xs st.aA⟩ := by
 intro G _ a w hh
 obtain ⟨E, RR, rfl, hi⟩ := hh
 have aP := hi.aA o _ ho
 simp only [dD] at aP
 obtain ⟨oc, B, cs, ty, hB, hw, hφ, hlen, iJ, gM⟩ := aP
 have fP : ∀ i v, cs[i]? = some v → (E.eZ (fun b => b = B.b)).φ B.b i = some v := by
  intro i v h
  rw [gX E (LB := fun b => b = B.b) rfl]
  unfold World.cell?
  simp [hw, h]
 have hle : ∀ c i v, E.φ c i = some v → (E.eZ (fun b => b = B.b)).φ c i = some v := by
  intro c i v h
  by_cases hc : c = B.b
  ·subst hc; rw [hφ i] at h; cases h
  ·rw [ea E (LB := fun b => b = B.b) hc]; exact h
 have hF : RF (E.eZ (fun b => b = B.b)) xs B.b B.off := by
  have h1 := RO.lN (E := E) (E' := E.eZ (fun b => b = B.b)) xs cs B.b B.off [] fP ⟨rfl, rfl, hle, fun _ h => by cases h⟩ hn iJ
  rw [X.jC oc] at h1
  exact h1
 have mu : ∀ p, p ≠ .obj o → B.b ∉ RR p := fun p hp hb => hi.apart p (.obj o) hp _ hb (by rw [gM]; simp)
 have gL : ∀ p, p ≠ .obj o → E.On (E.eZ (fun b => b = B.b)) (RR p) := by
  intro p hp
  refine ⟨hle, fun c hc => ⟨rfl, fun h i => ?_⟩⟩
  rw [ea E (LB := fun b => b = B.b) (fun e => mu p hp (e ▸ hc))]; exact h i
 have w8 : B.b ∈ RR (.obj o) := by rw [gM]; simp
 have l3 : ∀ p, p ≠ .obj o → e9 RR (.obj o) [] p = RR p := fun p hp => by simp [e9, hp]
 have cF : ∀ p, ∀ b ∈ e9 RR (.obj o) [] p, b ∈ RR p := by
  intro p b hb
  unfold e9 at hb
  split at hb
  ·cases hb
  ·exact hb
 refine ⟨E.eZ (fun b => b = B.b), e9 RR (.obj o) [], rfl, { hi with kh := ?_, a7 := ?_, aA := ?_, nodup := ?_, apart := ?_, own := ?_, φ0 := ?_, grow := ?_ }⟩
 ·intro c i v h
  by_cases hc : c = B.b
  ·rw [gX E (LB := fun b => b = B.b) hc] at h; exact h
  ·rw [ea E (LB := fun b => b = B.b) hc] at h; exact hi.kh c i v h
 ·intro s x hx
  obtain ⟨y, hy, rfl⟩ := mY (f := X.mj o xs) hx
  rw [l3 _ (by simp)]
  exact RX.mj hB hF rfl y _ _ (gL _ (by simp)) (hi.a7 s y hy)
 ·intro q ob aP
  simp only [look] at aP
  cases hq : Nat.beq o q with
  | true =>
   rw [hq] at aP
   simp only [cond_true, Option.some.injEq] at aP
   obtain rfl := Nat.eq_of_beq_eq_true hq
   subst aP
   simp [dD, e9]
  | false =>
   rw [hq] at aP
   simp only [cond_false] at aP
   have eB : q ≠ o := fun e => by subst e; simp at hq
   obtain ⟨td, zX, rfl⟩ := mY (f := Obj.mj o xs) aP
   rw [l3 _ (by simp [eB])]
   have h1 := hi.aA q td zX
   have pO := gL (.obj q) (by simp [eB])
   cases td with
   | cells ys =>
    simp only [dD, Obj.mj] at h1 ⊢
    obtain ⟨h1, B', c1, Mn, h2, h3, h4, h5, h6, h7⟩ := h1
    exact ⟨X.jE h1, B', c1, Mn, h2, h3, (pO.2 B'.b (by rw [h7]; simp)).2 h4, by rw [X.sf]; exact h5, RO.mj hB hF rfl ys c1 _ [] (pO.sub (fun _ h => by cases h)) h6, h7⟩
   | rows s rs => exact dD.mono pO rfl (fun _ _ _ _ => rfl) h1
   | tk es => exact dD.mono pO rfl (fun _ _ _ _ => rfl) h1
   | gone => exact dD.mono pO rfl (fun _ _ _ _ => rfl) h1
 ·intro p
  unfold e9
  split
  ·exact List.nodup_nil
  ·exact hi.nodup p
 ·intro p q kj b hb fe
  exact hi.apart p q kj b (cF p b hb) (cF q b fe)
 ·intro p b hb
  exact hi.own p b (cF p b hb)
 ·intro c i v h
  exact hle c i v (hi.φ0 c i v h)
 ·intro c i v h
  by_cases hc : c = B.b
  ·subst hc; exact .inr (hi.own _ _ w8).2
  ·rw [ea E (LB := fun b => b = B.b) hc] at h; exact hi.grow c i v h
end
section
variable {P : Program} {N : dV} {st : St} {Q : Exit → St → Prop} {all : Array Oper} {rest : List Oper} {dst : Option Nat} {d : Nat} {ty : TypeId} {pos : String} {af : Array Edge} {g : Option (Nat × Bool)}
theorem oJ {G : Ctx} {E : Env} {RR : Own → List Nat} {a : Act} (hi : Inv G E RR st a) : ∀ {l : List Operand} {xs : List X}, iL st l = some xs → X.bc xs = true → dL E xs (l.map a.eval) []
 | [], xs, h, _ => by simp only [iL, Option.some.injEq] at h; subst h; simp [dL]
 | o :: r, xs, h, hf => by
  simp only [iL] at h
  cases h1 : bx st o with
  | none => simp [h1] at h
  | some y =>
   cases h2 : iL st r with
   | none => simp [h1, h2] at h
   | some ys =>
    rw [h1, h2] at h
    simp only [Option.some.injEq] at h
    subst h
    simp only [X.bc, Bool.and_eq_true] at hf
    obtain ⟨R, hR⟩ := hi.eval h1
    have h0 := RX.free hf.1 hR
    subst h0
    simp only [List.map_cons, dL]
    exact ⟨_, _, [], [], rfl, hR, oJ hi h2 hf.2, rfl⟩
theorem Y.zc {fn : Fn} {first mO : Array Operand} {xs ys : List X} (hx : iL st first.toList = some xs) (hy : iL st mO.toList = some ys) (En : X.bc xs = true) (O3 : X.bc ys = true) :
  Yields P N st ⟨dst, .makeFunc fn first mO, ty, pos, af, g⟩ (.gd fn xs ys) := by
 intro G E RR a _ hi
 refine ⟨.func fn (first.map a.eval) (mO.map a.eval), rfl, ?_⟩
 simp only [RX]
 refine ⟨trivial, _, _, rfl, ?_, ?_⟩
 ·rw [Array.toList_map]; exact oJ hi hx En
 ·rw [Array.toList_map]; exact oJ hi hy O3
theorem aa.CL {f : FuncId} {x : Operand} {bL : Array Operand} {mh : Array TypeId} {mO xs args : List X} {aA : List Obj} {F : List Nat} {Q' : X → List Obj → Prop} (ν L : List Nat) (hx : bx st x = some (.gd (.func f) [] mO)) (mi : aM P f = true) (fj : al P f args aA F Q')
  (eU : iL st bL.toList = some xs) (dW : cV st L (bz ν) (xs ++ mO) args) (my : lL st (bz ν) 0 aA) (hlen : ν.length = aA.length) (xc : ν.Nodup) (zS : ∀ o ∈ L, o ∉ ν)
  (h0 : ∀ o ∈ L, ∃ ob, look st.aA o = some ob ∧ iQ ob) (zT : ∀ o ∈ loose ν F, N.F.elem o = false) (hd : d < N.n)
  (k : ∀ r aD, Q' r aD → aD.length = aA.length → (r.lt aA.length = true ∧ (∀ ob ∈ aD, ob.lt aA.length = true) ∧ (L = [] ∨ (r.plain ∧ ∀ ob ∈ aD, ob.plain))) ∧ aa P N all rest ((ku st ν F aD).put d (r.eD (bz ν))) Q) :
  aa P N all (⟨some d, .call ⟨.value x, bL, mh⟩, ty, pos, af, none⟩ :: rest) st Q := by
 intro G hn a w hh
 obtain ⟨E, RR, rfl, hi⟩ := hh
 obtain ⟨Rx, En⟩ := hi.eval hx
 simp only [RX] at En
 obtain ⟨_, ff, cc, O4, Mo, Mp⟩ := En
 simp only [dL] at Mo
 have Jo : ff = #[] := by
  have := Mo.1
  cases ff; simp_all
 subst Jo
 obtain ⟨uO, BE⟩ := mx hi eU
 have qR : mO.length = cc.toList.length := by
  have : ∀ {l : List X} {c : List Value} {R : List Nat}, dL E l c R → l.length = c.length := by
   intro l
   induction l with
   | nil => intro c R h; simp only [dL] at h; rw [h.1]; rfl
   | cons y r ih =>
    intro c R h
    simp only [dL] at h
    obtain ⟨_, c', _, _, rfl, _, h2, _⟩ := h
    simp [ih h2]
  exact this Mp
 have hc := hi.BD (vs := bL.toList.map a.eval ++ cc.toList) fj (by simp only [List.length_append, List.length_map]; omega) (fun j y hy => by
  rcases Nat.lt_or_ge j xs.length with hj | hj
  ·rw [List.getElem?_append_left hj] at hy
   obtain ⟨o, ho, R, hR⟩ := BE j y hy
   exact ⟨a.eval o, by rw [List.getElem?_append_left (by rw [List.length_map]; omega)]; simp [ho], R, hR⟩
  ·rw [List.getElem?_append_right hj] at hy
   obtain ⟨u, R, hu, hR⟩ := dL.get Mp hy
   exact ⟨u, by rw [List.getElem?_append_right (by rw [List.length_map]; omega), List.length_map, ← uO]; exact hu, R, hR⟩) dW
  (fun j ob h => by have := my.get j ob h; rwa [Nat.zero_add] at this) hlen xc zS h0 (fun o ho => by rw [hn]; exact zT o ho) (d := d) (by rw [hn]; exact hd)
 have gh : (execOp a.eval ⟨some d, .call ⟨.value x, bL, mh⟩, ty, pos, af, none⟩).run P E.w = .ok (.enter f (bL.toList.map a.eval ++ cc.toList).toArray) E.w := by
  have e : (execOp a.eval ⟨some d, .call ⟨.value x, bL, mh⟩, ty, pos, af, none⟩).run P E.w = (do let d ← Deferred.ofValue (a.eval x) (bL.map a.eval); invoke d.target d.args : Sem Next).run P E.w := rfl
  rw [e, O4]
  have e2 : (do let d ← Deferred.ofValue (.func (.func f) #[] cc) (bL.map a.eval); invoke d.target d.args : Sem Next).run P E.w = (callFunc f ((#[] ++ bL.map a.eval) ++ cc)).run P E.w := rfl
  rw [e2, oE mi]
  congr 2
  apply Array.ext'
  simp
 refine wpList_plain rfl fun K hK => ?_
 simp only [Oper.wp, gh, Oper.upon_enter]
 refine hc.mono ?_
 rintro e w' ⟨v, r, aD, rfl, Fo, uF, xg⟩
 obtain ⟨⟨h1, h2, h3⟩, hk⟩ := k r aD Fo uF
 obtain ⟨jt, qW, hw, hI⟩ := xg h1 h2 h3
 exact hK _ _ (hk G hn _ _ ⟨jt, qW, hw, hI⟩)
theorem aa.jF {f : FuncId} {x : Operand} {bL : Array Operand} {mh : Array TypeId} {mO xs args : List X} {R : X} (hx : bx st x = some (.gd (.func f) [] mO)) (mi : aM P f = true) (fj : al P f args [] [] (fun r o => r = R ∧ o = []))
  (eU : iL st bL.toList = some xs) (dW : cV st [] (bz []) (xs ++ mO) args) (hd : d < N.n) (gK : R.lt 0 = true)
  (k : aa P N all rest (st.put d R) Q) : aa P N all (⟨some d, .call ⟨.value x, bL, mh⟩, ty, pos, af, none⟩ :: rest) st Q := by
 refine aa.CL [] [] hx mi fj eU dW trivial rfl List.nodup_nil (fun _ h => by cases h) (fun _ h => by cases h) (fun _ h => by cases h) hd ?_
 rintro r aD ⟨rfl, rfl⟩ _
 refine ⟨⟨gK, fun _ h => (by cases h), .inl rfl⟩, ?_⟩
 rw [lK, X.oh gK]; exact k
end
section
variable {P : Program} {N : dV} {ops : Array Oper} {st : St} {d : Nat} {ag : Array Bool} {n : Nat} {K : St → Prop} {KK : Array Bool → St → Prop} {l0 rest l : List Nat} {t : Nat}
theorem aR.le {aW : St} (hl : Le st aW) (h : aR P N ops n ag aW K) : aR P N ops n ag st K := fun G hn a w hh => h G hn a w (hl.holds hh)
theorem aR.split {b : Bool} (hx : look st.a7 d = some (.v (.bool b))) (ht : b = true → aR P N ops n ag (st.put d (.v (.bool true))) K) (hf : b = false → aR P N ops n ag (st.put d (.v (.bool false))) K) : aR P N ops n ag st K := by
 have : Le st (st.put d (.v (.bool b))) := ⟨eO.cons hx (fun _ _ h => h), fun _ _ h => h⟩
 cases b
 ·exact (hf rfl).le this
 ·exact (ht rfl).le this
theorem aR.ax {p : Prop} {inst : Decidable p} (hx : look st.a7 d = some (.v (.bool (decide p)))) (ht : p → aR P N ops n ag (st.put d (.v (.bool true))) K) (hf : ¬ p → aR P N ops n ag (st.put d (.v (.bool false))) K) : aR P N ops n ag st K :=
 aR.split hx (fun h => ht (of_decide_eq_true h)) (fun h => hf (of_decide_eq_false h))
theorem AQ.le {aW : St} (hl : Le st aW) (h : AQ P N ops l0 rest t l ag aW KK) : AQ P N ops l0 rest t l ag st KK := fun ho G hn a w hh => h ho G hn a w (hl.holds hh)
theorem AQ.split {b : Bool} (hx : look st.a7 d = some (.v (.bool b))) (ht : b = true → AQ P N ops l0 rest t l ag (st.put d (.v (.bool true))) KK) (hf : b = false → AQ P N ops l0 rest t l ag (st.put d (.v (.bool false))) KK) : AQ P N ops l0 rest t l ag st KK := by
 have : Le st (st.put d (.v (.bool b))) := ⟨eO.cons hx (fun _ _ h => h), fun _ _ h => h⟩
 cases b
 ·exact (hf rfl).le this
 ·exact (ht rfl).le this
theorem AQ.ax {p : Prop} {inst : Decidable p} (hx : look st.a7 d = some (.v (.bool (decide p)))) (ht : p → AQ P N ops l0 rest t l ag (st.put d (.v (.bool true))) KK) (hf : ¬ p → AQ P N ops l0 rest t l ag (st.put d (.v (.bool false))) KK) : AQ P N ops l0 rest t l ag st KK :=
 AQ.split hx (fun h => ht (of_decide_eq_true h)) (fun h => hf (of_decide_eq_false h))
end
def ba (b : ByteArray) (m : Nat) : Nat := (b.data.toList.getD m 0).toNat
theorem Y.qv {P : Program} {N : dV} {st : St} {dst : Option Nat} {ty : TypeId} {pos : String} {af : Array Edge} {g : Option (Nat × Bool)} {t : TypeId} {x ix : Operand} {b : ByteArray} {k : IntKind} {n : Int} {m : Nat} (ht : P.underlying t = some .string) (hx : bx st x = some (.v (.string b)))
  (tl : bx st ix = some (.v (.int k n))) (hn : n = (m : Int)) (hm : m < b.size) : Yields P N st ⟨dst, .index t x ix, ty, pos, af, g⟩ (.v (.int .u8 ((ba b m : Nat) : Int))) := by
 have h := Y.qu (P := P) (N := N) (st := st) (dst := dst) (ty := ty) (pos := pos) (af := af) (g := g) ht hx tl hn hm
 have e : b[m].toNat = ba b m := by
  unfold ba
  have : b.data.toList.getD m 0 = b[m] := by
   rw [List.getD_eq_getElem?_getD, List.getElem?_eq_getElem (by simpa using hm)]
   rfl
  rw [this]
 rw [e] at h
 exact h
theorem xu (b : ByteArray) (m : Nat) : ba b m ≤ 255 := by
 unfold ba
 have := (b.data.toList.getD m 0).toNat_lt
 omega
end Go.AW
namespace Go.AW
open Go
theorem vG (n : Nat) : IntKind.u64.wrap (n : Int) = ((n % 18446744073709551616 : Nat) : Int) := by
 simp [IntKind.wrap, IntKind.bits, IntKind.signed]
theorem xv (n : Nat) (h : n < 18446744073709551616) : IntKind.u64.wrap (n : Int) = (n : Int) := by rw [vG, Nat.mod_eq_of_lt h]
theorem vH (n : Int) (h : 0 ≤ n ∧ n ≤ 18446744073709551615) : IntKind.u64.wrap n = ((n.toNat : Nat) : Int) := by rw [IntWalk.u64_in n h]; omega
theorem si (n w : Nat) : BitVec.ofInt w (n : Int) = BitVec.ofNat w n := by
 apply BitVec.eq_of_toNat_eq
 simp [BitVec.toNat_ofInt, BitVec.toNat_ofNat]
section
variable {P : Program} {N : dV} {st : St} {dst : Option Nat} {ty : TypeId} {pos : String} {af : Array Edge} {g : Option (Nat × Bool)} {t t' : TypeId} {x y : Operand} {a b : Nat}
theorem Y.qd (hx : bx st x = some (.v (.int .u64 (a : Int)))) (hy : bx st y = some (.v (.int .u64 (b : Int)))) (hr : a < 18446744073709551616 ∧ b < 18446744073709551616) : Yields P N st ⟨dst, .binOp .and t x y t', ty, pos, af, g⟩ (.v (.int .u64 ((a &&& b : Nat) : Int))) :=
 Y.qc hx hy (by
  rw [si, si, BitVec.toNat_and, BitVec.toNat_ofNat, BitVec.toNat_ofNat, show 2 ^ IntKind.u64.bits = 18446744073709551616 from rfl, Nat.mod_eq_of_lt hr.1, Nat.mod_eq_of_lt hr.2]
  exact xv _ (Nat.lt_of_le_of_lt Nat.and_le_left hr.1))
theorem vI (a b : Nat) (h : a < 18446744073709551616) : a / 2 ^ (min b 64) = a / 2 ^ b := by
 rcases Nat.le_total b 64 with hb | hb
 ·rw [Nat.min_eq_left hb]
 ·rw [Nat.min_eq_right hb, Nat.div_eq_of_lt h]
  exact (Nat.div_eq_of_lt (Nat.lt_of_lt_of_le h (Nat.pow_le_pow_right (show 0 < 2 by decide) hb))).symm
theorem Y.zs {k' : IntKind} {i : Int} (b : Nat) (hx : bx st x = some (.v (.int .u64 (a : Int)))) (hy : bx st y = some (.v (.int k' i))) (hi : i = (b : Int)) (hr : a < 18446744073709551616) : Yields P N st ⟨dst, .binOp .shr t x y t', ty, pos, af, g⟩ (.v (.int .u64 ((a / 2 ^ b : Nat) : Int))) :=
 Y.zr hx hy om (by
  subst hi
  show (a : Int).fdiv (2 ^ (Min.min b 64)) = _
  have h2 : (0 : Int) ≤ 2 ^ (Min.min b 64) := Int.le_of_lt (Int.pow_pos (show (0 : Int) < 2 by decide))
  rw [← vI a b hr, Int.fdiv_eq_ediv_of_nonneg _ h2]
  norm_cast)
end
end Go.AW
namespace Go.AW
open Go
section
variable {P : Program} {N : dV} {ops : Array Oper} {st : St} {d : Nat} {ty : TypeId} {pos : String} {af : Array Edge} {K : St → Prop}
theorem aR.bM {n : Nat} {ag : Array Bool} (i : Nat) {op : Op} {j dj : Nat} {want : Bool} {u : Value} (ho : ops[i]? = some ⟨some d, op, ty, pos, af, some (j, want)⟩)
  (hB : (Region.noSelect ops && Region.free .any ops ag i && (Region.ready .any ops ag).contains i) = true)
  (hj : (ops[j]?).bind (·.dst) = some dj) (pP : dj < N.n) (hd : d < N.n) (hx : look st.a7 dj = some (.v u)) (eB : oF want u = true)
  (k : aR P N ops n (ag.setIfInBounds i true) (st.put d (.v undef)) K) : aR P N ops (n + 1) ag st K := by
 intro G hn a w hh
 obtain ⟨E, RR, rfl, hi⟩ := hh
 simp only [Bool.and_eq_true] at hB
 have hw := jv (all := ops) (dst := some d) (op := op) (ty := ty) (pos := pos) (af := af) hi hj (hn ▸ pP) hx eB
 refine wpAny_take (v := undef) ho hB.1.1 hB.1.2 hB.2 ?_ (.inr ⟨hw, rfl⟩) (k G hn _ _ ⟨E, _, rfl, hi.fg (hn ▸ hd) (by simp [RX])⟩)
 intro c a w h
 cases h.1
theorem aR.iv {n : Nat} {ag : Array Bool} (i : Nat) {op : Op} {x : X} {j dj : Nat} {want : Bool} (ho : ops[i]? = some ⟨some d, op, ty, pos, af, some (j, want)⟩)
  (hB : (Region.noSelect ops && Region.free .any ops ag i && (Region.ready .any ops ag).contains i) = true)
  (hj : (ops[j]?).bind (·.dst) = some dj) (pP : dj < N.n) (hx : look st.a7 dj = some (.v (.bool want))) (hy : aJ P N st ⟨some d, op, ty, pos, af, some (j, want)⟩ x) (hd : d < N.n)
  (k : aR P N ops n (ag.setIfInBounds i true) (st.put d x) K) : aR P N ops (n + 1) ag st K := by
 intro G hn a w hh
 obtain ⟨E, RR, rfl, hi⟩ := hh
 obtain ⟨u, hr, iK⟩ := hy G E RR a hn hi
 simp only [Bool.and_eq_true] at hB
 have hs := hi.a7 dj _ hx
 simp only [RX] at hs
 have et : dj < a.tmps.size := by rw [hi.tmps, hn]; exact pP
 have hv : a.tmps[dj]? = some (.bool want) := by
  have := hs.1
  simp only [Array.getD, et, dif_pos] at this
  rw [Array.getElem?_eq_getElem et]
  exact congrArg some this
 have hw : Region.wanted ⟨some d, op, ty, pos, af, some (j, want)⟩ (yielded ops a.tmps) = true := by
  simp [Region.wanted, yielded, hj, hv]
 refine wpAny_take (v := u) ho hB.1.1 hB.1.2 hB.2 ?_ (.inl ⟨hw, hr⟩) (k G hn _ _ ⟨E, _, rfl, hi.fg (hn ▸ hd) iK⟩)
 intro c a w h
 cases h.1
end
end Go.AW
namespace Go.AW
open Go
section
variable {P : Program} {N : dV} {G : Ctx} {E : Env} {RR : Own → List Nat} {st : St} {a : Act} {Q : Exit → St → Prop} {all : Array Oper} {rest : List Oper} {d : Nat} {dst : Option Nat} {ty : TypeId} {pos : String} {af : Array Edge} {g : Option (Nat × Bool)}
theorem Y.qh {t e s cy : Nat} {x : Operand} (ht : TY.slice P t = some (e, s, cy)) (hx : bx st x = some (.v (.slice none 0 0))) :
  Yields P N st ⟨dst, .call ⟨.builtin .cap, #[x], #[t]⟩, ty, pos, af, g⟩ (.v (.int .i64 0)) := by
 intro G E RR a _ hi
 refine ⟨.int .i64 0, fC ?_, by simp [RX]⟩
 obtain ⟨hu, _⟩ := TY.c7 ht
 have hc := hi.val hx
 simp [builtin, Builtin.cap_, hc, run_underlying hu, goInt]
theorem Y.zu {t e s cy : Nat} {x : Operand} {lo fL : Option Operand} (ht : TY.slice P t = some (e, s, cy)) (hx : bx st x = some (.v (.slice none 0 0))) (hl : Bd st lo 0 0) (hh : Bd st fL 0 0) :
  Yields P N st ⟨dst, .slice t x lo fL none, ty, pos, af, g⟩ (.v (.slice none 0 0)) := by
 intro G E RR a _ hi
 obtain ⟨tc, i, fh, et, _⟩ := TY.c7 ht
 have hc := hi.val hx
 refine ⟨.slice none 0 0, ?_, by simp [RX]⟩
 show (do let z ← Instr.sliceAt t (a.eval x) (lo.map a.eval) (fL.map a.eval) none; pure (Next.value z) : Sem Next).run P E.w = _
 rw [hc]
 refine cE ?_
 simp only [Instr.sliceAt, Sem.run_bind, run_underlying tc, Result.andThen_ok, Instr.slice, fo hi hl hh (Nat.le_refl 0) (Nat.le_refl 0), run_sizeOf fh, et]
 rfl
theorem aa.tM {t tn e s cy n : Nat} {x y : Operand} {z : List Value} {k kn : IntKind} (ht : TY.slice P t = some (e, s, cy)) (hz : TY.zero P e = some z) (nE : z.length = s) (h1 : X.pJ (z.map X.v) = true) (Mq : TY.isInt P tn = some kn)
  (hx : bx st x = some (.v (.slice none 0 0))) (hy : bx st y = some (.v (.int k (n : Int)))) (h0 : 0 < n) (HY : 0 < s) (hb : n * cy ≤ 281474976710656) (NV : n ≤ 9223372036854775807) (hd : d < N.n)
  (kk : aa P N all rest (st.put d (.di s (List.replicate n (z.map X.v)))) Q) : aa P N all (⟨some d, .call ⟨.builtin .append, #[x, y], #[t, tn]⟩, ty, pos, af, none⟩ :: rest) st Q := by
 refine aa.wO (fun G E RR a hn hi => ?_) kk
 obtain ⟨hu, i, fh, hs, By⟩ := TY.c7 ht
 obtain ⟨i', z0, me, w4, w5⟩ := TY.ez hz
 rw [fh] at me
 obtain rfl := Option.some.inj me
 have rT : z0.cells = z.toArray := by rw [← w5]
 have gh := Lib.run_append_nil_zeros (P := P) E.w t tn ty e i z0 k kn hu (by unfold TY.isInt at Mq; split at Mq <;> simp_all : P.underlying tn = some (.int kn)) fh w4 n h0 (by rw [hs]; exact HY) om (by rw [By]; exact hb)
 rw [rT] at gh
 have hU : bG s (List.replicate n (z.map X.v)) := by
  intro r hr
  rw [(List.mem_replicate.1 hr).2]; simpa using nE
 have jT := hi.uG (ct.drew G E) rfl
 have kl := grownCap_ge E.w n 0 e
 have et : (Builtin.zeroCells z.toArray n ++ Builtin.zeroCells z.toArray (grownCap E.w n 0 e - n)).size = grownCap E.w n 0 e * s := by
  rw [Array.size_append, size_zeroCells, size_zeroCells, ← Nat.add_mul]
  simp only [List.size_toArray, nE]
  congr 1; omega
 obtain ⟨eC, fL⟩ := jT.newRow (cs := Builtin.zeroCells z.toArray n ++ Builtin.zeroCells z.toArray (grownCap E.w n 0 e - n)) (e := e) (s := s) (cap := grownCap E.w n 0 e) (d := d) hU (by rw [List.length_replicate]; exact kl) (by rw [et]; exact Nat.le_refl _) (by
  refine bR.tw hU fun j row hr => ?_
  have hj : j < n := by
   rcases Nat.lt_or_ge j n with h' | h'
   ·exact h'
   ·rw [List.getElem?_eq_none (by rw [List.length_replicate]; exact h')] at hr; cases hr
  have : row = z.map X.v := by
   have := List.mem_of_getElem? hr
   exact (List.mem_replicate.1 this).2
  subst this
  refine ⟨wN z, br.C6 (pY h1) fun q hq => ?_⟩
  have zI : q < s := by simpa [nE] using hq
  have gK : j * s + q < n * s := by
   have : (j + 1) * s ≤ n * s := Nat.mul_le_mul_right s hj
   rw [Nat.add_mul] at this; omega
  have C7 : q < z.length := by omega
  rw [Array.getElem?_append_left (by rw [size_zeroCells]; simp only [List.size_toArray, nE]; omega)]
  simp only [Nat.zero_add, Builtin.zeroCells]
  rw [Array.getElem?_map, Array.getElem?_range, if_pos (by simpa [nE] using gK)]
  simp only [Option.map_some, List.size_toArray, nE, wP zI]
  rw [List.getElem?_eq_getElem C7]
  simp [C7]) (by rw [hn]; exact hd)
 simp only [List.length_replicate] at fL
 refine ⟨_, _, _, ?_, fL⟩
 refine fC (g := none) ?_
 have e' : (#[x, y] : Array Operand).map a.eval = #[.slice none 0 0, .int k (n : Int)] := by simp [hi.val hx, hi.val hy]
 rw [e']
 exact cE gh
theorem Sh.BM {d o s lo n : Nat} {rs : List (List X)} (q7 : List (List X)) (hx : look st.a7 d = some (.aY o s lo n)) (ho : look st.aA o = some (.rows s rs)) (lH : lo + n ≤ rs.length) (he : (rs.drop lo).take n = q7) (hF : N.F.elem o = false) :
  Sh N st (((st.kill o).dE o (.rows s q7)).put d (.aY o s 0 n)) := by subst he; exact Sh.trim hx ho lH hF
end
end Go.AW
