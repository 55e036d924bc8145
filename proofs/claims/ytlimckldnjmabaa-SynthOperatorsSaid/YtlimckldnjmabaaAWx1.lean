/- Part of the abstract walk: contracts, and how the body of a call proves one. -/
import Derived.Test.YtlimckldnjmabaaAWx0
import Derived.StillTail
import Derived.Orders
import Derived.Below
import Derived.Carry
import Derived.Deep.Slices
import Derived.Deep.Fields
import Derived.ChangeSame
import Derived.ChangeSlices
import Derived.SizedLaws
import Derived.Deep.Grids
import Derived.Maps.Keyed
import Derived.DeepKeys4
import Derived.OpenShut
set_option linter.unusedSimpArgs false
set_option linter.unusedVariables false
set_option linter.unusedSectionVars false
namespace Go.AW
open Go
def dG {α : Type} : Nat → List α → List (Nat × α)
 | _, [] => []
 | i, x :: r => (i, x) :: dG (i + 1) r
theorem pM {α : Type} : ∀ (l : List α) (i s : Nat), look (dG i l) s = if i ≤ s then l[s - i]? else none
 | [], i, s => by simp [dG, look]
 | x :: r, i, s => by
  simp only [dG, look]
  cases hb : Nat.beq i s with
  | true => have := Nat.eq_of_beq_eq_true hb; subst this; simp
  | false =>
   have fc := Nat.ne_of_beq_eq_false hb
   simp only [cond_false]
   rw [pM r (i + 1) s]
   by_cases h : i ≤ s
   ·rw [if_pos h, if_pos om, show s - i = (s - (i + 1)) + 1 by omega]; simp
   ·rw [if_neg h, if_neg om]
theorem gT {α : Type} (l : List α) (s : Nat) : look (dG 0 l) s = l[s]? := by
 rw [pM]; simp
def r5 (K : Nat → Prop) (E : Env) (fn : eg) : Ctx := ⟨K, E.w, E.φ, E.β, fn, []⟩
def ak (P : Program) (f : FuncId) (args : List X) (aC : List Obj) (F : List Nat) (Q : X → List Obj → Prop) : Prop :=
 ∀ (K : Nat → Prop) (E : Env) (RR : Own → List Nat) (dB : Array Value), Inv (r5 K E ⟨args.length, F⟩) E RR ⟨dG 0 args, dG 0 aC⟩ ⟨dB, []⟩ →
  Calls P f dB E.w fun e w' => ∃ v r aE, e = .returned v ∧ Q r aE ∧ aE.length = aC.length ∧ ∃ E' fe, E'.w = w' ∧ Inv (r5 K E ⟨1, F⟩) E' fe ⟨[(0, r)], dG 0 aE⟩ ⟨#[v], []⟩
theorem ak.mono {P : Program} {f : FuncId} {args : List X} {aC : List Obj} {F : List Nat} {Q Q' : X → List Obj → Prop} (h : ak P f args aC F Q) (hq : ∀ r o, Q r o → Q' r o) : ak P f args aC F Q' :=
 fun K E RR dB hi => Calls.mono (h K E RR dB hi) fun _ _ ⟨v, r, aE, he, hQ, hl, hx⟩ => ⟨v, r, aE, he, hq _ _ hQ, hl, hx⟩
def su (P : Program) (st : St) : ResultVar → Option X
 | .tmp t => look st.aA t
 | .cell a t => match look st.aA a with
  | some p => match rowAt st p with
   | some row => match TY.shape P t with
    | some none => match row[jZ p]? with
     | some y => bif y.free then some y else none
     | none => none
    | some (some m) => bif Nat.ble (jZ p + m) row.length && X.bj ((row.drop (jZ p)).take m) then some (.agg ((row.drop (jZ p)).take m)) else none
    | none => none
   | none => none
  | none => none
def kC (P : Program) (st : St) : List ResultVar → Option (List X)
 | [] => some []
 | r :: rs => match su P st r, kC P st rs with
  | some x, some xs => some (x :: xs)
  | _, _ => none
def iq : List ResultVar → List Nat
 | [] => []
 | .tmp t :: r => t :: iq r
 | .cell _ _ :: r => iq r
def vh : List X → X
 | [x] => x
 | xs => .tup xs
section
variable {P : Program} {N : eg} {G : Ctx} {E : Env} {RR : Own → List Nat} {st : St} {a : Act}
def ou (tmps : Array Value) (rv : ResultVar) : Sem Value :=
 match rv with
 | .tmp t => pure (tmps.getD t undef)
 | .cell a t => do loadVar t (← asAddr (tmps.getD a undef))
theorem BT (hi : Inv G E RR st a) {rv : ResultVar} {x : X} (h : su P st rv = some x) :
  ∃ c R, (ou a.tmps rv).run P E.w = .ok c E.w ∧ RX E x c R ∧ ((∃ t, rv = .tmp t ∧ R = RR (.slot t)) ∨ R = []) := by
 cases rv with
 | tmp t => exact ⟨_, _, rfl, hi.aA t x h, .inl ⟨t, rfl, rfl⟩⟩
 | cell ad t =>
  simp only [su] at h
  cases hp : look st.aA ad with
  | none => simp [hp] at h
  | some p =>
   rw [hp] at h
   simp only at h
   cases og : rowAt st p with
   | none => simp [og] at h
   | some row =>
    rw [og] at h
    simp only at h
    obtain ⟨b, off, hc, g7⟩ := hi.behind (hi.aA ad p hp) og
    cases hs : TY.shape P t with
    | none => simp [hs] at h
    | some sh =>
     rw [hs] at h
     cases sh with
     | none =>
      simp only at h
      cases hk : row[jZ p]? with
      | none => simp [hk] at h
      | some y =>
       rw [hk] at h
       simp only at h
       cases hf : y.free with
       | false => simp [hf] at h
       | true =>
        rw [hf] at h
        simp only [cond_true, Option.some.injEq] at h
        subst h
        have DG : jZ p < row.length := by
         rcases Nat.lt_or_ge (jZ p) row.length with h' | h'
         ·exact h'
         ·simp [List.getElem?_eq_none h'] at hk
        obtain ⟨vs, R', hl, hv, fR⟩ := g7 (jZ p) 1 om
        rw [getElem?_drop_take_one hk] at fR
        simp only [bt] at fR
        obtain ⟨c, cG, R₁, R₂, E6, _, h1, ⟨rfl, rfl⟩, rfl⟩ := fR
        subst E6
        have h0 := RX.free hf h1
        subst h0
        refine ⟨c, [], ?_, h1, .inr rfl⟩
        have g8 := hv 0 c rfl
        simp only [Nat.add_zero] at g8
        simp [ou, hc, asAddr, loadVar, (TY.jm hs E.w).1, g8]
     | some m =>
      simp only at h
      cases hb : Nat.ble (jZ p + m) row.length && X.bj ((row.drop (jZ p)).take m) with
      | false => simp [hb] at h
      | true =>
       rw [hb] at h
       simp only [cond_true, Option.some.injEq] at h
       subst h
       simp only [Bool.and_eq_true] at hb
       obtain ⟨vs, R', hl, hv, fR⟩ := g7 (jZ p) m (Nat.le_of_ble_eq_true hb.1)
       have h0 := bt.free hb.2 fR
       subst h0
       refine ⟨.agg vs.toArray, [], ?_, by simp only [RX]; exact ⟨_, rfl, fR⟩, .inr rfl⟩
       obtain ⟨h1, h2⟩ := TY.k9 hs E.w
       have h3 : (loadCells ⟨b, off + jZ p, none⟩ m).run P E.w = .ok vs.toArray E.w := by
        rw [← hl]
        exact run_loadCells_list (w := E.w) _ vs fun j v hj => by rw [fO, Nat.add_assoc]; exact hv j v hj
       simp [ou, hc, asAddr, loadVar, h1, h2, h3]
theorem wI (hi : Inv G E RR st a) : ∀ {px : List ResultVar} {xs : List X}, kC P st px = some xs → (iq px).Nodup →
  ∃ cs R, (px.mapM (ou a.tmps)).run P E.w = .ok cs E.w ∧ dU E xs cs R ∧ R.Nodup ∧ (∀ b ∈ R, ∃ t ∈ iq px, b ∈ RR (.slot t))
 | [], xs, h, _ => by
  simp only [kC, Option.some.injEq] at h
  subst h
  exact ⟨[], [], rfl, by simp [dU], List.nodup_nil, fun _ h => by cases h⟩
 | rv :: px, xs, h, hn => by
  simp only [kC] at h
  cases h1 : su P st rv with
  | none => simp [h1] at h
  | some x =>
   cases h2 : kC P st px with
   | none => simp [h1, h2] at h
   | some ys =>
    rw [h1, h2] at h
    simp only [Option.some.injEq] at h
    subst h
    have pF : (iq px).Nodup := by
     cases rv with
     | tmp t => exact (List.nodup_cons.1 hn).2
     | cell _ _ => exact hn
    obtain ⟨c, R1, Qy, Kj, pI⟩ := BT hi h1
    obtain ⟨cs, R2, OF, HF, HG, x7⟩ := wI hi h2 pF
    refine ⟨c :: cs, R1 ++ R2, ?_, ?_, ?_, ?_⟩
    ·rw [List.mapM_cons]
     refine il Qy ?_
     refine il OF rfl
    ·simp only [dU]; exact ⟨c, cs, R1, R2, rfl, Kj, HF, rfl⟩
    ·rcases pI with ⟨t, rfl, rfl⟩ | rfl
     ·rw [List.nodup_append]
      refine ⟨hi.nodup _, HG, fun b hb b' fS e => ?_⟩
      subst e
      obtain ⟨t', Lc, yv⟩ := x7 b fS
      have fc : t ≠ t' := fun e => by subst e; exact (List.nodup_cons.1 hn).1 Lc
      exact hi.apart (.slot t) (.slot t') (by simpa using fc) b hb yv
     ·simpa using HG
    ·intro b hb
     rcases List.mem_append.1 hb with hb | hb
     ·rcases pI with ⟨t, rfl, rfl⟩ | rfl
      ·exact ⟨t, by simp [iq], hb⟩
      ·cases hb
     ·obtain ⟨t, ht, fS⟩ := x7 b hb
      refine ⟨t, ?_, fS⟩
      cases rv with
      | tmp t' => exact List.mem_cons.2 (.inr ht)
      | cell _ _ => exact ht
def kD (l : List (Nat × Obj)) : Nat → Nat → Option (List Obj)
 | _, 0 => some []
 | i, k + 1 => match look l i, kD l (i + 1) k with
  | some ob, some r => some (ob :: r)
  | _, _ => none
theorem ny : ∀ {l : List (Nat × Obj)} {k i : Nat} {r : List Obj}, kD l i k = some r → r.length = k ∧ ∀ j, j < k → look l (i + j) = r[j]?
 | _, 0, _, r, h => by simp only [kD, Option.some.injEq] at h; subst h; exact ⟨rfl, fun j hj => by omega⟩
 | l, k + 1, i, r, h => by
  simp only [kD] at h
  cases h1 : look l i with
  | none => simp [h1] at h
  | some ob =>
   cases h2 : kD l (i + 1) k with
   | none => simp [h1, h2] at h
   | some r' =>
    rw [h1, h2] at h
    simp only [Option.some.injEq] at h
    subst h
    obtain ⟨hl, hg⟩ := ny h2
    refine ⟨by simp [hl], fun j hj => ?_⟩
    cases j with
    | zero => simpa using h1
    | succ j =>
     have := hg j om
     rw [show i + (j + 1) = i + 1 + j by omega, this]; simp
def Ends (P : Program) (px : List ResultVar) (k : Nat) (Q : X → List Obj → Prop) : Exit → St → Prop
 | .normal, st | .ret, st => ∃ xs aE, kC P st px = some xs ∧ kD st.aC 0 k = some aE ∧ Q (vh xs) aE
 | _, _ => False
theorem Inv.enter {fn : Func} {args : List X} {aC : List Obj} {F : List Nat} {n : Nat} {K : Nat → Prop} {E : Env} {RR : Own → List Nat} {dB : Array Value} (hn : fn.ntmps = n) (hle : args.length ≤ n) (hi : Inv (r5 K E ⟨args.length, F⟩) E RR ⟨dG 0 args, dG 0 aC⟩ ⟨dB, []⟩) :
  Inv (r5 K E ⟨n, F⟩) E RR ⟨dG 0 args, dG 0 aC⟩ ⟨dB ++ Array.replicate (fn.ntmps - dB.size) undef, []⟩ := by
 have tt : dB.size = args.length := hi.tmps
 refine { hi with aA := ?_, tmps := ?_, defers := rfl }
 ·intro s x hx
  have h0 := hi.aA s x hx
  have hs : s < dB.size := by
   rw [tt]
   have j5 : look (dG 0 args) s = some x := hx
   rw [gT] at j5
   rcases Nat.lt_or_ge s args.length with h' | h'
   ·exact h'
   ·simp [List.getElem?_eq_none h'] at j5
  have : (dB ++ Array.replicate (fn.ntmps - dB.size) undef).getD s undef = dB.getD s undef := by
   simp only [Array.getD_eq_getD_getElem?, Array.getElem?_append_left hs]
  show RX E x ((dB ++ Array.replicate (fn.ntmps - dB.size) undef).getD s undef) (RR (.slot s))
  rw [this]; exact h0
 ·show (dB ++ Array.replicate (fn.ntmps - dB.size) undef).size = n
  simp; omega
theorem yO {fn : Func} {aC : List Obj} {F : List Nat} {Q : X → List Obj → Prop} {n : Nat} {px : List ResultVar} {K : Nat → Prop} {E E' : Env} {fe : Own → List Nat} {st : St} {a : Act} (hr : fn.results.toList = px) (jA : (iq px).Nodup) (h1 : Inv (r5 K E ⟨n, F⟩) E' fe st a) :
  (∃ xs aE, kC P st px = some xs ∧ kD st.aC 0 aC.length = some aE ∧ Q (vh xs) aE) → a.defers = [] ∧ ∃ v, (results fn a.tmps).run P E'.w = .ok v E'.w ∧
   ∃ v' r aE, Ending.returned v = .returned v' ∧ Q r aE ∧ aE.length = aC.length ∧ ∃ kd sv, kd.w = E'.w ∧ Inv (r5 K E ⟨1, F⟩) kd sv ⟨[(0, r)], dG 0 aE⟩ ⟨#[v'], []⟩ := by
 rintro ⟨xs, aE, EJ, nz, hQ⟩
 obtain ⟨hlen, HH⟩ := ny nz
 have lk : ∀ j, j < aC.length → look st.aC j = aE[j]? := fun j hj => by have := HH j hj; rwa [Nat.zero_add] at this
 refine ⟨h1.defers, ?_⟩
 obtain ⟨cs, R, gS, hx, Ld, Qz⟩ := wI h1 EJ jA
 have yP : (results fn a.tmps).run P E'.w = .ok (if h : cs.toArray.size = 1 then cs.toArray[0] else .tuple cs.toArray) E'.w := by
  have e : results fn a.tmps = (do let vs ← fn.results.mapM (ou a.tmps); Pure.pure (if h : vs.size = 1 then vs[0] else .tuple vs) : Sem Value) := rfl
  rw [e, show fn.results = px.toArray by rw [← hr]]
  refine il (u := cs.toArray) ?_ rfl
  rw [List.mapM_toArray]
  simp only [Sem.run_map, gS]
  rfl
 refine ⟨_, yP, _, vh xs, aE, rfl, hQ, hlen, ?_⟩
 have Q0 : RX E' (vh xs) (if h : cs.toArray.size = 1 then cs.toArray[0] else .tuple cs.toArray) R := by
  cases xs with
  | nil =>
   simp only [dU] at hx
   obtain ⟨rfl, rfl⟩ := hx
   simp only [vh, RX]
   exact ⟨#[], by simp, by simp [dU]⟩
  | cons x xs =>
   cases xs with
   | nil =>
    simp only [dU] at hx
    obtain ⟨c, cG, R₁, R₂, rfl, h1, ⟨rfl, rfl⟩, rfl⟩ := hx
    simpa [vh] using h1
   | cons y ys =>
    have j5 := hx
    simp only [dU] at hx
    obtain ⟨c, cG, R₁, R₂, rfl, _, ⟨c', Lf, R₃, R₄, rfl, _⟩, _⟩ := hx
    simp only [vh, RX]
    exact ⟨(c :: c' :: Lf).toArray, by simp, by simpa using j5⟩
 let oQ : Own → List Nat := fun p => match p with
  | .slot s => if s = 0 then R else []
  | .obj o => if o < aC.length then fe (.obj o) else []
 have tz : ∀ p b, b ∈ oQ p → ∃ q, b ∈ fe q ∧ ((∃ o, p = .obj o ∧ q = .obj o) ∨ (p = .slot 0 ∧ ∃ t, q = .slot t)) := by
  intro p b hb
  cases p with
  | slot s =>
   by_cases hs : s = 0
   ·subst hs
    simp only [oQ, if_true] at hb
    obtain ⟨t, _, ht⟩ := Qz b hb
    exact ⟨.slot t, ht, .inr ⟨rfl, t, rfl⟩⟩
   ·simp [oQ, hs] at hb
  | obj o =>
   by_cases ho : o < aC.length
   ·simp only [oQ, ho, if_true] at hb
    exact ⟨.obj o, hb, .inl ⟨o, rfl, rfl⟩⟩
   ·simp [oQ, ho] at hb
 refine ⟨E', oQ, rfl, { h1 with aA := ?_, aC := ?_, nodup := ?_, apart := ?_, own := ?_, tmps := ?_, defers := rfl }⟩
 ·intro s x j5
  simp only [look] at j5
  cases BP : Nat.beq 0 s with
  | false => simp [BP] at j5
  | true =>
   have := Nat.eq_of_beq_eq_true BP
   subst this
   simp only [BP, cond_true, Option.some.injEq] at j5
   subst j5
   simpa [oQ] using Q0
 ·intro o ob ho
  have mr : look (dG 0 aE) o = some ob := ho
  rw [gT] at mr
  have gM : o < aC.length := by
   rcases Nat.lt_or_ge o aC.length with h' | h'
   ·exact h'
   ·rw [List.getElem?_eq_none om] at mr; cases mr
  have := h1.aC o ob (by rw [lk o gM]; exact mr)
  simpa [oQ, gM] using this
 ·intro p
  cases p with
  | slot s => by_cases hs : s = 0 <;> simp [oQ, hs, Ld]
  | obj o => by_cases ho : o < aC.length <;> simp [oQ, ho, h1.nodup]
 ·intro p q lr b hb fS
  obtain ⟨p', GJ, Q3⟩ := tz p b hb
  obtain ⟨q', BO, OG⟩ := tz q b fS
  have fc : p' ≠ q' := by
   rcases Q3 with ⟨o, rfl, rfl⟩ | ⟨rfl, t, rfl⟩
   ·rcases OG with ⟨o', rfl, rfl⟩ | ⟨rfl, t', rfl⟩
    ·exact lr
    ·simp
   ·rcases OG with ⟨o', rfl, rfl⟩ | ⟨rfl, t', rfl⟩
    ·simp
    ·exact absurd rfl lr
  exact h1.apart p' q' fc b GJ BO
 ·intro p b hb
  obtain ⟨q, BO, _⟩ := tz p b hb
  exact h1.own q b BO
 ·rfl
theorem ak.of {f : FuncId} {fn : Func} {c : Code} {args : List X} {aC : List Obj} {F : List Nat} {Q : X → List Obj → Prop} {n : Nat} {px : List ResultVar} (hf : P.funcs[f]? = some fn) (hb : fn.body = some c) (hn : fn.ntmps = n) (hr : fn.results.toList = px)
  (jA : (iq px).Nodup) (hle : args.length ≤ n) (h : ab P ⟨n, F⟩ c ⟨dG 0 args, dG 0 aC⟩ (Ends P px aC.length Q)) : ak P f args aC F Q := by
 intro K E RR dB hi
 refine calls_of_wp hf hb ?_
 refine wp_mono (h (r5 K E ⟨n, F⟩) rfl _ _ ⟨E, RR, rfl, hi.enter hn hle⟩) ?_
 rintro e a w ⟨st, ⟨E', fe, rfl, h1⟩, hq⟩
 have key := yO (P := P) (aC := aC) (Q := Q) hr jA h1
 cases e with
 | normal => exact key hq
 | ret => exact key hq
 | _ => exact hq.elim
end
end Go.AW
namespace Go.AW
open Go
mutual
def X.fg (ν : Nat → Nat) : X → X
 | .ptr o s i k => .ptr (ν o) s i k
 | .aY o s lo n => .aY (ν o) s lo n
 | .mref o => .mref (ν o)
 | .agg xs => .agg (X.jQ ν xs)
 | .tup xs => .tup (X.jQ ν xs)
 | .gN f a b => .gN f (X.jQ ν a) (X.jQ ν b)
 | .v u => .v u
 | .no => .no
 | .fz s rows => .fz s rows
 | .cX s rows => .cX s rows
 | .fp row k => .fp row k
def X.jQ (ν : Nat → Nat) : List X → List X
 | [] => []
 | x :: r => x.fg ν :: X.jQ ν r
end
def Env.names (E : Env) (ν : Nat → Nat) : Env := { E with β := fun o => E.β (ν o) }
theorem fj (E : Env) (ν : Nat → Nat) (R : List Nat) : (E.names ν).On E R ∧ E.On (E.names ν) R := ⟨⟨fun _ _ _ h => h, fun _ _ => ⟨rfl, fun h => h⟩⟩, ⟨fun _ _ _ h => h, fun _ _ => ⟨rfl, fun h => h⟩⟩⟩
mutual
theorem RX.fg {E : Env} {ν : Nat → Nat} : ∀ (x : X) (c : Value) (R : List Nat), RX (E.names ν) x c R ↔ RX E (x.fg ν) c R
 | .ptr .., _, _ => by simp only [X.fg, RX]; exact Iff.rfl
 | .aY .., _, _ => by simp only [X.fg, RX]; exact Iff.rfl
 | .mref _, _, _ => by simp only [X.fg, RX]; exact Iff.rfl
 | .v _, _, _ => by simp only [X.fg, RX]
 | .no, _, _ => by simp only [X.fg, RX]
 | .fz s rows, c, R => ⟨RX.mono _ c R (fj E ν R).1 (fun o h => by simp [X.dA] at h), RX.mono _ c R (fj E ν R).2 (fun o h => by simp [X.fg, X.dA] at h)⟩
 | .cX s rows, c, R => ⟨RX.mono _ c R (fj E ν R).1 (fun o h => by simp [X.dA] at h), RX.mono _ c R (fj E ν R).2 (fun o h => by simp [X.fg, X.dA] at h)⟩
 | .fp row k, c, R => ⟨RX.mono _ c R (fj E ν R).1 (fun o h => by simp [X.dA] at h), RX.mono _ c R (fj E ν R).2 (fun o h => by simp [X.fg, X.dA] at h)⟩
 | .agg xs, c, R => by
  simp only [X.fg, RX]
  exact ⟨fun ⟨cs, h1, h2⟩ => ⟨cs, h1, (bt.fg xs _ R).1 h2⟩, fun ⟨cs, h1, h2⟩ => ⟨cs, h1, (bt.fg xs _ R).2 h2⟩⟩
 | .tup xs, c, R => by
  simp only [X.fg, RX]
  exact ⟨fun ⟨cs, h1, h2⟩ => ⟨cs, h1, (dU.fg xs _ R).1 h2⟩, fun ⟨cs, h1, h2⟩ => ⟨cs, h1, (dU.fg xs _ R).2 h2⟩⟩
 | .gN f xs ys, c, R => by
  simp only [X.fg, RX]
  exact ⟨fun ⟨h0, f, cc, h1, h2, h3⟩ => ⟨h0, f, cc, h1, (dU.fg xs _ []).1 h2, (dU.fg ys _ []).1 h3⟩, fun ⟨h0, f, cc, h1, h2, h3⟩ => ⟨h0, f, cc, h1, (dU.fg xs _ []).2 h2, (dU.fg ys _ []).2 h3⟩⟩
theorem bt.fg {E : Env} {ν : Nat → Nat} : ∀ (xs : List X) (cs : List Value) (R : List Nat), bt (E.names ν) xs cs R ↔ bt E (X.jQ ν xs) cs R
 | [], _, _ => by simp only [X.jQ, bt]
 | x :: r, cs, R => by
  simp only [X.jQ, bt]
  exact ⟨fun ⟨c, cG, R₁, R₂, h1, h2, h3, h4, h5⟩ => ⟨c, cG, R₁, R₂, h1, h2, (RX.fg x c R₁).1 h3, (bt.fg r cG R₂).1 h4, h5⟩,
   fun ⟨c, cG, R₁, R₂, h1, h2, h3, h4, h5⟩ => ⟨c, cG, R₁, R₂, h1, h2, (RX.fg x c R₁).2 h3, (bt.fg r cG R₂).2 h4, h5⟩⟩
theorem dU.fg {E : Env} {ν : Nat → Nat} : ∀ (xs : List X) (cs : List Value) (R : List Nat), dU (E.names ν) xs cs R ↔ dU E (X.jQ ν xs) cs R
 | [], _, _ => by simp only [X.jQ, dU]
 | x :: r, cs, R => by
  simp only [X.jQ, dU]
  exact ⟨fun ⟨c, cG, R₁, R₂, h1, h3, h4, h5⟩ => ⟨c, cG, R₁, R₂, h1, (RX.fg x c R₁).1 h3, (dU.fg r cG R₂).1 h4, h5⟩,
   fun ⟨c, cG, R₁, R₂, h1, h3, h4, h5⟩ => ⟨c, cG, R₁, R₂, h1, (RX.fg x c R₁).2 h3, (dU.fg r cG R₂).2 h4, h5⟩⟩
end
theorem RO.fg {E : Env} {ν : Nat → Nat} : ∀ (xs : List X) (cs : Array Value) (off : Nat) (R : List Nat), RO (E.names ν) xs cs off R ↔ RO E (X.jQ ν xs) cs off R
 | [], _, _, _ => by simp only [X.jQ, RO]
 | x :: r, cs, off, R => by
  simp only [X.jQ, RO]
  exact ⟨fun ⟨u, R₁, R₂, h1, h2, h3, h4, h5⟩ => ⟨u, R₁, R₂, h1, h2, (RX.fg x u R₁).1 h3, (RO.fg r cs _ R₂).1 h4, h5⟩,
   fun ⟨u, R₁, R₂, h1, h2, h3, h4, h5⟩ => ⟨u, R₁, R₂, h1, h2, (RX.fg x u R₁).2 h3, (RO.fg r cs _ R₂).2 h4, h5⟩⟩
theorem oR (ν : Nat → Nat) : ∀ xs : List X, (X.jQ ν xs).length = xs.length
 | [] => rfl
 | _ :: r => by simp [X.jQ, oR ν r]
mutual
theorem X.tA (ν : Nat → Nat) : ∀ x : X, (x.fg ν).free = x.free
 | .ptr .. | .aY .. | .mref _ | .v _ | .no | .fz .. | .cX .. | .fp .. | .gN .. => rfl
 | .agg xs => X.lX ν xs
 | .tup xs => X.lX ν xs
theorem X.lX (ν : Nat → Nat) : ∀ xs : List X, X.bj (X.jQ ν xs) = X.bj xs
 | [] => rfl
 | x :: r => by simp only [X.jQ, X.bj, X.tA ν x, X.lX ν r]
end
def Obj.fg (ν : Nat → Nat) : Obj → Obj
 | .cells xs => .cells (X.jQ ν xs)
 | .rows s rs => .rows s rs
 | .uT es => .uT es
 | .gone => .gone
theorem dN.fg {E : Env} {ν : Nat → Nat} {j : Nat} {ob : Obj} {R : List Nat} : dN (E.names ν) j ob R ↔ dN E (ν j) (ob.fg ν) R := by
 cases ob with
 | cells xs =>
  simp only [Obj.fg, dN, X.lX, oR]
  exact ⟨fun ⟨h0, B, cs, ty, h1, h2, h3, h4, h5, h6⟩ => ⟨h0, B, cs, ty, h1, h2, h3, h4, (RO.fg xs cs _ []).1 h5, h6⟩,
   fun ⟨h0, B, cs, ty, h1, h2, h3, h4, h5, h6⟩ => ⟨h0, B, cs, ty, h1, h2, h3, h4, (RO.fg xs cs _ []).2 h5, h6⟩⟩
 | rows s rs =>
  simp only [Obj.fg, dN]
  refine ⟨fun ⟨hu, h⟩ => ⟨hu, h.imp (fun h => h) ?_⟩, fun ⟨hu, h⟩ => ⟨hu, h.imp (fun h => h) ?_⟩⟩
  ·exact fun ⟨B, cs, ty, R', h1, h2, h3, h4, h5, h6, h7⟩ => ⟨B, cs, ty, R', h1, h2, h3, h4, h5, bX.mono rs cs _ R' (fj E ν R').1 h6, h7⟩
  ·exact fun ⟨B, cs, ty, R', h1, h2, h3, h4, h5, h6, h7⟩ => ⟨B, cs, ty, R', h1, h2, h3, h4, h5, bX.mono rs cs _ R' (fj E ν R').2 h6, h7⟩
 | uT es => exact Iff.rfl
 | gone => simp only [Obj.fg, dN]
mutual
def X.plain : X → Prop
 | .v _ | .no | .ptr .. | .aY .. | .mref _ => True
 | .fz _ _ | .fp _ _ | .gN .. => False
 | .cX _ rows => X.kE rows
 | .agg xs => X.gA xs
 | .tup xs => X.gA xs
def X.gA : List X → Prop
 | [] => True
 | x :: r => x.plain ∧ X.gA r
def X.kE : List (List X) → Prop
 | [] => True
 | x :: r => X.gA x ∧ X.kE r
end
def Env.BU (E E' : Env) (R : List Nat) : Prop := ∀ b ∈ R, E'.w.heap[b]? = E.w.heap[b]? ∧ ((∀ i, E.φ b i = none) → ∀ i, E'.φ b i = none)
theorem Env.BU.sub {E E' : Env} {R R' : List Nat} (h : E.BU E' R) (hs : ∀ b ∈ R', b ∈ R) : E.BU E' R' := fun b hb => h b (hs b hb)
mutual
theorem RX.off {E E' : Env} : ∀ (x : X) (c : Value) (R : List Nat), x.plain → E.BU E' R → (∀ o, E'.β o = E.β o) → RX E x c R → RX E' x c R
 | .v _, _, _, _, _, _, h => by simpa [RX] using h
 | .no, _, _, _, _, _, h => by simpa [RX] using h
 | .fz .., _, _, hp, _, _, _ => hp.elim
 | .fp .., _, _, hp, _, _, _ => hp.elim
 | .gN .., _, _, hp, _, _, _ => hp.elim
 | .ptr o .., _, _, _, _, hβ, h => by simp only [RX] at h ⊢; rw [hβ]; exact h
 | .aY o .., _, _, _, _, hβ, h => by simp only [RX] at h ⊢; rw [hβ]; exact h
 | .mref o, _, _, _, _, hβ, h => by simp only [RX] at h ⊢; rw [hβ]; exact h
 | .cX s rows, c, R, hp, hE, hβ, h => by
  simp only [RX] at h ⊢
  obtain ⟨hu, base, cap, hc, hh⟩ := h
  refine ⟨hu, base, cap, hc, ?_⟩
  rcases hh with hh | ⟨b, off, cs, ty, R', hb, hw, hl, ho, hf, hr, hR⟩
  ·exact .inl hh
  ·subst hR
   have h2 := hE b (by simp)
   exact .inr ⟨b, off, cs, ty, R', hb, h2.1.trans hw, hl, ho, h2.2 hf, bX.off rows cs off R' hp (hE.sub (fun _ h => by simp [h])) hβ hr, rfl⟩
 | .agg xs, c, R, hp, hE, hβ, h => by
  simp only [RX] at h ⊢
  obtain ⟨cs, hc, hs⟩ := h
  exact ⟨cs, hc, bt.off xs _ R hp hE hβ hs⟩
 | .tup xs, c, R, hp, hE, hβ, h => by
  simp only [RX] at h ⊢
  obtain ⟨cs, hc, hs⟩ := h
  exact ⟨cs, hc, dU.off xs _ R hp hE hβ hs⟩
theorem bt.off {E E' : Env} : ∀ (xs : List X) (cs : List Value) (R : List Nat), X.gA xs → E.BU E' R → (∀ o, E'.β o = E.β o) → bt E xs cs R → bt E' xs cs R
 | [], _, _, _, _, _, h => by simpa [bt] using h
 | x :: r, cs, R, hp, hE, hβ, h => by
  simp only [bt] at h ⊢
  simp only [X.gA] at hp
  obtain ⟨c, cG, R₁, R₂, hc, hs, h1, h2, hR⟩ := h
  subst hR
  exact ⟨c, cG, R₁, R₂, hc, hs, RX.off x c R₁ hp.1 (hE.sub (fun _ h => bU h)) hβ h1, bt.off r cG R₂ hp.2 (hE.sub (fun _ h => bK h)) hβ h2, rfl⟩
theorem dU.off {E E' : Env} : ∀ (xs : List X) (cs : List Value) (R : List Nat), X.gA xs → E.BU E' R → (∀ o, E'.β o = E.β o) → dU E xs cs R → dU E' xs cs R
 | [], _, _, _, _, _, h => by simpa [dU] using h
 | x :: r, cs, R, hp, hE, hβ, h => by
  simp only [dU] at h ⊢
  simp only [X.gA] at hp
  obtain ⟨c, cG, R₁, R₂, hc, h1, h2, hR⟩ := h
  subst hR
  exact ⟨c, cG, R₁, R₂, hc, RX.off x c R₁ hp.1 (hE.sub (fun _ h => bU h)) hβ h1, dU.off r cG R₂ hp.2 (hE.sub (fun _ h => bK h)) hβ h2, rfl⟩
theorem RO.off {E E' : Env} : ∀ (xs : List X) (cs : Array Value) (off : Nat) (R : List Nat), X.gA xs → E.BU E' R → (∀ o, E'.β o = E.β o) → RO E xs cs off R → RO E' xs cs off R
 | [], _, _, _, _, _, _, h => by simpa [RO] using h
 | x :: r, cs, off, R, hp, hE, hβ, h => by
  simp only [RO] at h ⊢
  simp only [X.gA] at hp
  obtain ⟨u, R₁, R₂, hu, hs, h1, h2, hR⟩ := h
  subst hR
  exact ⟨u, R₁, R₂, hu, hs, RX.off x u R₁ hp.1 (hE.sub (fun _ h => bU h)) hβ h1, RO.off r cs (off + 1) R₂ hp.2 (hE.sub (fun _ h => bK h)) hβ h2, rfl⟩
theorem bX.off {E E' : Env} : ∀ (rs : List (List X)) (cs : Array Value) (off : Nat) (R : List Nat), X.kE rs → E.BU E' R → (∀ o, E'.β o = E.β o) → bX E rs cs off R → bX E' rs cs off R
 | [], _, _, _, _, _, _, h => by simpa [bX] using h
 | r :: rs, cs, off, R, hp, hE, hβ, h => by
  simp only [bX] at h ⊢
  simp only [X.kE] at hp
  obtain ⟨R₁, R₂, hn, h1, h2, hR⟩ := h
  subst hR
  exact ⟨R₁, R₂, hn, RO.off r cs off R₁ hp.1 (hE.sub (fun _ h => bU h)) hβ h1, bX.off rs cs _ R₂ hp.2 (hE.sub (fun _ h => bK h)) hβ h2, rfl⟩
end
def Obj.plain : Obj → Prop
 | .cells xs => X.gA xs
 | .rows _ rs => X.kE rs
 | .uT _ => True
 | .gone => True
theorem dN.off {E E' : Env} {o : Nat} {ob : Obj} {R : List Nat} (hp : ob.plain) (hE : E.BU E' R) (hβ : ∀ o, E'.β o = E.β o) (h : dN E o ob R) : dN E' o ob R := by
 cases ob with
 | cells xs =>
  simp only [dN] at h ⊢
  obtain ⟨pw, B, cs, ty, hB, hw, hf, hl, hR, rfl⟩ := h
  have h2 := hE B.b (by simp)
  exact ⟨pw, B, cs, ty, (hβ o).trans hB, h2.1.trans hw, h2.2 hf, hl, RO.off xs cs _ [] hp (hE.sub (fun _ h => by cases h)) hβ hR, rfl⟩
 | rows s rs =>
  simp only [dN] at h ⊢
  obtain ⟨hu, h⟩ := h
  refine ⟨hu, ?_⟩
  rcases h with ⟨h1, h2, h3⟩ | ⟨B, cs, ty, R', hB, hw, hf, hl, hc, hR, rfl⟩
  ·exact .inl ⟨(hβ o).trans h1, h2, h3⟩
  ·have h2 := hE B.b (by simp)
   exact .inr ⟨B, cs, ty, R', (hβ o).trans hB, h2.1.trans hw, h2.2 hf, hl, hc, bX.off rs cs _ R' hp (hE.sub (fun _ h => by simp [h])) hβ hR, rfl⟩
 | uT es =>
  simp only [dN] at h ⊢
  obtain ⟨B, pd, clock, hB, hw, hf, he, rfl⟩ := h
  have h2 := hE B.b (by simp)
  exact ⟨B, pd, clock, (hβ o).trans hB, h2.1.trans hw, h2.2 hf, he, rfl⟩
 | gone => simpa [dN] using h
mutual
def X.lt (k : Nat) : X → Bool
 | .v _ | .no | .fz .. | .cX .. | .fp .. => true
 | .ptr o .. => Nat.blt o k
 | .aY o .. => Nat.blt o k
 | .mref o => Nat.blt o k
 | .agg xs => X.Bx k xs
 | .tup xs => X.Bx k xs
 | .gN _ a b => X.Bx k a && X.Bx k b
def X.Bx (k : Nat) : List X → Bool
 | [] => true
 | x :: r => x.lt k && X.Bx k r
end
theorem vj {o k : Nat} (h : Nat.blt o k = true) : o < k := Nat.le_of_ble_eq_true h
mutual
theorem X.wJ {k o : Nat} : ∀ {x : X}, x.lt k = true → x.dA o = true → o < k
 | .v _, _, h | .no, _, h | .fz .., _, h | .cX .., _, h | .fp .., _, h => by simp [X.dA] at h
 | .ptr p .., h, hm => by simp only [X.dA] at hm; rw [← Nat.eq_of_beq_eq_true hm]; exact vj h
 | .aY p .., h, hm => by simp only [X.dA] at hm; rw [← Nat.eq_of_beq_eq_true hm]; exact vj h
 | .mref p, h, hm => by simp only [X.dA] at hm; rw [← Nat.eq_of_beq_eq_true hm]; exact vj h
 | .agg xs, h, hm => X.je (xs := xs) h hm
 | .tup xs, h, hm => X.je (xs := xs) h hm
 | .gN _ a b, h, hm => by
  simp only [X.lt, Bool.and_eq_true] at h
  simp only [X.dA, Bool.or_eq_true] at hm
  exact hm.elim (X.je h.1) (X.je h.2)
theorem X.je {k o : Nat} : ∀ {xs : List X}, X.Bx k xs = true → X.cH o xs = true → o < k
 | [], _, h => by simp [X.cH] at h
 | x :: r, h, hm => by
  simp only [X.Bx, Bool.and_eq_true] at h
  simp only [X.cH, Bool.or_eq_true] at hm
  exact hm.elim (X.wJ h.1) (X.je h.2)
end
def Obj.lt (k : Nat) : Obj → Bool
 | .cells xs => X.Bx k xs
 | _ => true
def dv (l : List Nat) (x : X) : X := bif l.any (fun o => x.dA o) then .no else x
def Obj.dv (l : List Nat) : Obj → Obj
 | .cells xs => .cells (xs.map (AW.dv l))
 | ob => ob
def St.dv (st : St) (l : List Nat) : St := ⟨st.aA.map fun p => (p.1, AW.dv l p.2), st.aC.map fun p => (p.1, p.2.dv l)⟩
theorem vk {l : List Nat} {x : X} {q : Nat} (h : (dv l x).dA q = true) : q ∉ l ∧ dv l x = x ∧ x.dA q = true := by
 unfold dv at h ⊢
 cases hk : l.any (fun o => x.dA o) with
 | true => simp [hk, X.dA] at h
 | false =>
  rw [hk] at h
  simp only [cond_false] at h ⊢
  refine ⟨fun hq => ?_, trivial, h⟩
  have : l.any (fun o => x.dA o) = true := List.any_eq_true.2 ⟨q, hq, h⟩
  rw [hk] at this; cases this
theorem oS (l : List Nat) : ∀ {xs : List X}, X.bj xs = true → X.bj (xs.map (dv l)) = true
 | [], _ => rfl
 | x :: r, h => by
  simp only [X.bj, Bool.and_eq_true] at h
  have h1 : (dv l x).free = true := by
   unfold dv
   cases l.any (fun o => x.dA o) with
   | true => rfl
   | false => exact h.1
  simp only [List.map_cons, X.bj, h1, oS l h.2, Bool.and_self]
theorem RO.dv {E : Env} {l : List Nat} : ∀ {xs : List X} {cs : Array Value} {off : Nat}, X.bj xs = true → RO E xs cs off [] → RO E (xs.map (AW.dv l)) cs off []
 | [], _, _, _, h => h
 | x :: r, _, _, hf, h => by
  simp only [RO] at h
  obtain ⟨u, R₁, R₂, hu, hs, h1, h2, hR⟩ := h
  simp only [X.bj, Bool.and_eq_true] at hf
  have KB := RX.free hf.1 h1
  have KC := RO.free hf.2 h2
  subst KB; subst KC
  have h3 := RO.dv (l := l) hf.2 h2
  simp only [List.map_cons, RO]
  refine ⟨u, [], [], hu, hs, ?_, h3, rfl⟩
  unfold AW.dv
  cases l.any (fun o => x.dA o) with
  | true => simp [RX]
  | false => exact h1
theorem oT {l : List Nat} : ∀ {xs : List X} {q : Nat}, X.cH q (xs.map (dv l)) = true → q ∉ l
 | [], _, h => by simp [X.cH] at h
 | x :: r, q, h => by
  simp only [List.map_cons, X.cH, Bool.or_eq_true] at h
  rcases h with h | h
  ·exact (vk h).1
  ·exact oT h
end Go.AW
namespace Go.AW
open Go
inductive tB (st : St) (L : List Nat) (ν : Nat → Nat) : X → X → Prop where
 | same {x : X} (h : x.free = true) : tB st L ν (x.fg ν) x
 | view {o s lo n : Nat} {rs : List (List X)} (ho : look st.aC o = some (.rows s rs)) (hL : o ∈ L) (mJ : lo + n ≤ rs.length) : tB st L ν (.aY o s lo n) (.fz s ((rs.drop lo).take n))
 | deref {o s i k : Nat} {row : List X} (ho : rowAt st (.ptr o s i k) = some row) (hL : o ∈ L) (yp : X.ga row = true) : tB st L ν (.ptr o s i k) (.fp row k)
inductive di (st : St) (L : List Nat) (ν : Nat → Nat) : List X → List X → Prop where
 | nil : di st L ν [] []
 | cons {x y : X} {xs ys : List X} (h : tB st L ν x y) (hs : di st L ν xs ys) : di st L ν (x :: xs) (y :: ys)
 | agg {us vs xs ys : List X} (h : di st L ν us vs) (h1 : X.ry vs = true) (hs : di st L ν xs ys) : di st L ν (.agg us :: xs) (.agg vs :: ys)
def fV : List Nat → Nat → Option Nat
 | [], _ => none
 | o :: r, q => bif Nat.beq o q then some 0 else (fV r q).map (· + 1)
theorem mK : ∀ {l : List Nat} {q j : Nat}, fV l q = some j → l[j]? = some q
 | [], _, _, h => by cases h
 | o :: r, q, j, h => by
  simp only [fV] at h
  cases hb : Nat.beq o q with
  | true => rw [hb] at h; simp at h; subst h; simp [Nat.eq_of_beq_eq_true hb]
  | false =>
   rw [hb] at h
   simp only [cond_false, Option.map_eq_some_iff] at h
   obtain ⟨j', h1, rfl⟩ := h
   simpa using mK h1
theorem n5 : ∀ {l : List Nat} {q j : Nat}, l.Nodup → l[j]? = some q → fV l q = some j
 | [], _, _, _, h => by simp at h
 | o :: r, q, j, hn, h => by
  simp only [fV]
  have pF := List.nodup_cons.1 hn
  cases j with
  | zero =>
   simp at h; subst h
   simp
  | succ j =>
   have h' : r[j]? = some q := by simpa using h
   have fc : o ≠ q := fun e => pF.1 (by rw [e]; exact List.mem_of_getElem? h')
   have : Nat.beq o q = false := by
    cases hb : Nat.beq o q with
    | false => rfl
    | true => exact absurd (Nat.eq_of_beq_eq_true hb) fc
   rw [this]
   simp [n5 pF.2 h']
theorem mL : ∀ {l : List Nat} {q : Nat}, fV l q = none → q ∉ l
 | [], _, _ => by simp
 | o :: r, q, h => by
  simp only [fV] at h
  cases hb : Nat.beq o q with
  | true => simp [hb] at h
  | false =>
   rw [hb] at h
   simp only [cond_false, Option.map_eq_none_iff] at h
   have := mL h
   have fc := Nat.ne_of_beq_eq_false hb
   simp [this, Ne.symm fc]
def j6 (st : St) : List Operand → Option (List X)
 | [] => some []
 | x :: r => match bw st x, j6 st r with
  | some y, some l => some (y :: l)
  | _, _ => none
def aG (P : Program) (f : FuncId) : Bool :=
 match P.funcs[f]? with
 | some fn => fn.body.isSome && fn.name != "runtime.NumGoroutine"
 | none => false
theorem pN {P : Program} {f : FuncId} (h : aG P f = true) (args : Array Value) (w : World) : (callFunc f args).run P w = .ok (.enter f args) w := by
 unfold aG at h
 cases hf : P.funcs[f]? with
 | none => simp [hf] at h
 | some fn =>
  rw [hf] at h
  simp only [Bool.and_eq_true] at h
  have h1 : fn.name ≠ "runtime.NumGoroutine" := by
   have := h.2
   simpa [bne] using this
  have h2 : fn.body ≠ none := fun e => by rw [e] at h; simp at h
  simp [callFunc, hf, h1, h2]
def loose (ν F : List Nat) : List Nat := ((dG 0 ν).filter fun p => !F.elem p.1).map (·.2)
theorem x9 {ν F : List Nat} {o : Nat} (h : o ∉ loose ν F) {j : Nat} (hj : ν[j]? = some o) : F.elem j = true := by
 cases hF : F.elem j with
 | true => rfl
 | false =>
  refine absurd ?_ h
  unfold loose
  refine List.mem_map.2 ⟨(j, o), List.mem_filter.2 ⟨?_, by simpa using hF⟩, rfl⟩
  have : ∀ (l : List Nat) (i : Nat), l[j]? = some o → (i + j, o) ∈ dG i l := by
   clear h hj hF
   induction j with
   | zero =>
    intro l i h
    cases l with
    | nil => simp at h
    | cons x r => simp at h; subst h; simp [dG]
   | succ j ih =>
    intro l i h
    cases l with
    | nil => simp at h
    | cons x r =>
     simp only [dG, List.mem_cons]
     right
     have := ih r (i + 1) (by simpa using h)
     rw [show i + (j + 1) = i + 1 + j by omega]; exact this
  simpa using this ν 0 hj
def b9 (ν : List Nat) (j : Nat) : Nat := ν.getD j 0
def l5 (st : St) (ν F : List Nat) (aE : List Obj) : St :=
 ⟨(st.dv (loose ν F)).aA, ν.zip (aE.map (Obj.fg (b9 ν))) ++ (st.dv (loose ν F)).aC⟩
theorem tC : ∀ {ν : List Nat} {l : List Obj} {r : List (Nat × Obj)} {o : Nat}, ν.length = l.length → look (ν.zip l ++ r) o = match fV ν o with | some j => l[j]? | none => look r o
 | [], [], _, _, _ => rfl
 | [], _ :: _, _, _, h => by simp at h
 | _ :: _, [], _, _, h => by simp at h
 | q :: ν, x :: l, r, o, h => by
  simp only [List.zip_cons_cons, List.cons_append, look, fV]
  cases hb : Nat.beq q o with
  | true => simp
  | false =>
   simp only [cond_false]
   rw [tC (by simpa using h)]
   cases hp : fV ν o with
   | none => simp
   | some j => simp
section
variable {P : Program} {N : eg} {st : St} {Q : Exit → St → Prop} {all : Array Oper} {rest : List Oper} {d : Nat} {ty : TypeId} {pos : String} {af : Array Edge}
theorem RO.freeze {E E1 : Env} {b : Nat} : ∀ {xs : List X} {cs : Array Value} {off : Nat} , (∀ i v, cs[i]? = some v → E1.φ b i = some v) → (∀ c i v, E.φ c i = some v → E1.φ c i = some v) → X.ga xs = true →
  RO E xs cs off [] → RF E1 xs b off
 | [], _, _, _, _, _, _ => by simp [RF]
 | x :: r, cs, off, h1, h2, hn, h => by
  simp only [RO] at h
  obtain ⟨u, R₁, R₂, hu, hs, hx, hr, hR⟩ := h
  obtain ⟨rfl, rfl⟩ := List.append_eq_nil_iff.1 hR.symm
  simp only [X.ga, Bool.and_eq_true] at hn
  simp only [RF]
  refine ⟨⟨u, h1 _ _ hu, hs, hn.1, RX.mono x u [] ⟨h2, fun _ h => by cases h⟩ (fun o ho => by rw [X.mF hn.1] at ho; cases ho) hx⟩, RO.freeze h1 h2 hn.2 hr⟩
theorem bX.freeze {E E1 : Env} {b : Nat} : ∀ {rs : List (List X)} {cs : Array Value} {off : Nat}, (∀ i v, cs[i]? = some v → E1.φ b i = some v) → (∀ c i v, E.φ c i = some v → E1.φ c i = some v) →
  bX E rs cs off [] → iF E1 rs b off
 | [], _, _, _, _, _ => by simp [iF]
 | r :: rs, cs, off, h1, h2, h => by
  simp only [bX] at h
  obtain ⟨R₁, R₂, hn, hx, hr, hR⟩ := h
  obtain ⟨rfl, rfl⟩ := List.append_eq_nil_iff.1 hR.symm
  simp only [iF]
  exact ⟨RO.freeze h1 h2 hn hx, bX.freeze h1 h2 hr⟩
def jB : Obj → Prop
 | .rows _ rs => ∀ r ∈ rs, X.bj r = true
 | .cells _ => True
 | .uT _ => True
 | .gone => True
theorem bX.free {E : Env} : ∀ {rs : List (List X)} {cs : Array Value} {off : Nat} {R : List Nat}, (∀ r ∈ rs, X.bj r = true) → bX E rs cs off R → R = []
 | [], _, _, _, _, h => by simpa [bX] using h
 | r :: rs, _, _, _, hf, h => by
  simp only [bX] at h
  obtain ⟨R₁, R₂, _, h1, h2, hR⟩ := h
  rw [hR, RO.free (hf r (by simp)) h1, bX.free (fun q hq => hf q (by simp [hq])) h2]; rfl
noncomputable def Env.en (E : Env) (LB : Nat → Prop) : Env := by
 classical
 exact { E with φ := fun b i => if LB b then E.w.cell? ⟨b, i, none⟩ else E.φ b i }
theorem iS (E : Env) {LB : Nat → Prop} {b : Nat} (h : LB b) (i : Nat) : (E.en LB).φ b i = E.w.cell? ⟨b, i, none⟩ := by simp [Env.en, h]
theorem eo (E : Env) {LB : Nat → Prop} {b : Nat} (h : ¬ LB b) (i : Nat) : (E.en LB).φ b i = E.φ b i := by simp [Env.en, h]
theorem tB.rx {G : Ctx} {E : Env} {RR : Own → List Nat} {a : Act} {L : List Nat} {ν : Nat → Nat} {LB : Nat → Prop} (hi : Inv G E RR st a) (BV : ∀ o ∈ L, ∀ b ∈ RR (.obj o), LB b) (hle : ∀ c i v, E.φ c i = some v → (E.en LB).φ c i = some v)
  (h0 : ∀ o ∈ L, ∀ ob, look st.aC o = some ob → jB ob) {x y : X} {c : Value} {R : List Nat} (h : tB st L ν x y) (hx : RX E x c R) : RX ((E.en LB).names ν) y c [] := by
 have iG : E.On (E.en LB) [] := ⟨hle, fun _ h => by cases h⟩
 cases h with
 | same hf =>
  have : R = [] := RX.free (by rw [X.tA]; exact hf) hx
  subst this
  exact (RX.fg y c []).2 (RX.mono _ c [] iG (fun _ _ => rfl) hx)
 | view ho hL mJ =>
  rename_i o s lo n rs
  have aS := hi.aC o _ ho
  have ke : ∀ r ∈ rs, X.bj r = true := h0 o hL _ ho
  simp only [RX] at hx ⊢
  obtain ⟨_, base, cap, rfl, cJ⟩ := hx
  simp only [dN] at aS
  obtain ⟨hu, aS⟩ := aS
  have uJ : ((rs.drop lo).take n).length = n := by simp; omega
  refine ⟨trivial, (hu.drop lo).take n, base, cap, by rw [uJ], ?_⟩
  by_cases l4 : cap = 0
  ·refine .inl ⟨?_, l4⟩
   have BR : n = 0 := by rcases cJ with ⟨_, _, h, _⟩ | ⟨_, _, _, h, _⟩ <;> omega
   subst BR; simp
  ·rcases cJ with ⟨_, _, _, h⟩ | ⟨B, hB, Hk, pF, hb⟩
   ·exact absurd h l4
   have fS := hb.resolve_left l4
   rcases aS with ⟨h1, _⟩ | ⟨B', cs, tb, R', im, hw, hφ, sm, ez, j4, iH⟩
   ·rw [hB] at h1; cases h1
   rw [hB] at im
   obtain rfl := Option.some.inj im
   have BW := bX.free ke j4
   subst BW
   obtain ⟨R1, x8, cP, _⟩ := bX.vf hu j4 mJ
   have pI : R1 = [] := by
    cases R1 with
    | nil => rfl
    | cons b r => have := cP b (by simp); cases this
   subst pI
   have HJ : LB B.b := BV o hL _ (by rw [iH]; simp)
   refine .inr ⟨B.b, B.off + lo * s, fS, om, ?_⟩
   have pw : iF (E.en LB) ((rs.drop lo).take n) B.b (B.off + lo * s) := bX.freeze (fun i v hv => by rw [iS E HJ, cy hw]; exact hv) hle x8
   exact iF.mono _ _ _ (fj (E.en LB) ν []).2 pw
 | deref ho hL yp =>
  rename_i o s i k row
  simp only [RX] at hx ⊢
  obtain ⟨_, B, hB, rfl⟩ := hx
  simp only [rowAt] at ho
  split at ho
  ·rename_i xs lk
   have aS := hi.aC o _ lk
   simp only [dN] at aS
   obtain ⟨_, B', cs, tb, im, hw, _, _, j4, iH⟩ := aS
   rw [hB] at im
   obtain rfl := Option.some.inj im
   cases nj : Nat.beq i 0 with
   | false => simp [nj] at ho
   | true =>
    have := Nat.eq_of_beq_eq_true nj
    subst this
    simp only [nj, cond_true, Option.some.injEq] at ho
    subst ho
    have HJ : LB B.b := BV o hL _ (by rw [iH]; simp)
    refine ⟨trivial, B.b, B.off, by simp, ?_⟩
    exact RF.mono _ _ _ (fj (E.en LB) ν []).2 (RO.freeze (fun i v hv => by rw [iS E HJ, cy hw]; exact hv) hle yp j4)
  ·rename_i s' rs lk
   have aS := hi.aC o _ lk
   have ke : ∀ r ∈ rs, X.bj r = true := h0 o hL _ lk
   simp only [dN] at aS
   obtain ⟨hu, aS⟩ := aS
   cases E5 : Nat.beq s s' with
   | false => simp [E5] at ho
   | true =>
    have := Nat.eq_of_beq_eq_true E5
    subst this
    simp only [E5, cond_true] at ho
    rcases aS with ⟨_, h1, _⟩ | ⟨B', cs, tb, R', im, hw, _, _, _, j4, iH⟩
    ·subst h1; simp at ho
    rw [hB] at im
    obtain rfl := Option.some.inj im
    have BW := bX.free ke j4
    subst BW
    obtain ⟨R1, _, og, cP⟩ := bX.get hu j4 ho
    have pI : R1 = [] := by
     cases R1 with
     | nil => rfl
     | cons b r => have := cP b (by simp); cases this
    subst pI
    have HJ : LB B.b := BV o hL _ (by rw [iH]; simp)
    refine ⟨trivial, B.b, B.off + i * s, by rw [Nat.add_assoc], ?_⟩
    exact RF.mono _ _ _ (fj (E.en LB) ν []).2 (RO.freeze (fun i v hv => by rw [iS E HJ, cy hw]; exact hv) hle yp og)
  ·cases ho
theorem di.get {L : List Nat} {ν : Nat → Nat} : ∀ {xs ys : List X} {j : Nat} {y : X}, di st L ν xs ys → ys[j]? = some y → ∃ x, xs[j]? = some x ∧ (tB st L ν x y ∨ ∃ us vs, x = .agg us ∧ y = .agg vs ∧ di st L ν us vs ∧ X.ry vs = true)
 | _, _, j, y, .nil, h => by simp at h
 | _, _, 0, y, .cons h _, hy => by simp at hy; subst hy; exact ⟨_, rfl, .inl h⟩
 | _, _, j + 1, y, .cons _ hs, hy => by simpa using di.get hs (by simpa using hy)
 | _, _, 0, y, .agg h h1 _, hy => by simp at hy; subst hy; exact ⟨_, rfl, .inr ⟨_, _, rfl, rfl, h, h1⟩⟩
 | _, _, j + 1, y, .agg _ _ hs, hy => by simpa using di.get hs (by simpa using hy)
theorem di.length {L : List Nat} {ν : Nat → Nat} : ∀ {xs ys : List X}, di st L ν xs ys → xs.length = ys.length
 | _, _, .nil => rfl
 | _, _, .cons _ hs => by simp [hs.length]
 | _, _, .agg _ _ hs => by simp [hs.length]
theorem di.OH {G : Ctx} {E : Env} {RR : Own → List Nat} {a : Act} {L : List Nat} {ν : Nat → Nat} {LB : Nat → Prop} (hi : Inv G E RR st a) (BV : ∀ o ∈ L, ∀ b ∈ RR (.obj o), LB b) (hle : ∀ c i v, E.φ c i = some v → (E.en LB).φ c i = some v)
  (h0 : ∀ o ∈ L, ∀ ob, look st.aC o = some ob → jB ob) : ∀ {xs ys : List X} {cs : List Value} {R : List Nat}, di st L ν xs ys → bt E xs cs R → bt ((E.en LB).names ν) ys cs []
 | _, _, cs, R, .nil, h => by simp only [bt] at h ⊢; exact ⟨h.1, trivial⟩
 | _, _, cs, R, .cons hl hs, h => by
  simp only [bt] at h ⊢
  obtain ⟨c, cG, R₁, R₂, rfl, h1, h2, h3, _⟩ := h
  exact ⟨c, cG, [], [], rfl, h1, hl.rx hi BV hle h0 h2, hs.OH hi BV hle h0 h3, rfl⟩
 | _, _, cs, R, .agg hl _ hs, h => by
  simp only [bt] at h ⊢
  obtain ⟨c, cG, R₁, R₂, rfl, h1, h2, h3, _⟩ := h
  simp only [RX] at h2
  obtain ⟨ds, rfl, h4⟩ := h2
  exact h1.elim
end
end Go.AW
namespace Go.AW
open Go
section
variable {P : Program} {N : eg} {st : St} {Q : Exit → St → Prop} {all : Array Oper} {rest : List Oper} {d : Nat} {ty : TypeId} {pos : String} {af : Array Edge}
theorem n6 {G : Ctx} {E : Env} {RR : Own → List Nat} {a : Act} (hi : Inv G E RR st a) : ∀ {l : List Operand} {xs : List X}, j6 st l = some xs → xs.length = l.length ∧ ∀ (j : Nat) (x : X), xs[j]? = some x → ∃ o : Operand, l[j]? = some o ∧ ∃ R, RX E x (a.eval o) R
 | [], xs, h => by simp only [j6, Option.some.injEq] at h; subst h; exact ⟨rfl, by simp⟩
 | o :: r, xs, h => by
  simp only [j6] at h
  cases h1 : bw st o with
  | none => simp [h1] at h
  | some y =>
   cases h2 : j6 st r with
   | none => simp [h1, h2] at h
   | some ys =>
    rw [h1, h2] at h
    simp only [Option.some.injEq] at h
    subst h
    obtain ⟨hl, hg⟩ := n6 hi h2
    refine ⟨by simp [hl], fun j x hx => ?_⟩
    cases j with
    | zero => simp at hx; subst hx; exact ⟨o, rfl, hi.eval h1⟩
    | succ j => simpa using hg j x (by simpa using hx)
theorem Inv.DH {G : Ctx} {E : Env} {RR : Own → List Nat} {a : Act} {f : FuncId} {vs : List Value} {xs args : List X} {aC : List Obj} {F ν L : List Nat} {Q' : X → List Obj → Prop} (hi : Inv G E RR st a) (fW : ak P f args aC F Q')
  (uK : xs.length = vs.length) (DI : ∀ (j : Nat) (x : X), xs[j]? = some x → ∃ v : Value, vs[j]? = some v ∧ ∃ R, RX E x v R) (eh : di st L (b9 ν) xs args) (n7 : ∀ j ob, aC[j]? = some ob → look st.aC (b9 ν j) = some (ob.fg (b9 ν))) (hlen : ν.length = aC.length) (yQ : ν.Nodup) (BX : ∀ o ∈ L, o ∉ ν)
  (h0 : ∀ o ∈ L, ∃ ob, look st.aC o = some ob ∧ jB ob) (BY : ∀ o ∈ loose ν F, G.fn.F.elem o = false) (hd : d < G.fn.n) :
  Calls P f vs.toArray E.w fun e w' => ∃ v r aE, e = .returned v ∧ Q' r aE ∧ aE.length = aC.length ∧
   (r.lt aC.length = true → (∀ ob ∈ aE, ob.lt aC.length = true) → (L = [] ∨ (r.plain ∧ ∀ ob ∈ aE, ob.plain)) → ∃ kd sv, kd.w = w' ∧ Inv G kd sv ((l5 st ν F aE).put d (r.fg (b9 ν))) (a.put (some d) v)) := by
 classical
 -- the blocks that are lent, and those that are handed tD
 let LB : Nat → Prop := fun b => ∃ o ∈ L, b ∈ RR (.obj o)
 let PB : Nat → Prop := fun b => ∃ j, j < aC.length ∧ b ∈ RR (.obj (b9 ν j))
 have GK : ∀ j, j < aC.length → ν[j]? = some (b9 ν j) := by
  intro j hj
  have : j < ν.length := by omega
  simp [b9, List.getD, List.getElem?_eq_getElem this]
 have OI : ∀ b, LB b → ∀ i, E.φ b i = none := by
  rintro b ⟨o, GL, hb⟩
  obtain ⟨ob, aS, ot⟩ := h0 o GL
  have h := hi.aC o ob aS
  cases ob with
  | cells ys =>
   simp only [dN] at h
   obtain ⟨_, B, cs, tb, _, _, hφ, _, _, iH⟩ := h
   rw [iH] at hb
   simp only [List.mem_singleton] at hb
   rw [hb]; exact hφ
  | rows s rs =>
   simp only [dN] at h
   obtain ⟨_, h⟩ := h
   rcases h with ⟨_, _, h3⟩ | ⟨B, cs, tb, R', _, _, hφ, _, _, j4, iH⟩
   ·rw [h3] at hb; cases hb
   ·have BW := bX.free ot j4
    subst BW
    rw [iH] at hb
    simp only [List.mem_singleton] at hb
    rw [hb]; exact hφ
  | uT es =>
   simp only [dN] at h
   obtain ⟨B, pd, clock, _, _, hφ, _, iH⟩ := h
   rw [iH] at hb
   simp only [List.mem_singleton] at hb
   rw [hb]; exact hφ
  | gone =>
   simp only [dN] at h
   rw [h] at hb; cases hb
 have Q4 : ∀ b, LB b → ¬ PB b := by
  rintro b ⟨o, GL, hb⟩ ⟨j, hj, fS⟩
  have fc : o ≠ b9 ν j := fun e => BX o GL (by rw [e]; exact List.mem_of_getElem? (GK j hj))
  exact hi.apart (.obj o) (.obj (b9 ν j)) (by simpa using fc) b hb fS
 have hle : ∀ c i v, E.φ c i = some v → (E.en LB).φ c i = some v := by
  intro c i v h
  have : ¬ LB c := fun hL => by rw [OI c hL i] at h; cases h
  rw [eo E this]; exact h
 let E1 : Env := (E.en LB).names (b9 ν)
 have Q5 : E1.w = E.w := rfl
 have Q6 : ∀ o, E1.β o = E.β (b9 ν o) := fun _ => rfl
 have Lg : ∀ b i, E1.φ b i = (E.en LB).φ b i := fun _ _ => rfl
 let K1 : Nat → Prop := fun b => b < E.w.heap.size ∧ ¬ PB b
 let By : Own → List Nat := fun p => match p with
  | .obj j => if j < aC.length then RR (.obj (b9 ν j)) else []
  | .slot _ => []
 have Lh : ∀ i j, i < aC.length → j < aC.length → b9 ν i = b9 ν j → i = j := by
  intro i j gy xA h
  have h1 := n5 yQ (GK i gy)
  have h2 := n5 yQ (GK j xA)
  rw [h] at h1
  rw [h1] at h2
  exact Option.some.inj h2
 have Q7 : Inv (r5 K1 E1 ⟨args.length, F⟩) E1 By ⟨dG 0 args, dG 0 aC⟩ ⟨vs.toArray, []⟩ := by
  constructor
  ·intro b i v h
   rw [Lg] at h
   by_cases hL : LB b
   ·rw [iS E hL] at h; exact h
   ·rw [eo E hL] at h; exact hi.lq b i v h
  ·intro s y hy
   have Bv : look (dG 0 args) s = some y := hy
   rw [gT] at Bv
   obtain ⟨x, hx, cJ⟩ := eh.get Bv
   obtain ⟨o, ho, R, hR⟩ := DI s x hx
   have xB : vs.toArray.getD s undef = o := by
    simp [Array.getD_eq_getD_getElem?, ho]
   show RX E1 y (vs.toArray.getD s undef) []
   rw [xB]
   have BV : ∀ o ∈ L, ∀ b ∈ RR (.obj o), LB b := fun o ho b hb => ⟨o, ho, hb⟩
   have OJ : ∀ o ∈ L, ∀ ob, look st.aC o = some ob → jB ob := fun o ho ob aS => by
    obtain ⟨uH, h1, h2⟩ := h0 o ho
    rw [h1] at aS
    obtain rfl := Option.some.inj aS
    exact h2
   rcases cJ with hl | ⟨us, vs, rfl, rfl, hl, _⟩
   ·exact hl.rx hi BV hle OJ hR
   ·simp only [RX] at hR ⊢
    obtain ⟨cs, hc, h2⟩ := hR
    exact ⟨cs, hc, hl.OH hi BV hle OJ h2⟩
  ·intro j ob ho
   have mr : look (dG 0 aC) j = some ob := ho
   rw [gT] at mr
   have hj : j < aC.length := by
    rcases Nat.lt_or_ge j aC.length with h' | h'
    ·exact h'
    ·simp [List.getElem?_eq_none h'] at mr
   have h1 := hi.aC _ _ (n7 j ob mr)
   have pI : By (.obj j) = RR (.obj (b9 ν j)) := by simp [By, hj]
   rw [pI]
   have h2 : dN (E.names (b9 ν)) j ob (RR (.obj (b9 ν j))) := dN.fg.2 h1
   refine dN.mono (E := E.names (b9 ν)) ⟨hle, fun b hb => ⟨rfl, fun hφ i => ?_⟩⟩ rfl (fun _ _ _ _ => rfl) h2
   have : ¬ LB b := fun hL => Q4 b hL ⟨j, hj, hb⟩
   show (E.en LB).φ b i = none
   rw [eo E this]; exact hφ i
  ·intro p
   cases p with
   | slot s => exact List.nodup_nil
   | obj j => by_cases hj : j < aC.length <;> simp [By, hj, hi.nodup]
  ·intro p q lr b hb fS
   cases p with
   | slot s => cases hb
   | obj i =>
    cases q with
    | slot s => cases fS
    | obj j =>
     by_cases yI : i < aC.length
     ·by_cases lV : j < aC.length
      ·simp only [By, yI, lV, if_true] at hb fS
       have fc : b9 ν i ≠ b9 ν j := fun e => lr (by rw [Lh i j yI lV e])
       exact hi.apart (.obj (b9 ν i)) (.obj (b9 ν j)) (by simpa using fc) b hb fS
      ·simp [By, lV] at fS
     ·simp [By, yI] at hb
  ·intro p b hb
   cases p with
   | slot s => cases hb
   | obj j =>
    by_cases hj : j < aC.length
    ·simp only [By, hj, if_true] at hb
     exact ⟨(hi.own _ _ hb).1, fun h => h.2 ⟨j, hj, hb⟩⟩
    ·simp [By, hj] at hb
  ·intro b _; rfl
  ·exact Nat.le_refl _
  ·intro b hb; exact hb.1
  ·rfl
  ·rfl
  ·rfl
  ·intro b i v h; exact h
  ·intro b i v h; exact .inl h
  ·intro o _; rfl
  ·show vs.toArray.size = args.length
   have := eh.length
   simp; omega
  ·rfl
 refine (fW K1 E1 By _ Q7).mono ?_
 rintro e w' ⟨v, r, aE, he, HK, wB, E', fe, rfl, tE⟩
 refine ⟨v, r, aE, he, HK, wB, fun Li Lj yR => ?_⟩
 -- what the callee leaves
 have DJ : ∀ b, b < E.w.heap.size → ¬ PB b → E'.w.heap[b]? = E.w.heap[b]? := fun b h1 h2 => tE.ao b ⟨h1, h2⟩
 have ez : E.w.heap.size ≤ E'.w.heap.size := tE.size
 let kd : Env := { φ := fun b i => if LB b then none else E'.φ b i, β := fun o => match fV ν o with | some j => E'.β j | none => E.β o, w := E'.w }
 have BZ : ∀ b i, LB b → kd.φ b i = none := fun b i h => by simp [kd, h]
 have rL : ∀ b i, ¬ LB b → kd.φ b i = E'.φ b i := fun b i h => by simp [kd, h]
 have HL : ∀ b i v, E.φ b i = some v → kd.φ b i = some v := by
  intro b i v h
  have hn : ¬ LB b := fun hL => by rw [OI b hL i] at h; cases h
  rw [rL b i hn]
  refine tE.φ0 b i v ?_
  show (E.en LB).φ b i = some v
  exact hle b i v h
 have EK : ∀ b, b < E.w.heap.size → ¬ PB b → (∀ i, E.φ b i = none) → ∀ i, kd.φ b i = none := by
  intro b hb hP hφ i
  by_cases hL : LB b
  ·exact BZ b i hL
  ·rw [rL b i hL]
   cases h : E'.φ b i with
   | none => rfl
   | some v =>
    rcases tE.grow b i v h with h1 | h1
    ·have HM : (E.en LB).φ b i = some v := h1
     rw [eo E hL, hφ i] at HM; cases HM
    ·exact absurd ⟨hb, hP⟩ h1
 have iG : ∀ R, (∀ b ∈ R, b < E.w.heap.size ∧ ¬ PB b) → E.On kd R := fun R h => ⟨HL, fun b hb => ⟨DJ b (h b hb).1 (h b hb).2, EK b (h b hb).1 (h b hb).2⟩⟩
 have hβ : ∀ o, o ∉ loose ν F → kd.β o = E.β o := by
  intro o ho
  show (match fV ν o with | some j => E'.β j | none => E.β o) = E.β o
  cases hp : fV ν o with
  | none => rfl
  | some j =>
   have h1 := mK hp
   have hF := x9 ho h1
   have h2 := tE.fixed j hF
   have h3 : (r5 K1 E1 ⟨1, F⟩).β0 j = E.β (b9 ν j) := rfl
   rw [h3] at h2
   have h4 : b9 ν j = o := by simp [b9, List.getD, h1]
   rw [h4] at h2
   exact h2
 have Lk : ∀ j, j < aC.length → kd.β (b9 ν j) = E'.β j := by
  intro j hj
  show (match fV ν (b9 ν j) with | some j => E'.β j | none => E.β (b9 ν j)) = E'.β j
  rw [n5 yQ (GK j hj)]
 -- who owns what then
 let oQ : Own → List Nat := fun p => match p with
  | .slot s => match look st.aA s with
   | some x => bif (loose ν F).any (fun o => x.dA o) then [] else RR (.slot s)
   | none => []
  | .obj o => match fV ν o with
   | some j => fe (.obj j)
   | none => RR (.obj o)
 have Ca : ∀ s b, b ∈ oQ (.slot s) → b ∈ RR (.slot s) := by
  intro s b hb
  simp only [oQ] at hb
  cases hs : look st.aA s with
  | none => simp [hs] at hb
  | some x =>
   rw [hs] at hb
   simp only at hb
   cases hk : (loose ν F).any (fun o => x.dA o) with
   | true => simp [hk] at hb
   | false => simpa [hk] using hb
 have vm : ∀ p b, b ∈ RR p → (∀ j, j < aC.length → p ≠ .obj (b9 ν j)) → b < E.w.heap.size ∧ ¬ PB b := by
  intro p b hb hp
  refine ⟨(hi.own p b hb).1, ?_⟩
  rintro ⟨j, hj, fS⟩
  exact hi.apart p _ (hp j hj) b hb fS
 have sw : ∀ q b, b ∈ fe q → b < E'.w.heap.size ∧ (E.w.heap.size ≤ b ∨ PB b) := by
  intro q b hb
  have h := tE.own q b hb
  refine ⟨h.1, ?_⟩
  by_cases yv : b < E.w.heap.size
  ·right
   by_cases hP : PB b
   ·exact hP
   ·exact absurd ⟨yv, hP⟩ h.2
  ·left; omega
 have vo : ∀ p b, b ∈ RR p → (∀ j, j < aC.length → p ≠ .obj (b9 ν j)) → ∀ q, b ∉ fe q := by
  intro p b hb hp q hq
  have h1 := vm p b hb hp
  rcases (sw q b hq).2 with h | h
  ·omega
  ·exact h1.2 h
 have DK : ∀ q b, b ∈ fe q → ¬ G.K b := by
  intro q b hb hK
  rcases (sw q b hb).2 with h | ⟨j, hj, h⟩
  ·have := hi.small b hK; have := hi.size; omega
  ·exact (hi.own _ _ h).2 hK
 have Cb : ∀ o j, fV ν o = some j → j < aC.length ∧ b9 ν j = o := by
  intro o j h
  have h1 := mK h
  have hj : j < ν.length := by
   rcases Nat.lt_or_ge j ν.length with h' | h'
   ·exact h'
   ·simp [List.getElem?_eq_none h'] at h1
  exact ⟨om, by simp [b9, List.getD, h1]⟩
 have wK : L = [] → ∀ b i, kd.φ b i = E'.φ b i := by
  intro hL b i
  refine rL b i ?_
  rintro ⟨o, ho, _⟩
  rw [hL] at ho; cases ho
 have yS : ∀ b, (∀ i, E'.φ b i = none) → ∀ i, kd.φ b i = none := by
  intro b h i
  by_cases hL : LB b
  ·exact BZ b i hL
  ·rw [rL b i hL]; exact h i
 have tF : ∀ p b, b ∈ oQ p → (b ∈ RR p ∧ ∀ j, j < aC.length → p ≠ .obj (b9 ν j)) ∨ (∃ o j, p = .obj o ∧ fV ν o = some j ∧ b ∈ fe (.obj j)) := by
  intro p b hb
  cases p with
  | slot s => exact .inl ⟨Ca s b hb, fun j hj => by simp⟩
  | obj o =>
   simp only [oQ] at hb
   cases hp : fV ν o with
   | some j => rw [hp] at hb; exact .inr ⟨o, j, rfl, hp, hb⟩
   | none =>
    rw [hp] at hb
    refine .inl ⟨hb, fun j hj e => mL hp ?_⟩
    have : o = b9 ν j := by simpa using e
    rw [this]; exact List.mem_of_getElem? (GK j hj)
 have xC : Inv G kd oQ (l5 st ν F aE) a := by
  refine { hi with lq := ?_, aA := ?_, aC := ?_, nodup := ?_, apart := ?_, own := ?_, ao := ?_, size := ?_, os := ?_, tape := ?_, output := ?_, φ0 := ?_, grow := ?_, fixed := ?_ }
  ·intro b i v h
   by_cases hL : LB b
   ·rw [BZ b i hL] at h; cases h
   ·rw [rL b i hL] at h; exact tE.lq b i v h
  ·intro s y hy
   have Bv : look ((st.aA).map fun p => (p.1, AW.dv (loose ν F) p.2)) s = some y := hy
   rw [lx (AW.dv (loose ν F))] at Bv
   cases hs : look st.aA s with
   | none => simp [hs] at Bv
   | some x =>
    rw [hs] at Bv
    simp only [Option.map_some, Option.some.injEq] at Bv
    subst Bv
    cases hk : (loose ν F).any (fun o => x.dA o) with
    | true =>
     have : oQ (.slot s) = [] := by simp [oQ, hs, hk]
     rw [this]
     simp [AW.dv, hk, RX]
    | false =>
     have : oQ (.slot s) = RR (.slot s) := by simp [oQ, hs, hk]
     rw [this]
     simp only [AW.dv, hk, cond_false]
     refine RX.mono x _ _ (iG _ (fun b hb => vm _ b hb (fun j hj => by simp))) (fun o ho => hβ o (fun mu => ?_)) (hi.aA s x hs)
     have : (loose ν F).any (fun o => x.dA o) = true := List.any_eq_true.2 ⟨o, mu, ho⟩
     rw [hk] at this; cases this
  ·intro o ob ho
   have mr : look (ν.zip (aE.map (Obj.fg (b9 ν))) ++ (st.aC.map fun p => (p.1, p.2.dv (loose ν F)))) o = some ob := ho
   rw [tC (by simp [wB, hlen])] at mr
   cases hp : fV ν o with
   | some j =>
    rw [hp] at mr
    simp only [List.getElem?_map, Option.map_eq_some_iff] at mr
    obtain ⟨uH, Cc, rfl⟩ := mr
    obtain ⟨hj, Q8⟩ := Cb o j hp
    have x7 : oQ (.obj o) = fe (.obj j) := by simp [oQ, hp]
    rw [x7, ← Q8]
    have h1 : dN E' j uH (fe (.obj j)) := tE.aC j uH (by rw [gT]; exact Cc)
    have HN : uH ∈ aE := List.mem_of_getElem? Cc
    refine dN.fg.1 (?_ : dN (kd.names (b9 ν)) j uH (fe (.obj j)))
    have h3 : dN { E' with φ := kd.φ } j uH (fe (.obj j)) := by
     rcases yR with hL | uZ
     ·exact dN.mono (E := E') ⟨fun b i v h => by show kd.φ b i = _; rw [wK hL b i]; exact h, fun b _ => ⟨rfl, fun h i => by show kd.φ b i = _; rw [wK hL b i]; exact h i⟩⟩ rfl (fun _ _ _ _ => rfl) h1
     ·exact dN.off (E := E') (uZ.2 uH HN) (fun b _ => ⟨rfl, yS b⟩) (fun _ => rfl) h1
    refine dN.mono (E := { E' with φ := kd.φ }) ⟨fun _ _ _ h => h, fun b _ => ⟨rfl, fun h => h⟩⟩ (Lk j hj) (fun ys tm q hq => ?_) h3
    subst tm
    exact Lk q (X.je (Lj _ HN) hq)
   | none =>
    rw [hp] at mr
    simp only at mr
    rw [lx (Obj.dv (loose ν F))] at mr
    cases hs : look st.aC o with
    | none => simp [hs] at mr
    | some Hl =>
     rw [hs] at mr
     simp only [Option.map_some, Option.some.injEq] at mr
     subst mr
     have x7 : oQ (.obj o) = RR (.obj o) := by simp [oQ, hp]
     rw [x7]
     have HO : ∀ j, j < aC.length → Own.obj o ≠ .obj (b9 ν j) := fun j hj e => mL hp (by
      have : o = b9 ν j := by simpa using e
      rw [this]; exact List.mem_of_getElem? (GK j hj))
     have r6 := iG _ (fun b hb => vm _ b hb HO)
     have lk := hi.aC o Hl hs
     have Ll : kd.β o = E.β o := by
      show (match fV ν o with | some j => E'.β j | none => E.β o) = E.β o
      rw [hp]
     cases Hl with
     | cells ys =>
      simp only [Obj.dv, dN] at lk ⊢
      obtain ⟨pw, B, cs, tb, hB, hw, hf, HP, j4, iH⟩ := lk
      have h2 := r6.2 B.b (by rw [iH]; simp)
      exact ⟨oS _ pw, B, cs, tb, Ll.trans hB, h2.1.trans hw, h2.2 hf, by simpa using HP,
       RO.mono _ cs _ [] (r6.sub (fun _ h => by cases h)) (fun q hq => hβ q (oT hq)) (RO.dv pw j4), iH⟩
     | rows s rs => exact dN.mono r6 Ll (fun ys h => by cases h) lk
     | uT es => exact dN.mono r6 Ll (fun ys h => by cases h) lk
     | gone => simpa [Obj.dv, dN] using lk
  ·intro p
   cases p with
   | slot s =>
    simp only [oQ]
    cases hs : look st.aA s with
    | none => exact List.nodup_nil
    | some x =>
     simp only
     cases (loose ν F).any (fun o => x.dA o) with
     | true => exact List.nodup_nil
     | false => exact hi.nodup _
   | obj o =>
    simp only [oQ]
    cases fV ν o with
    | some j => exact tE.nodup _
    | none => exact hi.nodup _
  ·intro p q lr b hb fS
   rcases tF p b hb with ⟨h1, h2⟩ | ⟨o, j, rfl, hp, h1⟩
   ·rcases tF q b fS with ⟨h3, h4⟩ | ⟨o', j', rfl, GJ, h3⟩
    ·exact hi.apart p q lr b h1 h3
    ·exact vo p b h1 h2 _ h3
   ·rcases tF q b fS with ⟨h3, h4⟩ | ⟨o', j', rfl, GJ, h3⟩
    ·exact vo q b h3 h4 _ h1
    ·have Q9 : j ≠ j' := fun e => by
      subst e
      have := (Cb o j hp).2.symm.trans (Cb o' j GJ).2
      exact lr (by rw [this])
     exact tE.apart (.obj j) (.obj j') (by simpa using Q9) b h1 h3
  ·intro p b hb
   rcases tF p b hb with ⟨h1, h2⟩ | ⟨o, j, rfl, hp, h1⟩
   ·have h4 := hi.own p b h1
    exact ⟨Nat.lt_of_lt_of_le h4.1 ez, h4.2⟩
   ·exact ⟨(sw _ b h1).1, DK _ b h1⟩
  ·intro b hK
   have h1 : b < E.w.heap.size := Nat.lt_of_lt_of_le (hi.small b hK) hi.size
   have h2 : ¬ PB b := fun ⟨j, hj, h⟩ => (hi.own _ _ h).2 hK
   have := DJ b h1 h2
   exact this.trans (hi.ao b hK)
  ·exact Nat.le_trans hi.size ez
  ·exact tE.os.trans hi.os
  ·exact tE.tape.trans hi.tape
  ·exact tE.output.trans hi.output
  ·exact fun b i v h => HL b i v (hi.φ0 b i v h)
  ·intro b i v h
   by_cases hL : LB b
   ·rw [BZ b i hL] at h; cases h
   ·rw [rL b i hL] at h
    rcases tE.grow b i v h with h1 | h1
    ·have HM : (E.en LB).φ b i = some v := h1
     rw [eo E hL] at HM
     exact hi.grow b i v HM
    ·right
     intro hK
     exact h1 ⟨Nat.lt_of_lt_of_le (hi.small b hK) hi.size, fun ⟨j, hj, h⟩ => (hi.own _ _ h).2 hK⟩
  ·intro o ho
   rw [hβ o (fun mu => by rw [BY o mu] at ho; cases ho)]
   exact hi.fixed o ho
 have hr : RX kd (r.fg (b9 ν)) v (fe (.slot 0)) := by
  have h1 : RX E' r v (fe (.slot 0)) := tE.aA 0 r rfl
  have h3 : RX { E' with φ := kd.φ } r v (fe (.slot 0)) := by
   rcases yR with hL | uZ
   ·exact RX.mono (E := E') r _ _ ⟨fun b i v h => by show kd.φ b i = _; rw [wK hL b i]; exact h, fun b _ => ⟨rfl, fun h i => by show kd.φ b i = _; rw [wK hL b i]; exact h i⟩⟩ (fun _ _ => rfl) h1
   ·exact RX.off (E := E') r _ _ uZ.1 (fun b _ => ⟨rfl, yS b⟩) (fun _ => rfl) h1
  refine (RX.fg r v _).1 (?_ : RX (kd.names (b9 ν)) r v (fe (.slot 0)))
  exact RX.mono (E := { E' with φ := kd.φ }) r _ _ ⟨fun _ _ _ h => h, fun b _ => ⟨rfl, fun h => h⟩⟩ (fun q hq => Lk q (X.wJ Li hq)) h3
 refine ⟨kd, _, rfl, xC.put hd hr (tE.nodup _) (fun b hb => ⟨(sw _ b hb).1, DK _ b hb, fun p _ x6 => ?_⟩)⟩
 rcases tF p b x6 with ⟨h1, h2⟩ | ⟨o, j, rfl, hp, h1⟩
 ·exact vo p b h1 h2 _ hb
 ·exact tE.apart (.slot 0) (.obj j) (by simp) b hb h1
theorem Inv.call {G : Ctx} {E : Env} {RR : Own → List Nat} {a : Act} {f : FuncId} {bP : List Operand} {xs args : List X} {aC : List Obj} {F ν L : List Nat} {Q' : X → List Obj → Prop} (hi : Inv G E RR st a) (fW : ak P f args aC F Q')
  (fR : j6 st bP = some xs) (eh : di st L (b9 ν) xs args) (n7 : ∀ j ob, aC[j]? = some ob → look st.aC (b9 ν j) = some (ob.fg (b9 ν))) (hlen : ν.length = aC.length) (yQ : ν.Nodup) (BX : ∀ o ∈ L, o ∉ ν)
  (h0 : ∀ o ∈ L, ∃ ob, look st.aC o = some ob ∧ jB ob) (BY : ∀ o ∈ loose ν F, G.fn.F.elem o = false) (hd : d < G.fn.n) :
  Calls P f (bP.map a.eval).toArray E.w fun e w' => ∃ v r aE, e = .returned v ∧ Q' r aE ∧ aE.length = aC.length ∧
   (r.lt aC.length = true → (∀ ob ∈ aE, ob.lt aC.length = true) → (L = [] ∨ (r.plain ∧ ∀ ob ∈ aE, ob.plain)) → ∃ kd sv, kd.w = w' ∧ Inv G kd sv ((l5 st ν F aE).put d (r.fg (b9 ν))) (a.put (some d) v)) := by
 obtain ⟨uK, DI⟩ := n6 hi fR
 exact hi.DH fW (by simpa using uK) (fun j x hx => by
  obtain ⟨o, ho, R, hR⟩ := DI j x hx
  exact ⟨a.eval o, by simp [ho], R, hR⟩) eh n7 hlen yQ BX h0 BY hd
theorem aa.call {f : FuncId} {bP : Array Operand} {nk : Array TypeId} {xs args : List X} {aC : List Obj} {F : List Nat} {Q' : X → List Obj → Prop} (ν L : List Nat) (ov : aG P f = true) (fW : ak P f args aC F Q')
  (fR : j6 st bP.toList = some xs) (eh : di st L (b9 ν) xs args) (n7 : ∀ j ob, aC[j]? = some ob → look st.aC (b9 ν j) = some (ob.fg (b9 ν))) (hlen : ν.length = aC.length) (yQ : ν.Nodup) (BX : ∀ o ∈ L, o ∉ ν)
  (h0 : ∀ o ∈ L, ∃ ob, look st.aC o = some ob ∧ jB ob) (BY : ∀ o ∈ loose ν F, N.F.elem o = false) (hd : d < N.n)
  (k : ∀ r aE, Q' r aE → aE.length = aC.length → (r.lt aC.length = true ∧ (∀ ob ∈ aE, ob.lt aC.length = true) ∧ (L = [] ∨ (r.plain ∧ ∀ ob ∈ aE, ob.plain))) ∧ aa P N all rest ((l5 st ν F aE).put d (r.fg (b9 ν))) Q) :
  aa P N all (⟨some d, .call ⟨.value (.func f), bP, nk⟩, ty, pos, af, none⟩ :: rest) st Q := by
 intro G hn a w hh
 obtain ⟨E, RR, rfl, hi⟩ := hh
 have hc := hi.call fW fR eh n7 hlen yQ BX h0 (fun o ho => by rw [hn]; exact BY o ho) (d := d) (by rw [hn]; exact hd)
 have gS : (execOp a.eval ⟨some d, .call ⟨.value (.func f), bP, nk⟩, ty, pos, af, none⟩).run P E.w = .ok (.enter f (bP.toList.map a.eval).toArray) E.w := by
  have e : (execOp a.eval ⟨some d, .call ⟨.value (.func f), bP, nk⟩, ty, pos, af, none⟩).run P E.w = (callFunc f ((#[] ++ bP.map a.eval) ++ #[])).run P E.w := rfl
  rw [e, pN ov]
  congr 2
  apply Array.ext'
  simp
 refine wpList_plain rfl fun K hK => ?_
 simp only [Oper.wp, gS, Oper.upon_enter]
 refine hc.mono ?_
 rintro e w' ⟨v, r, aE, rfl, HK, wB, yT⟩
 obtain ⟨⟨h1, h2, h3⟩, hk⟩ := k r aE HK wB
 obtain ⟨kd, sv, hw, hI⟩ := yT h1 h2 h3
 exact hK _ _ (hk G hn _ _ ⟨kd, sv, hw, hI⟩)
end
end Go.AW
namespace Go.AW
open Go
section
variable {P : Program} {N : eg} {st : St} {Q : Exit → St → Prop} {all : Array Oper} {rest : List Oper} {d : Nat} {ty : TypeId} {pos : String} {af : Array Edge}
theorem ab.aI {c : Operand} {x y : Code} (hc : bw st c = some (.v (.bool true))) (h : ab P N x st Q) : ab P N (.cond c x y) st Q := ab.cond hc (fun _ => h) (fun h => by cases h)
theorem ab.cj {c : Operand} {x y : Code} (hc : bw st c = some (.v (.bool false))) (h : ab P N y st Q) : ab P N (.cond c x y) st Q := ab.cond hc (fun h => by cases h) (fun _ => h)
section ints
variable {dst : Option Nat} {g : Option (Nat × Bool)} {t t' : TypeId} {x y : Operand} {a b : Int}
theorem Y.qb (hx : bw st x = some (.v (.int .i64 a))) (hy : bw st y = some (.v (.int .i64 b))) (hr : -9223372036854775808 ≤ a + b ∧ a + b ≤ 9223372036854775807) : Yields P N st ⟨dst, .binOp .add t x y t', ty, pos, af, g⟩ (.v (.int .i64 (a + b))) :=
 Y.qa hx hy (IntWalk.i64_in _ hr)
theorem Y.wd (hx : bw st x = some (.v (.int .i64 a))) (hy : bw st y = some (.v (.int .i64 b))) (hr : -9223372036854775808 ≤ a - b ∧ a - b ≤ 9223372036854775807) : Yields P N st ⟨dst, .binOp .sub t x y t', ty, pos, af, g⟩ (.v (.int .i64 (a - b))) :=
 Y.wc hx hy (IntWalk.i64_in _ hr)
theorem Y.zh (hx : bw st x = some (.v (.int .i64 a))) (hy : bw st y = some (.v (.int .i64 b))) (hr : -9223372036854775808 ≤ a * b ∧ a * b ≤ 9223372036854775807) : Yields P N st ⟨dst, .binOp .mul t x y t', ty, pos, af, g⟩ (.v (.int .i64 (a * b))) :=
 Y.zg hx hy (IntWalk.i64_in _ hr)
theorem Y.zr (hx : bw st x = some (.v (.int .i64 a))) (hy : bw st y = some (.v (.int .i64 b))) (hr : 0 ≤ a ∧ a ≤ 9223372036854775807 ∧ 1 ≤ b) : Yields P N st ⟨dst, .binOp .quo t x y t', ty, pos, af, g⟩ (.v (.int .i64 (a / b))) :=
 Y.zq hx hy om (IntWalk.i64_quo a b hr)
theorem Y.zu {k : IntKind} (hx : bw st x = some (.v (.int k a))) (hy : bw st y = some (.v (.int k b))) (hr : 0 ≤ a ∧ 1 ≤ b) : Yields P N st ⟨dst, .binOp .rem t x y t', ty, pos, af, g⟩ (.v (.int k (a % b))) :=
 Y.zt hx hy om (IntWalk.rem_in a b hr.1)
end ints
theorem rM (x : X) : dv [] x = x := rfl
theorem mM (st : St) : l5 st [] [] [] = st := by
 have h1 : ∀ (l : List (Nat × X)), l.map (fun p => (p.1, AW.dv [] p.2)) = l := by
  intro l
  induction l with
  | nil => rfl
  | cons p r ih => simp [rM]
 have h2 : ∀ ob : Obj, ob.dv [] = ob := by
  intro ob
  cases ob with
  | cells xs =>
   have : xs.map (AW.dv []) = xs := by
    induction xs with
    | nil => rfl
    | cons x r ih => simp [ih, rM]
   simp [Obj.dv, this]
  | rows => rfl
  | uT => rfl
  | gone => rfl
 have h3 : ∀ (l : List (Nat × Obj)), l.map (fun p => (p.1, p.2.dv [])) = l := by
  intro l
  induction l with
  | nil => rfl
  | cons p r ih => simp [h2]
 cases st
 simp [l5, St.dv, loose, dG, h1, h3]
def mN (st : St) (ν : Nat → Nat) : Nat → List Obj → Prop
 | _, [] => True
 | j, ob :: r => look st.aC (ν j) = some (ob.fg ν) ∧ mN st ν (j + 1) r
theorem mN.get {ν : Nat → Nat} : ∀ {aC : List Obj} {i : Nat}, mN st ν i aC → ∀ j ob, aC[j]? = some ob → look st.aC (ν (i + j)) = some (ob.fg ν)
 | [], _, _, _, _, h => by simp at h
 | o :: r, i, h, j, ob, hj => by
  simp only [mN] at h
  cases j with
  | zero => simp at hj; subst hj; simpa using h.1
  | succ j =>
   have := mN.get h.2 j ob (by simpa using hj)
   rw [show i + (j + 1) = i + 1 + j by omega]; exact this
theorem aa.n8 {f : FuncId} {bP : Array Operand} {nk : Array TypeId} {xs args : List X} {Q' : X → List Obj → Prop} (ov : aG P f = true) (fW : ak P f args [] [] Q')
  (fR : j6 st bP.toList = some xs) (eh : di st [] (b9 []) xs args) (hd : d < N.n)
  (k : ∀ r, Q' r [] → r.lt 0 = true ∧ aa P N all rest (st.put d (r.fg (b9 []))) Q) :
  aa P N all (⟨some d, .call ⟨.value (.func f), bP, nk⟩, ty, pos, af, none⟩ :: rest) st Q := by
 refine aa.call [] [] ov fW fR eh (fun j ob h => by simp at h) rfl List.nodup_nil (fun _ h => by cases h) (fun _ h => by cases h) (fun _ h => by cases h) hd ?_
 intro r aE hq hl
 have : aE = [] := List.eq_nil_of_length_eq_zero hl
 subst this
 obtain ⟨h1, h2⟩ := k r hq
 refine ⟨⟨h1, fun _ h => (by cases h), .inl rfl⟩, ?_⟩
 rw [mM]; exact h2
theorem aa.HQ {f : FuncId} {bP : Array Operand} {nk : Array TypeId} {xs args : List X} {R R' : X} (ov : aG P f = true) (fW : ak P f args [] [] (fun r o => r = R ∧ o = []))
  (fR : j6 st bP.toList = some xs) (eh : di st [] (b9 []) xs args) (hd : d < N.n) (gM : R.lt 0 = true) (hR : R.fg (b9 []) = R')
  (k : aa P N all rest (st.put d R') Q) : aa P N all (⟨some d, .call ⟨.value (.func f), bP, nk⟩, ty, pos, af, none⟩ :: rest) st Q := by
 refine aa.n8 ov fW fR eh hd ?_
 rintro r ⟨rfl, _⟩
 rw [hR]; exact ⟨gM, k⟩
theorem aa.HR {f : FuncId} {bP : Array Operand} {nk : Array TypeId} {xs args : List X} {R R' : X} (L : List Nat) (ov : aG P f = true) (fW : ak P f args [] [] (fun r o => r = R ∧ o = []))
  (fR : j6 st bP.toList = some xs) (eh : di st L (b9 []) xs args) (h0 : ∀ o ∈ L, ∃ ob, look st.aC o = some ob ∧ jB ob) (hd : d < N.n) (gM : R.lt 0 = true) (hR : R.fg (b9 []) = R') (hp : R.plain)
  (k : aa P N all rest (st.put d R') Q) : aa P N all (⟨some d, .call ⟨.value (.func f), bP, nk⟩, ty, pos, af, none⟩ :: rest) st Q := by
 refine aa.call [] L ov fW fR eh (fun j ob h => by simp at h) rfl List.nodup_nil (fun _ _ h => by cases h) h0 (fun _ h => by cases h) hd ?_
 rintro r aE ⟨rfl, rfl⟩ hl
 refine ⟨⟨gM, fun _ h => (by cases h), .inr ⟨hp, fun _ h => (by cases h)⟩⟩, ?_⟩
 rw [mM, hR]; exact k
theorem aa.br {f : FuncId} {bP : Array Operand} {nk : Array TypeId} {xs args : List X} {aC : List Obj} {F : List Nat} {Q' : X → List Obj → Prop} (ν L : List Nat) (ov : aG P f = true) (fW : ak P f args aC F Q')
  (fR : j6 st bP.toList = some xs) (eh : di st L (b9 ν) xs args) (n7 : mN st (b9 ν) 0 aC) (hlen : ν.length = aC.length) (yQ : ν.Nodup) (BX : ∀ o ∈ L, o ∉ ν)
  (h0 : ∀ o ∈ L, ∃ ob, look st.aC o = some ob ∧ jB ob) (BY : ∀ o ∈ loose ν F, N.F.elem o = false) (hd : d < N.n)
  (k : ∀ r aE, Q' r aE → aE.length = aC.length → (r.lt aC.length = true ∧ (∀ ob ∈ aE, ob.lt aC.length = true) ∧ (L = [] ∨ (r.plain ∧ ∀ ob ∈ aE, ob.plain))) ∧ aa P N all rest ((l5 st ν F aE).put d (r.fg (b9 ν))) Q) :
  aa P N all (⟨some d, .call ⟨.value (.func f), bP, nk⟩, ty, pos, af, none⟩ :: rest) st Q :=
 aa.call ν L ov fW fR eh (fun j ob h => by have := n7.get j ob h; rwa [Nat.zero_add] at this) hlen yQ BX h0 BY hd k
theorem gB {α : Type} {s : Nat} {f : α → List X} {l : List α} (h : ∀ a, X.bj (f a) = true) : jB (.rows s (l.map f)) := by
 intro r hr
 obtain ⟨a, _, rfl⟩ := List.mem_map.1 hr
 exact h a
end
end Go.AW
namespace Go.AW
open Go
section
variable {P : Program} {N : eg} {st : St} {Q : Exit → St → Prop} {K : St → Prop} {all : Array Oper} {rest : List Oper} {d : Nat} {ty : TypeId} {pos : String} {af : Array Edge}
def a9 (P : Program) (N : eg) (all : Array Oper) (l : List Oper) (st : St) (K : St → Prop) : Prop :=
 ∀ G : Ctx, G.fn = N → ∀ a w, bZ G st a w → wpStill P all w (fun a' => ∃ bc, K bc ∧ bZ G bc a' w) l a
theorem bZ.drew {G : Ctx} {a : Act} {w : World} (h : bZ G st a w) : bZ G st a { w with drawn := w.drawn + 1 } := by
 obtain ⟨E, RR, rfl, hi⟩ := h
 exact ⟨{ E with w := E.w.drew }, RR, rfl, hi.wC (cz.drew G E) rfl⟩
theorem a9.nil (h : K st) : a9 P N all [] st K := fun _ _ _ _ hh => ⟨st, h, hh⟩
theorem a9.val {op : Op} {x : X} (hy : Yields P N st ⟨some d, op, ty, pos, af, none⟩ x) (hd : d < N.n) (k : a9 P N all rest (st.put d x) K) : a9 P N all (⟨some d, op, ty, pos, af, none⟩ :: rest) st K := by
 intro G hn a w hh
 obtain ⟨E, RR, rfl, hi⟩ := hh
 obtain ⟨u, hr, hx⟩ := hy G E RR a hn hi
 unfold wpStill
 rw [if_pos (by simp [Region.wanted])]
 simp only [Oper.still, hr, Oper.stillUpon_value]
 exact k G hn _ _ ⟨E, _, rfl, hi.fT (hn ▸ hd) hx⟩
theorem a9.split {b : Bool} (hx : look st.aA d = some (.v (.bool b))) (ht : b = true → a9 P N all rest (st.put d (.v (.bool true))) K) (hf : b = false → a9 P N all rest (st.put d (.v (.bool false))) K) : a9 P N all rest st K := by
 have : Le st (st.put d (.v (.bool b))) := ⟨fB.cons hx (fun _ _ h => h), fun _ _ h => h⟩
 intro G hn a w hh
 cases b
 ·exact hf rfl G hn a w (this.holds hh)
 ·exact ht rfl G hn a w (this.holds hh)
theorem xD {G : Ctx} {E : Env} {RR : Own → List Nat} {a : Act} (hi : Inv G E RR st a) {b : Bool} (hd : d < G.fn.n) (hx : look st.aA d = some (.v (.bool b))) : a.tmps[d]? = some (.bool b) := by
 have hs := hi.aA d _ hx
 simp only [RX] at hs
 have ez : d < a.tmps.size := by rw [hi.tmps]; exact hd
 have := hs.1
 simp only [Array.getD, ez, dif_pos] at this
 rw [Array.getElem?_eq_getElem ez]
 exact congrArg some this
theorem a9.aQ {dst : Option Nat} {op : Op} {j : Nat} {want : Bool} (hj : (all[j]?).bind (·.dst) = some d) (hd : d < N.n) (hx : look st.aA d = some (.v (.bool want)))
  (k : a9 P N all (⟨dst, op, ty, pos, af, none⟩ :: rest) st K) : a9 P N all (⟨dst, op, ty, pos, af, some (j, want)⟩ :: rest) st K := by
 intro G hn a w hh
 have hk := k G hn a w hh
 obtain ⟨E, RR, rfl, hi⟩ := hh
 have hv := xD hi (by rw [hn]; exact hd) hx
 have hw : Region.wanted ⟨dst, op, ty, pos, af, some (j, want)⟩ (yielded all a.tmps) = true := by
  simp [Region.wanted, yielded, hj, hv]
 unfold wpStill at hk ⊢
 rw [if_pos hw]
 rw [if_pos (by simp [Region.wanted])] at hk
 exact hk
theorem ab.iT {id : Nat} {l : List Oper} (n : Nat) (hm : P.follows .mixedOrders = true) (hB : Region.lexTailB .any l.toArray n = true)
  (h : a9 P N l.toArray (l.take n) st (fun bc => aa P N l.toArray (l.drop n) bc Q)) : ab P N (.region id l.toArray true) st Q := by
 intro G hn a w hh
 refine wp_region_still_tail n hm hB ?_
 have h1 := h G hn a _ hh.drew
 have mono : ∀ (l' : List Oper) (a : Act) {w : World} {K1 K2 : Act → Prop}, (∀ a, K1 a → K2 a) → wpStill P l.toArray w K1 l' a → wpStill P l.toArray w K2 l' a := by
  intro l'
  induction l' with
  | nil => intro a w K1 K2 hk h; exact hk _ h
  | cons o r ih =>
   intro a w K1 K2 hk h
   unfold wpStill at h ⊢
   split
   ·rename_i hw; rw [if_pos hw] at h; exact Oper.still_mono (fun a' h' => ih a' hk h') h
   ·rename_i hw; rw [if_neg hw] at h; exact ih _ hk h
 exact mono _ _ (fun a' ⟨bc, hk, gR⟩ => hk G hn a' _ gR) h1
theorem ab.gC {id : Nat} {l : List Oper} (hm : P.follows .mixedOrders = true) (hB : Region.lexB .any l.toArray = true)
  (h : a9 P N l.toArray l st (fun bc => Q .normal bc)) : ab P N (.region id l.toArray true) st Q := by
 intro G hn a w hh
 refine wp_region_still_lit hm hB ?_
 have h1 := h G hn a _ hh.drew
 have mono : ∀ (l' : List Oper) (a : Act) {w : World} {K1 K2 : Act → Prop}, (∀ a, K1 a → K2 a) → wpStill P l.toArray w K1 l' a → wpStill P l.toArray w K2 l' a := by
  intro l'
  induction l' with
  | nil => intro a w K1 K2 hk h; exact hk _ h
  | cons o r ih =>
   intro a w K1 K2 hk h
   unfold wpStill at h ⊢
   split
   ·rename_i hw; rw [if_pos hw] at h; exact Oper.still_mono (fun a' h' => ih a' hk h') h
   ·rename_i hw; rw [if_neg hw] at h; exact ih _ hk h
 exact mono _ _ (fun a' ⟨bc, hk, gR⟩ => ⟨bc, gR, hk⟩) h1
end
end Go.AW
namespace Go.AW
open Go
section
variable {P : Program} {N : eg} {st bc : St} {Q : Exit → St → Prop} {K : St → Prop} {all : Array Oper} {rest : List Oper} {d : Nat} {ty : TypeId} {pos : String} {af : Array Edge}
theorem ab.ay {c : Operand} {x y : Code} {p : Prop} {inst : Decidable p} (hc : bw st c = some (.v (.bool (decide p)))) (ht : p → ab P N x st Q) (hf : ¬ p → ab P N y st Q) :
  ab P N (.cond c x y) st Q := ab.cond hc (fun h => ht (of_decide_eq_true h)) (fun h => hf (of_decide_eq_false h))
theorem ab.jC {c : Operand} {x y : Code} {p : Prop} {inst : Decidable p} (hc : bw st c = some (.v (.bool (!decide p)))) (ht : ¬ p → ab P N x st Q) (hf : p → ab P N y st Q) :
 ab P N (.cond c x y) st Q := ab.cond hc (fun h => ht (by simpa using h)) (fun h => hf (by simpa using h))
theorem Le.test {b : Bool} (hx : look st.aA d = some (.v (.bool b))) : Le st (st.put d (.v (.bool b))) := ⟨fB.cons hx (fun _ _ h => h), fun _ _ h => h⟩
theorem ab.yU {x y : Code} {b : Bool} (hc : look st.aA d = some (.v (.bool b))) (ht : b = true → ab P N x (st.put d (.v (.bool true))) Q) (hf : b = false → ab P N y (st.put d (.v (.bool false))) Q) :
  ab P N (.cond (.tmp d) x y) st Q := by
 refine ab.cond (b := b) hc (fun h => ?_) (fun h => ?_)
 ·subst h; exact (ht rfl).le (Le.test hc)
 ·subst h; exact (hf rfl).le (Le.test hc)
theorem ab.bh {x y : Code} {p : Prop} {inst : Decidable p} (hc : look st.aA d = some (.v (.bool (decide p)))) (ht : p → ab P N x (st.put d (.v (.bool true))) Q) (hf : ¬ p → ab P N y (st.put d (.v (.bool false))) Q) :
  ab P N (.cond (.tmp d) x y) st Q := ab.yU hc (fun h => ht (of_decide_eq_true h)) (fun h => hf (of_decide_eq_false h))
theorem aa.ax {p : Prop} {inst : Decidable p} (hx : look st.aA d = some (.v (.bool (decide p))))
  (ht : p → aa P N all rest (st.put d (.v (.bool true))) Q) (hf : ¬ p → aa P N all rest (st.put d (.v (.bool false))) Q) : aa P N all rest st Q :=
 aa.split hx (fun h => ht (of_decide_eq_true h)) (fun h => hf (of_decide_eq_false h))
theorem aa.mO {p : Prop} {inst : Decidable p} (hx : look st.aA d = some (.v (.bool (!decide p))))
 (ht : ¬ p → aa P N all rest (st.put d (.v (.bool true))) Q) (hf : p → aa P N all rest (st.put d (.v (.bool false))) Q) : aa P N all rest st Q :=
 aa.split hx (fun h => ht (by simpa using h)) (fun h => hf (by simpa using h))
theorem a9.ax {p : Prop} {inst : Decidable p} (hx : look st.aA d = some (.v (.bool (decide p))))
  (ht : p → a9 P N all rest (st.put d (.v (.bool true))) K) (hf : ¬ p → a9 P N all rest (st.put d (.v (.bool false))) K) : a9 P N all rest st K :=
 a9.split hx (fun h => ht (of_decide_eq_true h)) (fun h => hf (of_decide_eq_false h))
theorem ab.join {x y : Code} {ι : Type} (J : ι → St) (I : ι → Prop) (hx : ab P N x st (ka (fun bc => ∃ i, I i ∧ Le bc (J i)) Q)) (hy : ∀ i, I i → ab P N y (J i) Q) : ab P N (.seq x y) st Q := by
 refine ab.seq (hx.mono ?_)
 intro e Bz h
 cases e with
 | normal => obtain ⟨i, hI, hle⟩ := h; exact (hy i hI).le hle
 | _ => exact h
theorem di.ao {L : List Nat} {ν : Nat → Nat} {x : X} {xs ys : List X} (h : x.free = true) (he : x.fg ν = x) (hs : di st L ν xs ys) : di st L ν (x :: xs) (x :: ys) := by
 have := tB.same (st := st) (L := L) (ν := ν) h
 rw [he] at this
 exact .cons this hs
def cp (rs : List (List X)) : Prop := ∀ r ∈ rs, X.bj r = true
theorem cp.map {α : Type} {f : α → List X} {l : List α} (h : ∀ a, X.bj (f a) = true) : cp (l.map f) := by
 intro r hr
 obtain ⟨a, _, rfl⟩ := List.mem_map.1 hr
 exact h a
theorem pO {α : Type} {f : α → List X} (h : ∀ a, X.gA (f a)) : ∀ l : List α, X.kE (l.map f)
 | [] => by simp [X.kE]
 | a :: r => by simp only [List.map_cons, X.kE]; exact ⟨h a, pO h r⟩
theorem Sh.freeze {s : Nat} {rows : List (List X)} (hx : look st.aA d = some (.cX s rows)) (hf : cp rows) : Sh N st (st.put d (.fz s rows)) := by
 intro G hn a w hh
 obtain ⟨E, RR, rfl, hi⟩ := hh
 have hv := hi.aA d _ hx
 have jA := hi.nodup (.slot d)
 simp only [RX] at hv
 obtain ⟨hu, base, cap, hc, cJ⟩ := hv
 rcases cJ with ⟨h1, h2, h3⟩ | ⟨b, off, cs, ty, R', hb, hw, hl, ho, hφ, j4, iH⟩
 ·refine ⟨E, _, rfl, hi.relabel (d := d) (R := []) ?_ List.nodup_nil (fun _ h => by cases h)⟩
  simp only [RX]
  exact ⟨trivial, hu, base, cap, hc, .inl ⟨h1, h2⟩⟩
 ·have BW := bX.free hf j4
  subst BW
  have lu : b ∈ RR (.slot d) := by rw [iH]; simp
  have kY := hi.no d
  have hle : ∀ c i v, E.φ c i = some v → (if c = b then cs[i]? else E.φ c i) = some v := by
   intro c i v h
   by_cases py : c = b
   ·subst py; rw [hφ i] at h; cases h
   ·rw [if_neg py]; exact h
  have iG : ∀ R : List Nat, b ∉ R → E.On { E with φ := fun c i => if c = b then cs[i]? else E.φ c i } R := by
   intro R E7
   refine ⟨hle, fun c nv => ⟨rfl, fun h i => ?_⟩⟩
   have : c ≠ b := fun e => E7 (e ▸ nv)
   show (if c = b then cs[i]? else E.φ c i) = none
   rw [if_neg this]; exact h i
  have EL : ∀ p, b ∉ eZ RR (.slot d) [] p := by
   intro p hp
   unfold eZ at hp
   split at hp
   ·cases hp
   ·rename_i h; exact hi.apart _ _ h b hp lu
  have Lm : Inv G { E with φ := fun c i => if c = b then cs[i]? else E.φ c i } (eZ RR (.slot d) []) (st.put d .no) a :=
   {kY with
    lq := by
     intro c i v h
     change (if c = b then cs[i]? else E.φ c i) = some v at h
     by_cases py : c = b
     ·subst py; rw [if_pos rfl] at h
      show E.w.cell? _ = _
      rw [cy hw]; exact h
     ·rw [if_neg py] at h; exact hi.lq c i v h
    aA := fun q x hx => RX.mono x _ _ (iG _ (EL _)) (fun _ _ => rfl) (kY.aA q x hx)
    aC := fun o ob aS => dN.mono (iG _ (EL _)) rfl (fun _ _ _ _ => rfl) (kY.aC o ob aS)
    φ0 := fun c i v h => hle c i v (hi.φ0 c i v h)
    grow := by
     intro c i v h
     change (if c = b then cs[i]? else E.φ c i) = some v at h
     by_cases py : c = b
     ·subst py; exact .inr (hi.own _ _ lu).2
     ·rw [if_neg py] at h; exact hi.grow c i v h }
  have h4 := Lm.relabel (d := d) (x := .fz s rows) (R := []) (by
   simp only [RX]
   refine ⟨trivial, hu, base, cap, hc, .inr ⟨b, off, hb, hl, ?_⟩⟩
   refine bX.freeze (E := E) (fun i v h => ?_) hle j4
   show (if b = b then cs[i]? else E.φ b i) = some v
   rw [if_pos rfl]; exact h) List.nodup_nil (fun _ h => by cases h)
  refine ⟨{ E with φ := fun c i => if c = b then cs[i]? else E.φ c i }, eZ (eZ RR (.slot d) []) (.slot d) [], rfl, { h4 with aA := fun q x hx => ?_, aC := h4.aC }⟩
  refine h4.aA q x ?_
  simp only [St.put, look] at hx ⊢
  cases hq : Nat.beq d q with
  | true => rw [hq] at hx; simpa using hx
  | false => rw [hq] at hx; simpa using hx
end
end Go.AW
namespace Go.AW
open Go
mutual
def X.mP : X → X
 | .cX s rows => .fz s (X.mQ rows)
 | .agg xs => .agg (X.j7 xs)
 | .tup xs => .tup (X.j7 xs)
 | .v u => .v u
 | .no => .no
 | .fz s rows => .fz s rows
 | .ptr o s i k => .ptr o s i k
 | .aY o s lo n => .aY o s lo n
 | .mref o => .mref o
 | .fp row k => .fp row k
 | .gN f a b => .gN f a b
def X.j7 : List X → List X
 | [] => []
 | x :: r => x.mP :: X.j7 r
def X.mQ : List (List X) → List (List X)
 | [] => []
 | r :: rs => X.j7 r :: X.mQ rs
end
theorem X.l8 : ∀ xs : List X, (X.j7 xs).length = xs.length
 | [] => rfl
 | _ :: r => by simp [X.j7, X.l8 r]
theorem X.l9 : ∀ rs : List (List X), (X.mQ rs).length = rs.length
 | [] => rfl
 | _ :: r => by simp [X.mQ, X.l9 r]
theorem bJ.mQ {s : Nat} : ∀ {rs : List (List X)}, bJ s rs → bJ s (X.mQ rs)
 | [], _ => fun _ h => by cases h
 | r :: rs, h => by
  intro q hq
  simp only [X.mQ, List.mem_cons] at hq
  rcases hq with rfl | hq
  ·rw [X.l8]; exact h r (by simp)
  ·exact bJ.mQ (fun q hq => h q (by simp [hq])) q hq
mutual
theorem X.yV : ∀ {x : X}, x.free = true → x.mP = x
 | .v _, _ | .no, _ | .fz .., _ | .ptr .., _ | .aY .., _ | .mref _, _ | .fp .., _ | .gN .., _ => rfl
 | .cX .., h => by cases h
 | .agg xs, h => by simp only [X.mP]; rw [X.kF (xs := xs) h]
 | .tup xs, h => by simp only [X.mP]; rw [X.kF (xs := xs) h]
theorem X.kF : ∀ {xs : List X}, X.bj xs = true → X.j7 xs = xs
 | [], _ => rfl
 | x :: r, h => by
  simp only [X.bj, Bool.and_eq_true] at h
  simp only [X.j7]
  rw [X.yV h.1, X.kF h.2]
end
mutual
theorem X.yW : ∀ {x : X}, x.nr = true → x.mP.nr = true
 | .v _, _ | .no, _ | .fz .., _ | .fp .., _ => rfl
 | .cX .., _ => rfl
 | .agg xs, h => X.sx (xs := xs) h
 | .tup xs, h => X.sx (xs := xs) h
 | .gN .., h => h
 | .ptr .., h => h
 | .aY .., h => h
 | .mref _, h => h
theorem X.sx : ∀ {xs : List X}, X.ga xs = true → X.ga (X.j7 xs) = true
 | [], _ => rfl
 | x :: r, h => by
  simp only [X.ga, Bool.and_eq_true] at h
  simp only [X.j7, X.ga, Bool.and_eq_true]
  exact ⟨X.yW h.1, X.sx h.2⟩
end
def Env.yX (E E' : Env) (R : List Nat) : Prop :=
 E'.w = E.w ∧ E'.β = E.β ∧ (∀ c i v, E.φ c i = some v → E'.φ c i = some v) ∧ ∀ b ∈ R, ∀ i v, E.w.cell? ⟨b, i, none⟩ = some v → E'.φ b i = some v
theorem Env.yX.sub {E E' : Env} {R R' : List Nat} (h : E.yX E' R) (hs : ∀ b ∈ R', b ∈ R) : E.yX E' R' := ⟨h.1, h.2.1, h.2.2.1, fun b hb => h.2.2.2 b (hs b hb)⟩
theorem Env.yX.on {E E' : Env} {R : List Nat} (h : E.yX E' R) : E.On E' [] := ⟨h.2.2.1, fun _ h => by cases h⟩
mutual
theorem RX.mP {E E' : Env} : ∀ (x : X) (c : Value) (R : List Nat), E.yX E' R → RX E x c R → RX E' x.mP c []
 | .v u, c, R, hE, h => by simp only [RX, X.mP] at h ⊢; exact ⟨h.1, trivial⟩
 | .no, c, R, hE, h => by simp only [RX, X.mP]
 | .fz s rows, c, R, hE, h => by
  have h0 : R = [] := by simp only [RX] at h; exact h.1
  subst h0; exact RX.mono _ _ _ hE.on (fun _ _ => by rw [hE.2.1]) h
 | .ptr o s i k, c, R, hE, h => by
  have h0 : R = [] := by simp only [RX] at h; exact h.1
  subst h0; exact RX.mono _ _ _ hE.on (fun _ _ => by rw [hE.2.1]) h
 | .aY o s lo n, c, R, hE, h => by
  have h0 : R = [] := by simp only [RX] at h; exact h.1
  subst h0; exact RX.mono _ _ _ hE.on (fun _ _ => by rw [hE.2.1]) h
 | .mref o, c, R, hE, h => by
  have h0 : R = [] := by simp only [RX] at h; exact h.1
  subst h0; exact RX.mono _ _ _ hE.on (fun _ _ => by rw [hE.2.1]) h
 | .fp row k, c, R, hE, h => by
  have h0 : R = [] := by simp only [RX] at h; exact h.1
  subst h0; exact RX.mono _ _ _ hE.on (fun _ _ => by rw [hE.2.1]) h
 | .gN fn a b, c, R, hE, h => by
  have h0 : R = [] := by simp only [RX] at h; exact h.1
  subst h0; exact RX.mono _ _ _ hE.on (fun _ _ => by rw [hE.2.1]) h
 | .cX s rows, c, R, hE, h => by
  simp only [RX, X.mP] at h ⊢
  obtain ⟨hu, base, cap, hc, hh⟩ := h
  refine ⟨trivial, hu.mQ, base, cap, by rw [X.l9]; exact hc, ?_⟩
  rcases hh with ⟨h1, h2, h3⟩ | ⟨b, off, cs, ty, R', hb, hw, hl, ho, hφ, hr, hR⟩
  ·subst h1; exact .inl ⟨rfl, h2⟩
  ·subst hR
   refine .inr ⟨b, off, hb, by rw [X.l9]; exact hl, ?_⟩
   exact bX.mP rows cs b off R' (fun i v hi => hE.2.2.2 b (by simp) i v (by rw [cy hw]; exact hi)) (hE.sub (fun _ h => by simp [h])) hr
 | .agg xs, c, R, hE, h => by
  simp only [RX, X.mP] at h ⊢
  obtain ⟨cs, hc, hs⟩ := h
  exact ⟨cs, hc, bt.mP xs _ R hE hs⟩
 | .tup xs, c, R, hE, h => by
  simp only [RX, X.mP] at h ⊢
  obtain ⟨cs, hc, hs⟩ := h
  exact ⟨cs, hc, dU.mP xs _ R hE hs⟩
theorem bt.mP {E E' : Env} : ∀ (xs : List X) (cs : List Value) (R : List Nat), E.yX E' R → bt E xs cs R → bt E' (X.j7 xs) cs []
 | [], cs, R, _, h => by simp only [bt, X.j7] at h ⊢; exact ⟨h.1, trivial⟩
 | x :: r, cs, R, hE, h => by
  simp only [bt, X.j7] at h ⊢
  obtain ⟨c, cG, R₁, R₂, hc, hs, h1, h2, hR⟩ := h
  subst hR
  exact ⟨c, cG, [], [], hc, hs, RX.mP x c R₁ (hE.sub (fun _ h => bU h)) h1, bt.mP r cG R₂ (hE.sub (fun _ h => bK h)) h2, rfl⟩
theorem dU.mP {E E' : Env} : ∀ (xs : List X) (cs : List Value) (R : List Nat), E.yX E' R → dU E xs cs R → dU E' (X.j7 xs) cs []
 | [], cs, R, _, h => by simp only [dU, X.j7] at h ⊢; exact ⟨h.1, trivial⟩
 | x :: r, cs, R, hE, h => by
  simp only [dU, X.j7] at h ⊢
  obtain ⟨c, cG, R₁, R₂, hc, h1, h2, hR⟩ := h
  subst hR
  exact ⟨c, cG, [], [], hc, RX.mP x c R₁ (hE.sub (fun _ h => bU h)) h1, dU.mP r cG R₂ (hE.sub (fun _ h => bK h)) h2, rfl⟩
theorem RO.mP {E E' : Env} : ∀ (xs : List X) (cs : Array Value) (b off : Nat) (R : List Nat), (∀ i v, cs[i]? = some v → E'.φ b i = some v) → E.yX E' R → X.ga xs = true → RO E xs cs off R → RF E' (X.j7 xs) b off
 | [], _, _, _, _, _, _, _, _ => by simp [RF, X.j7]
 | x :: r, cs, b, off, R, hb, hE, hn, h => by
  simp only [RO] at h
  obtain ⟨u, R₁, R₂, hu, hs, hx, hr, hR⟩ := h
  subst hR
  simp only [X.ga, Bool.and_eq_true] at hn
  simp only [X.j7, RF]
  exact ⟨⟨u, hb _ _ hu, hs, X.yW hn.1, RX.mP x u R₁ (hE.sub (fun _ h => bU h)) hx⟩, RO.mP r cs b (off + 1) R₂ hb (hE.sub (fun _ h => bK h)) hn.2 hr⟩
theorem bX.mP {E E' : Env} : ∀ (rs : List (List X)) (cs : Array Value) (b off : Nat) (R : List Nat), (∀ i v, cs[i]? = some v → E'.φ b i = some v) → E.yX E' R → bX E rs cs off R → iF E' (X.mQ rs) b off
 | [], _, _, _, _, _, _, _ => by simp [iF, X.mQ]
 | r :: rs, cs, b, off, R, hb, hE, h => by
  simp only [bX] at h
  obtain ⟨R₁, R₂, hn, hx, hr, hR⟩ := h
  subst hR
  simp only [X.mQ, iF]
  refine ⟨RO.mP r cs b off R₁ hb (hE.sub (fun _ h => bU h)) hn hx, ?_⟩
  rw [X.l8]
  exact bX.mP rs cs b _ R₂ hb (hE.sub (fun _ h => bK h)) hr
end
section
variable {N : eg} {st : St} {d : Nat}
theorem Sh.Cd {x y : X} (hx : look st.aA d = some x) (he : x.mP = y) : Sh N st (st.put d y) := by
 intro G hn a w hh
 obtain ⟨E, RR, rfl, hi⟩ := hh
 have hv := hi.aA d _ hx
 have kY := hi.no d
 have Ld : ∀ p, ∀ b ∈ eZ RR (.slot d) [] p, b ∉ RR (.slot d) := by
  intro p b hp hb
  unfold eZ at hp
  split at hp
  ·cases hp
  ·rename_i h; exact hi.apart _ _ h b hp hb
 -- what is frozen already is in no owned block
 have hle : ∀ c i v, E.φ c i = some v → (E.en (fun b => b ∈ RR (.slot d))).φ c i = some v := by
  intro c i v h
  by_cases hc : c ∈ RR (.slot d)
  ·rw [iS E (LB := fun b => b ∈ RR (.slot d)) hc]; exact hi.lq c i v h
  ·rw [eo E (LB := fun b => b ∈ RR (.slot d)) hc]; exact h
 have iG : ∀ p, E.On (E.en (fun b => b ∈ RR (.slot d))) (eZ RR (.slot d) [] p) := by
  intro p
  refine ⟨hle, fun c hc => ⟨rfl, fun h i => ?_⟩⟩
  rw [eo E (LB := fun b => b ∈ RR (.slot d)) (Ld p c hc)]; exact h i
 have hf : E.yX (E.en (fun b => b ∈ RR (.slot d))) (RR (.slot d)) :=
  ⟨rfl, rfl, hle, fun b hb i v h => by rw [iS E (LB := fun b => b ∈ RR (.slot d)) hb]; exact h⟩
 have Lm : Inv G (E.en (fun b => b ∈ RR (.slot d))) (eZ RR (.slot d) []) (st.put d .no) a :=
  {kY with
   lq := by
    intro c i v h
    by_cases hc : c ∈ RR (.slot d)
    ·rw [iS E (LB := fun b => b ∈ RR (.slot d)) hc] at h; exact h
    ·rw [eo E (LB := fun b => b ∈ RR (.slot d)) hc] at h; exact hi.lq c i v h
   aA := fun q x hx => RX.mono x _ _ (iG _) (fun _ _ => rfl) (kY.aA q x hx)
   aC := fun o ob aS => dN.mono (iG _) rfl (fun _ _ _ _ => rfl) (kY.aC o ob aS)
   φ0 := fun c i v h => hle c i v (hi.φ0 c i v h)
   grow := by
    intro c i v h
    by_cases hc : c ∈ RR (.slot d)
    ·exact .inr (hi.own _ _ hc).2
    ·rw [eo E (LB := fun b => b ∈ RR (.slot d)) hc] at h; exact hi.grow c i v h }
 have h4 := Lm.relabel (d := d) (x := y) (R := []) (he ▸ RX.mP x _ _ hf hv) List.nodup_nil (fun _ h => by cases h)
 refine ⟨E.en (fun b => b ∈ RR (.slot d)), eZ (eZ RR (.slot d) []) (.slot d) [], rfl, { h4 with aA := fun q x hx => ?_, aC := h4.aC }⟩
 refine h4.aA q x ?_
 simp only [St.put, look] at hx ⊢
 cases hq : Nat.beq d q with
 | true => rw [hq] at hx; simpa using hx
 | false => rw [hq] at hx; simpa using hx
end
end Go.AW
namespace Go.AW
open Go
section
variable {P : Program} {N : eg} {st : St} {Q : Exit → St → Prop} {all : Array Oper} {rest : List Oper} {d : Nat} {ty : TypeId} {pos : String} {af : Array Edge}
theorem aa.lA {t : TypeId} {x y : Operand} {o s i k m : Nat} {v : X} {ys row : List X} {rs : List (List X)} (rN : List (List X)) (ht : TY.size P t = some m) (hx : bw st x = some (.ptr o s i k)) (hy : bw st y = some v) (rp : v.flat = some ys) (hf : X.bj ys = true)
  (hn : X.ga ys = true) (hm : ys.length = m) (ho : look st.aC o = some (.rows s rs)) (hr : rs[i]? = some row) (hk : k + m ≤ row.length) (he : rs.set i (iR row k ys) = rN) (kk : aa P N all rest (st.dO o (.rows s rN)) Q) :
  aa P N all (⟨none, .store t x y, ty, pos, af, none⟩ :: rest) st Q := by
 subst he
 exact aa.EE ht hx hy rp hf hn hm ho hr hk kk
theorem Sh.EM {s n : Nat} {rows : List (List X)} (o : Nat) (hx : look st.aA d = some (.cX s rows)) (hn : n = rows.length) (hF : N.F.elem o = false) : Sh N st (((st.kill o).dO o (.rows s rows)).put d (.aY o s 0 n)) := by
 subst hn; exact Sh.Hu o hx hF
theorem aa.bx {t e s cE tv : Nat} {z : List Value} {x : Operand} {o lo n : Nat} {rs new : List (List X)} (rN : List (List X)) (n' : Nat) (ht : TY.slice P t = some (e, s, cE)) (hz : TY.zero P e = some z) (oP : Nat.beq z.length s = true)
  (hy : look st.aA tv = some (.cX s new)) (hx : bw (st.put tv .no) x = some (.aY o s lo n)) (ho : look st.aC o = some (.rows s rs)) (mJ : lo + n ≤ rs.length)
  (he : ((rs.drop lo).take n) ++ new = rN) (pF : n + new.length = n') (oq : n' * cE ≤ 140737488355328) (yu : n' ≤ 4611686018427387904) (hF : N.F.elem o = false) (hd : d < N.n)
  (k : aa P N all rest (((((st.put tv .no).kill o).dO o (.rows s rN))).put d (.aY o s 0 n')) Q) :
  aa P N all (⟨some d, .call ⟨.builtin .append, #[x, .tmp tv], #[t, t]⟩, ty, pos, af, none⟩ :: rest) st Q := by
 subst he pF
 exact aa.append ht hz oP hy hx ho mJ oq yu hF hd k
theorem aa.xE {α : Type} {t e s cE tv : Nat} {z : List Value} {x : Operand} {o lo n : Nat} {rs new : List (List X)} (f : α → List X) (l : List α) (ht : TY.slice P t = some (e, s, cE)) (hz : TY.zero P e = some z) (oP : Nat.beq z.length s = true)
 (hy : look st.aA tv = some (.cX s new)) (hx : bw (st.put tv .no) x = some (.aY o s lo n)) (ho : look st.aC o = some (.rows s rs)) (mJ : lo + n ≤ rs.length)
 (he : ((rs.drop lo).take n) ++ new = l.map f) (pF : n + new.length = l.length) (oq : l.length * cE ≤ 140737488355328) (yu : l.length ≤ 4611686018427387904) (hF : N.F.elem o = false) (hd : d < N.n)
 (k : aa P N all rest (((((st.put tv .no).kill o).dO o (.rows s (l.map f)))).put d (.aY o s 0 l.length)) Q) :
 aa P N all (⟨some d, .call ⟨.builtin .append, #[x, .tmp tv], #[t, t]⟩, ty, pos, af, none⟩ :: rest) st Q := aa.bx (l.map f) l.length ht hz oP hy hx ho mJ he pF oq yu hF hd k
end
mutual
theorem X.pz {ν : Nat → Nat} : ∀ {x : X}, x.lt 0 = true → x.fg ν = x
 | .v _, _ | .no, _ | .fz .., _ | .cX .., _ | .fp .., _ => rfl
 | .ptr o .., h => by simp [X.lt, Nat.blt] at h
 | .aY o .., h => by simp [X.lt, Nat.blt] at h
 | .mref o, h => by simp [X.lt, Nat.blt] at h
 | .agg xs, h => by simp only [X.fg]; rw [X.lB (xs := xs) h]
 | .tup xs, h => by simp only [X.fg]; rw [X.lB (xs := xs) h]
 | .gN f a b, h => by
  simp only [X.lt, Bool.and_eq_true] at h
  simp only [X.fg]; rw [X.lB h.1, X.lB h.2]
theorem X.lB {ν : Nat → Nat} : ∀ {xs : List X}, X.Bx 0 xs = true → X.jQ ν xs = xs
 | [], _ => rfl
 | x :: r, h => by
  simp only [X.Bx, Bool.and_eq_true] at h
  simp only [X.jQ]; rw [X.pz h.1, X.lB h.2]
end
section
variable {P : Program} {N : eg} {st : St} {Q : Exit → St → Prop} {all : Array Oper} {rest : List Oper} {d : Nat} {ty : TypeId} {pos : String} {af : Array Edge}
theorem aa.aR {f : FuncId} {bP : Array Operand} {nk : Array TypeId} {xs args : List X} {R : X} (ov : aG P f = true) (fW : ak P f args [] [] (fun r o => r = R ∧ o = []))
  (fR : j6 st bP.toList = some xs) (eh : di st [] (b9 []) xs args) (hd : d < N.n) (gM : R.lt 0 = true)
  (k : aa P N all rest (st.put d R) Q) : aa P N all (⟨some d, .call ⟨.value (.func f), bP, nk⟩, ty, pos, af, none⟩ :: rest) st Q :=
 aa.HQ ov fW fR eh hd gM (X.pz gM) k
end
end Go.AW
namespace Go.AW
open Go
section
variable {P : Program} {N : eg} {st : St} {Q : Exit → St → Prop} {ops : Array Oper} {d : Nat} {ty : TypeId} {pos : String} {af : Array Edge}
def aL (P : Program) (N : eg) (st : St) (o : Oper) (x : X) : Prop :=
 ∀ (G : Ctx) (E : Env) (RR : Own → List Nat) (a : Act), G.fn = N → Inv G E RR st a → ∃ u, (∀ w, (execOp a.eval o).run P w = .ok (.value u) w) ∧ RX E x u []
section
variable {dst : Option Nat} {g : Option (Nat × Bool)}
theorem aL.move {x : Operand} {y : X} (hx : bw st x = some y) (hf : y.free = true) : aL P N st ⟨dst, .move x, ty, pos, af, g⟩ y := by
 intro G E RR a _ hi
 obtain ⟨R, hv⟩ := hi.eval hx
 have := RX.free hf hv
 subst this
 exact ⟨_, fun w => rfl, hv⟩
theorem aL.assign {x : Operand} {y : X} (hx : bw st x = some y) (hf : y.free = true) : aL P N st ⟨dst, .assign x, ty, pos, af, g⟩ y := by
 intro G E RR a _ hi
 obtain ⟨R, hv⟩ := hi.eval hx
 have := RX.free hf hv
 subst this
 exact ⟨_, fun w => rfl, hv⟩
theorem aL.Ln {t e s cE : Nat} {x : Operand} {lo gy : Option Operand} {rows : List (List X)} {l h : Nat} {kb : List (List X)} (ht : TY.slice P t = some (e, s, cE)) (hx : bw st x = some (.fz s rows))
  (hl : Bd st lo 0 l) (hh : Bd st gy rows.length h) (h1 : l ≤ h) (h2 : h ≤ rows.length) (hr : (rows.take h).drop l = kb) :
  aL P N st ⟨dst, .slice t x lo gy none, ty, pos, af, g⟩ (.fz s kb) := by
 intro G E RR a _ hi
 obtain ⟨R, hp⟩ := hi.eval hx
 simp only [RX] at hp
 obtain ⟨_, hu, base, cap, hc, cJ⟩ := hp
 obtain ⟨wA, i, fU, ez, _⟩ := TY.cI ht
 subst hr
 have lv : h ≤ cap := by
  rcases cJ with ⟨h', sm⟩ | ⟨_, _, _, wB, _⟩
  ·subst h'; simp at h2; omega
  ·omega
 refine ⟨.slice (if cap = l then base else base.map (·.add (l * s))) (h - l) (cap - l), fun w => ?_, ?_⟩
 ·show (do let z ← Instr.sliceAt t (a.eval x) (lo.map a.eval) (gy.map a.eval) none; pure (Next.value z) : Sem Next).run P w = _
  rw [hc]
  refine cT ?_
  simp only [Instr.sliceAt, Sem.run_bind, run_underlying wA, Result.andThen_ok, Instr.slice, gb hi hl hh h1 lv, run_sizeOf fU, ez]
  rfl
 ·have hlen : ((rows.take h).drop l).length = h - l := by simp; omega
  simp only [RX, hlen]
  refine ⟨trivial, (hu.take h).drop l, _, _, rfl, ?_⟩
  rcases cJ with ⟨h', sm⟩ | ⟨b, off, hb, wB, hf⟩
  ·exact .inl ⟨by subst h'; simp, om⟩
  ·refine .inr ?_
   subst hb
   by_cases sn : cap = l
   ·refine ⟨b, off, by rw [if_pos sn], om, ?_⟩
    have : (rows.take h).drop l = [] := by
     apply List.eq_nil_of_length_eq_zero
     rw [hlen]; omega
    rw [this]; simp [iF]
   ·refine ⟨b, off + l * s, by rw [if_neg sn]; simp [fO], om, ?_⟩
    exact iF.drop l (hu.take h) (by simp; omega) (hf.take h)
end
def aT (P : Program) (N : eg) (ops : Array Oper) (n : Nat) (ah : Array Bool) (st : St) (K : St → Prop) : Prop :=
 ∀ G : Ctx, G.fn = N → ∀ a w, bZ G st a w → wpAny P .any ops (fun e a w => e = .normal ∧ ∃ bc, K bc ∧ bZ G bc a w) n ah a w
variable {K : St → Prop}
theorem aT.blind {n : Nat} {ah : Array Bool} (i : Nat) {op : Op} {x : X} (ho : ops[i]? = some ⟨some d, op, ty, pos, af, none⟩)
  (hB : (Region.noSelect ops && Region.free .any ops ah i && (Region.ready .any ops ah).contains i) = true) (hy : aL P N st ⟨some d, op, ty, pos, af, none⟩ x) (hd : d < N.n)
  (k : aT P N ops n (ah.setIfInBounds i true) (st.put d x) K) : aT P N ops (n + 1) ah st K := by
 intro G hn a w hh
 obtain ⟨E, RR, rfl, hi⟩ := hh
 obtain ⟨u, hr, hx⟩ := hy G E RR a hn hi
 simp only [Bool.and_eq_true] at hB
 refine wpAny_take (v := u) ho hB.1.1 hB.1.2 hB.2 ?_ (.inl ⟨by simp [Region.wanted], hr⟩) (k G hn _ _ ⟨E, _, rfl, hi.fT (hn ▸ hd) hx⟩)
 intro c a w h
 cases h.1
theorem aT.step {n : Nat} {ah : Array Bool} (j : Nat) {o : Oper} (ho : ops[j]? = some o)
  (k : aa P N ops [o] st (fun e bc => e = .normal ∧ aT P N ops n (ah.setIfInBounds j true) bc K)) (G : Ctx) (hn : G.fn = N) (a : Act) (w : World) (hh : bZ G st a w) :
  wpOp P ops (fun e a w => e = .normal ∧ ∃ bc, K bc ∧ bZ G bc a w) j (wpAny P .any ops (fun e a w => e = .normal ∧ ∃ bc, K bc ∧ bZ G bc a w) n (ah.setIfInBounds j true)) a w := by
 have hk := k G hn a w hh
 have key : wpOp P ops (fun e a w => lh G (fun e bc => e = .normal ∧ aT P N ops n (ah.setIfInBounds j true) bc K) e a w) j
   (fun a w => lh G (fun e bc => e = .normal ∧ aT P N ops n (ah.setIfInBounds j true) bc K) .normal a w) a w := by
  unfold wpOp; simp only [ho]; exact hk
 have mono : ∀ {Q1 Q2 : Exit → Act → World → Prop} {K1 K2 : Act → World → Prop}, (∀ e a w, e ≠ .normal → Q1 e a w → False) → (∀ a w, K1 a w → K2 a w) → wpOp P ops Q1 j K1 a w → wpOp P ops Q2 j K2 a w := by
  intro Q1 Q2 K1 K2 hQ hK h
  unfold wpOp at *
  simp only [ho] at *
  split
  ·rename_i hw
   simp only [hw, if_true] at h
   rcases h with h | ⟨_, hl⟩
   ·refine .inl ?_
    unfold Oper.wp at *
    generalize (execOp a.eval o).run P w = r at *
    cases r with
    | ok nx w' =>
     cases nx <;> simp only [Oper.upon] at h ⊢ <;> first
      | exact hK _ _ h
      | exact Calls.mono h (fun e OK he => by
        cases e with
        | returned u => exact hK _ _ he
        | panicked c => exact (hQ _ _ _ (by simp) he).elim
        | outgrown => exact (let ⟨_, _, h'⟩ := he; hQ _ _ _ (by simp) h').elim)
      | exact Rows.mono h (fun _ _ he => hK _ _ he)
    | halt x w' => cases x <;> simp only [Oper.upon] at h ⊢ <;> first | exact (hQ _ _ _ (by simp) h).elim | exact (let ⟨_, _, h'⟩ := h; hQ _ _ _ (by simp) h').elim | exact h
   ·obtain ⟨_, _, h'⟩ := hl
    exact (hQ _ _ _ (by simp) h').elim
  ·rename_i hw
   simp only [hw] at h
   exact hK _ _ h
 refine mono ?_ ?_ key
 ·rintro e a w he ⟨bc, _, h, _⟩
  exact he h
 ·rintro a w ⟨bc, gR, _, wM⟩
  exact wM G hn a w gR
theorem aT.one {n : Nat} {ah : Array Bool} (i : Nat) {o : Oper} (ho : ops[i]? = some o) (hr : (Region.ready .any ops ah == [i]) = true)
  (k : aa P N ops [o] st (fun e bc => e = .normal ∧ aT P N ops n (ah.setIfInBounds i true) bc K)) : aT P N ops (n + 1) ah st K := by
 intro G hn a w hh
 refine wpAny_all (rs := [i]) (by simpa using hr) (by simp) ?_
 intro j hj
 have : j = i := by simpa using hj
 subst this
 exact aT.step j ho k G hn a w hh
theorem aT.two {n : Nat} {ah : Array Bool} (i i' : Nat) {o o' : Oper} (ho : ops[i]? = some o) (mr : ops[i']? = some o') (hr : (Region.ready .any ops ah == [i, i']) = true)
  (k : aa P N ops [o] st (fun e bc => e = .normal ∧ aT P N ops n (ah.setIfInBounds i true) bc K))
  (k' : aa P N ops [o'] st (fun e bc => e = .normal ∧ aT P N ops n (ah.setIfInBounds i' true) bc K)) : aT P N ops (n + 1) ah st K := by
 intro G hn a w hh
 refine wpAny_all (rs := [i, i']) (by simpa using hr) (by simp) ?_
 intro j hj
 simp only [List.mem_cons, List.not_mem_nil, or_false] at hj
 rcases hj with rfl | rfl
 ·exact aT.step j ho k G hn a w hh
 ·exact aT.step j mr k' G hn a w hh
theorem aT.done {n : Nat} {ah : Array Bool} (hr : (Region.ready .any ops ah).isEmpty = true) (h : K st) : aT P N ops n ah st K :=
 fun _ _ _ _ hh => wpAny_done (by simpa using hr) ⟨rfl, st, h, hh⟩ n
theorem ab.cv {id : Nat} (hm : P.follows .mixedOrders = true) (h : aT P N ops ops.size (Array.replicate ops.size false) st (fun bc => Q .normal bc)) : ab P N (.region id ops true) st Q := by
 intro G hn a w hh
 refine wp_mono (wp_region_any hm (h G hn a _ hh.drew)) ?_
 rintro e a w ⟨rfl, bc, hk, gR⟩
 exact ⟨bc, gR, hk⟩
end
end Go.AW
namespace Go.AW
open Go
def pP (want : Bool) : Value → Bool
 | .bool b => !(b == want)
 | _ => true
section
variable {P : Program} {N : eg} {st : St} {Q : Exit → St → Prop} {K : St → Prop} {all : Array Oper} {rest : List Oper} {d dd : Nat} {ty : TypeId} {pos : String} {af : Array Edge} {dst : Option Nat} {op : Op} {j : Nat} {want : Bool} {u : Value}
theorem kf {G : Ctx} {E : Env} {RR : Own → List Nat} {a : Act} (hi : Inv G E RR st a) (hj : (all[j]?).bind (·.dst) = some d) (hd : d < G.fn.n) (hx : look st.aA d = some (.v u)) (fc : pP want u = true) :
  Region.wanted ⟨dst, op, ty, pos, af, some (j, want)⟩ (yielded all a.tmps) = false := by
 have hs := hi.aA d _ hx
 simp only [RX] at hs
 have ez : d < a.tmps.size := by rw [hi.tmps]; exact hd
 have hv : a.tmps[d]? = some u := by
  have := hs.1
  simp only [Array.getD, ez, dif_pos] at this
  rw [Array.getElem?_eq_getElem ez]
  exact congrArg some this
 have hy : yielded all a.tmps j ≠ some want := by
  unfold yielded
  rw [hj, Option.bind_some, hv]
  intro h
  cases u <;> simp [pP] at fc h
  exact fc h
 simp only [Region.wanted]
 cases h : yielded all a.tmps j with
 | none => rfl
 | some b => rw [h] at hy; simpa using hy
theorem aa.aH (hj : (all[j]?).bind (·.dst) = some d) (hd : d < N.n) (Ce : dd < N.n) (hx : look st.aA d = some (.v u)) (fc : pP want u = true)
  (k : aa P N all rest (st.put dd (.v undef)) Q) : aa P N all (⟨some dd, op, ty, pos, af, some (j, want)⟩ :: rest) st Q := by
 intro G hn a w hh
 obtain ⟨E, RR, rfl, hi⟩ := hh
 unfold wpList
 rw [if_neg (by rw [kf hi hj (hn ▸ hd) hx fc]; simp)]
 exact k G hn _ _ ⟨E, _, rfl, hi.fT (hn ▸ Ce) (by simp [RX])⟩
theorem a9.aH (hj : (all[j]?).bind (·.dst) = some d) (hd : d < N.n) (Ce : dd < N.n) (hx : look st.aA d = some (.v u)) (fc : pP want u = true)
  (k : a9 P N all rest (st.put dd (.v undef)) K) : a9 P N all (⟨some dd, op, ty, pos, af, some (j, want)⟩ :: rest) st K := by
 intro G hn a w hh
 obtain ⟨E, RR, rfl, hi⟩ := hh
 unfold wpStill
 rw [if_neg (by rw [kf hi hj (hn ▸ hd) hx fc]; simp)]
 exact k G hn _ _ ⟨E, _, rfl, hi.fT (hn ▸ Ce) (by simp [RX])⟩
end
end Go.AW
namespace Go.AW
open Go Go.ChangeShapes Go.WideShapes Go.Deep Go.RowKit
def E0 (W : World) : Env := ⟨fun b i => W.cell? ⟨b, i, none⟩, fun _ => none, W⟩
theorem ak.row {P : Program} {f : FuncId} {args : List X} {u : Value} (h : ak P f args [] [] (fun r o => r = .v u ∧ o = [])) {W : World} {dB : Array Value} (hn : dB.size = args.length)
  (hx : ∀ (i : Nat) x, args[i]? = some x → RX (E0 W) x (dB.getD i undef) []) : Calls P f dB W (fun e W' => e = .returned u ∧ Below W.heap.size W W') := by
 have hi : Inv (r5 (fun b => b < W.heap.size) (E0 W) ⟨args.length, []⟩) (E0 W) (fun _ => []) ⟨dG 0 args, dG 0 []⟩ ⟨dB, []⟩ :=
  {lq := fun _ _ _ h => h
   aA := fun s x hs => by
    rw [gT] at hs
    exact hx s x hs
   aC := fun o ob ho => by simp [dG, look] at ho
   nodup := fun _ => List.nodup_nil
   apart := fun _ _ _ _ h => by cases h
   own := fun _ _ h => by cases h
   ao := fun _ _ => rfl
   size := Nat.le_refl _
   small := fun _ h => h
   os := rfl
   tape := rfl
   output := rfl
   φ0 := fun _ _ _ h => h
   grow := fun _ _ _ h => .inl h
   fixed := fun _ _ => rfl
   tmps := hn
   defers := rfl }
 refine Calls.mono (h _ _ _ _ hi) ?_
 rintro e W' ⟨v, r, aE, rfl, ⟨rfl, _⟩, _, E', fe, rfl, gy⟩
 have hs := gy.aA 0 (.v u) rfl
 simp only [RX] at hs
 have hv : v = u := hs.1
 exact ⟨by rw [hv], gy.os, gy.tape, gy.output, gy.size, fun k hk => gy.ao k hk⟩
theorem RF.of {E : Env} {b : Nat} : ∀ {row : List X} {off : Nat}, (∀ (j : Nat) x, row[j]? = some x → ∃ u, x = .v u ∧ iE u ∧ E.φ b (off + j) = some u) → RF E row b off
 | [], _, _ => by simp [RF]
 | x :: r, off, h => by
  obtain ⟨u, rfl, hs, hu⟩ := h 0 x rfl
  simp only [RF]
  refine ⟨⟨u, by simpa using hu, hs, rfl, by simp [RX]⟩, RF.of fun j y hj => ?_⟩
  obtain ⟨u', h1, h2, h3⟩ := h (j + 1) y (by simpa using hj)
  exact ⟨u', h1, h2, by rw [show off + 1 + j = off + (j + 1) by omega]; exact h3⟩
theorem iF.of {E : Env} {b s : Nat} : ∀ {rows : List (List X)} {off : Nat}, bJ s rows → (∀ (i : Nat) row, rows[i]? = some row → RF E row b (off + i * s)) → iF E rows b off
 | [], _, _, _ => by simp [iF]
 | r :: rs, off, hu, h => by
  simp only [iF]
  refine ⟨by simpa using h 0 r rfl, iF.of (fun q hq => hu q (by simp [hq])) fun i row hi => ?_⟩
  have := h (i + 1) row (by simpa using hi)
  rw [hu r (by simp)]
  rw [Nat.add_mul, Nat.one_mul] at this
  rw [show off + s + i * s = off + (i * s + s) by omega]; exact this
section
variable {H : Type} {enc : TypeId × Value → H} {P : Program} {W : World} {base : Nat} {spare : Nat → Bool} {held : Bool} {n : Nat} {e : TypeId} {cs : List Value} {y : DataW H × List MemPlace}
end
end Go.AW
namespace Go.AW
open Go
section
variable {P : Program} {N : eg} {st : St} {Q : Exit → St → Prop} {all : Array Oper} {rest : List Oper} {dst : Option Nat} {d : Nat} {ty : TypeId} {pos : String} {af : Array Edge} {g : Option (Nat × Bool)}
theorem Y.zd {t t' : TypeId} {x y : Operand} {k : IntKind} {a b r : Int} (hx : bw st x = some (.v (.int k a))) (hy : bw st y = some (.v (.int k b))) (hr : r = if b > a then b else a) :
  Yields P N st ⟨dst, .call ⟨.builtin .max, #[x, y], #[t, t']⟩, ty, pos, af, g⟩ (.v (.int k r)) := by
 subst hr
 intro G E RR ac _ hi
 refine ⟨.int k (if b > a then b else a), gj ?_, by simp [RX]⟩
 have h1 := hi.val hx
 have h2 := hi.val hy
 simp [builtin, Builtin.max_, h1, h2, Builtin.max2]
theorem Y.ze {t t' : TypeId} {x y : Operand} {k : IntKind} {a b r : Int} (hx : bw st x = some (.v (.int k a))) (hy : bw st y = some (.v (.int k b))) (hr : r = if b < a then b else a) :
  Yields P N st ⟨dst, .call ⟨.builtin .min, #[x, y], #[t, t']⟩, ty, pos, af, g⟩ (.v (.int k r)) := by
 subst hr
 intro G E RR ac _ hi
 refine ⟨.int k (if b < a then b else a), gj ?_, by simp [RX]⟩
 have h1 := hi.val hx
 have h2 := hi.val hy
 simp [builtin, Builtin.min_, h1, h2, Builtin.min2]
theorem aL.extract {x : Operand} {xs : List X} {y : X} {k : Nat} (hx : bw st x = some (.tup xs)) (hy : xs[k]? = some y) (hf : y.free = true) : aL P N st ⟨dst, .extract x k, ty, pos, af, g⟩ y := by
 intro G E RR a _ hi
 obtain ⟨R, hp⟩ := hi.eval hx
 simp only [RX] at hp
 obtain ⟨cs, hc, fR⟩ := hp
 obtain ⟨u, R₁, hu, h1⟩ := dU.get fR hy
 have h0 := RX.free hf h1
 subst h0
 refine ⟨u, fun w => ?_, h1⟩
 show (do let z ← Instr.extract (a.eval x) k; pure (Next.value z) : Sem Next).run P w = _
 rw [hc]
 refine cT ?_
 have Bu : cs[k]? = some u := by simpa using hu
 simp only [Instr.extract, Bu]; rfl
theorem aa.pQ {t e s cE : Nat} {z : List Value} {x y : Operand} {o lo n : Nat} {rs new : List (List X)} (rN : List (List X)) (n' : Nat) (ht : TY.slice P t = some (e, s, cE)) (hz : TY.zero P e = some z) (oP : Nat.beq z.length s = true)
  (hy : bw st y = some (.fz s new)) (hx : bw st x = some (.aY o s lo n)) (ho : look st.aC o = some (.rows s rs)) (mJ : lo + n ≤ rs.length)
  (he : ((rs.drop lo).take n) ++ new = rN) (pF : n + new.length = n') (oq : n' * cE ≤ 140737488355328) (yu : n' ≤ 4611686018427387904) (hF : N.F.elem o = false) (hd : d < N.n)
  (k : aa P N all rest ((((st.kill o).dO o (.rows s rN))).put d (.aY o s 0 n')) Q) :
  aa P N all (⟨some d, .call ⟨.builtin .append, #[x, y], #[t, t]⟩, ty, pos, af, none⟩ :: rest) st Q := by
 subst he pF
 exact aa.BS ht hz oP hy hx ho mJ oq yu hF hd k
end
end Go.AW
namespace Go.AW
open Go
section
variable {P : Program} {N : eg} {st : St} {Q : Exit → St → Prop} {all : Array Oper} {rest : List Oper} {d : Nat} {ty : TypeId} {pos : String} {af : Array Edge}
theorem di.en {L : List Nat} {ν : Nat → Nat} {o s lo n : Nat} {rs rN : List (List X)} {xs ys : List X} (ho : look st.aC o = some (.rows s rs)) (hL : L.elem o = true) (mJ : lo + n ≤ rs.length) (he : (rs.drop lo).take n = rN)
  (hs : di st L ν xs ys) : di st L ν (.aY o s lo n :: xs) (.fz s rN :: ys) := by
 subst he
 exact .cons (.view ho (List.elem_iff.1 hL) mJ) hs
theorem n9 {o : Nat} {ob : Obj} (h : look st.aC o = some ob) (h' : jB ob) : ∀ q ∈ [o], ∃ ob, look st.aC q = some ob ∧ jB ob := by
 intro q hq
 simp only [List.mem_singleton] at hq
 subst hq
 exact ⟨ob, h, h'⟩
theorem aa.kG {f : FuncId} {bP : Array Operand} {nk : Array TypeId} {xs args : List X} {R : X} (L : List Nat) (ov : aG P f = true) (fW : ak P f args [] [] (fun r o => r = R ∧ o = []))
  (fR : j6 st bP.toList = some xs) (eh : di st L (b9 []) xs args) (h0 : ∀ o ∈ L, ∃ ob, look st.aC o = some ob ∧ jB ob) (hd : d < N.n) (gM : R.lt 0 = true) (hp : R.plain)
  (k : aa P N all rest (st.put d R) Q) : aa P N all (⟨some d, .call ⟨.value (.func f), bP, nk⟩, ty, pos, af, none⟩ :: rest) st Q :=
 aa.HR L ov fW fR eh h0 hd gM (X.pz gM) hp k
end
end Go.AW
namespace Go.AW
open Go Go.Maps
section
variable {P : Program} {N : eg} {st : St} {Q : Exit → St → Prop} {all : Array Oper} {rest : List Oper} {dst : Option Nat} {d : Nat} {ty : TypeId} {pos : String} {af : Array Edge} {g : Option (Nat × Bool)}
theorem Inv.uT {G : Ctx} {E : Env} {RR : Own → List Nat} {a : Act} (hi : Inv G E RR st a) {m : Operand} {o : Nat} {es : List (Value × Value)} (hm : bw st m = some (.mref o)) (ho : look st.aC o = some (.uT es)) :
  ∃ B pd clock, E.β o = some B ∧ a.eval m = .map (some B.b) ∧ E.w.heap[B.b]? = some (.map pd clock) ∧ (∀ i, E.φ B.b i = none) ∧ pd.toList.map (fun e => (e.key, e.val)) = es ∧ RR (.obj o) = [B.b] := by
 have aS := hi.aC o _ ho
 simp only [dN] at aS
 obtain ⟨B, pd, clock, hB, hw, hf, he, hR⟩ := aS
 obtain ⟨R, hx⟩ := hi.eval hm
 simp only [RX] at hx
 obtain ⟨_, B', im, hc⟩ := hx
 rw [hB] at im
 obtain rfl := Option.some.inj im
 exact ⟨B, pd, clock, hB, hc, hw, hf, he, hR⟩
end
end Go.AW
namespace Go.AW
open Go
section
variable {P : Program} {N : eg} {st : St} {ty : TypeId} {pos : String} {af : Array Edge} {dst : Option Nat} {g : Option (Nat × Bool)}
theorem aL.nilCheck {x : Operand} {p q : X} (hx : bw st x = some p) (hq : p.on 0 = some q) : aL P N st ⟨dst, .nilCheck x, ty, pos, af, g⟩ q := by
 intro G E RR a _ hi
 obtain ⟨R, hp⟩ := hi.eval hx
 obtain ⟨b, off, hc, h⟩ := hp.on hq
 refine ⟨_, fun w => ?_, h⟩
 simp only [execOp, hc]; rfl
theorem aL.fieldAddr {t : TypeId} {x : Operand} {p q : X} {f off : Nat} {ft : TypeId} (ht : TY.jY P t f = some (off, ft)) (hx : bw st x = some p) (hq : p.on off = some q) :
  aL P N st ⟨dst, .fieldAddr t x f, ty, pos, af, g⟩ q := by
 intro G E RR a _ hi
 obtain ⟨R, hp⟩ := hi.eval hx
 obtain ⟨b, o, hc, h⟩ := hp.on hq
 refine ⟨_, fun w => ?_, h⟩
 show (do let z ← Instr.fieldAt t (a.eval x) f; pure (Next.value z) : Sem Next).run P w = _
 rw [hc]
 exact cT (TY.w9 ht b o w)
end
end Go.AW
namespace Go.AW
open Go
section
variable {P : Program} {N : eg} {st : St} {d : Nat}
theorem di.named {L : List Nat} {ν : Nat → Nat} {x y : X} {xs ys : List X} (h : x.free = true) (he : x.fg ν = y) (hs : di st L ν xs ys) : di st L ν (y :: xs) (x :: ys) := by
 subst he
 exact .cons (.same h) hs
end
end Go.AW
namespace Go.AW
open Go
section
variable {P : Program} {N : eg} {st : St} {Q : Exit → St → Prop}
theorem ab.pR {x y : Code} (J : St) (I : Prop) (hx : ab P N x st (ka (fun bc => I ∧ Le bc J) Q)) (hy : I → ab P N y J Q) : ab P N (.seq x y) st Q :=
 ab.join (fun _ : Unit => J) (fun _ => I) (hx.mono fun e _ h => by cases e <;> first | exact ⟨(), h⟩ | exact h) (fun _ h => hy h)
theorem ab.jD {α0 : Type} {c : Code} (S : α0 → St) (I : α0 → Prop) (μ : α0 → Nat) (i0 : α0) (hi : I i0) (hs : Le st (S i0))
  (round : ∀ a0, I a0 → ab P N c (S a0) (ka (fun bc => ∃ b0, I b0 ∧ μ b0 < μ a0 ∧ Le bc (S b0)) Q)) : ab P N (.loop c) st Q :=
 ab.loop (ι := α0) (fun u => S u) (fun u => I u) (fun u => μ u) i0 hi hs (fun u h => (round u h).mono fun e _ h => by
  cases e <;> first | exact h | (obtain ⟨b0, h⟩ := h; exact ⟨b0, h⟩))
theorem ab.gO {α0 : Type} {x y : Code} (J : α0 → St) (I : α0 → Prop) (hx : ab P N x st (ka (fun bc => ∃ b0, I b0 ∧ Le bc (J b0)) Q)) (hy : ∀ a0, I a0 → ab P N y (J a0) Q) : ab P N (.seq x y) st Q :=
 ab.join (ι := α0) (fun u => J u) (fun u => I u) (hx.mono fun e _ h => by cases e <;> first | exact h | (obtain ⟨b0, h⟩ := h; exact ⟨b0, h⟩)) (fun u h => hy u h)
theorem ab.ir {α0 α1 : Type} {c : Code} (S : α0 → α1 → St) (I : α0 → α1 → Prop) (μ : α0 → α1 → Nat) (i0 : α0) (i1 : α1) (hi : I i0 i1) (hs : Le st (S i0 i1))
  (round : ∀ a0 a1, I a0 a1 → ab P N c (S a0 a1) (ka (fun bc => ∃ b0 b1, I b0 b1 ∧ μ b0 b1 < μ a0 a1 ∧ Le bc (S b0 b1)) Q)) : ab P N (.loop c) st Q :=
 ab.loop (ι := α0 × α1) (fun u => S u.1 u.2) (fun u => I u.1 u.2) (fun u => μ u.1 u.2) (i0, i1) hi hs (fun u h => (round u.1 u.2 h).mono fun e _ h => by
  cases e <;> first | exact h | (obtain ⟨b0, b1, h⟩ := h; exact ⟨(b0, b1), h⟩))
theorem ab.m5 {α0 α1 : Type} {x y : Code} (J : α0 → α1 → St) (I : α0 → α1 → Prop) (hx : ab P N x st (ka (fun bc => ∃ b0 b1, I b0 b1 ∧ Le bc (J b0 b1)) Q)) (hy : ∀ a0 a1, I a0 a1 → ab P N y (J a0 a1) Q) : ab P N (.seq x y) st Q :=
 ab.join (ι := α0 × α1) (fun u => J u.1 u.2) (fun u => I u.1 u.2) (hx.mono fun e _ h => by cases e <;> first | exact h | (obtain ⟨b0, b1, h⟩ := h; exact ⟨(b0, b1), h⟩)) (fun u h => hy u.1 u.2 h)
theorem ab.eP {α0 α1 α2 : Type} {c : Code} (S : α0 → α1 → α2 → St) (I : α0 → α1 → α2 → Prop) (μ : α0 → α1 → α2 → Nat) (i0 : α0) (i1 : α1) (i2 : α2) (hi : I i0 i1 i2) (hs : Le st (S i0 i1 i2))
  (round : ∀ a0 a1 a2, I a0 a1 a2 → ab P N c (S a0 a1 a2) (ka (fun bc => ∃ b0 b1 b2, I b0 b1 b2 ∧ μ b0 b1 b2 < μ a0 a1 a2 ∧ Le bc (S b0 b1 b2)) Q)) : ab P N (.loop c) st Q :=
 ab.loop (ι := α0 × α1 × α2) (fun u => S u.1 u.2.1 u.2.2) (fun u => I u.1 u.2.1 u.2.2) (fun u => μ u.1 u.2.1 u.2.2) (i0, i1, i2) hi hs (fun u h => (round u.1 u.2.1 u.2.2 h).mono fun e _ h => by
  cases e <;> first | exact h | (obtain ⟨b0, b1, b2, h⟩ := h; exact ⟨(b0, b1, b2), h⟩))
theorem ab.DL {α0 α1 α2 : Type} {x y : Code} (J : α0 → α1 → α2 → St) (I : α0 → α1 → α2 → Prop) (hx : ab P N x st (ka (fun bc => ∃ b0 b1 b2, I b0 b1 b2 ∧ Le bc (J b0 b1 b2)) Q)) (hy : ∀ a0 a1 a2, I a0 a1 a2 → ab P N y (J a0 a1 a2) Q) : ab P N (.seq x y) st Q :=
 ab.join (ι := α0 × α1 × α2) (fun u => J u.1 u.2.1 u.2.2) (fun u => I u.1 u.2.1 u.2.2) (hx.mono fun e _ h => by cases e <;> first | exact h | (obtain ⟨b0, b1, b2, h⟩ := h; exact ⟨(b0, b1, b2), h⟩)) (fun u h => hy u.1 u.2.1 u.2.2 h)
theorem ab.DM {α0 α1 α2 α3 : Type} {c : Code} (S : α0 → α1 → α2 → α3 → St) (I : α0 → α1 → α2 → α3 → Prop) (μ : α0 → α1 → α2 → α3 → Nat) (i0 : α0) (i1 : α1) (i2 : α2) (i3 : α3) (hi : I i0 i1 i2 i3) (hs : Le st (S i0 i1 i2 i3))
  (round : ∀ a0 a1 a2 a3, I a0 a1 a2 a3 → ab P N c (S a0 a1 a2 a3) (ka (fun bc => ∃ b0 b1 b2 b3, I b0 b1 b2 b3 ∧ μ b0 b1 b2 b3 < μ a0 a1 a2 a3 ∧ Le bc (S b0 b1 b2 b3)) Q)) : ab P N (.loop c) st Q :=
 ab.loop (ι := α0 × α1 × α2 × α3) (fun u => S u.1 u.2.1 u.2.2.1 u.2.2.2) (fun u => I u.1 u.2.1 u.2.2.1 u.2.2.2) (fun u => μ u.1 u.2.1 u.2.2.1 u.2.2.2) (i0, i1, i2, i3) hi hs (fun u h => (round u.1 u.2.1 u.2.2.1 u.2.2.2 h).mono fun e _ h => by
  cases e <;> first | exact h | (obtain ⟨b0, b1, b2, b3, h⟩ := h; exact ⟨(b0, b1, b2, b3), h⟩))
theorem ab.yY {α0 α1 α2 α3 : Type} {x y : Code} (J : α0 → α1 → α2 → α3 → St) (I : α0 → α1 → α2 → α3 → Prop) (hx : ab P N x st (ka (fun bc => ∃ b0 b1 b2 b3, I b0 b1 b2 b3 ∧ Le bc (J b0 b1 b2 b3)) Q)) (hy : ∀ a0 a1 a2 a3, I a0 a1 a2 a3 → ab P N y (J a0 a1 a2 a3) Q) : ab P N (.seq x y) st Q :=
 ab.join (ι := α0 × α1 × α2 × α3) (fun u => J u.1 u.2.1 u.2.2.1 u.2.2.2) (fun u => I u.1 u.2.1 u.2.2.1 u.2.2.2) (hx.mono fun e _ h => by cases e <;> first | exact h | (obtain ⟨b0, b1, b2, b3, h⟩ := h; exact ⟨(b0, b1, b2, b3), h⟩)) (fun u h => hy u.1 u.2.1 u.2.2.1 u.2.2.2 h)
theorem ab.HS {α0 α1 α2 α3 α4 : Type} {c : Code} (S : α0 → α1 → α2 → α3 → α4 → St) (I : α0 → α1 → α2 → α3 → α4 → Prop) (μ : α0 → α1 → α2 → α3 → α4 → Nat) (i0 : α0) (i1 : α1) (i2 : α2) (i3 : α3) (i4 : α4) (hi : I i0 i1 i2 i3 i4) (hs : Le st (S i0 i1 i2 i3 i4))
  (round : ∀ a0 a1 a2 a3 a4, I a0 a1 a2 a3 a4 → ab P N c (S a0 a1 a2 a3 a4) (ka (fun bc => ∃ b0 b1 b2 b3 b4, I b0 b1 b2 b3 b4 ∧ μ b0 b1 b2 b3 b4 < μ a0 a1 a2 a3 a4 ∧ Le bc (S b0 b1 b2 b3 b4)) Q)) : ab P N (.loop c) st Q :=
 ab.loop (ι := α0 × α1 × α2 × α3 × α4) (fun u => S u.1 u.2.1 u.2.2.1 u.2.2.2.1 u.2.2.2.2) (fun u => I u.1 u.2.1 u.2.2.1 u.2.2.2.1 u.2.2.2.2) (fun u => μ u.1 u.2.1 u.2.2.1 u.2.2.2.1 u.2.2.2.2) (i0, i1, i2, i3, i4) hi hs (fun u h => (round u.1 u.2.1 u.2.2.1 u.2.2.2.1 u.2.2.2.2 h).mono fun e _ h => by
  cases e <;> first | exact h | (obtain ⟨b0, b1, b2, b3, b4, h⟩ := h; exact ⟨(b0, b1, b2, b3, b4), h⟩))
end
section
variable {α : Type} {f : α → List X} {l m : List α} {i n : Nat} {d a b : α}
theorem aq (h : i < l.length) : (l.map f)[i]? = some (f (l.getD i d)) := by
 rw [List.getElem?_map, List.getElem?_eq_getElem h, List.getD_eq_getElem?_getD, List.getElem?_eq_getElem h]; rfl
theorem aV (h : i < l.length) : (l.map f)[0 + i]? = some (f (l.getD i d)) := by rw [Nat.zero_add]; exact aq h
theorem iu {k : Nat} {ys : List X} (h : iR (f a) k ys = f b) : (l.map f).set (0 + i) (iR (f a) k ys) = (l.set i b).map f := by
 rw [h, Nat.zero_add, List.map_set]
theorem bm (h : n = l.length) : (((l.map f).drop 0).take n) ++ m.map f = (l ++ m).map f := by
 rw [List.drop_zero, List.take_of_length_le (by rw [List.length_map]; omega), List.map_append]
theorem b8 (h : n = l.length) : 0 + n ≤ (l.map f).length := by rw [List.length_map]; omega
theorem cb (h : n = l.length) : n + (m.map f).length = (l ++ m).length := by rw [List.length_map, List.length_append]; omega
theorem iU (h : n = l.length) : 0 + n ≤ (l.map f).length := by rw [List.length_map]; omega
theorem iV (h : n = l.length) : ((l.map f).drop 0).take n = l.map f := by
 rw [List.drop_zero, List.take_of_length_le (by rw [List.length_map]; omega)]
theorem Cf {f : α → List X} {z : List X} (h : z = f a) : List.replicate n z = (List.replicate n a).map f := by rw [List.map_replicate, h]
theorem iW {p : Prop} (h : p := by first | rfl | exact Cf rfl) : p := h
theorem bn (h : n = l.length) : n = (l.map f).length := by rw [List.length_map]; exact h
theorem SX {p : Prop} (h : p := by first | rfl | exact bn rfl | exact bn (by omega)) : p := h
end
section
variable {N : eg} {st : St} {d : Nat}
theorem Sh.gU {s n : Nat} {rows : List (List X)} (o : Nat) (kb : List (List X)) (hx : look st.aA d = some (.cX s rows)) (he : rows = kb) (hn : n = kb.length) (hF : N.F.elem o = false) : Sh N st (((st.kill o).dO o (.rows s kb)).put d (.aY o s 0 n)) := by
 subst he; exact Sh.EM o hx hn hF
theorem Sh.bB {s : Nat} {rows : List (List X)} (kb : List (List X)) (hx : look st.aA d = some (.cX s rows)) (he : rows = kb) (hf : cp kb) : Sh N st (st.put d (.fz s kb)) := by
 subst he; exact Sh.freeze hx hf
end
section
variable {P : Program} {N : eg} {st : St} {dst : Option Nat} {ty : TypeId} {pos : String} {af : Array Edge} {g : Option (Nat × Bool)}
theorem Y.qk {s d : TypeId} {x : Operand} {k k' : IntKind} {n : Int} (hs : TY.isInt P s = some k') (hd : TY.isInt P d = some k) (hx : bw st x = some (.v (.int k' n))) (hr : k.wrap n = n) :
  Yields P N st ⟨dst, .convert s d x, ty, pos, af, g⟩ (.v (.int k n)) := Y.qj hs hd hx hr
theorem Y.zk {t : TypeId} {x : Operand} {n : Int} (hx : bw st x = some (.v (.int .i64 n))) (hr : -9223372036854775808 ≤ 0 - n ∧ 0 - n ≤ 9223372036854775807) : Yields P N st ⟨dst, .unOp .neg t x, ty, pos, af, g⟩ (.v (.int .i64 (0 - n))) :=
 Y.zj hx (IntWalk.i64_in _ hr)
end
theorem a8 {l : List (Nat × X)} {i o s lo n n' : Nat} (h : look l i = some (.aY o s lo n)) (e : n = n') : look l i = some (.aY o s lo n') := e ▸ h
theorem ai {l : List (Nat × X)} {i : Nat} {k : IntKind} {a b : Int} (h : look l i = some (.v (.int k a))) (e : a = b) : look l i = some (.v (.int k b)) := e ▸ h
theorem au {l : List (Nat × X)} {i : Nat} {a b : Bool} (h : look l i = some (.v (.bool a))) (e : a = b) : look l i = some (.v (.bool b)) := e ▸ h
theorem aJ {l : List (Nat × Obj)} {i : Nat} {a b : List X} (h : look l i = some (.cells a)) (e : a = b) : look l i = some (.cells b) := e ▸ h
theorem az {α : Type} {s : Nat} {f : α → List X} (h : ∀ a, (f a).length = s) {l : List α} : bJ s (l.map f) := by
 intro r hr
 obtain ⟨a, _, rfl⟩ := List.mem_map.1 hr
 exact h a
theorem yw {α0 γ : Type} (f : α0 → γ) {a0 b0 : α0} (h0 : a0 = b0) : f a0 = f b0 := by subst h0; rfl
end Go.AW
namespace Go.AW
section
variable {α : Type} {l m : List α} {i j n : Nat} {d a x : α}
theorem nA (h : i < n) : (List.replicate n a).getD i d = a := by
 rw [List.getD_eq_getElem?_getD, List.getElem?_replicate, if_pos h]; rfl
theorem vp {p : Nat → Prop} (h : ∀ j, j < i → p j) (hp : p i) : ∀ j, j < i + 1 → p j := by
 intro j hj
 rcases Nat.lt_or_ge j i with h1 | h1
 ·exact h j h1
 ·obtain rfl : j = i := by omega
  exact hp
end
end Go.AW
namespace Go.AW
open Go Go.ChangeShapes Go.WideShapes Go.Deep Go.RowKit
theorem bt.yZ {E : Env} : ∀ {xs ys : List X} {cs ds : List Value}, bt E xs cs [] → bt E ys ds [] → bt E (xs ++ ys) (cs ++ ds) []
 | [], _, _, _, h, h' => by simp only [bt] at h; rw [h.1]; exact h'
 | x :: r, ys, cs, ds, h, h' => by
  simp only [bt] at h
  obtain ⟨c, cG, R₁, R₂, rfl, hs, h1, h2, hR⟩ := h
  obtain ⟨rfl, rfl⟩ := List.append_eq_nil_iff.1 hR.symm
  simp only [List.cons_append, bt]
  exact ⟨c, cG ++ ds, [], [], rfl, hs, h1, bt.yZ h2 h', rfl⟩
theorem bt.v1 {E : Env} {u : Value} (h : iE u) : bt E [.v u] [u] [] := by
 simp only [bt]
 exact ⟨u, [], [], [], rfl, h, by simp [RX], ⟨rfl, rfl⟩, rfl⟩
theorem bt.len {E : Env} : ∀ {xs : List X} {cs : List Value} {R : List Nat}, bt E xs cs R → xs.length = cs.length
 | [], _, _, h => by simp only [bt] at h; rw [h.1]; rfl
 | x :: r, cs, R, h => by
  simp only [bt] at h
  obtain ⟨c, cG, R₁, R₂, rfl, _, _, h2, _⟩ := h
  simp [bt.len h2]
theorem RF.OL {E : Env} {b : Nat} : ∀ {row : List X} {cs : List Value} {off : Nat}, bt E row cs [] → X.ga row = true → (∀ (j : Nat) c, cs[j]? = some c → E.φ b (off + j) = some c) → RF E row b off
 | [], _, _, _, _, _ => by simp [RF]
 | x :: r, cs, off, h, hn, hc => by
  simp only [bt] at h
  obtain ⟨c, cG, R₁, R₂, rfl, hs, h1, h2, hR⟩ := h
  obtain ⟨rfl, rfl⟩ := List.append_eq_nil_iff.1 hR.symm
  simp only [X.ga, Bool.and_eq_true] at hn
  simp only [RF]
  refine ⟨⟨c, by simpa using hc 0 c rfl, hs, hn.1, h1⟩, RF.OL h2 hn.2 fun j c' hj => ?_⟩
  rw [show off + 1 + j = off + (j + 1) by omega]
  exact hc (j + 1) c' (by simpa using hj)
mutual
def r3 {H : Type} : DataW H → Nat
 | .lit (.string bytes) => bytes.length + 1
 | .lit _ => 1
 | .nil => 1
 | .ptr d => r3 d + 1
 | .slice elems spare => jo elems + jo spare + 1
 | .agg parts => jo parts + 1
 | .iface _ d => r3 d + 1
 | .map entries => pS entries + 1
 | .held _ => 1
def jo {H : Type} : List (DataW H) → Nat
 | [] => 0
 | d :: r => r3 d + jo r
def pS {H : Type} : List (Lit × DataW H) → Nat
 | [] => 0
 | x :: r => z2 x + pS r
def z2 {H : Type} : Lit × DataW H → Nat
 | (.string bytes, d) => bytes.length + r3 d + 1
 | (_, d) => r3 d + 1
end
theorem m6 {H α : Type} {m : α → Nat} : ∀ {l : List α} {ds : List (DataW H)}, l.length = ds.length → (∀ (i : Nat) a d, l[i]? = some a → ds[i]? = some d → m a ≤ r3 d) → (l.map m).sum ≤ jo ds
 | [], _, _, _ => by simp
 | a :: l, [], h, _ => by simp at h
 | a :: l, d :: ds, h, hm => by
  have h1 := hm 0 a d rfl rfl
  have h2 := m6 (l := l) (ds := ds) (by simpa using h) (fun i a' d' ha hd => hm (i + 1) a' d' (by simpa using ha) (by simpa using hd))
  simp only [List.map_cons, List.sum_cons, jo]; omega
section
variable {H : Type} (enc : TypeId × Value → H) (P : Program) (W : World) (base : Nat)
def Sz {H : Type} (P : Program) (t : TypeId) (d : DataW H) : Prop := ∀ n ∈ d.weights P t, n ≤ 140737488351232
def Reads (t : TypeId) {α : Type} (f : α → List X) (p : α → Prop) (m : α → Nat) : Prop :=
 ∀ (n : Nat) (cs : List Value) (y : DataW H × List MemPlace), DataW.trod enc P W base (fun _ => true) true n t cs = some y → Sz P t y.1 →
  ∃ a : α, p a ∧ bt (E0 W) (f a) cs [] ∧ X.bj (f a) = true ∧ X.ga (f a) = true ∧ m a ≤ r3 y.1
def ox (fl : List Field) (off m : Nat) {α : Type} (f : α → List X) (p : α → Prop) (mm : α → Nat) : Prop :=
 ∀ (n : Nat) (cs : List Value) (xs : List (DataW H × List MemPlace)), off + m ≤ cs.length → xs.length = fl.length →
  (∀ (i : Nat) (fd : Field), fl[i]? = some fd → DataW.trod enc P W base (fun _ => true) true n fd.type ((cs.drop fd.offset).take (P.cellsOf fd.type)) = xs[i]?) →
  (∀ (i : Nat) (fd : Field) (x : DataW H × List MemPlace), fl[i]? = some fd → xs[i]? = some x → Sz P fd.type x.1) →
  ∃ a : α, p a ∧ bt (E0 W) (f a) ((cs.drop off).take m) [] ∧ X.bj (f a) = true ∧ X.ga (f a) = true ∧ mm a ≤ jo (xs.map (·.1))
end
section
variable {H : Type} {enc : TypeId × Value → H} {P : Program} {W : World} {base : Nat} {t e : TypeId} {α β : Type} {f : α → List X} {p : α → Prop} {g : β → List X} {q : β → Prop} {mf : α → Nat} {mg : β → Nat}
theorem kg : ∀ {a b : List X}, X.bj a = true → X.bj b = true → X.bj (a ++ b) = true
 | [], _, _, h => h
 | x :: r, b, h, h' => by
  simp only [X.bj, Bool.and_eq_true, List.cons_append] at h ⊢
  exact ⟨h.1, kg h.2 h'⟩
theorem nC : ∀ {a b : List X}, X.ga a = true → X.ga b = true → X.ga (a ++ b) = true
 | [], _, _, h => h
 | x :: r, b, h, h' => by
  simp only [X.ga, Bool.and_eq_true, List.cons_append] at h ⊢
  exact ⟨h.1, nC h.2 h'⟩
theorem Reads.map (φ : α → β) (h : Reads enc P W base t f p mf) (hf : ∀ a, g (φ a) = f a) (hp : ∀ a, p a → q (φ a)) (hm : ∀ a, mg (φ a) ≤ mf a) : Reads enc P W base t g q mg := by
 intro n cs y hy hs
 obtain ⟨a, h1, h2, h3, h4, h5⟩ := h n cs y hy hs
 exact ⟨φ a, hp a h1, by rw [hf]; exact h2, by rw [hf]; exact h3, by rw [hf]; exact h4, Nat.le_trans (hm a) h5⟩
theorem Reads.int {k : IntKind} (he : P.underlying t = some (.int k)) : Reads enc P W base t (fun z : Int => [.v (.int k z)]) (fun z => (Lit.int k z).wf = true) (fun _ => 1) := by
 intro n cs y hy _
 obtain ⟨z, rfl, hd, hw⟩ := DataW.trod_int he hy
 exact ⟨z, hw, bt.v1 trivial, rfl, rfl, by rw [hd]; exact Nat.le_refl _⟩
theorem Reads.bool (he : P.underlying t = some .bool) : Reads enc P W base t (fun z : Bool => [.v (.bool z)]) (fun _ => True) (fun _ => 1) := by
 intro n cs y hy _
 obtain ⟨z, rfl, hd⟩ := DataW.trod_bool he hy
 exact ⟨z, trivial, bt.v1 trivial, rfl, rfl, by rw [hd]; exact Nat.le_refl _⟩
theorem Reads.HT (he : P.underlying t = some (.int .u64)) : Reads enc P W base t (fun z : Nat => [.v (.int .u64 (z : Int))]) (fun z => z < 18446744073709551616) (fun _ => 1) := by
 intro n cs y hy _
 obtain ⟨z, rfl, hd, hw⟩ := DataW.trod_int he hy
 simp only [Lit.wf, IntKind.min, IntKind.max, IntKind.signed, IntKind.bits] at hw
 simp at hw
 obtain ⟨m, rfl⟩ := Int.eq_ofNat_of_zero_le (show 0 ≤ z by omega)
 exact ⟨m, om, bt.v1 trivial, rfl, rfl, by rw [hd]; exact Nat.le_refl _⟩
theorem Reads.Lo (he : P.underlying t = some (.int .u8)) : Reads enc P W base t (fun z : Nat => [.v (.int .u8 (z : Int))]) (fun z => z < 256) (fun _ => 1) := by
 intro n cs y hy _
 obtain ⟨z, rfl, hd, hw⟩ := DataW.trod_int he hy
 simp only [Lit.wf, IntKind.min, IntKind.max, IntKind.signed, IntKind.bits] at hw
 simp at hw
 obtain ⟨m, rfl⟩ := Int.eq_ofNat_of_zero_le (show 0 ≤ z by omega)
 exact ⟨m, om, bt.v1 trivial, rfl, rfl, by rw [hd]; exact Nat.le_refl _⟩
theorem fk {H : Type} {P : Program} {e : TypeId} : ∀ {ds : List (DataW H)} {d : DataW H}, d ∈ ds → ∀ n ∈ d.weights P e, n ∈ DataW.weightsAll P e ds
 | d' :: r, d, h, n, hn => by
  simp only [DataW.weightsAll, List.mem_append]
  rcases List.mem_cons.1 h with rfl | h
  ·exact .inl hn
  ·exact .inr (fk h n hn)
theorem Reads.slice [Inhabited α] {s B : Nat} (ht : P.underlying t = some (.slice e)) (hC : P.cellsOf e = s) (hs : 0 < s) (hB : P.bytesOf e = B) (he : Reads enc P W base e f p mf) :
  Reads enc P W base t (fun l : List α => [.fz s (l.map f)]) (fun l => l.length * B ≤ 140737488351232 ∧ ∀ a ∈ l, p a) (fun l => (l.map mf).sum) := by
 intro fuel cs y hy ez
 rcases open_slice ht hy with ⟨rfl, rfl⟩ | ⟨a, len, cap, m, n, D, Pl, rfl, _, hl, _, hm, rfl, hi⟩
 ·refine ⟨[], ⟨by simp, fun _ h => by cases h⟩, ?_, rfl, rfl, by simp⟩
  simp only [bt, List.map_nil]
  refine ⟨.slice none 0 0, [], [], [], rfl, trivial, ?_, ⟨rfl, by trivial⟩, rfl⟩
  simp only [RX]
  exact ⟨trivial, (fun _ h => by cases h), none, 0, rfl, .inl ⟨by trivial, rfl⟩⟩
 ·simp only [if_true] at hm
  subst hm
  rw [hC] at hi
  have hD : ∀ i, i < m → Sz P e (D i) := by
   intro i SY k hk
   refine ez k ?_
   simp only [DataW.weights, ht, List.mem_cons, List.mem_append]
   right
   by_cases yI : i < len
   ·exact .inl (fk (List.mem_map.2 ⟨i, List.mem_range.2 yI, rfl⟩) k hk)
   ·refine .inr (fk (List.mem_map.2 ⟨i - len, List.mem_range.2 om, ?_⟩) k hk)
    congr 1; omega
  have QA : ∀ i, ∃ x : α, i < len → ∃ cs, W.cells? base (a.add (i * s)) s = some cs ∧ p x ∧ bt (E0 W) (f x) cs [] ∧ X.bj (f x) = true ∧ X.ga (f x) = true ∧ mf x ≤ r3 (D i) := by
   intro i
   by_cases yI : i < len
   ·obtain ⟨cs, hc, Lc⟩ := hi i om
    obtain ⟨x, h0, h1, h2, h3, h4⟩ := he n cs _ Lc (hD i om)
    exact ⟨x, fun _ => ⟨cs, hc, h0, h1, h2, h3, h4⟩⟩
   ·exact ⟨default, fun h => absurd h yI⟩
  obtain ⟨g, hg⟩ := Classical.axiomOfChoice QA
  refine ⟨(List.range len).map g, ⟨?_, ?_⟩, ?_, rfl, rfl, ?_⟩
  rotate_right
  ·refine Nat.le_trans (m6 (m := mf) (ds := (List.range len).map D) (by simp) ?_) (by show _ ≤ jo _ + jo _ + 1; omega)
   intro i a' d' ha hd
   simp only [List.getElem?_map, Option.map_eq_some_iff] at ha hd
   obtain ⟨k, hk, rfl⟩ := ha
   obtain ⟨k', wM, rfl⟩ := hd
   rw [hk] at wM
   obtain rfl := Option.some.inj wM
   have DG : i < len := by have := (List.getElem?_eq_some_iff.1 hk).1; simpa using this
   have rq : k = i := by rw [List.getElem?_range DG] at hk; exact (Option.some.inj hk).symm
   subst rq
   obtain ⟨_, _, _, _, _, _, h5⟩ := hg k DG
   exact h5
  ·have z := ez ((((List.range len).map D).length + ((List.range (m - len)).map fun j => D (len + j)).length) * P.bytesOf e) (by simp [DataW.weights, ht])
   rw [hB] at z
   simp only [List.length_map, List.length_range] at z ⊢
   exact Nat.le_trans (Nat.mul_le_mul_right _ om) z
  ·intro x hx
   simp only [List.mem_map, List.mem_range] at hx
   obtain ⟨i, gy, rfl⟩ := hx
   obtain ⟨_, _, h0, _⟩ := hg i gy
   exact h0
  ·have hu : bJ s (((List.range len).map g).map f) := by
    intro r hr
    simp only [List.map_map, List.mem_map, List.mem_range, Function.comp] at hr
    obtain ⟨i, gy, rfl⟩ := hr
    obtain ⟨cs, hc, _, h1, _⟩ := hg i gy
    rw [bt.len h1]
    exact (World.cells?_some hc).2.1
   simp only [bt]
   refine ⟨_, [], [], [], rfl, trivial, ?_, ⟨rfl, rfl⟩, rfl⟩
   simp only [RX]
   refine ⟨trivial, hu, some a, m, by simp, ?_⟩
   by_cases QB : m = 0
   ·exact .inl ⟨by simp [show len = 0 by omega], QB⟩
   ·have DN : a = ⟨a.block, a.off, none⟩ := by
     obtain ⟨cs, hc, _⟩ := hi 0 om
     have h1 := (World.cells?_some hc).2.2 0 hs
     have hlen := (World.cells?_some hc).2.1
     simp only [Nat.zero_mul, Addr.add, if_true] at h1
     rw [List.getElem?_eq_getElem (show 0 < cs.length by omega)] at h1
     unfold World.cell? at h1
     obtain ⟨b, o, sp⟩ := a
     cases sp with
     | none => rfl
     | some q => split at h1 <;> simp at h1
    refine .inr ⟨a.block, a.off, by rw [← DN], by simp; omega, iF.of hu ?_⟩
    intro i row og
    simp only [List.map_map, List.getElem?_map, Option.map_eq_some_iff, Function.comp] at og
    obtain ⟨k, hk, rfl⟩ := og
    have DG : i < len := by have := (List.getElem?_eq_some_iff.1 hk).1; simpa using this
    have rq : k = i := by rw [List.getElem?_range DG] at hk; exact (Option.some.inj hk).symm
    subst rq
    obtain ⟨cs, hc, _, h1, _, h2, _⟩ := hg k DG
    refine RF.OL h1 h2 fun j c OM => ?_
    have lV : j < s := by have := (List.getElem?_eq_some_iff.1 OM).1; rw [(World.cells?_some hc).2.1] at this; exact this
    have h3 := (World.cells?_some hc).2.2 j lV
    rw [OM, add_add, DN, fO] at h3
    show W.cell? _ = _
    rw [← h3]
    congr 2
    omega
theorem ox.nil {off : Nat} : ox enc P W base [] off 0 (fun _ : Unit => []) (fun _ => True) (fun _ => 0) := by
 intro n cs xs _ _ _ _
 exact ⟨(), trivial, by simp [bt], rfl, rfl, Nat.zero_le _⟩
theorem ox.cons {fd : Field} {fl : List Field} {off s m : Nat} (ho : fd.offset = off) (hC : P.cellsOf fd.type = s) (h : Reads enc P W base fd.type f p mf) (hr : ox enc P W base fl (off + s) m g q mg) :
  ox enc P W base (fd :: fl) off (s + m) (fun x : α × β => f x.1 ++ g x.2) (fun x => p x.1 ∧ q x.2) (fun x => mf x.1 + mg x.2) := by
 intro n cs xs hlen uK hx ez
 cases xs with
 | nil => simp at uK
 | cons x xs =>
  have h0 := hx 0 fd rfl
  rw [ho, hC] at h0
  obtain ⟨a, ha, h1, h2, h3, h4⟩ := h n _ x h0 (ez 0 fd x rfl rfl)
  obtain ⟨b, hb, g1, g2, g3, g4⟩ := hr n cs xs om (by simpa using uK) (fun i Lp hi => by simpa using hx (i + 1) Lp (by simpa using hi)) (fun i Lp x' hi j5 => ez (i + 1) Lp x' (by simpa using hi) (by simpa using j5))
  refine ⟨(a, b), ⟨ha, hb⟩, ?_, kg h2 g2, nC h3 g3, by simp only [List.map_cons, jo]; omega⟩
  have pT : (cs.drop off).take (s + m) = (cs.drop off).take s ++ (cs.drop (off + s)).take m := by
   rw [List.take_add, List.drop_drop]
  rw [pT]
  exact bt.yZ h1 g1
theorem la {H : Type} {P : Program} : ∀ {fl : List Field} {xs : List (DataW H × List MemPlace)} {i : Nat} {fd : Field} {x : DataW H × List MemPlace}, fl[i]? = some fd → xs[i]? = some x →
  ∀ n ∈ x.1.weights P fd.type, n ∈ DataW.weightsEach P (fl.map (·.type)) (xs.map (·.1))
 | f :: fl, y :: xs, 0, fd, x, h, h', n, hn => by
  simp only [List.getElem?_cons_zero, Option.some.injEq] at h h'
  subst h h'
  simp only [List.map_cons, DataW.weightsEach, List.mem_append]
  exact .inl hn
 | f :: fl, y :: xs, i + 1, fd, x, h, h', n, hn => by
  simp only [List.map_cons, DataW.weightsEach, List.mem_append]
  exact .inr (la (i := i) (by simpa using h) (by simpa using h') n hn)
theorem Reads.struct {fs : Array Field} {m : Nat} (ht : P.underlying t = some (.struct fs)) (hC : P.cellsOf t = m) (h : ox enc P W base fs.toList 0 m f p mf) : Reads enc P W base t f p mf := by
 intro fuel cs y hy ez
 obtain ⟨xs, n, _, rfl, hlen, uK, hx⟩ := DataW.trod_struct ht hy
 obtain ⟨a, ha, h1, h2, h3, h4⟩ := h n cs xs om (by simpa using uK) (fun i fd hi => hx i fd (by simpa using hi)) (fun i fd x hi j5 k hk => by
  refine ez k ?_
  simp only [DataW.weights, ht]
  exact la hi j5 k hk)
 refine ⟨a, ha, ?_, h2, h3, by show _ ≤ jo _ + 1; omega⟩
 rw [List.drop_zero, List.take_of_length_le om] at h1
 exact h1
theorem Reads.Lq {s : Nat} (ht : P.underlying t = some (.array 2 e)) (hC : P.cellsOf e = s) (hT : P.cellsOf t = 2 * s) (h : Reads enc P W base e f p mf) :
  Reads enc P W base t (fun x : α × α => f x.1 ++ f x.2) (fun x => p x.1 ∧ p x.2) (fun _ => 0) := by
 intro fuel cs y hy ez
 obtain ⟨xs, n, _, rfl, hlen, uK, hx⟩ := DataW.trod_array ht hy
 match xs, uK with
 | [x0, x1], _ =>
  have w0 : ∀ x ∈ [x0, x1], Sz P e x.1 := fun x hx k hk => ez k (by
   simp only [DataW.weights, ht]
   exact fk (List.mem_map.2 ⟨x, hx, rfl⟩) k hk)
  obtain ⟨a, ha, a1, a2, a3, _⟩ := h n _ x0 (hx 0 om) (w0 x0 (by simp))
  obtain ⟨b, hb, b1, b2, b3, _⟩ := h n _ x1 (hx 1 om) (w0 x1 (by simp))
  refine ⟨(a, b), ⟨ha, hb⟩, ?_, kg a2 b2, nC a3 b3, Nat.zero_le _⟩
  have pT : cs = (cs.drop (0 * P.cellsOf e)).take (P.cellsOf e) ++ (cs.drop (1 * P.cellsOf e)).take (P.cellsOf e) := by
   rw [Nat.zero_mul, Nat.one_mul, List.drop_zero, hC, List.take_of_length_le (l := cs.drop s) (by rw [List.length_drop]; omega), List.take_append_drop]
  rw [pT]
  exact bt.yZ a1 b1
theorem Reads.Lr {s : Nat} (ht : P.underlying t = some (.array 3 e)) (hC : P.cellsOf e = s) (hT : P.cellsOf t = 3 * s) (h : Reads enc P W base e f p mf) :
  Reads enc P W base t (fun x : α × α × α => f x.1 ++ (f x.2.1 ++ f x.2.2)) (fun x => p x.1 ∧ p x.2.1 ∧ p x.2.2) (fun _ => 0) := by
 intro fuel cs y hy ez
 obtain ⟨xs, n, _, rfl, hlen, uK, hx⟩ := DataW.trod_array ht hy
 match xs, uK with
 | [x0, x1, x2], _ =>
  have w0 : ∀ x ∈ [x0, x1, x2], Sz P e x.1 := fun x hx k hk => ez k (by
   simp only [DataW.weights, ht]
   exact fk (List.mem_map.2 ⟨x, hx, rfl⟩) k hk)
  obtain ⟨a, ha, a1, a2, a3, _⟩ := h n _ x0 (hx 0 om) (w0 x0 (by simp))
  obtain ⟨b, hb, b1, b2, b3, _⟩ := h n _ x1 (hx 1 om) (w0 x1 (by simp))
  obtain ⟨c, hc, c1, c2, c3, _⟩ := h n _ x2 (hx 2 om) (w0 x2 (by simp))
  refine ⟨(a, b, c), ⟨ha, hb, hc⟩, ?_, kg a2 (kg b2 c2), nC a3 (nC b3 c3), Nat.zero_le _⟩
  have pT : cs = (cs.drop (0 * P.cellsOf e)).take (P.cellsOf e) ++ ((cs.drop (1 * P.cellsOf e)).take (P.cellsOf e) ++ (cs.drop (2 * P.cellsOf e)).take (P.cellsOf e)) := by
   rw [Nat.zero_mul, Nat.one_mul, List.drop_zero, hC, List.take_of_length_le (l := cs.drop (2 * s)) (by rw [List.length_drop]; omega), show 2 * s = s + s by omega, ← List.drop_drop, List.take_append_drop, List.take_append_drop]
  rw [pT]
  exact bt.yZ a1 (bt.yZ b1 c1)
theorem Reads.one {x : α → X} {v : Value} {d : DataW H} {ps : List MemPlace} (h : Reads enc P W base t (fun a => [x a]) p mf) (hs : Sz P t d) (hv : v.cells.toList = [v]) (ht : DataW.Trod enc P W base (fun _ => true) true t v d ps) :
  ∃ a, p a ∧ RX (E0 W) (x a) v [] ∧ mf a ≤ r3 d := by
 obtain ⟨fuel, hf⟩ := ht
 rw [hv] at hf
 obtain ⟨a, ha, h1, _, _, h5⟩ := h fuel _ _ hf hs
 simp only [bt] at h1
 obtain ⟨c, cG, R₁, R₂, hc, _, h2, _, hR⟩ := h1
 obtain ⟨rfl, rfl⟩ := List.append_eq_nil_iff.1 hR.symm
 simp only [List.cons.injEq] at hc
 exact ⟨a, ha, by rw [hc.1]; exact h2, h5⟩
theorem Reads.agg {cs : Array Value} {d : DataW H} {ps : List MemPlace} (h : Reads enc P W base t f p mf) (hs : Sz P t d) (ht : DataW.Trod enc P W base (fun _ => true) true t (.agg cs) d ps) :
  ∃ a, p a ∧ RX (E0 W) (.agg (f a)) (.agg cs) [] ∧ mf a ≤ r3 d := by
 obtain ⟨fuel, hf⟩ := ht
 obtain ⟨a, ha, h1, _, _, h5⟩ := h fuel _ _ hf hs
 exact ⟨a, ha, by simp only [RX]; exact ⟨cs, rfl, h1⟩, h5⟩
theorem Sz.of {ts : List TypeId} {ds : List (DataW H)} (h : (DataW.weightsEach P ts ds).all (· ≤ reachBytes) = true) {j : Nat} {d : DataW H} (QC : ts[j]? = some t) (QD : ds[j]? = some d) : Sz P t d := by
 intro n hn
 have := List.all_eq_true.1 h _ (DataW.weights_mem_each QC QD n hn)
 have h2 := of_decide_eq_true this
 exact h2
end
end Go.AW
namespace Go.AW
open Go
def mR (ops : Array Oper) (j i : Nat) : Bool := match ops[j]? with
 | some o => o.after.any fun e => Region.binds .any e && e.on == i
 | none => false
def EN (ops : Array Oper) (l rest : List Nat) (t : Nat) (ah : Array Bool) : Bool :=
 ah.size == ops.size && ((List.range ops.size).all fun j => !ah.getD j false || match ops[j]? with
  | some o => o.after.all fun e => !Region.binds .any e || ah.getD e.on false
  | none => true) && ((List.range ops.size).all fun j => ah.getD j true || l.contains j || rest.contains j) && (rest.all fun j => !ah.getD j true && !l.contains j) && (l.all fun j => !ah.getD j true) &&
  (rest.isEmpty || l.all fun i => (t :: l).any fun j => decide (i < j) && mR ops j i) && (rest.all fun j => j == t || rest.any fun k => mR ops j k) && decide l.Nodup
structure On (ops : Array Oper) (l0 rest : List Nat) (t : Nat) (l : List Nat) (ah : Array Bool) : Prop where
 size : ah.size = ops.size
 closed : ∀ j o, ops[j]? = some o → ah.getD j false = true → ∀ e ∈ o.after, Region.binds .any e = true → ah.getD e.on false = true
 part : ∀ j, ah.getD j true = false → j ∈ l ∨ j ∈ rest
 out : ∀ j ∈ rest, ah.getD j true = false ∧ j ∉ l0
 open_ : ∀ j ∈ l, ah.getD j true = false
 sub : ∀ j ∈ l, j ∈ l0
 sink : rest ≠ [] → ∀ i ∈ l0, ∃ j, (j = t ∨ j ∈ l0) ∧ i < j ∧ mR ops j i = true
 wait : ∀ j ∈ rest, j = t ∨ ∃ k ∈ rest, mR ops j k = true
 nodup : l.Nodup
theorem rO {ah : Array Bool} {i : Nat} (h : ah.getD i true = false) : ah.getD i false = false := by
 rcases Nat.lt_or_ge i ah.size with h' | h'
 ·simp [h'] at h ⊢; exact h
 ·simp [Array.getElem?_eq_none h'] at h
theorem vq {ah : Array Bool} {i : Nat} (hi : i < ah.size) (h : ah.getD i false = false) : ah.getD i true = false := by
 simp [hi] at h ⊢; exact h
theorem oU {ops : Array Oper} {j i : Nat} (h : mR ops j i = true) : ∃ o, ops[j]? = some o ∧ ∃ e ∈ o.after, Region.binds .any e = true ∧ e.on = i := by
 unfold mR at h
 split at h
 ·rename_i o ho
  obtain ⟨e, he, hb⟩ := Array.any_eq_true'.1 h
  simp only [Bool.and_eq_true, beq_iff_eq] at hb
  exact ⟨o, ho, e, he, hb.1, hb.2⟩
 ·cases h
theorem Cg {ops : Array Oper} {l rest : List Nat} {t : Nat} {ah : Array Bool} (h : EN ops l rest t ah = true) : On ops l rest t l ah := by
 simp only [EN, Bool.and_eq_true, beq_iff_eq, List.all_eq_true, decide_eq_true_eq, List.mem_range, Bool.or_eq_true, Bool.not_eq_true', List.any_eq_true, List.contains_iff_mem] at h
 obtain ⟨⟨⟨⟨⟨⟨⟨h1, h2⟩, h3⟩, h4⟩, h5⟩, h6⟩, h7⟩, h8⟩ := h
 refine ⟨h1, ?_, ?_, ?_, h5, fun _ h => h, ?_, ?_, h8⟩
 ·intro j o ho hl e he hb
  have := h2 j (Array.getElem?_eq_some_iff.1 ho).1
  rw [hl, ho] at this
  simp only [Bool.true_eq_false, false_or] at this
  have h9 := Array.all_eq_true_iff_forall_mem.1 this e he
  simpa [hb] using h9
 ·intro j hj
  have GG : j < ops.size := by
   rcases Nat.lt_or_ge j ah.size with h' | h'
   ·omega
   ·simp [Array.getElem?_eq_none h'] at hj
  have := h3 j GG
  rw [hj] at this
  simpa using this
 ·intro j hj
  have := h4 j hj
  exact ⟨this.1, by simpa using this.2⟩
 ·intro fc i hi
  obtain ⟨j, hj, gM, hw⟩ := (h6.resolve_left (by simpa using fc)) i hi
  exact ⟨j, by simpa using hj, gM, hw⟩
 ·intro j hj
  exact h7 j hj
theorem rP {ops : Array Oper} {ah : Array Bool} {j k : Nat} (hw : mR ops j k = true) (hk : ah.getD k true = false) : j ∉ Region.ready .any ops ah := by
 intro hj
 obtain ⟨_, o, ho, rz⟩ := mem_ready.1 hj
 obtain ⟨o', mr, e, he, hb, iG⟩ := oU hw
 rw [ho] at mr
 cases mr
 have := rz e he hb
 rw [iG, rO hk] at this
 cases this
theorem pU : ∀ {l : List Nat}, l ≠ [] → ∃ m ∈ l, ∀ x ∈ l, x ≤ m
 | [], h => absurd rfl h
 | [a], _ => ⟨a, by simp, by simp⟩
 | a :: b :: r, _ => by
  obtain ⟨m, hm, hx⟩ := pU (l := b :: r) (by simp)
  rcases Nat.le_total a m with h | h
  ·exact ⟨m, List.mem_cons_of_mem _ hm, fun x j5 => by rcases List.mem_cons.1 j5 with rfl | j5; exact h; exact hx x j5⟩
  ·exact ⟨a, by simp, fun x j5 => by rcases List.mem_cons.1 j5 with rfl | j5; exact Nat.le_refl _; exact Nat.le_trans (hx x j5) h⟩
theorem On.ready {ops : Array Oper} {l0 rest l : List Nat} {t : Nat} {ah : Array Bool} (h : On ops l0 rest t l ah) (fc : l ≠ []) : ∀ j ∈ Region.ready .any ops ah, j ∈ l := by
 intro j hj
 have wA := (mem_ready.1 hj).1
 rcases h.part j wA with hl | hr
 ·exact hl
 ·exfalso
  rcases h.wait j hr with rfl | ⟨k, hk, hw⟩
  ·obtain ⟨m, hm, Ls⟩ := pU fc
   obtain ⟨j', xA, gM, hw⟩ := h.sink (fun e => by rw [e] at hr; cases hr) m (h.sub m hm)
   rcases xA with rfl | xA
   ·exact rP hw (h.open_ m hm) hj
   ·obtain ⟨o, ho, e, he, hb, iG⟩ := oU hw
    cases hl : ah.getD j' false with
    | true =>
     have := h.closed j' o ho hl e he hb
     rw [iG, rO (h.open_ m hm)] at this
     cases this
    | false =>
     have hs : j' < ah.size := by rw [h.size]; exact (Array.getElem?_eq_some_iff.1 ho).1
     rcases h.part j' (vq hs hl) with h1 | h1
     ·have := Ls j' h1; omega
     ·exact (h.out j' h1).2 xA
  ·exact rP hw (h.out k hk).1 hj
theorem On.step {ops : Array Oper} {l0 rest l : List Nat} {t j : Nat} {ah : Array Bool} (h : On ops l0 rest t l ah) (hj : j ∈ Region.ready .any ops ah) (hl : j ∈ l) : On ops l0 rest t (l.erase j) (ah.setIfInBounds j true) := by
 obtain ⟨_, oj, yx, rz⟩ := mem_ready.1 hj
 have other : ∀ k (d : Bool), j ≠ k → (ah.setIfInBounds j true).getD k d = ah.getD k d := fun k d rJ => by
  simp only [Array.getD_eq_getD_getElem?, Array.getElem?_setIfInBounds_ne rJ]
 refine ⟨by simp [h.size], ?_, ?_, ?_, ?_, fun k hk => h.sub k (List.mem_of_mem_erase hk), h.sink, h.wait, h.nodup.erase j⟩
 ·intro k o ho hk e he hb
  by_cases rJ : j = k
  ·subst rJ
   rw [yx] at ho
   cases ho
   exact getD_set_true (rz e he hb)
  ·rw [other k false rJ] at hk
   exact getD_set_true (h.closed k o ho hk e he hb)
 ·intro k hk
  by_cases rJ : j = k
  ·subst rJ
   rw [Array.getD_eq_getD_getElem?] at hk
   rcases Nat.lt_or_ge j ah.size with h' | h'
   ·simp [h'] at hk
   ·simp at hk
  ·rw [other k true rJ] at hk
   rcases h.part k hk with h1 | h1
   ·exact .inl ((List.mem_erase_of_ne (fun e => rJ e.symm)).2 h1)
   ·exact .inr h1
 ·intro k hk
  have h1 := h.out k hk
  have rJ : j ≠ k := fun e => h1.2 (e ▸ h.sub j hl)
  exact ⟨by rw [other k true rJ]; exact h1.1, h1.2⟩
 ·intro k hk
  have rJ : j ≠ k := fun e => by subst e; exact (List.Nodup.not_mem_erase h.nodup) hk
  rw [other k true rJ]; exact h.open_ k (List.mem_of_mem_erase hk)
section
variable {P : Program} {N : eg} {ops : Array Oper} {d : Nat} {ty : TypeId} {pos : String} {af : Array Edge}
def lb (P : Program) (ops : Array Oper) (w : World) (L : Array Bool → Act → Prop) : Nat → Array Bool → Act → Prop
 | 0, ah, a => L ah a
 | n + 1, ah, a => Region.ready .any ops ah ≠ [] ∧ ∀ j ∈ Region.ready .any ops ah, stOp P ops w j (lb P ops w L n (ah.setIfInBounds j true)) a
theorem lb.any {w : World} {L : Array Bool → Act → Prop} {Q' : Exit → Act → World → Prop} {k : Nat} (hL : ∀ ah a, L ah a → wpAny P .any ops Q' k ah a w) :
  ∀ (n : Nat) (ah : Array Bool) (a : Act), lb P ops w L n ah a → wpAny P .any ops Q' (n + k) ah a w
 | 0, ah, a, h => by rw [Nat.zero_add]; exact hL _ _ h
 | n + 1, ah, a, h => by
  rw [Nat.add_right_comm]
  exact ⟨fun e => absurd e h.1, fun j hj => wpOp_of_stOp (fun a' => lb.any hL n _ a') (h.2 j hj)⟩
theorem lb.first {l0 rest : List Nat} {t : Nat} {w : World} {L : Array Bool → Act → Prop} {i : Nat} {oi : Oper} {v : Value} (hi : ops[i]? = some oi) (z3 : Region.noSelect ops = true) : ∀ (n : Nat) (l : List Nat) (ah : Array Bool) (a : Act),
  l.length = n → On ops l0 rest t (i :: l) ah → (∀ j oj, ops[j]? = some oj → j ≠ i → ah.getD j true = false → (∀ e ∈ oj.after, Region.binds .any e = true → e.on ≠ i) → oi.apart ops oj = true) →
  i ∈ Region.ready .any ops ah → YieldsAt P ops w oi v a → lb P ops w L n (ah.setIfInBounds i true) (a.put oi.dst v) → lb P ops w L (n + 1) ah a := by
 intro n
 induction n with
 | zero =>
  intro l ah a hl hB _ hr hy H
  refine ⟨fun e => (by rw [e] at hr; cases hr), fun j hj => ?_⟩
  have h1 := hB.ready (by simp) j hj
  have QE : l = [] := List.length_eq_zero_iff.1 hl
  subst QE
  obtain rfl : j = i := by simpa using h1
  exact hy.stOp hi H
 | succ n ih =>
  intro l ah a hl hB ke hr hy H
  refine ⟨fun e => (by rw [e] at hr; cases hr), fun j hj => ?_⟩
  by_cases uL : j = i
  ·subst uL; exact hy.stOp hi H
  ·have h1 := hB.ready (by simp) j hj
   have h2 := hB.step hj h1
   have lV : j ∈ l := by simpa [uL] using h1
   have fc : (i == j) = false := by simpa using fun h => uL h.symm
   rw [List.erase_cons, fc] at h2
   obtain ⟨wA, oj, yx, rz⟩ := mem_ready.1 hj
   have Ch : ∀ e ∈ oj.after, Region.binds .any e = true → e.on ≠ i := by
    intro e he hb heq
    have h3 := rz e he hb
    have h4 := (mem_ready.1 hr).1
    rw [heq] at h3
    rcases Nat.lt_or_ge i ah.size with h' | h'
    ·simp [h'] at h3 h4; rw [h3] at h4; cases h4
    ·simp [Array.getElem?_eq_none h'] at h3
   have h5 := stOp_put yx (ke j oj yx uL wA Ch) (fun cs b => Region.noSelect_spec z3 i oi cs b hi) (fun cs b => Region.noSelect_spec z3 j oj cs b yx) hy (H.2 j (ready_mono hj uL))
   refine stOp_mono (fun a' h6 => ih (l.erase j) _ a' (by rw [List.length_erase_of_mem lV, hl]; rfl) h2 ?_ (ready_mono hr (fun h => uL h.symm)) h6.1 ?_) h5
   ·intro k ok hk rq HU HO
    refine ke k ok hk rq ?_ HO
    by_cases rJ : j = k
    ·subst rJ; exact wA
    ·have : (ah.setIfInBounds j true).getD k true = ah.getD k true := by
      simp only [Array.getD_eq_getD_getElem?, Array.getElem?_setIfInBounds_ne rJ]
     rw [this] at HU; exact HU
   ·have : (ah.setIfInBounds j true).setIfInBounds i true = (ah.setIfInBounds i true).setIfInBounds j true := Array.setIfInBounds_comm _ _ uL
    rw [this]; exact h6.2
def AQ (P : Program) (N : eg) (ops : Array Oper) (l0 rest : List Nat) (t : Nat) (l : List Nat) (ah : Array Bool) (st : St) (K : Array Bool → St → Prop) : Prop :=
 On ops l0 rest t l ah → ∀ G : Ctx, G.fn = N → ∀ a w, bZ G st a w → lb P ops w (fun p3 a' => ∃ bc, K p3 bc ∧ bZ G bc a' w) l.length ah a
theorem AQ.nil {l0 rest : List Nat} {t : Nat} {ah : Array Bool} {st : St} {K : Array Bool → St → Prop} (h : K ah st) : AQ P N ops l0 rest t [] ah st K := fun _ _ _ _ _ hh => ⟨st, h, hh⟩
theorem AQ.cons {l0 rest : List Nat} {t i : Nat} {l : List Nat} {ah : Array Bool} {st : St} {K : Array Bool → St → Prop} {op : Op} {x : X} (ho : ops[i]? = some ⟨some d, op, ty, pos, af, none⟩)
  (hB : (Region.noSelect ops && Region.free .any ops ah i && (Region.ready .any ops ah).contains i) = true) (hy : Yields P N st ⟨some d, op, ty, pos, af, none⟩ x) (hd : d < N.n)
  (k : AQ P N ops l0 rest t l (ah.setIfInBounds i true) (st.put d x) K) : AQ P N ops l0 rest t (i :: l) ah st K := by
 intro h4 G hn a w hh
 obtain ⟨E, RR, rfl, hi⟩ := hh
 obtain ⟨u, hr, hx⟩ := hy G E RR a hn hi
 simp only [Bool.and_eq_true] at hB
 obtain ⟨⟨h1, h2⟩, h3⟩ := hB
 have h5 := h4.step (j := i) (by simpa using h3) (by simp)
 rw [List.erase_cons_head] at h5
 exact lb.first ho h1 l.length l ah a rfl h4 (Region.free_spec ho h2) (by simpa using h3) (v := u) (.inl ⟨by simp [Region.wanted], .inl hr⟩) (k h5 G hn _ _ ⟨E, _, rfl, hi.fT (hn ▸ hd) hx⟩)
theorem AQ.skip {l0 rest : List Nat} {t i : Nat} {l : List Nat} {ah : Array Bool} {st : St} {K : Array Bool → St → Prop} {op : Op} {j dj : Nat} {want : Bool} {u : Value} (ho : ops[i]? = some ⟨some d, op, ty, pos, af, some (j, want)⟩)
  (hB : (Region.noSelect ops && Region.free .any ops ah i && (Region.ready .any ops ah).contains i) = true)
  (hj : (ops[j]?).bind (·.dst) = some dj) (r7 : dj < N.n) (hd : d < N.n) (hx : look st.aA dj = some (.v u)) (fc : pP want u = true)
  (k : AQ P N ops l0 rest t l (ah.setIfInBounds i true) (st.put d (.v undef)) K) : AQ P N ops l0 rest t (i :: l) ah st K := by
 intro h4 G hn a w hh
 obtain ⟨E, RR, rfl, hi⟩ := hh
 simp only [Bool.and_eq_true] at hB
 obtain ⟨⟨h1, h2⟩, h3⟩ := hB
 have h5 := h4.step (j := i) (by simpa using h3) (by simp)
 rw [List.erase_cons_head] at h5
 have hw := kf (all := ops) (dst := some d) (op := op) (ty := ty) (pos := pos) (af := af) hi hj (hn ▸ r7) hx fc
 exact lb.first ho h1 l.length l ah a rfl h4 (Region.free_spec ho h2) (by simpa using h3) (v := undef) (.inr ⟨hw, rfl⟩) (k h5 G hn _ _ ⟨E, _, rfl, hi.fT (hn ▸ hd) (by simp [RX])⟩)
theorem AQ.run {l0 rest : List Nat} {t i : Nat} {l : List Nat} {ah : Array Bool} {st : St} {K : Array Bool → St → Prop} {op : Op} {x : X} {j dj : Nat} {want : Bool} (ho : ops[i]? = some ⟨some d, op, ty, pos, af, some (j, want)⟩)
  (hB : (Region.noSelect ops && Region.free .any ops ah i && (Region.ready .any ops ah).contains i) = true)
  (hj : (ops[j]?).bind (·.dst) = some dj) (r7 : dj < N.n) (hx : look st.aA dj = some (.v (.bool want))) (hy : Yields P N st ⟨some d, op, ty, pos, af, some (j, want)⟩ x) (hd : d < N.n)
  (k : AQ P N ops l0 rest t l (ah.setIfInBounds i true) (st.put d x) K) : AQ P N ops l0 rest t (i :: l) ah st K := by
 intro h4 G hn a w hh
 obtain ⟨E, RR, rfl, hi⟩ := hh
 obtain ⟨u, hr, j5⟩ := hy G E RR a hn hi
 simp only [Bool.and_eq_true] at hB
 obtain ⟨⟨h1, h2⟩, h3⟩ := hB
 have h5 := h4.step (j := i) (by simpa using h3) (by simp)
 rw [List.erase_cons_head] at h5
 have hs := hi.aA dj _ hx
 simp only [RX] at hs
 have ez : dj < a.tmps.size := by rw [hi.tmps, hn]; exact r7
 have hv : a.tmps[dj]? = some (.bool want) := by
  have := hs.1
  simp only [Array.getD, ez, dif_pos] at this
  rw [Array.getElem?_eq_getElem ez]
  exact congrArg some this
 have hw : Region.wanted ⟨some d, op, ty, pos, af, some (j, want)⟩ (yielded ops a.tmps) = true := by
  simp [Region.wanted, yielded, hj, hv]
 exact lb.first ho h1 l.length l ah a rfl h4 (Region.free_spec ho h2) (by simpa using h3) (v := u) (.inl ⟨hw, .inl hr⟩) (k h5 G hn _ _ ⟨E, _, rfl, hi.fT (hn ▸ hd) j5⟩)
theorem aT.bp (l rest : List Nat) (t : Nat) {m n : Nat} (hm : m = l.length + n) {ah : Array Bool} {st : St} {K : St → Prop} (hB : EN ops l rest t ah = true)
  (h : AQ P N ops l rest t l ah st (fun p3 bc => aT P N ops n p3 bc K)) : aT P N ops m ah st K := by
 subst hm
 intro G hn a w hh
 refine lb.any (fun p3 a' ⟨bc, hk, gR⟩ => ?_) l.length ah a (h (Cg hB) G hn a w hh)
 exact hk G hn a' w gR
end
end Go.AW
namespace Go.AW
open Go
section
variable {P : Program} {N : eg} {st : St} {Q : Exit → St → Prop} {all : Array Oper} {rest : List Oper} {d : Nat} {ty : TypeId} {pos : String} {af : Array Edge}
theorem Inv.oV {G : Ctx} {E : Env} {RR : Own → List Nat} {a : Act} (hi : Inv G E RR st a) {tv : Nat} {x : X} (hy : look st.aA tv = some x) (hd : d < G.fn.n) :
  ∃ fe, Inv G E fe ((st.put tv .no).put d x) (a.put (some d) (a.eval (.tmp tv))) := by
 have hv := hi.aA tv _ hy
 have kY := hi.no tv
 refine ⟨_, kY.put (R := RR (.slot tv)) hd hv (hi.nodup _) (fun b hb => ⟨(hi.own _ _ hb).1, (hi.own _ _ hb).2, fun p _ hp => ?_⟩)⟩
 unfold eZ at hp
 split at hp
 ·cases hp
 ·rename_i h; exact hi.apart _ _ h b hp hb
theorem aa.bd {tv : Nat} {x : X} (hy : look st.aA tv = some x) (hd : d < N.n) (k : aa P N all rest ((st.put tv .no).put d x) Q) :
  aa P N all (⟨some d, .assign (.tmp tv), ty, pos, af, none⟩ :: rest) st Q :=
 aa.yD (fun G E RR a hn hi => let ⟨fe, h⟩ := hi.oV hy (by rw [hn]; exact hd); ⟨a.eval (.tmp tv), E, fe, rfl, h⟩) k
theorem aa.oV {tv : Nat} {x : X} (hy : look st.aA tv = some x) (hd : d < N.n) (k : aa P N all rest ((st.put tv .no).put d x) Q) :
  aa P N all (⟨some d, .move (.tmp tv), ty, pos, af, none⟩ :: rest) st Q :=
 aa.yD (fun G E RR a hn hi => let ⟨fe, h⟩ := hi.oV hy (by rw [hn]; exact hd); ⟨a.eval (.tmp tv), E, fe, rfl, h⟩) k
theorem dU.wN {E : Env} : ∀ {xs : List X} {cs : List Value} {R : List Nat} {k : Nat} {x : X}, dU E xs cs R → xs[k]? = some x →
  ∃ u Ra Rk Rb, cs[k]? = some u ∧ RX E x u Rk ∧ R = Ra ++ (Rk ++ Rb) ∧ dU E (xs.set k .no) cs (Ra ++ Rb)
 | [], _, _, _, _, _, h => by simp at h
 | y :: r, cs, R, 0, x, h, hx => by
  simp only [dU] at h
  simp only [List.getElem?_cons_zero, Option.some.injEq] at hx
  subst hx
  obtain ⟨c, cG, R₁, R₂, rfl, h1, h2, rfl⟩ := h
  refine ⟨c, [], R₁, R₂, rfl, h1, rfl, ?_⟩
  simp only [List.set_cons_zero, dU, List.nil_append]
  exact ⟨c, cG, [], R₂, rfl, by simp [RX], h2, rfl⟩
 | y :: r, cs, R, k + 1, x, h, hx => by
  simp only [dU] at h
  obtain ⟨c, cG, R₁, R₂, rfl, h1, h2, rfl⟩ := h
  obtain ⟨u, Ra, Rk, Rb, hu, h3, rfl, h4⟩ := dU.wN (k := k) h2 (by simpa using hx)
  refine ⟨u, R₁ ++ Ra, Rk, Rb, by simpa using hu, h3, by simp, ?_⟩
  simp only [List.set_cons_succ, dU]
  exact ⟨c, cG, R₁, Ra ++ Rb, rfl, h1, h4, by simp⟩
theorem aa.kh {tv : Nat} {xs : List X} {y : X} {k : Nat} (hx : look st.aA tv = some (.tup xs)) (hy : xs[k]? = some y) (hd : d < N.n)
  (kk : aa P N all rest ((st.put tv (.tup (xs.set k .no))).put d y) Q) : aa P N all (⟨some d, .extract (.tmp tv) k, ty, pos, af, none⟩ :: rest) st Q := by
 refine aa.yD (fun G E RR a hn hi => ?_) kk
 have hp := hi.aA tv _ hx
 have jA := hi.nodup (.slot tv)
 simp only [RX] at hp
 obtain ⟨cs, hc, fR⟩ := hp
 obtain ⟨u, Ra, Rk, Rb, hu, h1, hR, h2⟩ := dU.wN fR hy
 have cP : ∀ b ∈ Ra ++ Rb, b ∈ RR (.slot tv) := by
  intro b hb
  rw [hR]
  rcases List.mem_append.1 hb with h | h
  ·exact bU h
  ·exact bK (bK h)
 have z4 : ∀ b ∈ Rk, b ∈ RR (.slot tv) := fun b hb => by rw [hR]; exact bK (bU hb)
 rw [hR, List.nodup_append, List.nodup_append] at jA
 obtain ⟨QF, ⟨Kk, EL, Lt⟩, E8⟩ := jA
 have HV : (Ra ++ Rb).Nodup := List.nodup_append.2 ⟨QF, EL, fun x hx y hy => E8 x hx y (bK hy)⟩
 have kY := hi.relabel (d := tv) (x := .tup (xs.set k .no)) (R := Ra ++ Rb) (by simp only [RX]; exact ⟨cs, hc, h2⟩) HV
  (fun b hb => ⟨(hi.own _ _ (cP b hb)).1, (hi.own _ _ (cP b hb)).2, fun p hp x6 => hi.apart p (.slot tv) hp b x6 (cP b hb)⟩)
 refine ⟨u, E, _, ?_, kY.put (R := Rk) (by rw [hn]; exact hd) h1 Kk (fun b hb => ⟨(hi.own _ _ (z4 b hb)).1, (hi.own _ _ (z4 b hb)).2, fun p _ x6 => ?_⟩)⟩
 ·show (do let z ← Instr.extract (a.eval (.tmp tv)) k; pure (Next.value z) : Sem Next).run P E.w = _
  have nv : a.eval (.tmp tv) = .tuple cs := hc
  rw [nv]
  refine cT ?_
  have Bu : cs[k]? = some u := by simpa using hu
  simp only [Instr.extract, Bu]; rfl
 ·unfold eZ at x6
  split at x6
  ·rcases List.mem_append.1 x6 with h | h
   ·exact E8 b h b (bU hb) rfl
   ·exact Lt b hb b h rfl
  ·rename_i h; exact hi.apart _ _ h b x6 (z4 b hb)
end
end Go.AW
namespace Go.AW
open Go
section
variable {P : Program} {N : eg} {st : St} {Q : Exit → St → Prop} {all : Array Oper} {rest : List Oper} {d : Nat} {ty : TypeId} {pos : String} {af : Array Edge}
end
end Go.AW
namespace Go.AW
open Go
mutual
def X.nn (o : Nat) (row : List X) : X → X
 | .ptr p s i k => bif Nat.beq p o && Nat.beq (i * s) 0 then .fp row k else .ptr p s i k
 | .agg xs => .agg (X.kH o row xs)
 | .tup xs => .tup (X.kH o row xs)
 | .gN f a b => .gN f (X.kH o row a) (X.kH o row b)
 | .v u => .v u
 | .no => .no
 | .fz s rs => .fz s rs
 | .cX s rs => .cX s rs
 | .aY p s l n => .aY p s l n
 | .mref p => .mref p
 | .fp r k => .fp r k
def X.kH (o : Nat) (row : List X) : List X → List X
 | [] => []
 | x :: r => X.nn o row x :: X.kH o row r
end
def Obj.nn (o : Nat) (row : List X) : Obj → Obj
 | .cells xs => .cells (X.kH o row xs)
 | ob => ob
mutual
theorem X.z5 {o : Nat} {row : List X} : ∀ {x : X}, x.free = true → (x.nn o row).free = true
 | .ptr p s i k, _ => by
  simp only [X.nn]
  cases Nat.beq p o && Nat.beq (i * s) 0 <;> rfl
 | .agg xs, h => X.kI (xs := xs) h
 | .tup xs, h => X.kI (xs := xs) h
 | .gN f a b, _ => rfl
 | .v u, _ | .no, _ | .fz s rs, _ | .aY p s l n, _ | .mref p, _ | .fp r k, _ => rfl
theorem X.kI {o : Nat} {row : List X} : ∀ {xs : List X}, X.bj xs = true → X.bj (X.kH o row xs) = true
 | [], _ => rfl
 | x :: r, h => by
  simp only [X.bj, Bool.and_eq_true] at h
  simp only [X.kH, X.bj, X.z5 h.1, X.kI h.2, Bool.and_self]
end
theorem X.tG {o : Nat} {row : List X} : ∀ {xs : List X}, (X.kH o row xs).length = xs.length
 | [] => rfl
 | x :: r => by simp [X.kH, X.tG (xs := r)]
mutual
theorem RX.nn {E E' : Env} {o : Nat} {row : List X} {B : DA} (hB : E.β o = some B) (hF : RF E' row B.b B.off) (hβ : E'.β = E.β) : ∀ (x : X) (c : Value) (R : List Nat), E.On E' R → RX E x c R → RX E' (x.nn o row) c R
 | .ptr p s i k, c, R, hE, h => by
  simp only [X.nn]
  cases hc : Nat.beq p o && Nat.beq (i * s) 0 with
  | false => simp only [cond_false]; exact RX.mono _ c R hE (fun q _ => by rw [hβ]) h
  | true =>
   simp only [Bool.and_eq_true] at hc
   have h1 := Nat.eq_of_beq_eq_true hc.1
   have h2 := Nat.eq_of_beq_eq_true hc.2
   subst h1
   simp only [cond_true, RX] at h ⊢
   obtain ⟨hR, B', im, rfl⟩ := h
   rw [hB] at im
   obtain rfl := Option.some.inj im
   exact ⟨hR, B.b, B.off, by rw [h2, Nat.zero_add], hF⟩
 | .agg xs, c, R, hE, h => by
  simp only [RX, X.nn] at h ⊢
  obtain ⟨cs, hc, hs⟩ := h
  exact ⟨cs, hc, bt.nn hB hF hβ xs _ R hE hs⟩
 | .tup xs, c, R, hE, h => by
  simp only [RX, X.nn] at h ⊢
  obtain ⟨cs, hc, hs⟩ := h
  exact ⟨cs, hc, dU.nn hB hF hβ xs _ R hE hs⟩
 | .gN fn a b, c, R, hE, h => by
  simp only [RX, X.nn] at h ⊢
  obtain ⟨hR, f, cc, hc, h1, h2⟩ := h
  exact ⟨hR, f, cc, hc, dU.nn hB hF hβ a _ [] (hE.sub (by simp)) h1, dU.nn hB hF hβ b _ [] (hE.sub (by simp)) h2⟩
 | .v u, c, R, hE, h => RX.mono (.v u) c R hE (fun q _ => by rw [hβ]) h
 | .no, c, R, hE, h => RX.mono .no c R hE (fun q _ => by rw [hβ]) h
 | .fz s rs, c, R, hE, h => RX.mono (.fz s rs) c R hE (fun q _ => by rw [hβ]) h
 | .cX s rs, c, R, hE, h => RX.mono (.cX s rs) c R hE (fun q _ => by rw [hβ]) h
 | .aY p s l n, c, R, hE, h => RX.mono (.aY p s l n) c R hE (fun q _ => by rw [hβ]) h
 | .mref p, c, R, hE, h => RX.mono (.mref p) c R hE (fun q _ => by rw [hβ]) h
 | .fp r k, c, R, hE, h => RX.mono (.fp r k) c R hE (fun q _ => by rw [hβ]) h
theorem bt.nn {E E' : Env} {o : Nat} {row : List X} {B : DA} (hB : E.β o = some B) (hF : RF E' row B.b B.off) (hβ : E'.β = E.β) : ∀ (xs : List X) (cs : List Value) (R : List Nat), E.On E' R → bt E xs cs R → bt E' (X.kH o row xs) cs R
 | [], _, _, _, h => by simpa [bt, X.kH] using h
 | x :: r, cs, R, hE, h => by
  simp only [bt, X.kH] at h ⊢
  obtain ⟨c, cG, R₁, R₂, hc, hs, h1, h2, hR⟩ := h
  subst hR
  exact ⟨c, cG, R₁, R₂, hc, hs, RX.nn hB hF hβ x c R₁ (hE.sub (fun _ h => bU h)) h1, bt.nn hB hF hβ r cG R₂ (hE.sub (fun _ h => bK h)) h2, rfl⟩
theorem dU.nn {E E' : Env} {o : Nat} {row : List X} {B : DA} (hB : E.β o = some B) (hF : RF E' row B.b B.off) (hβ : E'.β = E.β) : ∀ (xs : List X) (cs : List Value) (R : List Nat), E.On E' R → dU E xs cs R → dU E' (X.kH o row xs) cs R
 | [], _, _, _, h => by simpa [dU, X.kH] using h
 | x :: r, cs, R, hE, h => by
  simp only [dU, X.kH] at h ⊢
  obtain ⟨c, cG, R₁, R₂, hc, h1, h2, hR⟩ := h
  subst hR
  exact ⟨c, cG, R₁, R₂, hc, RX.nn hB hF hβ x c R₁ (hE.sub (fun _ h => bU h)) h1, dU.nn hB hF hβ r cG R₂ (hE.sub (fun _ h => bK h)) h2, rfl⟩
theorem RO.nn {E E' : Env} {o : Nat} {row : List X} {B : DA} (hB : E.β o = some B) (hF : RF E' row B.b B.off) (hβ : E'.β = E.β) : ∀ (xs : List X) (cs : Array Value) (off : Nat) (R : List Nat), E.On E' R → RO E xs cs off R → RO E' (X.kH o row xs) cs off R
 | [], _, _, _, _, h => by simpa [RO, X.kH] using h
 | x :: r, cs, off, R, hE, h => by
  simp only [RO, X.kH] at h ⊢
  obtain ⟨u, R₁, R₂, hu, hs, h1, h2, hR⟩ := h
  subst hR
  exact ⟨u, R₁, R₂, hu, hs, RX.nn hB hF hβ x u R₁ (hE.sub (fun _ h => bU h)) h1, RO.nn hB hF hβ r cs (off + 1) R₂ (hE.sub (fun _ h => bK h)) h2, rfl⟩
end
def Lu (o : Nat) (row : List X) (l : List (Nat × X)) : List (Nat × X) := l.map fun p => (p.1, p.2.nn o row)
def Lv (o : Nat) (row : List X) (l : List (Nat × Obj)) : List (Nat × Obj) := l.map fun p => (p.1, p.2.nn o row)
theorem oy {α β : Type} {f : α → β} : ∀ {l : List (Nat × α)} {s : Nat} {y : β}, look (l.map fun p => (p.1, f p.2)) s = some y → ∃ x, look l s = some x ∧ y = f x
 | [], _, _, h => by cases h
 | (t, x) :: r, s, y, h => by
  simp only [List.map_cons, look] at h ⊢
  cases hb : Nat.beq t s with
  | true => rw [hb] at h; simp only [cond_true, Option.some.injEq] at h ⊢; exact ⟨x, rfl, h.symm⟩
  | false => rw [hb] at h; simp only [cond_false] at h ⊢; exact oy h
section
variable {N : eg} {st : St}
theorem Sh.lY (o : Nat) {xs : List X} (ho : look st.aC o = some (.cells xs)) (hn : X.ga xs = true) : Sh N st ⟨Lu o xs st.aA, (o, .gone) :: Lv o xs st.aC⟩ := by
 intro G _ a w hh
 obtain ⟨E, RR, rfl, hi⟩ := hh
 have aS := hi.aC o _ ho
 simp only [dN] at aS
 obtain ⟨pw, B, cs, ty, hB, hw, hφ, hlen, j4, iH⟩ := aS
 have g8 : ∀ i v, cs[i]? = some v → (E.en (fun b => b = B.b)).φ B.b i = some v := by
  intro i v h
  rw [iS E (LB := fun b => b = B.b) rfl]
  unfold World.cell?
  simp [hw, h]
 have hle : ∀ c i v, E.φ c i = some v → (E.en (fun b => b = B.b)).φ c i = some v := by
  intro c i v h
  by_cases hc : c = B.b
  ·subst hc; rw [hφ i] at h; cases h
  ·rw [eo E (LB := fun b => b = B.b) hc]; exact h
 have hF : RF (E.en (fun b => b = B.b)) xs B.b B.off := by
  have h1 := RO.mP (E := E) (E' := E.en (fun b => b = B.b)) xs cs B.b B.off [] g8 ⟨rfl, rfl, hle, fun _ h => by cases h⟩ hn j4
  rw [X.kF pw] at h1
  exact h1
 have nz : ∀ p, p ≠ .obj o → B.b ∉ RR p := fun p hp hb => hi.apart p (.obj o) hp _ hb (by rw [iH]; simp)
 have iG : ∀ p, p ≠ .obj o → E.On (E.en (fun b => b = B.b)) (RR p) := by
  intro p hp
  refine ⟨hle, fun c hc => ⟨rfl, fun h i => ?_⟩⟩
  rw [eo E (LB := fun b => b = B.b) (fun e => nz p hp (e ▸ hc))]; exact h i
 have tz : B.b ∈ RR (.obj o) := by rw [iH]; simp
 have m7 : ∀ p, p ≠ .obj o → eZ RR (.obj o) [] p = RR p := fun p hp => by simp [eZ, hp]
 have cP : ∀ p, ∀ b ∈ eZ RR (.obj o) [] p, b ∈ RR p := by
  intro p b hb
  unfold eZ at hb
  split at hb
  ·cases hb
  ·exact hb
 refine ⟨E.en (fun b => b = B.b), eZ RR (.obj o) [], rfl, { hi with lq := ?_, aA := ?_, aC := ?_, nodup := ?_, apart := ?_, own := ?_, φ0 := ?_, grow := ?_ }⟩
 ·intro c i v h
  by_cases hc : c = B.b
  ·rw [iS E (LB := fun b => b = B.b) hc] at h; exact h
  ·rw [eo E (LB := fun b => b = B.b) hc] at h; exact hi.lq c i v h
 ·intro s x hx
  obtain ⟨y, hy, rfl⟩ := oy (f := X.nn o xs) hx
  rw [m7 _ (by simp)]
  exact RX.nn hB hF rfl y _ _ (iG _ (by simp)) (hi.aA s y hy)
 ·intro q ob aS
  simp only [look] at aS
  cases hq : Nat.beq o q with
  | true =>
   rw [hq] at aS
   simp only [cond_true, Option.some.injEq] at aS
   obtain rfl := Nat.eq_of_beq_eq_true hq
   subst aS
   simp [dN, eZ]
  | false =>
   rw [hq] at aS
   simp only [cond_false] at aS
   have fc : q ≠ o := fun e => by subst e; simp at hq
   obtain ⟨uH, Cc, rfl⟩ := oy (f := Obj.nn o xs) aS
   rw [m7 _ (by simp [fc])]
   have h1 := hi.aC q uH Cc
   have r6 := iG (.obj q) (by simp [fc])
   cases uH with
   | cells ys =>
    simp only [dN, Obj.nn] at h1 ⊢
    obtain ⟨h1, B', cG, ON, h2, h3, h4, h5, h6, h7⟩ := h1
    exact ⟨X.kI h1, B', cG, ON, h2, h3, (r6.2 B'.b (by rw [h7]; simp)).2 h4, by rw [X.tG]; exact h5, RO.nn hB hF rfl ys cG _ [] (r6.sub (fun _ h => by cases h)) h6, h7⟩
   | rows s rs => exact dN.mono r6 rfl (fun _ _ _ _ => rfl) h1
   | uT es => exact dN.mono r6 rfl (fun _ _ _ _ => rfl) h1
   | gone => exact dN.mono r6 rfl (fun _ _ _ _ => rfl) h1
 ·intro p
  unfold eZ
  split
  ·exact List.nodup_nil
  ·exact hi.nodup p
 ·intro p q lr b hb fS
  exact hi.apart p q lr b (cP p b hb) (cP q b fS)
 ·intro p b hb
  exact hi.own p b (cP p b hb)
 ·intro c i v h
  exact hle c i v (hi.φ0 c i v h)
 ·intro c i v h
  by_cases hc : c = B.b
  ·subst hc; exact .inr (hi.own _ _ tz).2
  ·rw [eo E (LB := fun b => b = B.b) hc] at h; exact hi.grow c i v h
end
section
variable {P : Program} {N : eg} {st : St} {Q : Exit → St → Prop} {all : Array Oper} {rest : List Oper} {dst : Option Nat} {d : Nat} {ty : TypeId} {pos : String} {af : Array Edge} {g : Option (Nat × Bool)}
theorem pV {G : Ctx} {E : Env} {RR : Own → List Nat} {a : Act} (hi : Inv G E RR st a) : ∀ {l : List Operand} {xs : List X}, j6 st l = some xs → X.bj xs = true → dU E xs (l.map a.eval) []
 | [], xs, h, _ => by simp only [j6, Option.some.injEq] at h; subst h; simp [dU]
 | o :: r, xs, h, hf => by
  simp only [j6] at h
  cases h1 : bw st o with
  | none => simp [h1] at h
  | some y =>
   cases h2 : j6 st r with
   | none => simp [h1, h2] at h
   | some ys =>
    rw [h1, h2] at h
    simp only [Option.some.injEq] at h
    subst h
    simp only [X.bj, Bool.and_eq_true] at hf
    obtain ⟨R, hR⟩ := hi.eval h1
    have h0 := RX.free hf.1 hR
    subst h0
    simp only [List.map_cons, dU]
    exact ⟨_, _, [], [], rfl, hR, pV hi h2 hf.2, rfl⟩
theorem Y.zc {fn : Fn} {first oe : Array Operand} {xs ys : List X} (hx : j6 st first.toList = some xs) (hy : j6 st oe.toList = some ys) (GH : X.bj xs = true) (QG : X.bj ys = true) :
  Yields P N st ⟨dst, .makeFunc fn first oe, ty, pos, af, g⟩ (.gN fn xs ys) := by
 intro G E RR a _ hi
 refine ⟨.func fn (first.map a.eval) (oe.map a.eval), rfl, ?_⟩
 simp only [RX]
 refine ⟨trivial, _, _, rfl, ?_, ?_⟩
 ·rw [Array.toList_map]; exact pV hi hx GH
 ·rw [Array.toList_map]; exact pV hi hy QG
theorem aa.EO {f : FuncId} {x : Operand} {bP : Array Operand} {nk : Array TypeId} {oe xs args : List X} {aC : List Obj} {F : List Nat} {Q' : X → List Obj → Prop} (ν L : List Nat) (hx : bw st x = some (.gN (.func f) [] oe)) (ov : aG P f = true) (fW : ak P f args aC F Q')
  (fR : j6 st bP.toList = some xs) (eh : di st L (b9 ν) (xs ++ oe) args) (n7 : mN st (b9 ν) 0 aC) (hlen : ν.length = aC.length) (yQ : ν.Nodup) (BX : ∀ o ∈ L, o ∉ ν)
  (h0 : ∀ o ∈ L, ∃ ob, look st.aC o = some ob ∧ jB ob) (BY : ∀ o ∈ loose ν F, N.F.elem o = false) (hd : d < N.n)
  (k : ∀ r aE, Q' r aE → aE.length = aC.length → (r.lt aC.length = true ∧ (∀ ob ∈ aE, ob.lt aC.length = true) ∧ (L = [] ∨ (r.plain ∧ ∀ ob ∈ aE, ob.plain))) ∧ aa P N all rest ((l5 st ν F aE).put d (r.fg (b9 ν))) Q) :
  aa P N all (⟨some d, .call ⟨.value x, bP, nk⟩, ty, pos, af, none⟩ :: rest) st Q := by
 intro G hn a w hh
 obtain ⟨E, RR, rfl, hi⟩ := hh
 obtain ⟨Rx, GH⟩ := hi.eval hx
 simp only [RX] at GH
 obtain ⟨_, ff, cc, QH, OO, OP⟩ := GH
 simp only [dU] at OO
 have Lw : ff = #[] := by
  have := OO.1
  cases ff; simp_all
 subst Lw
 obtain ⟨uK, DI⟩ := n6 hi fR
 have sn : oe.length = cc.toList.length := by
  have : ∀ {l : List X} {c : List Value} {R : List Nat}, dU E l c R → l.length = c.length := by
   intro l
   induction l with
   | nil => intro c R h; simp only [dU] at h; rw [h.1]; rfl
   | cons y r ih =>
    intro c R h
    simp only [dU] at h
    obtain ⟨_, c', _, _, rfl, _, h2, _⟩ := h
    simp [ih h2]
  exact this OP
 have hc := hi.DH (vs := bP.toList.map a.eval ++ cc.toList) fW (by simp only [List.length_append, List.length_map]; omega) (fun j y hy => by
  rcases Nat.lt_or_ge j xs.length with hj | hj
  ·rw [List.getElem?_append_left hj] at hy
   obtain ⟨o, ho, R, hR⟩ := DI j y hy
   exact ⟨a.eval o, by rw [List.getElem?_append_left (by rw [List.length_map]; omega)]; simp [ho], R, hR⟩
  ·rw [List.getElem?_append_right hj] at hy
   obtain ⟨u, R, hu, hR⟩ := dU.get OP hy
   exact ⟨u, by rw [List.getElem?_append_right (by rw [List.length_map]; omega), List.length_map, ← uK]; exact hu, R, hR⟩) eh
  (fun j ob h => by have := n7.get j ob h; rwa [Nat.zero_add] at this) hlen yQ BX h0 (fun o ho => by rw [hn]; exact BY o ho) (d := d) (by rw [hn]; exact hd)
 have gS : (execOp a.eval ⟨some d, .call ⟨.value x, bP, nk⟩, ty, pos, af, none⟩).run P E.w = .ok (.enter f (bP.toList.map a.eval ++ cc.toList).toArray) E.w := by
  have e : (execOp a.eval ⟨some d, .call ⟨.value x, bP, nk⟩, ty, pos, af, none⟩).run P E.w = (do let d ← Deferred.ofValue (a.eval x) (bP.map a.eval); invoke d.target d.args : Sem Next).run P E.w := rfl
  rw [e, QH]
  have e2 : (do let d ← Deferred.ofValue (.func (.func f) #[] cc) (bP.map a.eval); invoke d.target d.args : Sem Next).run P E.w = (callFunc f ((#[] ++ bP.map a.eval) ++ cc)).run P E.w := rfl
  rw [e2, pN ov]
  congr 2
  apply Array.ext'
  simp
 refine wpList_plain rfl fun K hK => ?_
 simp only [Oper.wp, gS, Oper.upon_enter]
 refine hc.mono ?_
 rintro e w' ⟨v, r, aE, rfl, HK, wB, yT⟩
 obtain ⟨⟨h1, h2, h3⟩, hk⟩ := k r aE HK wB
 obtain ⟨kd, sv, hw, hI⟩ := yT h1 h2 h3
 exact hK _ _ (hk G hn _ _ ⟨kd, sv, hw, hI⟩)
theorem aa.kJ {f : FuncId} {x : Operand} {bP : Array Operand} {nk : Array TypeId} {oe xs args : List X} {R : X} (hx : bw st x = some (.gN (.func f) [] oe)) (ov : aG P f = true) (fW : ak P f args [] [] (fun r o => r = R ∧ o = []))
  (fR : j6 st bP.toList = some xs) (eh : di st [] (b9 []) (xs ++ oe) args) (hd : d < N.n) (gM : R.lt 0 = true)
  (k : aa P N all rest (st.put d R) Q) : aa P N all (⟨some d, .call ⟨.value x, bP, nk⟩, ty, pos, af, none⟩ :: rest) st Q := by
 refine aa.EO [] [] hx ov fW fR eh trivial rfl List.nodup_nil (fun _ h => by cases h) (fun _ h => by cases h) (fun _ h => by cases h) hd ?_
 rintro r aE ⟨rfl, rfl⟩ _
 refine ⟨⟨gM, fun _ h => (by cases h), .inl rfl⟩, ?_⟩
 rw [mM, X.pz gM]; exact k
end
section
variable {P : Program} {N : eg} {ops : Array Oper} {st : St} {d : Nat} {ah : Array Bool} {n : Nat} {K : St → Prop} {KK : Array Bool → St → Prop} {l0 rest l : List Nat} {t : Nat}
theorem aT.le {bc : St} (hl : Le st bc) (h : aT P N ops n ah bc K) : aT P N ops n ah st K := fun G hn a w hh => h G hn a w (hl.holds hh)
theorem aT.split {b : Bool} (hx : look st.aA d = some (.v (.bool b))) (ht : b = true → aT P N ops n ah (st.put d (.v (.bool true))) K) (hf : b = false → aT P N ops n ah (st.put d (.v (.bool false))) K) : aT P N ops n ah st K := by
 have : Le st (st.put d (.v (.bool b))) := ⟨fB.cons hx (fun _ _ h => h), fun _ _ h => h⟩
 cases b
 ·exact (hf rfl).le this
 ·exact (ht rfl).le this
theorem aT.ax {p : Prop} {inst : Decidable p} (hx : look st.aA d = some (.v (.bool (decide p)))) (ht : p → aT P N ops n ah (st.put d (.v (.bool true))) K) (hf : ¬ p → aT P N ops n ah (st.put d (.v (.bool false))) K) : aT P N ops n ah st K :=
 aT.split hx (fun h => ht (of_decide_eq_true h)) (fun h => hf (of_decide_eq_false h))
theorem AQ.le {bc : St} (hl : Le st bc) (h : AQ P N ops l0 rest t l ah bc KK) : AQ P N ops l0 rest t l ah st KK := fun ho G hn a w hh => h ho G hn a w (hl.holds hh)
theorem AQ.split {b : Bool} (hx : look st.aA d = some (.v (.bool b))) (ht : b = true → AQ P N ops l0 rest t l ah (st.put d (.v (.bool true))) KK) (hf : b = false → AQ P N ops l0 rest t l ah (st.put d (.v (.bool false))) KK) : AQ P N ops l0 rest t l ah st KK := by
 have : Le st (st.put d (.v (.bool b))) := ⟨fB.cons hx (fun _ _ h => h), fun _ _ h => h⟩
 cases b
 ·exact (hf rfl).le this
 ·exact (ht rfl).le this
theorem AQ.ax {p : Prop} {inst : Decidable p} (hx : look st.aA d = some (.v (.bool (decide p)))) (ht : p → AQ P N ops l0 rest t l ah (st.put d (.v (.bool true))) KK) (hf : ¬ p → AQ P N ops l0 rest t l ah (st.put d (.v (.bool false))) KK) : AQ P N ops l0 rest t l ah st KK :=
 AQ.split hx (fun h => ht (of_decide_eq_true h)) (fun h => hf (of_decide_eq_false h))
end
def bl (b : ByteArray) (m : Nat) : Nat := (b.data.toList.getD m 0).toNat
theorem Y.qv {P : Program} {N : eg} {st : St} {dst : Option Nat} {ty : TypeId} {pos : String} {af : Array Edge} {g : Option (Nat × Bool)} {t : TypeId} {x ix : Operand} {b : ByteArray} {k : IntKind} {n : Int} {m : Nat} (ht : P.underlying t = some .string) (hx : bw st x = some (.v (.string b)))
  (uU : bw st ix = some (.v (.int k n))) (hn : n = (m : Int)) (hm : m < b.size) : Yields P N st ⟨dst, .index t x ix, ty, pos, af, g⟩ (.v (.int .u8 ((bl b m : Nat) : Int))) := by
 have h := Y.qu (P := P) (N := N) (st := st) (dst := dst) (ty := ty) (pos := pos) (af := af) (g := g) ht hx uU hn hm
 have e : b[m].toNat = bl b m := by
  unfold bl
  have : b.data.toList.getD m 0 = b[m] := by
   rw [List.getD_eq_getElem?_getD, List.getElem?_eq_getElem (by simpa using hm)]
   rfl
  rw [this]
 rw [e] at h
 exact h
theorem z6 (b : ByteArray) (m : Nat) : bl b m ≤ 255 := by
 unfold bl
 have := (b.data.toList.getD m 0).toNat_lt
 omega
end Go.AW
namespace Go.AW
open Go
theorem oz (n : Nat) : IntKind.u64.wrap (n : Int) = ((n % 18446744073709551616 : Nat) : Int) := by
 simp [IntKind.wrap, IntKind.bits, IntKind.signed]
theorem tH (n : Nat) (h : n < 18446744073709551616) : IntKind.u64.wrap (n : Int) = (n : Int) := by rw [oz, Nat.mod_eq_of_lt h]
theorem rQ (n : Int) (h : 0 ≤ n ∧ n ≤ 18446744073709551615) : IntKind.u64.wrap n = ((n.toNat : Nat) : Int) := by rw [IntWalk.u64_in n h]; omega
theorem tI (n w : Nat) : BitVec.ofInt w (n : Int) = BitVec.ofNat w n := by
 apply BitVec.eq_of_toNat_eq
 simp [BitVec.toNat_ofInt, BitVec.toNat_ofNat]
section
variable {P : Program} {N : eg} {st : St} {dst : Option Nat} {ty : TypeId} {pos : String} {af : Array Edge} {g : Option (Nat × Bool)} {t t' : TypeId} {x y : Operand} {a b : Nat}
theorem Y.qc (hx : bw st x = some (.v (.int .u64 (a : Int)))) (hy : bw st y = some (.v (.int .u64 (b : Int)))) : Yields P N st ⟨dst, .binOp .add t x y t', ty, pos, af, g⟩ (.v (.int .u64 (((a + b) % 18446744073709551616 : Nat) : Int))) :=
 Y.qa hx hy (by rw [← oz]; congr 1)
theorem Y.zi (hx : bw st x = some (.v (.int .u64 (a : Int)))) (hy : bw st y = some (.v (.int .u64 (b : Int)))) : Yields P N st ⟨dst, .binOp .mul t x y t', ty, pos, af, g⟩ (.v (.int .u64 (((a * b) % 18446744073709551616 : Nat) : Int))) :=
 Y.zg hx hy (by rw [← oz]; congr 1)
theorem Y.we (hx : bw st x = some (.v (.int .u64 (a : Int)))) (hy : bw st y = some (.v (.int .u64 (b : Int)))) (hb : b ≤ 18446744073709551616) : Yields P N st ⟨dst, .binOp .sub t x y t', ty, pos, af, g⟩ (.v (.int .u64 (((a + (18446744073709551616 - b)) % 18446744073709551616 : Nat) : Int))) :=
 Y.wc hx hy (by simp only [IntKind.wrap, IntKind.bits, IntKind.signed]; simp; omega)
theorem Y.zs (hx : bw st x = some (.v (.int .u64 (a : Int)))) (hy : bw st y = some (.v (.int .u64 (b : Int)))) (hr : a < 18446744073709551616 ∧ 1 ≤ b) : Yields P N st ⟨dst, .binOp .quo t x y t', ty, pos, af, g⟩ (.v (.int .u64 ((a / b : Nat) : Int))) :=
 Y.zq hx hy om (by
  rw [Int.tdiv_eq_ediv_of_nonneg om, ← Int.natCast_ediv]
  exact tH _ (Nat.lt_of_le_of_lt (Nat.div_le_self a b) hr.1))
theorem Y.zv {k : IntKind} (hx : bw st x = some (.v (.int k (a : Int)))) (hy : bw st y = some (.v (.int k (b : Int)))) (hr : 1 ≤ b) : Yields P N st ⟨dst, .binOp .rem t x y t', ty, pos, af, g⟩ (.v (.int k ((a % b : Nat) : Int))) :=
 Y.zt hx hy om (by rw [Int.tmod_eq_emod_of_nonneg om]; exact (Int.natCast_emod a b).symm)
theorem Y.qe (hx : bw st x = some (.v (.int .u64 (a : Int)))) (hy : bw st y = some (.v (.int .u64 (b : Int)))) (hr : a < 18446744073709551616 ∧ b < 18446744073709551616) : Yields P N st ⟨dst, .binOp .and t x y t', ty, pos, af, g⟩ (.v (.int .u64 ((a &&& b : Nat) : Int))) :=
 Y.qd hx hy (by
  rw [tI, tI, BitVec.toNat_and, BitVec.toNat_ofNat, BitVec.toNat_ofNat, show 2 ^ IntKind.u64.bits = 18446744073709551616 from rfl, Nat.mod_eq_of_lt hr.1, Nat.mod_eq_of_lt hr.2]
  exact tH _ (Nat.lt_of_le_of_lt Nat.and_le_left hr.1))
theorem xF (a b : Nat) (h : a < 18446744073709551616) : a / 2 ^ (min b 64) = a / 2 ^ b := by
 rcases Nat.le_total b 64 with hb | hb
 ·rw [Nat.min_eq_left hb]
 ·rw [Nat.min_eq_right hb, Nat.div_eq_of_lt h]
  exact (Nat.div_eq_of_lt (Nat.lt_of_lt_of_le h (Nat.pow_le_pow_right (show 0 < 2 by decide) hb))).symm
theorem Y.zy {k' : IntKind} {i : Int} (b : Nat) (hx : bw st x = some (.v (.int .u64 (a : Int)))) (hy : bw st y = some (.v (.int k' i))) (hi : i = (b : Int)) (hr : a < 18446744073709551616) : Yields P N st ⟨dst, .binOp .shr t x y t', ty, pos, af, g⟩ (.v (.int .u64 ((a / 2 ^ b : Nat) : Int))) :=
 Y.zx hx hy om (by
  subst hi
  show (a : Int).fdiv (2 ^ (Min.min b 64)) = _
  have h2 : (0 : Int) ≤ 2 ^ (Min.min b 64) := Int.le_of_lt (Int.pow_pos (show (0 : Int) < 2 by decide))
  rw [← xF a b hr, Int.fdiv_eq_ediv_of_nonneg _ h2]
  norm_cast)
end
end Go.AW
namespace Go.AW
open Go
section
variable {P : Program} {N : eg} {ops : Array Oper} {st : St} {d : Nat} {ty : TypeId} {pos : String} {af : Array Edge} {K : St → Prop}
theorem aT.bR {n : Nat} {ah : Array Bool} (i : Nat) {op : Op} {j dj : Nat} {want : Bool} {u : Value} (ho : ops[i]? = some ⟨some d, op, ty, pos, af, some (j, want)⟩)
  (hB : (Region.noSelect ops && Region.free .any ops ah i && (Region.ready .any ops ah).contains i) = true)
  (hj : (ops[j]?).bind (·.dst) = some dj) (r7 : dj < N.n) (hd : d < N.n) (hx : look st.aA dj = some (.v u)) (fc : pP want u = true)
  (k : aT P N ops n (ah.setIfInBounds i true) (st.put d (.v undef)) K) : aT P N ops (n + 1) ah st K := by
 intro G hn a w hh
 obtain ⟨E, RR, rfl, hi⟩ := hh
 simp only [Bool.and_eq_true] at hB
 have hw := kf (all := ops) (dst := some d) (op := op) (ty := ty) (pos := pos) (af := af) hi hj (hn ▸ r7) hx fc
 refine wpAny_take (v := undef) ho hB.1.1 hB.1.2 hB.2 ?_ (.inr ⟨hw, rfl⟩) (k G hn _ _ ⟨E, _, rfl, hi.fT (hn ▸ hd) (by simp [RX])⟩)
 intro c a w h
 cases h.1
theorem aT.jq {n : Nat} {ah : Array Bool} (i : Nat) {op : Op} {x : X} {j dj : Nat} {want : Bool} (ho : ops[i]? = some ⟨some d, op, ty, pos, af, some (j, want)⟩)
  (hB : (Region.noSelect ops && Region.free .any ops ah i && (Region.ready .any ops ah).contains i) = true)
  (hj : (ops[j]?).bind (·.dst) = some dj) (r7 : dj < N.n) (hx : look st.aA dj = some (.v (.bool want))) (hy : aL P N st ⟨some d, op, ty, pos, af, some (j, want)⟩ x) (hd : d < N.n)
  (k : aT P N ops n (ah.setIfInBounds i true) (st.put d x) K) : aT P N ops (n + 1) ah st K := by
 intro G hn a w hh
 obtain ⟨E, RR, rfl, hi⟩ := hh
 obtain ⟨u, hr, j5⟩ := hy G E RR a hn hi
 simp only [Bool.and_eq_true] at hB
 have hs := hi.aA dj _ hx
 simp only [RX] at hs
 have ez : dj < a.tmps.size := by rw [hi.tmps, hn]; exact r7
 have hv : a.tmps[dj]? = some (.bool want) := by
  have := hs.1
  simp only [Array.getD, ez, dif_pos] at this
  rw [Array.getElem?_eq_getElem ez]
  exact congrArg some this
 have hw : Region.wanted ⟨some d, op, ty, pos, af, some (j, want)⟩ (yielded ops a.tmps) = true := by
  simp [Region.wanted, yielded, hj, hv]
 refine wpAny_take (v := u) ho hB.1.1 hB.1.2 hB.2 ?_ (.inl ⟨hw, hr⟩) (k G hn _ _ ⟨E, _, rfl, hi.fT (hn ▸ hd) j5⟩)
 intro c a w h
 cases h.1
end
end Go.AW
