/- Part of the abstract walk: contracts, and how the body of a call proves one. -/
import Derived.Test.YtlimckldnjmabaaAWx0
import Derived.StillTail
import Derived.Orders
import Derived.Below
import Derived.Carry
import Derived.Deep.Slices
import Derived.Deep.Fields
import Derived.ChangeSame
import Derived.ChangeSlices
import Derived.SizedLaws
import Derived.Deep.Grids
import Derived.Maps.Keyed
import Derived.DeepKeys4
import Derived.OpenShut
import Derived.Lib.AppendZeros
set_option linter.unusedSimpArgs false
set_option linter.unusedVariables false
set_option linter.unusedSectionVars false
namespace Go.AW
open Go
def di {α : Type} : Nat → List α → List (Nat × α)
 | _, [] => []
 | i, x :: r => (i, x) :: di (i + 1) r
theorem nQ {α : Type} : ∀ (l : List α) (i s : Nat), look (di i l) s = if i ≤ s then l[s - i]? else none
 | [], i, s => by simp [di, look]
 | x :: r, i, s => by
  simp only [di, look]
  cases hb : Nat.beq i s with
  | true => have := Nat.eq_of_beq_eq_true hb; subst this; simp
  | false =>
   have er := Nat.ne_of_beq_eq_false hb
   simp only [cond_false]
   rw [nQ r (i + 1) s]
   by_cases h : i ≤ s
   ·rw [if_pos h, if_pos om, show s - i = (s - (i + 1)) + 1 by omega]; simp
   ·rw [if_neg h, if_neg om]
theorem fK {α : Type} (l : List α) (s : Nat) : look (di 0 l) s = l[s]? := by
 rw [nQ]; simp
def pc (K : Nat → Prop) (E : Env) (fn : dJ) : Ctx := ⟨K, E.w, E.φ, E.β, fn, []⟩
def ak (P : Program) (f : FuncId) (args : List X) (ay : List Obj) (F : List Nat) (Q : X → List Obj → Prop) : Prop :=
 ∀ (K : Nat → Prop) (E : Env) (RR : Own → List Nat) (cZ : Array Value), Inv (pc K E ⟨args.length, F⟩) E RR ⟨di 0 args, di 0 ay⟩ ⟨cZ, []⟩ →
  Calls P f cZ E.w fun e w' => ∃ v r a8, e = .returned v ∧ Q r a8 ∧ a8.length = ay.length ∧ ∃ E' et, E'.w = w' ∧ Inv (pc K E ⟨1, F⟩) E' et ⟨[(0, r)], di 0 a8⟩ ⟨#[v], []⟩
theorem ak.mono {P : Program} {f : FuncId} {args : List X} {ay : List Obj} {F : List Nat} {Q Q' : X → List Obj → Prop} (h : ak P f args ay F Q) (hq : ∀ r o, Q r o → Q' r o) : ak P f args ay F Q' :=
 fun K E RR cZ hi => Calls.mono (h K E RR cZ hi) fun _ _ ⟨v, r, a8, he, hQ, hl, hx⟩ => ⟨v, r, a8, he, hq _ _ hQ, hl, hx⟩
def pS (P : Program) (st : St) : ResultVar → Option X
 | .tmp t => look st.ax t
 | .cell a t => match look st.ax a with
  | some p => match rowAt st p with
   | some row => match TY.shape P t with
    | some none => match row[iT p]? with
     | some y => bif y.free then some y else none
     | none => none
    | some (some m) => bif Nat.ble (iT p + m) row.length && X.aW ((row.drop (iT p)).take m) then some (.agg ((row.drop (iT p)).take m)) else none
    | none => none
   | none => none
  | none => none
def jm (P : Program) (st : St) : List ResultVar → Option (List X)
 | [] => some []
 | r :: rs => match pS P st r, jm P st rs with
  | some x, some xs => some (x :: xs)
  | _, _ => none
def fZ : List ResultVar → List Nat
 | [] => []
 | .tmp t :: r => t :: fZ r
 | .cell _ _ :: r => fZ r
def sG : List X → X
 | [x] => x
 | xs => .tup xs
section
variable {P : Program} {N : dJ} {G : Ctx} {E : Env} {RR : Own → List Nat} {st : St} {a : Act}
def mx (tmps : Array Value) (rv : ResultVar) : Sem Value :=
 match rv with
 | .tmp t => pure (tmps.getD t undef)
 | .cell a t => do loadVar t (← asAddr (tmps.getD a undef))
theorem yk (hi : Inv G E RR st a) {rv : ResultVar} {x : X} (h : pS P st rv = some x) :
  ∃ c R, (mx a.tmps rv).run P E.w = .ok c E.w ∧ RX E x c R ∧ ((∃ t, rv = .tmp t ∧ R = RR (.slot t)) ∨ R = []) := by
 cases rv with
 | tmp t => exact ⟨_, _, rfl, hi.ax t x h, .inl ⟨t, rfl, rfl⟩⟩
 | cell ad t =>
  simp only [pS] at h
  cases hp : look st.ax ad with
  | none => simp [hp] at h
  | some p =>
   rw [hp] at h
   simp only at h
   cases mn : rowAt st p with
   | none => simp [mn] at h
   | some row =>
    rw [mn] at h
    simp only at h
    obtain ⟨b, off, hc, fu⟩ := hi.behind (hi.ax ad p hp) mn
    cases hs : TY.shape P t with
    | none => simp [hs] at h
    | some sh =>
     rw [hs] at h
     cases sh with
     | none =>
      simp only at h
      cases hk : row[iT p]? with
      | none => simp [hk] at h
      | some y =>
       rw [hk] at h
       simp only at h
       cases hf : y.free with
       | false => simp [hf] at h
       | true =>
        rw [hf] at h
        simp only [cond_true, Option.some.injEq] at h
        subst h
        have Ac : iT p < row.length := by
         rcases Nat.lt_or_ge (iT p) row.length with h' | h'
         ·exact h'
         ·simp [List.getElem?_eq_none h'] at hk
        obtain ⟨vs, R', hl, hv, eM⟩ := fu (iT p) 1 om
        rw [getElem?_drop_take_one hk] at eM
        simp only [bg] at eM
        obtain ⟨c, cp, R₁, R₂, AX, _, h1, ⟨rfl, rfl⟩, rfl⟩ := eM
        subst AX
        have h0 := RX.free hf h1
        subst h0
        refine ⟨c, [], ?_, h1, .inr rfl⟩
        have fv := hv 0 c rfl
        simp only [Nat.add_zero] at fv
        simp [mx, hc, asAddr, loadVar, (TY.gR hs E.w).1, fv]
     | some m =>
      simp only at h
      cases hb : Nat.ble (iT p + m) row.length && X.aW ((row.drop (iT p)).take m) with
      | false => simp [hb] at h
      | true =>
       rw [hb] at h
       simp only [cond_true, Option.some.injEq] at h
       subst h
       simp only [Bool.and_eq_true] at hb
       obtain ⟨vs, R', hl, hv, eM⟩ := fu (iT p) m (Nat.le_of_ble_eq_true hb.1)
       have h0 := bg.free hb.2 eM
       subst h0
       refine ⟨.agg vs.toArray, [], ?_, by simp only [RX]; exact ⟨_, rfl, eM⟩, .inr rfl⟩
       obtain ⟨h1, h2⟩ := TY.ji hs E.w
       have h3 : (loadCells ⟨b, off + iT p, none⟩ m).run P E.w = .ok vs.toArray E.w := by
        rw [← hl]
        exact run_loadCells_list (w := E.w) _ vs fun j v hj => by rw [fq, Nat.add_assoc]; exact hv j v hj
       simp [mx, hc, asAddr, loadVar, h1, h2, h3]
theorem tK (hi : Inv G E RR st a) : ∀ {n5 : List ResultVar} {xs : List X}, jm P st n5 = some xs → (fZ n5).Nodup →
  ∃ cs R, (n5.mapM (mx a.tmps)).run P E.w = .ok cs E.w ∧ dy E xs cs R ∧ R.Nodup ∧ (∀ b ∈ R, ∃ t ∈ fZ n5, b ∈ RR (.slot t))
 | [], xs, h, _ => by
  simp only [jm, Option.some.injEq] at h
  subst h
  exact ⟨[], [], rfl, by simp [dy], List.nodup_nil, fun _ h => by cases h⟩
 | rv :: n5, xs, h, hn => by
  simp only [jm] at h
  cases h1 : pS P st rv with
  | none => simp [h1] at h
  | some x =>
   cases h2 : jm P st n5 with
   | none => simp [h1, h2] at h
   | some ys =>
    rw [h1, h2] at h
    simp only [Option.some.injEq] at h
    subst h
    have nJ : (fZ n5).Nodup := by
     cases rv with
     | tmp t => exact (List.nodup_cons.1 hn).2
     | cell _ _ => exact hn
    obtain ⟨c, R1, Mi, Hw, nL⟩ := yk hi h1
    obtain ⟨cs, R2, Kx, Hx, DO, u7⟩ := tK hi h2 nJ
    refine ⟨c :: cs, R1 ++ R2, ?_, ?_, ?_, ?_⟩
    ·rw [List.mapM_cons]
     refine gQ Mi ?_
     refine gQ Kx rfl
    ·simp only [dy]; exact ⟨c, cs, R1, R2, rfl, Hw, Hx, rfl⟩
    ·rcases nL with ⟨t, rfl, rfl⟩ | rfl
     ·rw [List.nodup_append]
      refine ⟨hi.nodup _, DO, fun b hb b' eO e => ?_⟩
      subst e
      obtain ⟨t', Hy, xS⟩ := u7 b eO
      have er : t ≠ t' := fun e => by subst e; exact (List.nodup_cons.1 hn).1 Hy
      exact hi.apart (.slot t) (.slot t') (by simpa using er) b hb xS
     ·simpa using DO
    ·intro b hb
     rcases List.mem_append.1 hb with hb | hb
     ·rcases nL with ⟨t, rfl, rfl⟩ | rfl
      ·exact ⟨t, by simp [fZ], hb⟩
      ·cases hb
     ·obtain ⟨t, ht, eO⟩ := u7 b hb
      refine ⟨t, ?_, eO⟩
      cases rv with
      | tmp t' => exact List.mem_cons.2 (.inr ht)
      | cell _ _ => exact ht
def jn (l : List (Nat × Obj)) : Nat → Nat → Option (List Obj)
 | _, 0 => some []
 | i, k + 1 => match look l i, jn l (i + 1) k with
  | some ob, some r => some (ob :: r)
  | _, _ => none
theorem lD : ∀ {l : List (Nat × Obj)} {k i : Nat} {r : List Obj}, jn l i k = some r → r.length = k ∧ ∀ j, j < k → look l (i + j) = r[j]?
 | _, 0, _, r, h => by simp only [jn, Option.some.injEq] at h; subst h; exact ⟨rfl, fun j hj => by omega⟩
 | l, k + 1, i, r, h => by
  simp only [jn] at h
  cases h1 : look l i with
  | none => simp [h1] at h
  | some ob =>
   cases h2 : jn l (i + 1) k with
   | none => simp [h1, h2] at h
   | some r' =>
    rw [h1, h2] at h
    simp only [Option.some.injEq] at h
    subst h
    obtain ⟨hl, hg⟩ := lD h2
    refine ⟨by simp [hl], fun j hj => ?_⟩
    cases j with
    | zero => simpa using h1
    | succ j =>
     have := hg j om
     rw [show i + (j + 1) = i + 1 + j by omega, this]; simp
def Ends (P : Program) (n5 : List ResultVar) (k : Nat) (Q : X → List Obj → Prop) : Exit → St → Prop
 | .normal, st | .ret, st => ∃ xs a8, jm P st n5 = some xs ∧ jn st.ay 0 k = some a8 ∧ Q (sG xs) a8
 | _, _ => False
theorem Inv.enter {fn : Func} {args : List X} {ay : List Obj} {F : List Nat} {n : Nat} {K : Nat → Prop} {E : Env} {RR : Own → List Nat} {cZ : Array Value} (hn : fn.ntmps = n) (hle : args.length ≤ n) (hi : Inv (pc K E ⟨args.length, F⟩) E RR ⟨di 0 args, di 0 ay⟩ ⟨cZ, []⟩) :
  Inv (pc K E ⟨n, F⟩) E RR ⟨di 0 args, di 0 ay⟩ ⟨cZ ++ Array.replicate (fn.ntmps - cZ.size) undef, []⟩ := by
 have re : cZ.size = args.length := hi.tmps
 refine { hi with ax := ?_, tmps := ?_, defers := rfl }
 ·intro s x hx
  have h0 := hi.ax s x hx
  have hs : s < cZ.size := by
   rw [re]
   have im : look (di 0 args) s = some x := hx
   rw [fK] at im
   rcases Nat.lt_or_ge s args.length with h' | h'
   ·exact h'
   ·simp [List.getElem?_eq_none h'] at im
  have : (cZ ++ Array.replicate (fn.ntmps - cZ.size) undef).getD s undef = cZ.getD s undef := by
   simp only [Array.getD_eq_getD_getElem?, Array.getElem?_append_left hs]
  show RX E x ((cZ ++ Array.replicate (fn.ntmps - cZ.size) undef).getD s undef) (RR (.slot s))
  rw [this]; exact h0
 ·show (cZ ++ Array.replicate (fn.ntmps - cZ.size) undef).size = n
  simp; omega
theorem vL {fn : Func} {ay : List Obj} {F : List Nat} {Q : X → List Obj → Prop} {n : Nat} {n5 : List ResultVar} {K : Nat → Prop} {E E' : Env} {et : Own → List Nat} {st : St} {a : Act} (hr : fn.results.toList = n5) (iw : (fZ n5).Nodup) (h1 : Inv (pc K E ⟨n, F⟩) E' et st a) :
  (∃ xs a8, jm P st n5 = some xs ∧ jn st.ay 0 ay.length = some a8 ∧ Q (sG xs) a8) → a.defers = [] ∧ ∃ v, (results fn a.tmps).run P E'.w = .ok v E'.w ∧
   ∃ v' r a8, Ending.returned v = .returned v' ∧ Q r a8 ∧ a8.length = ay.length ∧ ∃ iW pT, iW.w = E'.w ∧ Inv (pc K E ⟨1, F⟩) iW pT ⟨[(0, r)], di 0 a8⟩ ⟨#[v'], []⟩ := by
 rintro ⟨xs, a8, Bl, lE, hQ⟩
 obtain ⟨hlen, DP⟩ := lD lE
 have jD : ∀ j, j < ay.length → look st.ay j = a8[j]? := fun j hj => by have := DP j hj; rwa [Nat.zero_add] at this
 refine ⟨h1.defers, ?_⟩
 obtain ⟨cs, R, fJ, hx, Hz, Mj⟩ := tK h1 Bl iw
 have vM : (results fn a.tmps).run P E'.w = .ok (if h : cs.toArray.size = 1 then cs.toArray[0] else .tuple cs.toArray) E'.w := by
  have e : results fn a.tmps = (do let vs ← fn.results.mapM (mx a.tmps); Pure.pure (if h : vs.size = 1 then vs[0] else .tuple vs) : Sem Value) := rfl
  rw [e, show fn.results = n5.toArray by rw [← hr]]
  refine gQ (u := cs.toArray) ?_ rfl
  rw [List.mapM_toArray]
  simp only [Sem.run_map, fJ]
  rfl
 refine ⟨_, vM, _, sG xs, a8, rfl, hQ, hlen, ?_⟩
 have Mk : RX E' (sG xs) (if h : cs.toArray.size = 1 then cs.toArray[0] else .tuple cs.toArray) R := by
  cases xs with
  | nil =>
   simp only [dy] at hx
   obtain ⟨rfl, rfl⟩ := hx
   simp only [sG, RX]
   exact ⟨#[], by simp, by simp [dy]⟩
  | cons x xs =>
   cases xs with
   | nil =>
    simp only [dy] at hx
    obtain ⟨c, cp, R₁, R₂, rfl, h1, ⟨rfl, rfl⟩, rfl⟩ := hx
    simpa [sG] using h1
   | cons y ys =>
    have im := hx
    simp only [dy] at hx
    obtain ⟨c, cp, R₁, R₂, rfl, _, ⟨c', H7, R₃, R₄, rfl, _⟩, _⟩ := hx
    simp only [sG, RX]
    exact ⟨(c :: c' :: H7).toArray, by simp, by simpa using im⟩
 let mT : Own → List Nat := fun p => match p with
  | .slot s => if s = 0 then R else []
  | .obj o => if o < ay.length then et (.obj o) else []
 have vq : ∀ p b, b ∈ mT p → ∃ q, b ∈ et q ∧ ((∃ o, p = .obj o ∧ q = .obj o) ∨ (p = .slot 0 ∧ ∃ t, q = .slot t)) := by
  intro p b hb
  cases p with
  | slot s =>
   by_cases hs : s = 0
   ·subst hs
    simp only [mT, if_true] at hb
    obtain ⟨t, _, ht⟩ := Mj b hb
    exact ⟨.slot t, ht, .inr ⟨rfl, t, rfl⟩⟩
   ·simp [mT, hs] at hb
  | obj o =>
   by_cases ho : o < ay.length
   ·simp only [mT, ho, if_true] at hb
    exact ⟨.obj o, hb, .inl ⟨o, rfl, rfl⟩⟩
   ·simp [mT, ho] at hb
 refine ⟨E', mT, rfl, { h1 with ax := ?_, ay := ?_, nodup := ?_, apart := ?_, own := ?_, tmps := ?_, defers := rfl }⟩
 ·intro s x im
  simp only [look] at im
  cases yg : Nat.beq 0 s with
  | false => simp [yg] at im
  | true =>
   have := Nat.eq_of_beq_eq_true yg
   subst this
   simp only [yg, cond_true, Option.some.injEq] at im
   subst im
   simpa [mT] using Mk
 ·intro o ob ho
  have kD : look (di 0 a8) o = some ob := ho
  rw [fK] at kD
  have gA : o < ay.length := by
   rcases Nat.lt_or_ge o ay.length with h' | h'
   ·exact h'
   ·rw [List.getElem?_eq_none om] at kD; cases kD
  have := h1.ay o ob (by rw [jD o gA]; exact kD)
  simpa [mT, gA] using this
 ·intro p
  cases p with
  | slot s => by_cases hs : s = 0 <;> simp [mT, hs, Hz]
  | obj o => by_cases ho : o < ay.length <;> simp [mT, ho, h1.nodup]
 ·intro p q jI b hb eO
  obtain ⟨p', CQ, Ml⟩ := vq p b hb
  obtain ⟨q', yf, Ky⟩ := vq q b eO
  have er : p' ≠ q' := by
   rcases Ml with ⟨o, rfl, rfl⟩ | ⟨rfl, t, rfl⟩
   ·rcases Ky with ⟨o', rfl, rfl⟩ | ⟨rfl, t', rfl⟩
    ·exact jI
    ·simp
   ·rcases Ky with ⟨o', rfl, rfl⟩ | ⟨rfl, t', rfl⟩
    ·simp
    ·exact absurd rfl jI
  exact h1.apart p' q' er b CQ yf
 ·intro p b hb
  obtain ⟨q, yf, _⟩ := vq p b hb
  exact h1.own q b yf
 ·rfl
theorem ak.of {f : FuncId} {fn : Func} {c : Code} {args : List X} {ay : List Obj} {F : List Nat} {Q : X → List Obj → Prop} {n : Nat} {n5 : List ResultVar} (hf : P.funcs[f]? = some fn) (hb : fn.body = some c) (hn : fn.ntmps = n) (hr : fn.results.toList = n5)
  (iw : (fZ n5).Nodup) (hle : args.length ≤ n) (h : ah P ⟨n, F⟩ c ⟨di 0 args, di 0 ay⟩ (Ends P n5 ay.length Q)) : ak P f args ay F Q := by
 intro K E RR cZ hi
 refine calls_of_wp hf hb ?_
 refine wp_mono (h (pc K E ⟨n, F⟩) rfl _ _ ⟨E, RR, rfl, hi.enter hn hle⟩) ?_
 rintro e a w ⟨st, ⟨E', et, rfl, h1⟩, hq⟩
 have key := vL (P := P) (ay := ay) (Q := Q) hr iw h1
 cases e with
 | normal => exact key hq
 | ret => exact key hq
 | _ => exact hq.elim
end
end Go.AW
namespace Go.AW
open Go
mutual
def X.eu (ν : Nat → Nat) : X → X
 | .ptr o s i k => .ptr (ν o) s i k
 | .aR o s lo n => .aR (ν o) s lo n
 | .mref o => .mref (ν o)
 | .agg xs => .agg (X.iL ν xs)
 | .tup xs => .tup (X.iL ν xs)
 | .fH f a b => .fH f (X.iL ν a) (X.iL ν b)
 | .v u => .v u
 | .no => .no
 | .fz s rows => .fz s rows
 | .cX s rows => .cX s rows
 | .fp row k => .fp row k
def X.iL (ν : Nat → Nat) : List X → List X
 | [] => []
 | x :: r => x.eu ν :: X.iL ν r
end
def Env.names (E : Env) (ν : Nat → Nat) : Env := { E with β := fun o => E.β (ν o) }
theorem ev (E : Env) (ν : Nat → Nat) (R : List Nat) : (E.names ν).On E R ∧ E.On (E.names ν) R := ⟨⟨fun _ _ _ h => h, fun _ _ => ⟨rfl, fun h => h⟩⟩, ⟨fun _ _ _ h => h, fun _ _ => ⟨rfl, fun h => h⟩⟩⟩
mutual
theorem RX.eu {E : Env} {ν : Nat → Nat} : ∀ (x : X) (c : Value) (R : List Nat), RX (E.names ν) x c R ↔ RX E (x.eu ν) c R
 | .ptr .., _, _ => by simp only [X.eu, RX]; exact Iff.rfl
 | .aR .., _, _ => by simp only [X.eu, RX]; exact Iff.rfl
 | .mref _, _, _ => by simp only [X.eu, RX]; exact Iff.rfl
 | .v _, _, _ => by simp only [X.eu, RX]
 | .no, _, _ => by simp only [X.eu, RX]
 | .fz s rows, c, R => ⟨RX.mono _ c R (ev E ν R).1 (fun o h => by simp [X.cY] at h), RX.mono _ c R (ev E ν R).2 (fun o h => by simp [X.eu, X.cY] at h)⟩
 | .cX s rows, c, R => ⟨RX.mono _ c R (ev E ν R).1 (fun o h => by simp [X.cY] at h), RX.mono _ c R (ev E ν R).2 (fun o h => by simp [X.eu, X.cY] at h)⟩
 | .fp row k, c, R => ⟨RX.mono _ c R (ev E ν R).1 (fun o h => by simp [X.cY] at h), RX.mono _ c R (ev E ν R).2 (fun o h => by simp [X.eu, X.cY] at h)⟩
 | .agg xs, c, R => by
  simp only [X.eu, RX]
  exact ⟨fun ⟨cs, h1, h2⟩ => ⟨cs, h1, (bg.eu xs _ R).1 h2⟩, fun ⟨cs, h1, h2⟩ => ⟨cs, h1, (bg.eu xs _ R).2 h2⟩⟩
 | .tup xs, c, R => by
  simp only [X.eu, RX]
  exact ⟨fun ⟨cs, h1, h2⟩ => ⟨cs, h1, (dy.eu xs _ R).1 h2⟩, fun ⟨cs, h1, h2⟩ => ⟨cs, h1, (dy.eu xs _ R).2 h2⟩⟩
 | .fH f xs ys, c, R => by
  simp only [X.eu, RX]
  exact ⟨fun ⟨h0, f, cc, h1, h2, h3⟩ => ⟨h0, f, cc, h1, (dy.eu xs _ []).1 h2, (dy.eu ys _ []).1 h3⟩, fun ⟨h0, f, cc, h1, h2, h3⟩ => ⟨h0, f, cc, h1, (dy.eu xs _ []).2 h2, (dy.eu ys _ []).2 h3⟩⟩
theorem bg.eu {E : Env} {ν : Nat → Nat} : ∀ (xs : List X) (cs : List Value) (R : List Nat), bg (E.names ν) xs cs R ↔ bg E (X.iL ν xs) cs R
 | [], _, _ => by simp only [X.iL, bg]
 | x :: r, cs, R => by
  simp only [X.iL, bg]
  exact ⟨fun ⟨c, cp, R₁, R₂, h1, h2, h3, h4, h5⟩ => ⟨c, cp, R₁, R₂, h1, h2, (RX.eu x c R₁).1 h3, (bg.eu r cp R₂).1 h4, h5⟩,
   fun ⟨c, cp, R₁, R₂, h1, h2, h3, h4, h5⟩ => ⟨c, cp, R₁, R₂, h1, h2, (RX.eu x c R₁).2 h3, (bg.eu r cp R₂).2 h4, h5⟩⟩
theorem dy.eu {E : Env} {ν : Nat → Nat} : ∀ (xs : List X) (cs : List Value) (R : List Nat), dy (E.names ν) xs cs R ↔ dy E (X.iL ν xs) cs R
 | [], _, _ => by simp only [X.iL, dy]
 | x :: r, cs, R => by
  simp only [X.iL, dy]
  exact ⟨fun ⟨c, cp, R₁, R₂, h1, h3, h4, h5⟩ => ⟨c, cp, R₁, R₂, h1, (RX.eu x c R₁).1 h3, (dy.eu r cp R₂).1 h4, h5⟩,
   fun ⟨c, cp, R₁, R₂, h1, h3, h4, h5⟩ => ⟨c, cp, R₁, R₂, h1, (RX.eu x c R₁).2 h3, (dy.eu r cp R₂).2 h4, h5⟩⟩
end
theorem RO.eu {E : Env} {ν : Nat → Nat} : ∀ (xs : List X) (cs : Array Value) (off : Nat) (R : List Nat), RO (E.names ν) xs cs off R ↔ RO E (X.iL ν xs) cs off R
 | [], _, _, _ => by simp only [X.iL, RO]
 | x :: r, cs, off, R => by
  simp only [X.iL, RO]
  exact ⟨fun ⟨u, R₁, R₂, h1, h2, h3, h4, h5⟩ => ⟨u, R₁, R₂, h1, h2, (RX.eu x u R₁).1 h3, (RO.eu r cs _ R₂).1 h4, h5⟩,
   fun ⟨u, R₁, R₂, h1, h2, h3, h4, h5⟩ => ⟨u, R₁, R₂, h1, h2, (RX.eu x u R₁).2 h3, (RO.eu r cs _ R₂).2 h4, h5⟩⟩
theorem mU (ν : Nat → Nat) : ∀ xs : List X, (X.iL ν xs).length = xs.length
 | [] => rfl
 | _ :: r => by simp [X.iL, mU ν r]
mutual
theorem X.rk (ν : Nat → Nat) : ∀ x : X, (x.eu ν).free = x.free
 | .ptr .. | .aR .. | .mref _ | .v _ | .no | .fz .. | .cX .. | .fp .. | .fH .. => rfl
 | .agg xs => X.kv ν xs
 | .tup xs => X.kv ν xs
theorem X.kv (ν : Nat → Nat) : ∀ xs : List X, X.aW (X.iL ν xs) = X.aW xs
 | [] => rfl
 | x :: r => by simp only [X.iL, X.aW, X.rk ν x, X.kv ν r]
end
def Obj.eu (ν : Nat → Nat) : Obj → Obj
 | .cells xs => .cells (X.iL ν xs)
 | .rows s rs => .rows s rs
 | .s4 es => .s4 es
 | .gone => .gone
theorem dq.eu {E : Env} {ν : Nat → Nat} {j : Nat} {ob : Obj} {R : List Nat} : dq (E.names ν) j ob R ↔ dq E (ν j) (ob.eu ν) R := by
 cases ob with
 | cells xs =>
  simp only [Obj.eu, dq, X.kv, mU]
  exact ⟨fun ⟨h0, B, cs, ty, h1, h2, h3, h4, h5, h6⟩ => ⟨h0, B, cs, ty, h1, h2, h3, h4, (RO.eu xs cs _ []).1 h5, h6⟩,
   fun ⟨h0, B, cs, ty, h1, h2, h3, h4, h5, h6⟩ => ⟨h0, B, cs, ty, h1, h2, h3, h4, (RO.eu xs cs _ []).2 h5, h6⟩⟩
 | rows s rs =>
  simp only [Obj.eu, dq]
  refine ⟨fun ⟨hu, h⟩ => ⟨hu, h.imp (fun h => h) ?_⟩, fun ⟨hu, h⟩ => ⟨hu, h.imp (fun h => h) ?_⟩⟩
  ·exact fun ⟨B, cs, ty, R', h1, h2, h3, h4, h5, h6, h7⟩ => ⟨B, cs, ty, R', h1, h2, h3, h4, h5, bM.mono rs cs _ R' (ev E ν R').1 h6, h7⟩
  ·exact fun ⟨B, cs, ty, R', h1, h2, h3, h4, h5, h6, h7⟩ => ⟨B, cs, ty, R', h1, h2, h3, h4, h5, bM.mono rs cs _ R' (ev E ν R').2 h6, h7⟩
 | s4 es => exact Iff.rfl
 | gone => simp only [Obj.eu, dq]
mutual
def X.plain : X → Prop
 | .v _ | .no | .ptr .. | .aR .. | .mref _ => True
 | .fz _ _ | .fp _ _ | .fH .. => False
 | .cX _ rows => X.my rows
 | .agg xs => X.gv xs
 | .tup xs => X.gv xs
def X.gv : List X → Prop
 | [] => True
 | x :: r => x.plain ∧ X.gv r
def X.my : List (List X) → Prop
 | [] => True
 | x :: r => X.gv x ∧ X.my r
end
def Env.yl (E E' : Env) (R : List Nat) : Prop := ∀ b ∈ R, E'.w.heap[b]? = E.w.heap[b]? ∧ ((∀ i, E.φ b i = none) → ∀ i, E'.φ b i = none)
theorem Env.yl.sub {E E' : Env} {R R' : List Nat} (h : E.yl E' R) (hs : ∀ b ∈ R', b ∈ R) : E.yl E' R' := fun b hb => h b (hs b hb)
mutual
theorem RX.off {E E' : Env} : ∀ (x : X) (c : Value) (R : List Nat), x.plain → E.yl E' R → (∀ o, E'.β o = E.β o) → RX E x c R → RX E' x c R
 | .v _, _, _, _, _, _, h => by simpa [RX] using h
 | .no, _, _, _, _, _, h => by simpa [RX] using h
 | .fz .., _, _, hp, _, _, _ => hp.elim
 | .fp .., _, _, hp, _, _, _ => hp.elim
 | .fH .., _, _, hp, _, _, _ => hp.elim
 | .ptr o .., _, _, _, _, hβ, h => by simp only [RX] at h ⊢; rw [hβ]; exact h
 | .aR o .., _, _, _, _, hβ, h => by simp only [RX] at h ⊢; rw [hβ]; exact h
 | .mref o, _, _, _, _, hβ, h => by simp only [RX] at h ⊢; rw [hβ]; exact h
 | .cX s rows, c, R, hp, hE, hβ, h => by
  simp only [RX] at h ⊢
  obtain ⟨hu, base, cap, hc, hh⟩ := h
  refine ⟨hu, base, cap, hc, ?_⟩
  rcases hh with hh | ⟨b, off, cs, ty, R', hb, hw, hl, ho, hf, hr, hR⟩
  ·exact .inl hh
  ·subst hR
   have h2 := hE b (by simp)
   exact .inr ⟨b, off, cs, ty, R', hb, h2.1.trans hw, hl, ho, h2.2 hf, bM.off rows cs off R' hp (hE.sub (fun _ h => by simp [h])) hβ hr, rfl⟩
 | .agg xs, c, R, hp, hE, hβ, h => by
  simp only [RX] at h ⊢
  obtain ⟨cs, hc, hs⟩ := h
  exact ⟨cs, hc, bg.off xs _ R hp hE hβ hs⟩
 | .tup xs, c, R, hp, hE, hβ, h => by
  simp only [RX] at h ⊢
  obtain ⟨cs, hc, hs⟩ := h
  exact ⟨cs, hc, dy.off xs _ R hp hE hβ hs⟩
theorem bg.off {E E' : Env} : ∀ (xs : List X) (cs : List Value) (R : List Nat), X.gv xs → E.yl E' R → (∀ o, E'.β o = E.β o) → bg E xs cs R → bg E' xs cs R
 | [], _, _, _, _, _, h => by simpa [bg] using h
 | x :: r, cs, R, hp, hE, hβ, h => by
  simp only [bg] at h ⊢
  simp only [X.gv] at hp
  obtain ⟨c, cp, R₁, R₂, hc, hs, h1, h2, hR⟩ := h
  subst hR
  exact ⟨c, cp, R₁, R₂, hc, hs, RX.off x c R₁ hp.1 (hE.sub (fun _ h => bK h)) hβ h1, bg.off r cp R₂ hp.2 (hE.sub (fun _ h => bC h)) hβ h2, rfl⟩
theorem dy.off {E E' : Env} : ∀ (xs : List X) (cs : List Value) (R : List Nat), X.gv xs → E.yl E' R → (∀ o, E'.β o = E.β o) → dy E xs cs R → dy E' xs cs R
 | [], _, _, _, _, _, h => by simpa [dy] using h
 | x :: r, cs, R, hp, hE, hβ, h => by
  simp only [dy] at h ⊢
  simp only [X.gv] at hp
  obtain ⟨c, cp, R₁, R₂, hc, h1, h2, hR⟩ := h
  subst hR
  exact ⟨c, cp, R₁, R₂, hc, RX.off x c R₁ hp.1 (hE.sub (fun _ h => bK h)) hβ h1, dy.off r cp R₂ hp.2 (hE.sub (fun _ h => bC h)) hβ h2, rfl⟩
theorem RO.off {E E' : Env} : ∀ (xs : List X) (cs : Array Value) (off : Nat) (R : List Nat), X.gv xs → E.yl E' R → (∀ o, E'.β o = E.β o) → RO E xs cs off R → RO E' xs cs off R
 | [], _, _, _, _, _, _, h => by simpa [RO] using h
 | x :: r, cs, off, R, hp, hE, hβ, h => by
  simp only [RO] at h ⊢
  simp only [X.gv] at hp
  obtain ⟨u, R₁, R₂, hu, hs, h1, h2, hR⟩ := h
  subst hR
  exact ⟨u, R₁, R₂, hu, hs, RX.off x u R₁ hp.1 (hE.sub (fun _ h => bK h)) hβ h1, RO.off r cs (off + 1) R₂ hp.2 (hE.sub (fun _ h => bC h)) hβ h2, rfl⟩
theorem bM.off {E E' : Env} : ∀ (rs : List (List X)) (cs : Array Value) (off : Nat) (R : List Nat), X.my rs → E.yl E' R → (∀ o, E'.β o = E.β o) → bM E rs cs off R → bM E' rs cs off R
 | [], _, _, _, _, _, _, h => by simpa [bM] using h
 | r :: rs, cs, off, R, hp, hE, hβ, h => by
  simp only [bM] at h ⊢
  simp only [X.my] at hp
  obtain ⟨R₁, R₂, hn, h1, h2, hR⟩ := h
  subst hR
  exact ⟨R₁, R₂, hn, RO.off r cs off R₁ hp.1 (hE.sub (fun _ h => bK h)) hβ h1, bM.off rs cs _ R₂ hp.2 (hE.sub (fun _ h => bC h)) hβ h2, rfl⟩
end
def Obj.plain : Obj → Prop
 | .cells xs => X.gv xs
 | .rows _ rs => X.my rs
 | .s4 _ => True
 | .gone => True
theorem dq.off {E E' : Env} {o : Nat} {ob : Obj} {R : List Nat} (hp : ob.plain) (hE : E.yl E' R) (hβ : ∀ o, E'.β o = E.β o) (h : dq E o ob R) : dq E' o ob R := by
 cases ob with
 | cells xs =>
  simp only [dq] at h ⊢
  obtain ⟨nz, B, cs, ty, hB, hw, hf, hl, hR, rfl⟩ := h
  have h2 := hE B.b (by simp)
  exact ⟨nz, B, cs, ty, (hβ o).trans hB, h2.1.trans hw, h2.2 hf, hl, RO.off xs cs _ [] hp (hE.sub (fun _ h => by cases h)) hβ hR, rfl⟩
 | rows s rs =>
  simp only [dq] at h ⊢
  obtain ⟨hu, h⟩ := h
  refine ⟨hu, ?_⟩
  rcases h with ⟨h1, h2, h3⟩ | ⟨B, cs, ty, R', hB, hw, hf, hl, hc, hR, rfl⟩
  ·exact .inl ⟨(hβ o).trans h1, h2, h3⟩
  ·have h2 := hE B.b (by simp)
   exact .inr ⟨B, cs, ty, R', (hβ o).trans hB, h2.1.trans hw, h2.2 hf, hl, hc, bM.off rs cs _ R' hp (hE.sub (fun _ h => by simp [h])) hβ hR, rfl⟩
 | s4 es =>
  simp only [dq] at h ⊢
  obtain ⟨B, nn, clock, hB, hw, hf, he, rfl⟩ := h
  have h2 := hE B.b (by simp)
  exact ⟨B, nn, clock, (hβ o).trans hB, h2.1.trans hw, h2.2 hf, he, rfl⟩
 | gone => simpa [dq] using h
mutual
def X.lt (k : Nat) : X → Bool
 | .v _ | .no | .fz .. | .cX .. | .fp .. => true
 | .ptr o .. => Nat.blt o k
 | .aR o .. => Nat.blt o k
 | .mref o => Nat.blt o k
 | .agg xs => X.xT k xs
 | .tup xs => X.xT k xs
 | .fH _ a b => X.xT k a && X.xT k b
def X.xT (k : Nat) : List X → Bool
 | [] => true
 | x :: r => x.lt k && X.xT k r
end
theorem sH {o k : Nat} (h : Nat.blt o k = true) : o < k := Nat.le_of_ble_eq_true h
mutual
theorem X.tL {k o : Nat} : ∀ {x : X}, x.lt k = true → x.cY o = true → o < k
 | .v _, _, h | .no, _, h | .fz .., _, h | .cX .., _, h | .fp .., _, h => by simp [X.cY] at h
 | .ptr p .., h, hm => by simp only [X.cY] at hm; rw [← Nat.eq_of_beq_eq_true hm]; exact sH h
 | .aR p .., h, hm => by simp only [X.cY] at hm; rw [← Nat.eq_of_beq_eq_true hm]; exact sH h
 | .mref p, h, hm => by simp only [X.cY] at hm; rw [← Nat.eq_of_beq_eq_true hm]; exact sH h
 | .agg xs, h, hm => X.gK (xs := xs) h hm
 | .tup xs, h, hm => X.gK (xs := xs) h hm
 | .fH _ a b, h, hm => by
  simp only [X.lt, Bool.and_eq_true] at h
  simp only [X.cY, Bool.or_eq_true] at hm
  exact hm.elim (X.gK h.1) (X.gK h.2)
theorem X.gK {k o : Nat} : ∀ {xs : List X}, X.xT k xs = true → X.cq o xs = true → o < k
 | [], _, h => by simp [X.cq] at h
 | x :: r, h, hm => by
  simp only [X.xT, Bool.and_eq_true] at h
  simp only [X.cq, Bool.or_eq_true] at hm
  exact hm.elim (X.tL h.1) (X.gK h.2)
end
def Obj.lt (k : Nat) : Obj → Bool
 | .cells xs => X.xT k xs
 | _ => true
def cS (l : List Nat) (x : X) : X := bif l.any (fun o => x.cY o) then .no else x
def Obj.cS (l : List Nat) : Obj → Obj
 | .cells xs => .cells (xs.map (AW.cS l))
 | ob => ob
def St.cS (st : St) (l : List Nat) : St := ⟨st.ax.map fun p => (p.1, AW.cS l p.2), st.ay.map fun p => (p.1, p.2.cS l)⟩
theorem sI {l : List Nat} {x : X} {q : Nat} (h : (cS l x).cY q = true) : q ∉ l ∧ cS l x = x ∧ x.cY q = true := by
 unfold cS at h ⊢
 cases hk : l.any (fun o => x.cY o) with
 | true => simp [hk, X.cY] at h
 | false =>
  rw [hk] at h
  simp only [cond_false] at h ⊢
  refine ⟨fun hq => ?_, trivial, h⟩
  have : l.any (fun o => x.cY o) = true := List.any_eq_true.2 ⟨q, hq, h⟩
  rw [hk] at this; cases this
theorem mV (l : List Nat) : ∀ {xs : List X}, X.aW xs = true → X.aW (xs.map (cS l)) = true
 | [], _ => rfl
 | x :: r, h => by
  simp only [X.aW, Bool.and_eq_true] at h
  have h1 : (cS l x).free = true := by
   unfold cS
   cases l.any (fun o => x.cY o) with
   | true => rfl
   | false => exact h.1
  simp only [List.map_cons, X.aW, h1, mV l h.2, Bool.and_self]
theorem RO.cS {E : Env} {l : List Nat} : ∀ {xs : List X} {cs : Array Value} {off : Nat}, X.aW xs = true → RO E xs cs off [] → RO E (xs.map (AW.cS l)) cs off []
 | [], _, _, _, h => h
 | x :: r, _, _, hf, h => by
  simp only [RO] at h
  obtain ⟨u, R₁, R₂, hu, hs, h1, h2, hR⟩ := h
  simp only [X.aW, Bool.and_eq_true] at hf
  have GY := RX.free hf.1 h1
  have GZ := RO.free hf.2 h2
  subst GY; subst GZ
  have h3 := RO.cS (l := l) hf.2 h2
  simp only [List.map_cons, RO]
  refine ⟨u, [], [], hu, hs, ?_, h3, rfl⟩
  unfold AW.cS
  cases l.any (fun o => x.cY o) with
  | true => simp [RX]
  | false => exact h1
theorem mW {l : List Nat} : ∀ {xs : List X} {q : Nat}, X.cq q (xs.map (cS l)) = true → q ∉ l
 | [], _, h => by simp [X.cq] at h
 | x :: r, q, h => by
  simp only [List.map_cons, X.cq, Bool.or_eq_true] at h
  rcases h with h | h
  ·exact (sI h).1
  ·exact mW h
end Go.AW
namespace Go.AW
open Go
inductive rm (st : St) (L : List Nat) (ν : Nat → Nat) : X → X → Prop where
 | same {x : X} (h : x.free = true) : rm st L ν (x.eu ν) x
 | view {o s lo n : Nat} {rs : List (List X)} (ho : look st.ay o = some (.rows s rs)) (hL : o ∈ L) (kX : lo + n ≤ rs.length) : rm st L ν (.aR o s lo n) (.fz s ((rs.drop lo).take n))
 | deref {o s i k : Nat} {row : List X} (ho : rowAt st (.ptr o s i k) = some row) (hL : o ∈ L) (vg : X.eU row = true) : rm st L ν (.ptr o s i k) (.fp row k)
inductive cL (st : St) (L : List Nat) (ν : Nat → Nat) : List X → List X → Prop where
 | nil : cL st L ν [] []
 | cons {x y : X} {xs ys : List X} (h : rm st L ν x y) (hs : cL st L ν xs ys) : cL st L ν (x :: xs) (y :: ys)
 | agg {us vs xs ys : List X} (h : cL st L ν us vs) (h1 : X.oX vs = true) (hs : cL st L ν xs ys) : cL st L ν (.agg us :: xs) (.agg vs :: ys)
def eQ : List Nat → Nat → Option Nat
 | [], _ => none
 | o :: r, q => bif Nat.beq o q then some 0 else (eQ r q).map (· + 1)
theorem kY : ∀ {l : List Nat} {q j : Nat}, eQ l q = some j → l[j]? = some q
 | [], _, _, h => by cases h
 | o :: r, q, j, h => by
  simp only [eQ] at h
  cases hb : Nat.beq o q with
  | true => rw [hb] at h; simp at h; subst h; simp [Nat.eq_of_beq_eq_true hb]
  | false =>
   rw [hb] at h
   simp only [cond_false, Option.map_eq_some_iff] at h
   obtain ⟨j', h1, rfl⟩ := h
   simpa using kY h1
theorem lF : ∀ {l : List Nat} {q j : Nat}, l.Nodup → l[j]? = some q → eQ l q = some j
 | [], _, _, _, h => by simp at h
 | o :: r, q, j, hn, h => by
  simp only [eQ]
  have nJ := List.nodup_cons.1 hn
  cases j with
  | zero =>
   simp at h; subst h
   simp
  | succ j =>
   have h' : r[j]? = some q := by simpa using h
   have er : o ≠ q := fun e => nJ.1 (by rw [e]; exact List.mem_of_getElem? h')
   have : Nat.beq o q = false := by
    cases hb : Nat.beq o q with
    | false => rfl
    | true => exact absurd (Nat.eq_of_beq_eq_true hb) er
   rw [this]
   simp [lF nJ.2 h']
theorem kZ : ∀ {l : List Nat} {q : Nat}, eQ l q = none → q ∉ l
 | [], _, _ => by simp
 | o :: r, q, h => by
  simp only [eQ] at h
  cases hb : Nat.beq o q with
  | true => simp [hb] at h
  | false =>
   rw [hb] at h
   simp only [cond_false, Option.map_eq_none_iff] at h
   have := kZ h
   have er := Nat.ne_of_beq_eq_false hb
   simp [this, Ne.symm er]
def iq (st : St) : List Operand → Option (List X)
 | [] => some []
 | x :: r => match bu st x, iq st r with
  | some y, some l => some (y :: l)
  | _, _ => none
def aJ (P : Program) (f : FuncId) : Bool :=
 match P.funcs[f]? with
 | some fn => fn.body.isSome && fn.name != "runtime.NumGoroutine"
 | none => false
theorem nR {P : Program} {f : FuncId} (h : aJ P f = true) (args : Array Value) (w : World) : (callFunc f args).run P w = .ok (.enter f args) w := by
 unfold aJ at h
 cases hf : P.funcs[f]? with
 | none => simp [hf] at h
 | some fn =>
  rw [hf] at h
  simp only [Bool.and_eq_true] at h
  have h1 : fn.name ≠ "runtime.NumGoroutine" := by
   have := h.2
   simpa [bne] using this
  have h2 : fn.body ≠ none := fun e => by rw [e] at h; simp at h
  simp [callFunc, hf, h1, h2]
def loose (ν F : List Nat) : List Nat := ((di 0 ν).filter fun p => !F.elem p.1).map (·.2)
theorem uA {ν F : List Nat} {o : Nat} (h : o ∉ loose ν F) {j : Nat} (hj : ν[j]? = some o) : F.elem j = true := by
 cases hF : F.elem j with
 | true => rfl
 | false =>
  refine absurd ?_ h
  unfold loose
  refine List.mem_map.2 ⟨(j, o), List.mem_filter.2 ⟨?_, by simpa using hF⟩, rfl⟩
  have : ∀ (l : List Nat) (i : Nat), l[j]? = some o → (i + j, o) ∈ di i l := by
   clear h hj hF
   induction j with
   | zero =>
    intro l i h
    cases l with
    | nil => simp at h
    | cons x r => simp at h; subst h; simp [di]
   | succ j ih =>
    intro l i h
    cases l with
    | nil => simp at h
    | cons x r =>
     simp only [di, List.mem_cons]
     right
     have := ih r (i + 1) (by simpa using h)
     rw [show i + (j + 1) = i + 1 + j by omega]; exact this
  simpa using this ν 0 hj
def bs (ν : List Nat) (j : Nat) : Nat := ν.getD j 0
def jQ (st : St) (ν F : List Nat) (a8 : List Obj) : St :=
 ⟨(st.cS (loose ν F)).ax, ν.zip (a8.map (Obj.eu (bs ν))) ++ (st.cS (loose ν F)).ay⟩
theorem rp : ∀ {ν : List Nat} {l : List Obj} {r : List (Nat × Obj)} {o : Nat}, ν.length = l.length → look (ν.zip l ++ r) o = match eQ ν o with | some j => l[j]? | none => look r o
 | [], [], _, _, _ => rfl
 | [], _ :: _, _, _, h => by simp at h
 | _ :: _, [], _, _, h => by simp at h
 | q :: ν, x :: l, r, o, h => by
  simp only [List.zip_cons_cons, List.cons_append, look, eQ]
  cases hb : Nat.beq q o with
  | true => simp
  | false =>
   simp only [cond_false]
   rw [rp (by simpa using h)]
   cases hp : eQ ν o with
   | none => simp
   | some j => simp
section
variable {P : Program} {N : dJ} {st : St} {Q : Exit → St → Prop} {all : Array Oper} {rest : List Oper} {d : Nat} {ty : TypeId} {pos : String} {af : Array Edge}
theorem RO.freeze {E E1 : Env} {b : Nat} : ∀ {xs : List X} {cs : Array Value} {off : Nat} , (∀ i v, cs[i]? = some v → E1.φ b i = some v) → (∀ c i v, E.φ c i = some v → E1.φ c i = some v) → X.eU xs = true →
  RO E xs cs off [] → RF E1 xs b off
 | [], _, _, _, _, _, _ => by simp [RF]
 | x :: r, cs, off, h1, h2, hn, h => by
  simp only [RO] at h
  obtain ⟨u, R₁, R₂, hu, hs, hx, hr, hR⟩ := h
  obtain ⟨rfl, rfl⟩ := List.append_eq_nil_iff.1 hR.symm
  simp only [X.eU, Bool.and_eq_true] at hn
  simp only [RF]
  refine ⟨⟨u, h1 _ _ hu, hs, hn.1, RX.mono x u [] ⟨h2, fun _ h => by cases h⟩ (fun o ho => by rw [X.kT hn.1] at ho; cases ho) hx⟩, RO.freeze h1 h2 hn.2 hr⟩
theorem bM.freeze {E E1 : Env} {b : Nat} : ∀ {rs : List (List X)} {cs : Array Value} {off : Nat}, (∀ i v, cs[i]? = some v → E1.φ b i = some v) → (∀ c i v, E.φ c i = some v → E1.φ c i = some v) →
  bM E rs cs off [] → gp E1 rs b off
 | [], _, _, _, _, _ => by simp [gp]
 | r :: rs, cs, off, h1, h2, h => by
  simp only [bM] at h
  obtain ⟨R₁, R₂, hn, hx, hr, hR⟩ := h
  obtain ⟨rfl, rfl⟩ := List.append_eq_nil_iff.1 hR.symm
  simp only [gp]
  exact ⟨RO.freeze h1 h2 hn hx, bM.freeze h1 h2 hr⟩
def iy : Obj → Prop
 | .rows _ rs => ∀ r ∈ rs, X.aW r = true
 | .cells _ => True
 | .s4 _ => True
 | .gone => True
theorem bM.free {E : Env} : ∀ {rs : List (List X)} {cs : Array Value} {off : Nat} {R : List Nat}, (∀ r ∈ rs, X.aW r = true) → bM E rs cs off R → R = []
 | [], _, _, _, _, h => by simpa [bM] using h
 | r :: rs, _, _, _, hf, h => by
  simp only [bM] at h
  obtain ⟨R₁, R₂, _, h1, h2, hR⟩ := h
  rw [hR, RO.free (hf r (by simp)) h1, bM.free (fun q hq => hf q (by simp [hq])) h2]; rfl
noncomputable def Env.eJ (E : Env) (LB : Nat → Prop) : Env := by
 classical
 exact { E with φ := fun b i => if LB b then E.w.cell? ⟨b, i, none⟩ else E.φ b i }
theorem gE (E : Env) {LB : Nat → Prop} {b : Nat} (h : LB b) (i : Nat) : (E.eJ LB).φ b i = E.w.cell? ⟨b, i, none⟩ := by simp [Env.eJ, h]
theorem dP (E : Env) {LB : Nat → Prop} {b : Nat} (h : ¬ LB b) (i : Nat) : (E.eJ LB).φ b i = E.φ b i := by simp [Env.eJ, h]
theorem rm.rx {G : Ctx} {E : Env} {RR : Own → List Nat} {a : Act} {L : List Nat} {ν : Nat → Nat} {LB : Nat → Prop} (hi : Inv G E RR st a) (ym : ∀ o ∈ L, ∀ b ∈ RR (.obj o), LB b) (hle : ∀ c i v, E.φ c i = some v → (E.eJ LB).φ c i = some v)
  (h0 : ∀ o ∈ L, ∀ ob, look st.ay o = some ob → iy ob) {x y : X} {c : Value} {R : List Nat} (h : rm st L ν x y) (hx : RX E x c R) : RX ((E.eJ LB).names ν) y c [] := by
 have gq : E.On (E.eJ LB) [] := ⟨hle, fun _ h => by cases h⟩
 cases h with
 | same hf =>
  have : R = [] := RX.free (by rw [X.rk]; exact hf) hx
  subst this
  exact (RX.eu y c []).2 (RX.mono _ c [] gq (fun _ _ => rfl) hx)
 | view ho hL kX =>
  rename_i o s lo n rs
  have aL := hi.ay o _ ho
  have iX : ∀ r ∈ rs, X.aW r = true := h0 o hL _ ho
  simp only [RX] at hx ⊢
  obtain ⟨_, base, cap, rfl, cu⟩ := hx
  simp only [dq] at aL
  obtain ⟨hu, aL⟩ := aL
  have sv : ((rs.drop lo).take n).length = n := by simp; omega
  refine ⟨trivial, (hu.drop lo).take n, base, cap, by rw [sv], ?_⟩
  by_cases jP : cap = 0
  ·refine .inl ⟨?_, jP⟩
   have yi : n = 0 := by rcases cu with ⟨_, _, h, _⟩ | ⟨_, _, _, h, _⟩ <;> omega
   subst yi; simp
  ·rcases cu with ⟨_, _, _, h⟩ | ⟨B, hB, Dr, nJ, hb⟩
   ·exact absurd h jP
   have eO := hb.resolve_left jP
   rcases aL with ⟨h1, _⟩ | ⟨B', cs, tb, R', fY, hw, hφ, pN, ei, il, gr⟩
   ·rw [hB] at h1; cases h1
   rw [hB] at fY
   obtain rfl := Option.some.inj fY
   have yn := bM.free iX il
   subst yn
   obtain ⟨R1, u9, cx, _⟩ := bM.sE hu il kX
   have nL : R1 = [] := by
    cases R1 with
    | nil => rfl
    | cons b r => have := cx b (by simp); cases this
   subst nL
   have DQ : LB B.b := ym o hL _ (by rw [gr]; simp)
   refine .inr ⟨B.b, B.off + lo * s, eO, om, ?_⟩
   have nz : gp (E.eJ LB) ((rs.drop lo).take n) B.b (B.off + lo * s) := bM.freeze (fun i v hv => by rw [gE E DQ, bZ hw]; exact hv) hle u9
   exact gp.mono _ _ _ (ev (E.eJ LB) ν []).2 nz
 | deref ho hL vg =>
  rename_i o s i k row
  simp only [RX] at hx ⊢
  obtain ⟨_, B, hB, rfl⟩ := hx
  simp only [rowAt] at ho
  split at ho
  ·rename_i xs jD
   have aL := hi.ay o _ jD
   simp only [dq] at aL
   obtain ⟨_, B', cs, tb, fY, hw, _, _, il, gr⟩ := aL
   rw [hB] at fY
   obtain rfl := Option.some.inj fY
   cases l4 : Nat.beq i 0 with
   | false => simp [l4] at ho
   | true =>
    have := Nat.eq_of_beq_eq_true l4
    subst this
    simp only [l4, cond_true, Option.some.injEq] at ho
    subst ho
    have DQ : LB B.b := ym o hL _ (by rw [gr]; simp)
    refine ⟨trivial, B.b, B.off, by simp, ?_⟩
    exact RF.mono _ _ _ (ev (E.eJ LB) ν []).2 (RO.freeze (fun i v hv => by rw [gE E DQ, bZ hw]; exact hv) hle vg il)
  ·rename_i s' rs jD
   have aL := hi.ay o _ jD
   have iX : ∀ r ∈ rs, X.aW r = true := h0 o hL _ jD
   simp only [dq] at aL
   obtain ⟨hu, aL⟩ := aL
   cases AV : Nat.beq s s' with
   | false => simp [AV] at ho
   | true =>
    have := Nat.eq_of_beq_eq_true AV
    subst this
    simp only [AV, cond_true] at ho
    rcases aL with ⟨_, h1, _⟩ | ⟨B', cs, tb, R', fY, hw, _, _, _, il, gr⟩
    ·subst h1; simp at ho
    rw [hB] at fY
    obtain rfl := Option.some.inj fY
    have yn := bM.free iX il
    subst yn
    obtain ⟨R1, _, mn, cx⟩ := bM.get hu il ho
    have nL : R1 = [] := by
     cases R1 with
     | nil => rfl
     | cons b r => have := cx b (by simp); cases this
    subst nL
    have DQ : LB B.b := ym o hL _ (by rw [gr]; simp)
    refine ⟨trivial, B.b, B.off + i * s, by rw [Nat.add_assoc], ?_⟩
    exact RF.mono _ _ _ (ev (E.eJ LB) ν []).2 (RO.freeze (fun i v hv => by rw [gE E DQ, bZ hw]; exact hv) hle vg mn)
  ·cases ho
theorem cL.get {L : List Nat} {ν : Nat → Nat} : ∀ {xs ys : List X} {j : Nat} {y : X}, cL st L ν xs ys → ys[j]? = some y → ∃ x, xs[j]? = some x ∧ (rm st L ν x y ∨ ∃ us vs, x = .agg us ∧ y = .agg vs ∧ cL st L ν us vs ∧ X.oX vs = true)
 | _, _, j, y, .nil, h => by simp at h
 | _, _, 0, y, .cons h _, hy => by simp at hy; subst hy; exact ⟨_, rfl, .inl h⟩
 | _, _, j + 1, y, .cons _ hs, hy => by simpa using cL.get hs (by simpa using hy)
 | _, _, 0, y, .agg h h1 _, hy => by simp at hy; subst hy; exact ⟨_, rfl, .inr ⟨_, _, rfl, rfl, h, h1⟩⟩
 | _, _, j + 1, y, .agg _ _ hs, hy => by simpa using cL.get hs (by simpa using hy)
theorem cL.length {L : List Nat} {ν : Nat → Nat} : ∀ {xs ys : List X}, cL st L ν xs ys → xs.length = ys.length
 | _, _, .nil => rfl
 | _, _, .cons _ hs => by simp [hs.length]
 | _, _, .agg _ _ hs => by simp [hs.length]
theorem cL.Kz {G : Ctx} {E : Env} {RR : Own → List Nat} {a : Act} {L : List Nat} {ν : Nat → Nat} {LB : Nat → Prop} (hi : Inv G E RR st a) (ym : ∀ o ∈ L, ∀ b ∈ RR (.obj o), LB b) (hle : ∀ c i v, E.φ c i = some v → (E.eJ LB).φ c i = some v)
  (h0 : ∀ o ∈ L, ∀ ob, look st.ay o = some ob → iy ob) : ∀ {xs ys : List X} {cs : List Value} {R : List Nat}, cL st L ν xs ys → bg E xs cs R → bg ((E.eJ LB).names ν) ys cs []
 | _, _, cs, R, .nil, h => by simp only [bg] at h ⊢; exact ⟨h.1, trivial⟩
 | _, _, cs, R, .cons hl hs, h => by
  simp only [bg] at h ⊢
  obtain ⟨c, cp, R₁, R₂, rfl, h1, h2, h3, _⟩ := h
  exact ⟨c, cp, [], [], rfl, h1, hl.rx hi ym hle h0 h2, hs.Kz hi ym hle h0 h3, rfl⟩
 | _, _, cs, R, .agg hl _ hs, h => by
  simp only [bg] at h ⊢
  obtain ⟨c, cp, R₁, R₂, rfl, h1, h2, h3, _⟩ := h
  simp only [RX] at h2
  obtain ⟨ds, rfl, h4⟩ := h2
  exact h1.elim
end
end Go.AW
namespace Go.AW
open Go
section
variable {P : Program} {N : dJ} {st : St} {Q : Exit → St → Prop} {all : Array Oper} {rest : List Oper} {d : Nat} {ty : TypeId} {pos : String} {af : Array Edge}
theorem lG {G : Ctx} {E : Env} {RR : Own → List Nat} {a : Act} (hi : Inv G E RR st a) : ∀ {l : List Operand} {xs : List X}, iq st l = some xs → xs.length = l.length ∧ ∀ (j : Nat) (x : X), xs[j]? = some x → ∃ o : Operand, l[j]? = some o ∧ ∃ R, RX E x (a.eval o) R
 | [], xs, h => by simp only [iq, Option.some.injEq] at h; subst h; exact ⟨rfl, by simp⟩
 | o :: r, xs, h => by
  simp only [iq] at h
  cases h1 : bu st o with
  | none => simp [h1] at h
  | some y =>
   cases h2 : iq st r with
   | none => simp [h1, h2] at h
   | some ys =>
    rw [h1, h2] at h
    simp only [Option.some.injEq] at h
    subst h
    obtain ⟨hl, hg⟩ := lG hi h2
    refine ⟨by simp [hl], fun j x hx => ?_⟩
    cases j with
    | zero => simp at hx; subst hx; exact ⟨o, rfl, hi.eval h1⟩
    | succ j => simpa using hg j x (by simpa using hx)
theorem Inv.Ad {G : Ctx} {E : Env} {RR : Own → List Nat} {a : Act} {f : FuncId} {vs : List Value} {xs args : List X} {ay : List Obj} {F ν L : List Nat} {Q' : X → List Obj → Prop} (hi : Inv G E RR st a) (eR : ak P f args ay F Q')
  (vr : xs.length = vs.length) (Ae : ∀ (j : Nat) (x : X), xs[j]? = some x → ∃ v : Value, vs[j]? = some v ∧ ∃ R, RX E x v R) (dK : cL st L (bs ν) xs args) (lH : ∀ j ob, ay[j]? = some ob → look st.ay (bs ν j) = some (ob.eu (bs ν))) (hlen : ν.length = ay.length) (vN : ν.Nodup) (yo : ∀ o ∈ L, o ∉ ν)
  (h0 : ∀ o ∈ L, ∃ ob, look st.ay o = some ob ∧ iy ob) (yp : ∀ o ∈ loose ν F, G.fn.F.elem o = false) (hd : d < G.fn.n) :
  Calls P f vs.toArray E.w fun e w' => ∃ v r a8, e = .returned v ∧ Q' r a8 ∧ a8.length = ay.length ∧
   (r.lt ay.length = true → (∀ ob ∈ a8, ob.lt ay.length = true) → (L = [] ∨ (r.plain ∧ ∀ ob ∈ a8, ob.plain)) → ∃ iW pT, iW.w = w' ∧ Inv G iW pT ((jQ st ν F a8).put d (r.eu (bs ν))) (a.put (some d) v)) := by
 classical
 -- the blocks that are lent, and those that are handed rq
 let LB : Nat → Prop := fun b => ∃ o ∈ L, b ∈ RR (.obj o)
 let PB : Nat → Prop := fun b => ∃ j, j < ay.length ∧ b ∈ RR (.obj (bs ν j))
 have CR : ∀ j, j < ay.length → ν[j]? = some (bs ν j) := by
  intro j hj
  have : j < ν.length := by omega
  simp [bs, List.getD, List.getElem?_eq_getElem this]
 have K0 : ∀ b, LB b → ∀ i, E.φ b i = none := by
  rintro b ⟨o, CS, hb⟩
  obtain ⟨ob, aL, mu⟩ := h0 o CS
  have h := hi.ay o ob aL
  cases ob with
  | cells ys =>
   simp only [dq] at h
   obtain ⟨_, B, cs, tb, _, _, hφ, _, _, gr⟩ := h
   rw [gr] at hb
   simp only [List.mem_singleton] at hb
   rw [hb]; exact hφ
  | rows s rs =>
   simp only [dq] at h
   obtain ⟨_, h⟩ := h
   rcases h with ⟨_, _, h3⟩ | ⟨B, cs, tb, R', _, _, hφ, _, _, il, gr⟩
   ·rw [h3] at hb; cases hb
   ·have yn := bM.free mu il
    subst yn
    rw [gr] at hb
    simp only [List.mem_singleton] at hb
    rw [hb]; exact hφ
  | s4 es =>
   simp only [dq] at h
   obtain ⟨B, nn, clock, _, _, hφ, _, gr⟩ := h
   rw [gr] at hb
   simp only [List.mem_singleton] at hb
   rw [hb]; exact hφ
  | gone =>
   simp only [dq] at h
   rw [h] at hb; cases hb
 have Mm : ∀ b, LB b → ¬ PB b := by
  rintro b ⟨o, CS, hb⟩ ⟨j, hj, eO⟩
  have er : o ≠ bs ν j := fun e => yo o CS (by rw [e]; exact List.mem_of_getElem? (CR j hj))
  exact hi.apart (.obj o) (.obj (bs ν j)) (by simpa using er) b hb eO
 have hle : ∀ c i v, E.φ c i = some v → (E.eJ LB).φ c i = some v := by
  intro c i v h
  have : ¬ LB c := fun hL => by rw [K0 c hL i] at h; cases h
  rw [dP E this]; exact h
 let E1 : Env := (E.eJ LB).names (bs ν)
 have Mn : E1.w = E.w := rfl
 have Mo : ∀ o, E1.β o = E.β (bs ν o) := fun _ => rfl
 have H8 : ∀ b i, E1.φ b i = (E.eJ LB).φ b i := fun _ _ => rfl
 let K1 : Nat → Prop := fun b => b < E.w.heap.size ∧ ¬ PB b
 let xU : Own → List Nat := fun p => match p with
  | .obj j => if j < ay.length then RR (.obj (bs ν j)) else []
  | .slot _ => []
 have HA : ∀ i j, i < ay.length → j < ay.length → bs ν i = bs ν j → i = j := by
  intro i j fk uB h
  have h1 := lF vN (CR i fk)
  have h2 := lF vN (CR j uB)
  rw [h] at h1
  rw [h1] at h2
  exact Option.some.inj h2
 have Mp : Inv (pc K1 E1 ⟨args.length, F⟩) E1 xU ⟨di 0 args, di 0 ay⟩ ⟨vs.toArray, []⟩ := by
  constructor
  ·intro b i v h
   rw [H8] at h
   by_cases hL : LB b
   ·rw [gE E hL] at h; exact h
   ·rw [dP E hL] at h; exact hi.jH b i v h
  ·intro s y hy
   have xQ : look (di 0 args) s = some y := hy
   rw [fK] at xQ
   obtain ⟨x, hx, cu⟩ := dK.get xQ
   obtain ⟨o, ho, R, hR⟩ := Ae s x hx
   have uC : vs.toArray.getD s undef = o := by
    simp [Array.getD_eq_getD_getElem?, ho]
   show RX E1 y (vs.toArray.getD s undef) []
   rw [uC]
   have ym : ∀ o ∈ L, ∀ b ∈ RR (.obj o), LB b := fun o ho b hb => ⟨o, ho, hb⟩
   have K3 : ∀ o ∈ L, ∀ ob, look st.ay o = some ob → iy ob := fun o ho ob aL => by
    obtain ⟨ss, h1, h2⟩ := h0 o ho
    rw [h1] at aL
    obtain rfl := Option.some.inj aL
    exact h2
   rcases cu with hl | ⟨us, vs, rfl, rfl, hl, _⟩
   ·exact hl.rx hi ym hle K3 hR
   ·simp only [RX] at hR ⊢
    obtain ⟨cs, hc, h2⟩ := hR
    exact ⟨cs, hc, hl.Kz hi ym hle K3 h2⟩
  ·intro j ob ho
   have kD : look (di 0 ay) j = some ob := ho
   rw [fK] at kD
   have hj : j < ay.length := by
    rcases Nat.lt_or_ge j ay.length with h' | h'
    ·exact h'
    ·simp [List.getElem?_eq_none h'] at kD
   have h1 := hi.ay _ _ (lH j ob kD)
   have nL : xU (.obj j) = RR (.obj (bs ν j)) := by simp [xU, hj]
   rw [nL]
   have h2 : dq (E.names (bs ν)) j ob (RR (.obj (bs ν j))) := dq.eu.2 h1
   refine dq.mono (E := E.names (bs ν)) ⟨hle, fun b hb => ⟨rfl, fun hφ i => ?_⟩⟩ rfl (fun _ _ _ _ => rfl) h2
   have : ¬ LB b := fun hL => Mm b hL ⟨j, hj, hb⟩
   show (E.eJ LB).φ b i = none
   rw [dP E this]; exact hφ i
  ·intro p
   cases p with
   | slot s => exact List.nodup_nil
   | obj j => by_cases hj : j < ay.length <;> simp [xU, hj, hi.nodup]
  ·intro p q jI b hb eO
   cases p with
   | slot s => cases hb
   | obj i =>
    cases q with
    | slot s => cases eO
    | obj j =>
     by_cases vG : i < ay.length
     ·by_cases kt : j < ay.length
      ·simp only [xU, vG, kt, if_true] at hb eO
       have er : bs ν i ≠ bs ν j := fun e => jI (by rw [HA i j vG kt e])
       exact hi.apart (.obj (bs ν i)) (.obj (bs ν j)) (by simpa using er) b hb eO
      ·simp [xU, kt] at eO
     ·simp [xU, vG] at hb
  ·intro p b hb
   cases p with
   | slot s => cases hb
   | obj j =>
    by_cases hj : j < ay.length
    ·simp only [xU, hj, if_true] at hb
     exact ⟨(hi.own _ _ hb).1, fun h => h.2 ⟨j, hj, hb⟩⟩
    ·simp [xU, hj] at hb
  ·intro b _; rfl
  ·exact Nat.le_refl _
  ·intro b hb; exact hb.1
  ·rfl
  ·rfl
  ·rfl
  ·intro b i v h; exact h
  ·intro b i v h; exact .inl h
  ·intro o _; rfl
  ·show vs.toArray.size = args.length
   have := dK.length
   simp; omega
  ·rfl
 refine (eR K1 E1 xU _ Mp).mono ?_
 rintro e w' ⟨v, r, a8, he, DR, tE, E', et, rfl, rr⟩
 refine ⟨v, r, a8, he, DR, tE, fun HB HC vO => ?_⟩
 -- what the callee leaves
 have Af : ∀ b, b < E.w.heap.size → ¬ PB b → E'.w.heap[b]? = E.w.heap[b]? := fun b h1 h2 => rr.au b ⟨h1, h2⟩
 have ei : E.w.heap.size ≤ E'.w.heap.size := rr.size
 let iW : Env := { φ := fun b i => if LB b then none else E'.φ b i, β := fun o => match eQ ν o with | some j => E'.β j | none => E.β o, w := E'.w }
 have yq : ∀ b i, LB b → iW.φ b i = none := fun b i h => by simp [iW, h]
 have p3 : ∀ b i, ¬ LB b → iW.φ b i = E'.φ b i := fun b i h => by simp [iW, h]
 have DS : ∀ b i v, E.φ b i = some v → iW.φ b i = some v := by
  intro b i v h
  have hn : ¬ LB b := fun hL => by rw [K0 b hL i] at h; cases h
  rw [p3 b i hn]
  refine rr.φ0 b i v ?_
  show (E.eJ LB).φ b i = some v
  exact hle b i v h
 have Bm : ∀ b, b < E.w.heap.size → ¬ PB b → (∀ i, E.φ b i = none) → ∀ i, iW.φ b i = none := by
  intro b hb hP hφ i
  by_cases hL : LB b
  ·exact yq b i hL
  ·rw [p3 b i hL]
   cases h : E'.φ b i with
   | none => rfl
   | some v =>
    rcases rr.grow b i v h with h1 | h1
    ·have DT : (E.eJ LB).φ b i = some v := h1
     rw [dP E hL, hφ i] at DT; cases DT
    ·exact absurd ⟨hb, hP⟩ h1
 have gq : ∀ R, (∀ b ∈ R, b < E.w.heap.size ∧ ¬ PB b) → E.On iW R := fun R h => ⟨DS, fun b hb => ⟨Af b (h b hb).1 (h b hb).2, Bm b (h b hb).1 (h b hb).2⟩⟩
 have hβ : ∀ o, o ∉ loose ν F → iW.β o = E.β o := by
  intro o ho
  show (match eQ ν o with | some j => E'.β j | none => E.β o) = E.β o
  cases hp : eQ ν o with
  | none => rfl
  | some j =>
   have h1 := kY hp
   have hF := uA ho h1
   have h2 := rr.fixed j hF
   have h3 : (pc K1 E1 ⟨1, F⟩).β0 j = E.β (bs ν j) := rfl
   rw [h3] at h2
   have h4 : bs ν j = o := by simp [bs, List.getD, h1]
   rw [h4] at h2
   exact h2
 have HD : ∀ j, j < ay.length → iW.β (bs ν j) = E'.β j := by
  intro j hj
  show (match eQ ν (bs ν j) with | some j => E'.β j | none => E.β (bs ν j)) = E'.β j
  rw [lF vN (CR j hj)]
 -- who owns what then
 let mT : Own → List Nat := fun p => match p with
  | .slot s => match look st.ax s with
   | some x => bif (loose ν F).any (fun o => x.cY o) then [] else RR (.slot s)
   | none => []
  | .obj o => match eQ ν o with
   | some j => et (.obj j)
   | none => RR (.obj o)
 have yr : ∀ s b, b ∈ mT (.slot s) → b ∈ RR (.slot s) := by
  intro s b hb
  simp only [mT] at hb
  cases hs : look st.ax s with
  | none => simp [hs] at hb
  | some x =>
   rw [hs] at hb
   simp only at hb
   cases hk : (loose ν F).any (fun o => x.cY o) with
   | true => simp [hk] at hb
   | false => simpa [hk] using hb
 have sJ : ∀ p b, b ∈ RR p → (∀ j, j < ay.length → p ≠ .obj (bs ν j)) → b < E.w.heap.size ∧ ¬ PB b := by
  intro p b hb hp
  refine ⟨(hi.own p b hb).1, ?_⟩
  rintro ⟨j, hj, eO⟩
  exact hi.apart p _ (hp j hj) b hb eO
 have pU : ∀ q b, b ∈ et q → b < E'.w.heap.size ∧ (E.w.heap.size ≤ b ∨ PB b) := by
  intro q b hb
  have h := rr.own q b hb
  refine ⟨h.1, ?_⟩
  by_cases xS : b < E.w.heap.size
  ·right
   by_cases hP : PB b
   ·exact hP
   ·exact absurd ⟨xS, hP⟩ h.2
  ·left; omega
 have sK : ∀ p b, b ∈ RR p → (∀ j, j < ay.length → p ≠ .obj (bs ν j)) → ∀ q, b ∉ et q := by
  intro p b hb hp q hq
  have h1 := sJ p b hb hp
  rcases (pU q b hq).2 with h | h
  ·omega
  ·exact h1.2 h
 have Ag : ∀ q b, b ∈ et q → ¬ G.K b := by
  intro q b hb hK
  rcases (pU q b hb).2 with h | ⟨j, hj, h⟩
  ·have := hi.small b hK; have := hi.size; omega
  ·exact (hi.own _ _ h).2 hK
 have yt : ∀ o j, eQ ν o = some j → j < ay.length ∧ bs ν j = o := by
  intro o j h
  have h1 := kY h
  have hj : j < ν.length := by
   rcases Nat.lt_or_ge j ν.length with h' | h'
   ·exact h'
   ·simp [List.getElem?_eq_none h'] at h1
  exact ⟨om, by simp [bs, List.getD, h1]⟩
 have tM : L = [] → ∀ b i, iW.φ b i = E'.φ b i := by
  intro hL b i
  refine p3 b i ?_
  rintro ⟨o, ho, _⟩
  rw [hL] at ho; cases ho
 have vP : ∀ b, (∀ i, E'.φ b i = none) → ∀ i, iW.φ b i = none := by
  intro b h i
  by_cases hL : LB b
  ·exact yq b i hL
  ·rw [p3 b i hL]; exact h i
 have ru : ∀ p b, b ∈ mT p → (b ∈ RR p ∧ ∀ j, j < ay.length → p ≠ .obj (bs ν j)) ∨ (∃ o j, p = .obj o ∧ eQ ν o = some j ∧ b ∈ et (.obj j)) := by
  intro p b hb
  cases p with
  | slot s => exact .inl ⟨yr s b hb, fun j hj => by simp⟩
  | obj o =>
   simp only [mT] at hb
   cases hp : eQ ν o with
   | some j => rw [hp] at hb; exact .inr ⟨o, j, rfl, hp, hb⟩
   | none =>
    rw [hp] at hb
    refine .inl ⟨hb, fun j hj e => kZ hp ?_⟩
    have : o = bs ν j := by simpa using e
    rw [this]; exact List.mem_of_getElem? (CR j hj)
 have vQ : Inv G iW mT (jQ st ν F a8) a := by
  refine { hi with jH := ?_, ax := ?_, ay := ?_, nodup := ?_, apart := ?_, own := ?_, au := ?_, size := ?_, os := ?_, tape := ?_, output := ?_, φ0 := ?_, grow := ?_, fixed := ?_ }
  ·intro b i v h
   by_cases hL : LB b
   ·rw [yq b i hL] at h; cases h
   ·rw [p3 b i hL] at h; exact rr.jH b i v h
  ·intro s y hy
   have xQ : look ((st.ax).map fun p => (p.1, AW.cS (loose ν F) p.2)) s = some y := hy
   rw [jK (AW.cS (loose ν F))] at xQ
   cases hs : look st.ax s with
   | none => simp [hs] at xQ
   | some x =>
    rw [hs] at xQ
    simp only [Option.map_some, Option.some.injEq] at xQ
    subst xQ
    cases hk : (loose ν F).any (fun o => x.cY o) with
    | true =>
     have : mT (.slot s) = [] := by simp [mT, hs, hk]
     rw [this]
     simp [AW.cS, hk, RX]
    | false =>
     have : mT (.slot s) = RR (.slot s) := by simp [mT, hs, hk]
     rw [this]
     simp only [AW.cS, hk, cond_false]
     refine RX.mono x _ _ (gq _ (fun b hb => sJ _ b hb (fun j hj => by simp))) (fun o ho => hβ o (fun pa => ?_)) (hi.ax s x hs)
     have : (loose ν F).any (fun o => x.cY o) = true := List.any_eq_true.2 ⟨o, pa, ho⟩
     rw [hk] at this; cases this
  ·intro o ob ho
   have kD : look (ν.zip (a8.map (Obj.eu (bs ν))) ++ (st.ay.map fun p => (p.1, p.2.cS (loose ν F)))) o = some ob := ho
   rw [rp (by simp [tE, hlen])] at kD
   cases hp : eQ ν o with
   | some j =>
    rw [hp] at kD
    simp only [List.getElem?_map, Option.map_eq_some_iff] at kD
    obtain ⟨ss, yu, rfl⟩ := kD
    obtain ⟨hj, Mq⟩ := yt o j hp
    have u7 : mT (.obj o) = et (.obj j) := by simp [mT, hp]
    rw [u7, ← Mq]
    have h1 : dq E' j ss (et (.obj j)) := rr.ay j ss (by rw [fK]; exact yu)
    have DU : ss ∈ a8 := List.mem_of_getElem? yu
    refine dq.eu.1 (?_ : dq (iW.names (bs ν)) j ss (et (.obj j)))
    have h3 : dq { E' with φ := iW.φ } j ss (et (.obj j)) := by
     rcases vO with hL | vm
     ·exact dq.mono (E := E') ⟨fun b i v h => by show iW.φ b i = _; rw [tM hL b i]; exact h, fun b _ => ⟨rfl, fun h i => by show iW.φ b i = _; rw [tM hL b i]; exact h i⟩⟩ rfl (fun _ _ _ _ => rfl) h1
     ·exact dq.off (E := E') (vm.2 ss DU) (fun b _ => ⟨rfl, vP b⟩) (fun _ => rfl) h1
    refine dq.mono (E := { E' with φ := iW.φ }) ⟨fun _ _ _ h => h, fun b _ => ⟨rfl, fun h => h⟩⟩ (HD j hj) (fun ys qW q hq => ?_) h3
    subst qW
    exact HD q (X.gK (HC _ DU) hq)
   | none =>
    rw [hp] at kD
    simp only at kD
    rw [jK (Obj.cS (loose ν F))] at kD
    cases hs : look st.ay o with
    | none => simp [hs] at kD
    | some Ds =>
     rw [hs] at kD
     simp only [Option.map_some, Option.some.injEq] at kD
     subst kD
     have u7 : mT (.obj o) = RR (.obj o) := by simp [mT, hp]
     rw [u7]
     have DV : ∀ j, j < ay.length → Own.obj o ≠ .obj (bs ν j) := fun j hj e => kZ hp (by
      have : o = bs ν j := by simpa using e
      rw [this]; exact List.mem_of_getElem? (CR j hj))
     have pd := gq _ (fun b hb => sJ _ b hb DV)
     have jD := hi.ay o Ds hs
     have HE : iW.β o = E.β o := by
      show (match eQ ν o with | some j => E'.β j | none => E.β o) = E.β o
      rw [hp]
     cases Ds with
     | cells ys =>
      simp only [Obj.cS, dq] at jD ⊢
      obtain ⟨nz, B, cs, tb, hB, hw, hf, DW, il, gr⟩ := jD
      have h2 := pd.2 B.b (by rw [gr]; simp)
      exact ⟨mV _ nz, B, cs, tb, HE.trans hB, h2.1.trans hw, h2.2 hf, by simpa using DW,
       RO.mono _ cs _ [] (pd.sub (fun _ h => by cases h)) (fun q hq => hβ q (mW hq)) (RO.cS nz il), gr⟩
     | rows s rs => exact dq.mono pd HE (fun ys h => by cases h) jD
     | s4 es => exact dq.mono pd HE (fun ys h => by cases h) jD
     | gone => simpa [Obj.cS, dq] using jD
  ·intro p
   cases p with
   | slot s =>
    simp only [mT]
    cases hs : look st.ax s with
    | none => exact List.nodup_nil
    | some x =>
     simp only
     cases (loose ν F).any (fun o => x.cY o) with
     | true => exact List.nodup_nil
     | false => exact hi.nodup _
   | obj o =>
    simp only [mT]
    cases eQ ν o with
    | some j => exact rr.nodup _
    | none => exact hi.nodup _
  ·intro p q jI b hb eO
   rcases ru p b hb with ⟨h1, h2⟩ | ⟨o, j, rfl, hp, h1⟩
   ·rcases ru q b eO with ⟨h3, h4⟩ | ⟨o', j', rfl, CQ, h3⟩
    ·exact hi.apart p q jI b h1 h3
    ·exact sK p b h1 h2 _ h3
   ·rcases ru q b eO with ⟨h3, h4⟩ | ⟨o', j', rfl, CQ, h3⟩
    ·exact sK q b h3 h4 _ h1
    ·have Mr : j ≠ j' := fun e => by
      subst e
      have := (yt o j hp).2.symm.trans (yt o' j CQ).2
      exact jI (by rw [this])
     exact rr.apart (.obj j) (.obj j') (by simpa using Mr) b h1 h3
  ·intro p b hb
   rcases ru p b hb with ⟨h1, h2⟩ | ⟨o, j, rfl, hp, h1⟩
   ·have h4 := hi.own p b h1
    exact ⟨Nat.lt_of_lt_of_le h4.1 ei, h4.2⟩
   ·exact ⟨(pU _ b h1).1, Ag _ b h1⟩
  ·intro b hK
   have h1 : b < E.w.heap.size := Nat.lt_of_lt_of_le (hi.small b hK) hi.size
   have h2 : ¬ PB b := fun ⟨j, hj, h⟩ => (hi.own _ _ h).2 hK
   have := Af b h1 h2
   exact this.trans (hi.au b hK)
  ·exact Nat.le_trans hi.size ei
  ·exact rr.os.trans hi.os
  ·exact rr.tape.trans hi.tape
  ·exact rr.output.trans hi.output
  ·exact fun b i v h => DS b i v (hi.φ0 b i v h)
  ·intro b i v h
   by_cases hL : LB b
   ·rw [yq b i hL] at h; cases h
   ·rw [p3 b i hL] at h
    rcases rr.grow b i v h with h1 | h1
    ·have DT : (E.eJ LB).φ b i = some v := h1
     rw [dP E hL] at DT
     exact hi.grow b i v DT
    ·right
     intro hK
     exact h1 ⟨Nat.lt_of_lt_of_le (hi.small b hK) hi.size, fun ⟨j, hj, h⟩ => (hi.own _ _ h).2 hK⟩
  ·intro o ho
   rw [hβ o (fun pa => by rw [yp o pa] at ho; cases ho)]
   exact hi.fixed o ho
 have hr : RX iW (r.eu (bs ν)) v (et (.slot 0)) := by
  have h1 : RX E' r v (et (.slot 0)) := rr.ax 0 r rfl
  have h3 : RX { E' with φ := iW.φ } r v (et (.slot 0)) := by
   rcases vO with hL | vm
   ·exact RX.mono (E := E') r _ _ ⟨fun b i v h => by show iW.φ b i = _; rw [tM hL b i]; exact h, fun b _ => ⟨rfl, fun h i => by show iW.φ b i = _; rw [tM hL b i]; exact h i⟩⟩ (fun _ _ => rfl) h1
   ·exact RX.off (E := E') r _ _ vm.1 (fun b _ => ⟨rfl, vP b⟩) (fun _ => rfl) h1
  refine (RX.eu r v _).1 (?_ : RX (iW.names (bs ν)) r v (et (.slot 0)))
  exact RX.mono (E := { E' with φ := iW.φ }) r _ _ ⟨fun _ _ _ h => h, fun b _ => ⟨rfl, fun h => h⟩⟩ (fun q hq => HD q (X.tL HB hq)) h3
 refine ⟨iW, _, rfl, vQ.put hd hr (rr.nodup _) (fun b hb => ⟨(pU _ b hb).1, Ag _ b hb, fun p _ u6 => ?_⟩)⟩
 rcases ru p b u6 with ⟨h1, h2⟩ | ⟨o, j, rfl, hp, h1⟩
 ·exact sK p b h1 h2 _ hb
 ·exact rr.apart (.slot 0) (.obj j) (by simp) b hb h1
theorem Inv.call {G : Ctx} {E : Env} {RR : Own → List Nat} {a : Act} {f : FuncId} {bF : List Operand} {xs args : List X} {ay : List Obj} {F ν L : List Nat} {Q' : X → List Obj → Prop} (hi : Inv G E RR st a) (eR : ak P f args ay F Q')
  (eM : iq st bF = some xs) (dK : cL st L (bs ν) xs args) (lH : ∀ j ob, ay[j]? = some ob → look st.ay (bs ν j) = some (ob.eu (bs ν))) (hlen : ν.length = ay.length) (vN : ν.Nodup) (yo : ∀ o ∈ L, o ∉ ν)
  (h0 : ∀ o ∈ L, ∃ ob, look st.ay o = some ob ∧ iy ob) (yp : ∀ o ∈ loose ν F, G.fn.F.elem o = false) (hd : d < G.fn.n) :
  Calls P f (bF.map a.eval).toArray E.w fun e w' => ∃ v r a8, e = .returned v ∧ Q' r a8 ∧ a8.length = ay.length ∧
   (r.lt ay.length = true → (∀ ob ∈ a8, ob.lt ay.length = true) → (L = [] ∨ (r.plain ∧ ∀ ob ∈ a8, ob.plain)) → ∃ iW pT, iW.w = w' ∧ Inv G iW pT ((jQ st ν F a8).put d (r.eu (bs ν))) (a.put (some d) v)) := by
 obtain ⟨vr, Ae⟩ := lG hi eM
 exact hi.Ad eR (by simpa using vr) (fun j x hx => by
  obtain ⟨o, ho, R, hR⟩ := Ae j x hx
  exact ⟨a.eval o, by simp [ho], R, hR⟩) dK lH hlen vN yo h0 yp hd
theorem aa.call {f : FuncId} {bF : Array Operand} {l5 : Array TypeId} {xs args : List X} {ay : List Obj} {F : List Nat} {Q' : X → List Obj → Prop} (ν L : List Nat) (mX : aJ P f = true) (eR : ak P f args ay F Q')
  (eM : iq st bF.toList = some xs) (dK : cL st L (bs ν) xs args) (lH : ∀ j ob, ay[j]? = some ob → look st.ay (bs ν j) = some (ob.eu (bs ν))) (hlen : ν.length = ay.length) (vN : ν.Nodup) (yo : ∀ o ∈ L, o ∉ ν)
  (h0 : ∀ o ∈ L, ∃ ob, look st.ay o = some ob ∧ iy ob) (yp : ∀ o ∈ loose ν F, N.F.elem o = false) (hd : d < N.n)
  (k : ∀ r a8, Q' r a8 → a8.length = ay.length → (r.lt ay.length = true ∧ (∀ ob ∈ a8, ob.lt ay.length = true) ∧ (L = [] ∨ (r.plain ∧ ∀ ob ∈ a8, ob.plain))) ∧ aa P N all rest ((jQ st ν F a8).put d (r.eu (bs ν))) Q) :
  aa P N all (⟨some d, .call ⟨.value (.func f), bF, l5⟩, ty, pos, af, none⟩ :: rest) st Q := by
 intro G hn a w hh
 obtain ⟨E, RR, rfl, hi⟩ := hh
 have hc := hi.call eR eM dK lH hlen vN yo h0 (fun o ho => by rw [hn]; exact yp o ho) (d := d) (by rw [hn]; exact hd)
 have fJ : (execOp a.eval ⟨some d, .call ⟨.value (.func f), bF, l5⟩, ty, pos, af, none⟩).run P E.w = .ok (.enter f (bF.toList.map a.eval).toArray) E.w := by
  have e : (execOp a.eval ⟨some d, .call ⟨.value (.func f), bF, l5⟩, ty, pos, af, none⟩).run P E.w = (callFunc f ((#[] ++ bF.map a.eval) ++ #[])).run P E.w := rfl
  rw [e, nR mX]
  congr 2
  apply Array.ext'
  simp
 refine wpList_plain rfl fun K hK => ?_
 simp only [Oper.wp, fJ, Oper.upon_enter]
 refine hc.mono ?_
 rintro e w' ⟨v, r, a8, rfl, DR, tE, vR⟩
 obtain ⟨⟨h1, h2, h3⟩, hk⟩ := k r a8 DR tE
 obtain ⟨iW, pT, hw, hI⟩ := vR h1 h2 h3
 exact hK _ _ (hk G hn _ _ ⟨iW, pT, hw, hI⟩)
end
end Go.AW
namespace Go.AW
open Go
section
variable {P : Program} {N : dJ} {st : St} {Q : Exit → St → Prop} {all : Array Oper} {rest : List Oper} {d : Nat} {ty : TypeId} {pos : String} {af : Array Edge}
theorem ah.aK {c : Operand} {x y : Code} (hc : bu st c = some (.v (.bool true))) (h : ah P N x st Q) : ah P N (.cond c x y) st Q := ah.cond hc (fun _ => h) (fun h => by cases h)
theorem ah.cT {c : Operand} {x y : Code} (hc : bu st c = some (.v (.bool false))) (h : ah P N y st Q) : ah P N (.cond c x y) st Q := ah.cond hc (fun h => by cases h) (fun _ => h)
section ints
variable {dst : Option Nat} {g : Option (Nat × Bool)} {t t' : TypeId} {x y : Operand} {a b : Int}
theorem Y.qb (hx : bu st x = some (.v (.int .i64 a))) (hy : bu st y = some (.v (.int .i64 b))) (hr : -9223372036854775808 ≤ a + b ∧ a + b ≤ 9223372036854775807) : Yields P N st ⟨dst, .binOp .add t x y t', ty, pos, af, g⟩ (.v (.int .i64 (a + b))) :=
 Y.qa hx hy (IntWalk.i64_in _ hr)
theorem Y.zv (hx : bu st x = some (.v (.int .i64 a))) (hy : bu st y = some (.v (.int .i64 b))) (hr : -9223372036854775808 ≤ a - b ∧ a - b ≤ 9223372036854775807) : Yields P N st ⟨dst, .binOp .sub t x y t', ty, pos, af, g⟩ (.v (.int .i64 (a - b))) :=
 Y.zu hx hy (IntWalk.i64_in _ hr)
theorem Y.zf (hx : bu st x = some (.v (.int .i64 a))) (hy : bu st y = some (.v (.int .i64 b))) (hr : -9223372036854775808 ≤ a * b ∧ a * b ≤ 9223372036854775807) : Yields P N st ⟨dst, .binOp .mul t x y t', ty, pos, af, g⟩ (.v (.int .i64 (a * b))) :=
 Y.ze hx hy (IntWalk.i64_in _ hr)
theorem Y.zl (hx : bu st x = some (.v (.int .i64 a))) (hy : bu st y = some (.v (.int .i64 b))) (hr : 0 ≤ a ∧ a ≤ 9223372036854775807 ∧ 1 ≤ b) : Yields P N st ⟨dst, .binOp .quo t x y t', ty, pos, af, g⟩ (.v (.int .i64 (a / b))) :=
 Y.zk hx hy om (IntWalk.i64_quo a b hr)
theorem Y.zn {k : IntKind} (hx : bu st x = some (.v (.int k a))) (hy : bu st y = some (.v (.int k b))) (hr : 0 ≤ a ∧ 1 ≤ b) : Yields P N st ⟨dst, .binOp .rem t x y t', ty, pos, af, g⟩ (.v (.int k (a % b))) :=
 Y.zm hx hy om (IntWalk.rem_in a b hr.1)
end ints
theorem p4 (x : X) : cS [] x = x := rfl
theorem la (st : St) : jQ st [] [] [] = st := by
 have h1 : ∀ (l : List (Nat × X)), l.map (fun p => (p.1, AW.cS [] p.2)) = l := by
  intro l
  induction l with
  | nil => rfl
  | cons p r ih => simp [p4]
 have h2 : ∀ ob : Obj, ob.cS [] = ob := by
  intro ob
  cases ob with
  | cells xs =>
   have : xs.map (AW.cS []) = xs := by
    induction xs with
    | nil => rfl
    | cons x r ih => simp [ih, p4]
   simp [Obj.cS, this]
  | rows => rfl
  | s4 => rfl
  | gone => rfl
 have h3 : ∀ (l : List (Nat × Obj)), l.map (fun p => (p.1, p.2.cS [])) = l := by
  intro l
  induction l with
  | nil => rfl
  | cons p r ih => simp [h2]
 cases st
 simp [jQ, St.cS, loose, di, h1, h3]
def lb (st : St) (ν : Nat → Nat) : Nat → List Obj → Prop
 | _, [] => True
 | j, ob :: r => look st.ay (ν j) = some (ob.eu ν) ∧ lb st ν (j + 1) r
theorem lb.get {ν : Nat → Nat} : ∀ {ay : List Obj} {i : Nat}, lb st ν i ay → ∀ j ob, ay[j]? = some ob → look st.ay (ν (i + j)) = some (ob.eu ν)
 | [], _, _, _, _, h => by simp at h
 | o :: r, i, h, j, ob, hj => by
  simp only [lb] at h
  cases j with
  | zero => simp at hj; subst hj; simpa using h.1
  | succ j =>
   have := lb.get h.2 j ob (by simpa using hj)
   rw [show i + (j + 1) = i + 1 + j by omega]; exact this
theorem aa.p5 {f : FuncId} {bF : Array Operand} {l5 : Array TypeId} {xs args : List X} {Q' : X → List Obj → Prop} (mX : aJ P f = true) (eR : ak P f args [] [] Q')
  (eM : iq st bF.toList = some xs) (dK : cL st [] (bs []) xs args) (hd : d < N.n)
  (k : ∀ r, Q' r [] → r.lt 0 = true ∧ aa P N all rest (st.put d (r.eu (bs []))) Q) :
  aa P N all (⟨some d, .call ⟨.value (.func f), bF, l5⟩, ty, pos, af, none⟩ :: rest) st Q := by
 refine aa.call [] [] mX eR eM dK (fun j ob h => by simp at h) rfl List.nodup_nil (fun _ h => by cases h) (fun _ h => by cases h) (fun _ h => by cases h) hd ?_
 intro r a8 hq hl
 have : a8 = [] := List.eq_nil_of_length_eq_zero hl
 subst this
 obtain ⟨h1, h2⟩ := k r hq
 refine ⟨⟨h1, fun _ h => (by cases h), .inl rfl⟩, ?_⟩
 rw [la]; exact h2
theorem aa.DX {f : FuncId} {bF : Array Operand} {l5 : Array TypeId} {xs args : List X} {R R' : X} (mX : aJ P f = true) (eR : ak P f args [] [] (fun r o => r = R ∧ o = []))
  (eM : iq st bF.toList = some xs) (dK : cL st [] (bs []) xs args) (hd : d < N.n) (gA : R.lt 0 = true) (hR : R.eu (bs []) = R')
  (k : aa P N all rest (st.put d R') Q) : aa P N all (⟨some d, .call ⟨.value (.func f), bF, l5⟩, ty, pos, af, none⟩ :: rest) st Q := by
 refine aa.p5 mX eR eM dK hd ?_
 rintro r ⟨rfl, _⟩
 rw [hR]; exact ⟨gA, k⟩
theorem aa.DY {f : FuncId} {bF : Array Operand} {l5 : Array TypeId} {xs args : List X} {R R' : X} (L : List Nat) (mX : aJ P f = true) (eR : ak P f args [] [] (fun r o => r = R ∧ o = []))
  (eM : iq st bF.toList = some xs) (dK : cL st L (bs []) xs args) (h0 : ∀ o ∈ L, ∃ ob, look st.ay o = some ob ∧ iy ob) (hd : d < N.n) (gA : R.lt 0 = true) (hR : R.eu (bs []) = R') (hp : R.plain)
  (k : aa P N all rest (st.put d R') Q) : aa P N all (⟨some d, .call ⟨.value (.func f), bF, l5⟩, ty, pos, af, none⟩ :: rest) st Q := by
 refine aa.call [] L mX eR eM dK (fun j ob h => by simp at h) rfl List.nodup_nil (fun _ _ h => by cases h) h0 (fun _ h => by cases h) hd ?_
 rintro r a8 ⟨rfl, rfl⟩ hl
 refine ⟨⟨gA, fun _ h => (by cases h), .inr ⟨hp, fun _ h => (by cases h)⟩⟩, ?_⟩
 rw [la, hR]; exact k
theorem aa.bc {f : FuncId} {bF : Array Operand} {l5 : Array TypeId} {xs args : List X} {ay : List Obj} {F : List Nat} {Q' : X → List Obj → Prop} (ν L : List Nat) (mX : aJ P f = true) (eR : ak P f args ay F Q')
  (eM : iq st bF.toList = some xs) (dK : cL st L (bs ν) xs args) (lH : lb st (bs ν) 0 ay) (hlen : ν.length = ay.length) (vN : ν.Nodup) (yo : ∀ o ∈ L, o ∉ ν)
  (h0 : ∀ o ∈ L, ∃ ob, look st.ay o = some ob ∧ iy ob) (yp : ∀ o ∈ loose ν F, N.F.elem o = false) (hd : d < N.n)
  (k : ∀ r a8, Q' r a8 → a8.length = ay.length → (r.lt ay.length = true ∧ (∀ ob ∈ a8, ob.lt ay.length = true) ∧ (L = [] ∨ (r.plain ∧ ∀ ob ∈ a8, ob.plain))) ∧ aa P N all rest ((jQ st ν F a8).put d (r.eu (bs ν))) Q) :
  aa P N all (⟨some d, .call ⟨.value (.func f), bF, l5⟩, ty, pos, af, none⟩ :: rest) st Q :=
 aa.call ν L mX eR eM dK (fun j ob h => by have := lH.get j ob h; rwa [Nat.zero_add] at this) hlen vN yo h0 yp hd k
theorem vS {α : Type} {s : Nat} {f : α → List X} {l : List α} (h : ∀ a, X.aW (f a) = true) : iy (.rows s (l.map f)) := by
 intro r hr
 obtain ⟨a, _, rfl⟩ := List.mem_map.1 hr
 exact h a
end
end Go.AW
namespace Go.AW
open Go
section
variable {P : Program} {N : dJ} {st : St} {Q : Exit → St → Prop} {K : St → Prop} {all : Array Oper} {rest : List Oper} {d : Nat} {ty : TypeId} {pos : String} {af : Array Edge}
def aY (P : Program) (N : dJ) (all : Array Oper) (l : List Oper) (st : St) (K : St → Prop) : Prop :=
 ∀ G : Ctx, G.fn = N → ∀ a w, bO G st a w → wpStill P all w (fun a' => ∃ aQ, K aQ ∧ bO G aQ a' w) l a
theorem bO.drew {G : Ctx} {a : Act} {w : World} (h : bO G st a w) : bO G st a { w with drawn := w.drawn + 1 } := by
 obtain ⟨E, RR, rfl, hi⟩ := h
 exact ⟨{ E with w := E.w.drew }, RR, rfl, hi.tF (cb.drew G E) rfl⟩
theorem aY.nil (h : K st) : aY P N all [] st K := fun _ _ _ _ hh => ⟨st, h, hh⟩
theorem aY.val {op : Op} {x : X} (hy : Yields P N st ⟨some d, op, ty, pos, af, none⟩ x) (hd : d < N.n) (k : aY P N all rest (st.put d x) K) : aY P N all (⟨some d, op, ty, pos, af, none⟩ :: rest) st K := by
 intro G hn a w hh
 obtain ⟨E, RR, rfl, hi⟩ := hh
 obtain ⟨u, hr, hx⟩ := hy G E RR a hn hi
 unfold wpStill
 rw [if_pos (by simp [Region.wanted])]
 simp only [Oper.still, hr, Oper.stillUpon_value]
 exact k G hn _ _ ⟨E, _, rfl, hi.eP (hn ▸ hd) hx⟩
theorem aY.split {b : Bool} (hx : look st.ax d = some (.v (.bool b))) (ht : b = true → aY P N all rest (st.put d (.v (.bool true))) K) (hf : b = false → aY P N all rest (st.put d (.v (.bool false))) K) : aY P N all rest st K := by
 have : Le st (st.put d (.v (.bool b))) := ⟨eC.cons hx (fun _ _ h => h), fun _ _ h => h⟩
 intro G hn a w hh
 cases b
 ·exact hf rfl G hn a w (this.holds hh)
 ·exact ht rfl G hn a w (this.holds hh)
theorem uD {G : Ctx} {E : Env} {RR : Own → List Nat} {a : Act} (hi : Inv G E RR st a) {b : Bool} (hd : d < G.fn.n) (hx : look st.ax d = some (.v (.bool b))) : a.tmps[d]? = some (.bool b) := by
 have hs := hi.ax d _ hx
 simp only [RX] at hs
 have ei : d < a.tmps.size := by rw [hi.tmps]; exact hd
 have := hs.1
 simp only [Array.getD, ei, dif_pos] at this
 rw [Array.getElem?_eq_getElem ei]
 exact congrArg some this
theorem aY.aH {dst : Option Nat} {op : Op} {j : Nat} {want : Bool} (hj : (all[j]?).bind (·.dst) = some d) (hd : d < N.n) (hx : look st.ax d = some (.v (.bool want)))
  (k : aY P N all (⟨dst, op, ty, pos, af, none⟩ :: rest) st K) : aY P N all (⟨dst, op, ty, pos, af, some (j, want)⟩ :: rest) st K := by
 intro G hn a w hh
 have hk := k G hn a w hh
 obtain ⟨E, RR, rfl, hi⟩ := hh
 have hv := uD hi (by rw [hn]; exact hd) hx
 have hw : Region.wanted ⟨dst, op, ty, pos, af, some (j, want)⟩ (yielded all a.tmps) = true := by
  simp [Region.wanted, yielded, hj, hv]
 unfold wpStill at hk ⊢
 rw [if_pos hw]
 rw [if_pos (by simp [Region.wanted])] at hk
 exact hk
theorem ah.n6 {id : Nat} {l : List Oper} (n : Nat) (hm : P.follows .mixedOrders = true) (hB : Region.lexTailB .any l.toArray n = true)
  (h : aY P N l.toArray (l.take n) st (fun aQ => aa P N l.toArray (l.drop n) aQ Q)) : ah P N (.region id l.toArray true) st Q := by
 intro G hn a w hh
 refine wp_region_still_tail n hm hB ?_
 have h1 := h G hn a _ hh.drew
 have mono : ∀ (l' : List Oper) (a : Act) {w : World} {K1 K2 : Act → Prop}, (∀ a, K1 a → K2 a) → wpStill P l.toArray w K1 l' a → wpStill P l.toArray w K2 l' a := by
  intro l'
  induction l' with
  | nil => intro a w K1 K2 hk h; exact hk _ h
  | cons o r ih =>
   intro a w K1 K2 hk h
   unfold wpStill at h ⊢
   split
   ·rename_i hw; rw [if_pos hw] at h; exact Oper.still_mono (fun a' h' => ih a' hk h') h
   ·rename_i hw; rw [if_neg hw] at h; exact ih _ hk h
 exact mono _ _ (fun a' ⟨aQ, hk, fI⟩ => hk G hn a' _ fI) h1
theorem ah.iz {id : Nat} {l : List Oper} (hm : P.follows .mixedOrders = true) (hB : Region.lexB .any l.toArray = true)
  (h : aY P N l.toArray l st (fun aQ => Q .normal aQ)) : ah P N (.region id l.toArray true) st Q := by
 intro G hn a w hh
 refine wp_region_still_lit hm hB ?_
 have h1 := h G hn a _ hh.drew
 have mono : ∀ (l' : List Oper) (a : Act) {w : World} {K1 K2 : Act → Prop}, (∀ a, K1 a → K2 a) → wpStill P l.toArray w K1 l' a → wpStill P l.toArray w K2 l' a := by
  intro l'
  induction l' with
  | nil => intro a w K1 K2 hk h; exact hk _ h
  | cons o r ih =>
   intro a w K1 K2 hk h
   unfold wpStill at h ⊢
   split
   ·rename_i hw; rw [if_pos hw] at h; exact Oper.still_mono (fun a' h' => ih a' hk h') h
   ·rename_i hw; rw [if_neg hw] at h; exact ih _ hk h
 exact mono _ _ (fun a' ⟨aQ, hk, fI⟩ => ⟨aQ, fI, hk⟩) h1
end
end Go.AW
namespace Go.AW
open Go
section
variable {P : Program} {N : dJ} {st aQ : St} {Q : Exit → St → Prop} {K : St → Prop} {all : Array Oper} {rest : List Oper} {d : Nat} {ty : TypeId} {pos : String} {af : Array Edge}
theorem ah.a9 {c : Operand} {x y : Code} {p : Prop} {inst : Decidable p} (hc : bu st c = some (.v (.bool (decide p)))) (ht : p → ah P N x st Q) (hf : ¬ p → ah P N y st Q) :
  ah P N (.cond c x y) st Q := ah.cond hc (fun h => ht (of_decide_eq_true h)) (fun h => hf (of_decide_eq_false h))
theorem ah.gT {c : Operand} {x y : Code} {p : Prop} {inst : Decidable p} (hc : bu st c = some (.v (.bool (!decide p)))) (ht : ¬ p → ah P N x st Q) (hf : p → ah P N y st Q) :
 ah P N (.cond c x y) st Q := ah.cond hc (fun h => ht (by simpa using h)) (fun h => hf (by simpa using h))
theorem Le.test {b : Bool} (hx : look st.ax d = some (.v (.bool b))) : Le st (st.put d (.v (.bool b))) := ⟨eC.cons hx (fun _ _ h => h), fun _ _ h => h⟩
theorem ah.vT {x y : Code} {b : Bool} (hc : look st.ax d = some (.v (.bool b))) (ht : b = true → ah P N x (st.put d (.v (.bool true))) Q) (hf : b = false → ah P N y (st.put d (.v (.bool false))) Q) :
  ah P N (.cond (.tmp d) x y) st Q := by
 refine ah.cond (b := b) hc (fun h => ?_) (fun h => ?_)
 ·subst h; exact (ht rfl).le (Le.test hc)
 ·subst h; exact (hf rfl).le (Le.test hc)
theorem ah.aZ {x y : Code} {p : Prop} {inst : Decidable p} (hc : look st.ax d = some (.v (.bool (decide p)))) (ht : p → ah P N x (st.put d (.v (.bool true))) Q) (hf : ¬ p → ah P N y (st.put d (.v (.bool false))) Q) :
  ah P N (.cond (.tmp d) x y) st Q := ah.vT hc (fun h => ht (of_decide_eq_true h)) (fun h => hf (of_decide_eq_false h))
theorem aa.aw {p : Prop} {inst : Decidable p} (hx : look st.ax d = some (.v (.bool (decide p))))
  (ht : p → aa P N all rest (st.put d (.v (.bool true))) Q) (hf : ¬ p → aa P N all rest (st.put d (.v (.bool false))) Q) : aa P N all rest st Q :=
 aa.split hx (fun h => ht (of_decide_eq_true h)) (fun h => hf (of_decide_eq_false h))
theorem aa.lf {p : Prop} {inst : Decidable p} (hx : look st.ax d = some (.v (.bool (!decide p))))
 (ht : ¬ p → aa P N all rest (st.put d (.v (.bool true))) Q) (hf : p → aa P N all rest (st.put d (.v (.bool false))) Q) : aa P N all rest st Q :=
 aa.split hx (fun h => ht (by simpa using h)) (fun h => hf (by simpa using h))
theorem aY.aw {p : Prop} {inst : Decidable p} (hx : look st.ax d = some (.v (.bool (decide p))))
  (ht : p → aY P N all rest (st.put d (.v (.bool true))) K) (hf : ¬ p → aY P N all rest (st.put d (.v (.bool false))) K) : aY P N all rest st K :=
 aY.split hx (fun h => ht (of_decide_eq_true h)) (fun h => hf (of_decide_eq_false h))
theorem ah.join {x y : Code} {ι : Type} (J : ι → St) (I : ι → Prop) (hx : ah P N x st (iU (fun aQ => ∃ i, I i ∧ Le aQ (J i)) Q)) (hy : ∀ i, I i → ah P N y (J i) Q) : ah P N (.seq x y) st Q := by
 refine ah.seq (hx.mono ?_)
 intro e xV h
 cases e with
 | normal => obtain ⟨i, hI, hle⟩ := h; exact (hy i hI).le hle
 | _ => exact h
theorem cL.au {L : List Nat} {ν : Nat → Nat} {x : X} {xs ys : List X} (h : x.free = true) (he : x.eu ν = x) (hs : cL st L ν xs ys) : cL st L ν (x :: xs) (x :: ys) := by
 have := rm.same (st := st) (L := L) (ν := ν) h
 rw [he] at this
 exact .cons this hs
def du (rs : List (List X)) : Prop := ∀ r ∈ rs, X.aW r = true
theorem du.map {α : Type} {f : α → List X} {l : List α} (h : ∀ a, X.aW (f a) = true) : du (l.map f) := by
 intro r hr
 obtain ⟨a, _, rfl⟩ := List.mem_map.1 hr
 exact h a
theorem Sh.freeze {s : Nat} {rows : List (List X)} (hx : look st.ax d = some (.cX s rows)) (hf : du rows) : Sh N st (st.put d (.fz s rows)) := by
 intro G hn a w hh
 obtain ⟨E, RR, rfl, hi⟩ := hh
 have hv := hi.ax d _ hx
 have iw := hi.nodup (.slot d)
 simp only [RX] at hv
 obtain ⟨hu, base, cap, hc, cu⟩ := hv
 rcases cu with ⟨h1, h2, h3⟩ | ⟨b, off, cs, ty, R', hb, hw, hl, ho, hφ, il, gr⟩
 ·refine ⟨E, _, rfl, hi.relabel (d := d) (R := []) ?_ List.nodup_nil (fun _ h => by cases h)⟩
  simp only [RX]
  exact ⟨trivial, hu, base, cap, hc, .inl ⟨h1, h2⟩⟩
 ·have yn := bM.free hf il
  subst yn
  have jO : b ∈ RR (.slot d) := by rw [gr]; simp
  have j5 := hi.no d
  have hle : ∀ c i v, E.φ c i = some v → (if c = b then cs[i]? else E.φ c i) = some v := by
   intro c i v h
   by_cases n7 : c = b
   ·subst n7; rw [hφ i] at h; cases h
   ·rw [if_neg n7]; exact h
  have gq : ∀ R : List Nat, b ∉ R → E.On { E with φ := fun c i => if c = b then cs[i]? else E.φ c i } R := by
   intro R AY
   refine ⟨hle, fun c lB => ⟨rfl, fun h i => ?_⟩⟩
   have : c ≠ b := fun e => AY (e ▸ lB)
   show (if c = b then cs[i]? else E.φ c i) = none
   rw [if_neg this]; exact h i
  have Bn : ∀ p, b ∉ en RR (.slot d) [] p := by
   intro p hp
   unfold en at hp
   split at hp
   ·cases hp
   ·rename_i h; exact hi.apart _ _ h b hp jO
  have HF : Inv G { E with φ := fun c i => if c = b then cs[i]? else E.φ c i } (en RR (.slot d) []) (st.put d .no) a :=
   {j5 with
    jH := by
     intro c i v h
     change (if c = b then cs[i]? else E.φ c i) = some v at h
     by_cases n7 : c = b
     ·subst n7; rw [if_pos rfl] at h
      show E.w.cell? _ = _
      rw [bZ hw]; exact h
     ·rw [if_neg n7] at h; exact hi.jH c i v h
    ax := fun q x hx => RX.mono x _ _ (gq _ (Bn _)) (fun _ _ => rfl) (j5.ax q x hx)
    ay := fun o ob aL => dq.mono (gq _ (Bn _)) rfl (fun _ _ _ _ => rfl) (j5.ay o ob aL)
    φ0 := fun c i v h => hle c i v (hi.φ0 c i v h)
    grow := by
     intro c i v h
     change (if c = b then cs[i]? else E.φ c i) = some v at h
     by_cases n7 : c = b
     ·subst n7; exact .inr (hi.own _ _ jO).2
     ·rw [if_neg n7] at h; exact hi.grow c i v h }
  have h4 := HF.relabel (d := d) (x := .fz s rows) (R := []) (by
   simp only [RX]
   refine ⟨trivial, hu, base, cap, hc, .inr ⟨b, off, hb, hl, ?_⟩⟩
   refine bM.freeze (E := E) (fun i v h => ?_) hle il
   show (if b = b then cs[i]? else E.φ b i) = some v
   rw [if_pos rfl]; exact h) List.nodup_nil (fun _ h => by cases h)
  refine ⟨{ E with φ := fun c i => if c = b then cs[i]? else E.φ c i }, en (en RR (.slot d) []) (.slot d) [], rfl, { h4 with ax := fun q x hx => ?_, ay := h4.ay }⟩
  refine h4.ax q x ?_
  simp only [St.put, look] at hx ⊢
  cases hq : Nat.beq d q with
  | true => rw [hq] at hx; simpa using hx
  | false => rw [hq] at hx; simpa using hx
end
end Go.AW
namespace Go.AW
open Go
mutual
def X.lg : X → X
 | .cX s rows => .fz s (X.lh rows)
 | .agg xs => .agg (X.ir xs)
 | .tup xs => .tup (X.ir xs)
 | .v u => .v u
 | .no => .no
 | .fz s rows => .fz s rows
 | .ptr o s i k => .ptr o s i k
 | .aR o s lo n => .aR o s lo n
 | .mref o => .mref o
 | .fp row k => .fp row k
 | .fH f a b => .fH f a b
def X.ir : List X → List X
 | [] => []
 | x :: r => x.lg :: X.ir r
def X.lh : List (List X) → List (List X)
 | [] => []
 | r :: rs => X.ir r :: X.lh rs
end
theorem X.jR : ∀ xs : List X, (X.ir xs).length = xs.length
 | [] => rfl
 | _ :: r => by simp [X.ir, X.jR r]
theorem X.jS : ∀ rs : List (List X), (X.lh rs).length = rs.length
 | [] => rfl
 | _ :: r => by simp [X.lh, X.jS r]
theorem bA.lh {s : Nat} : ∀ {rs : List (List X)}, bA s rs → bA s (X.lh rs)
 | [], _ => fun _ h => by cases h
 | r :: rs, h => by
  intro q hq
  simp only [X.lh, List.mem_cons] at hq
  rcases hq with rfl | hq
  ·rw [X.jR]; exact h r (by simp)
  ·exact bA.lh (fun q hq => h q (by simp [hq])) q hq
mutual
theorem X.vU : ∀ {x : X}, x.free = true → x.lg = x
 | .v _, _ | .no, _ | .fz .., _ | .ptr .., _ | .aR .., _ | .mref _, _ | .fp .., _ | .fH .., _ => rfl
 | .cX .., h => by cases h
 | .agg xs, h => by simp only [X.lg]; rw [X.jo (xs := xs) h]
 | .tup xs, h => by simp only [X.lg]; rw [X.jo (xs := xs) h]
theorem X.jo : ∀ {xs : List X}, X.aW xs = true → X.ir xs = xs
 | [], _ => rfl
 | x :: r, h => by
  simp only [X.aW, Bool.and_eq_true] at h
  simp only [X.ir]
  rw [X.vU h.1, X.jo h.2]
end
mutual
theorem X.vV : ∀ {x : X}, x.nr = true → x.lg.nr = true
 | .v _, _ | .no, _ | .fz .., _ | .fp .., _ => rfl
 | .cX .., _ => rfl
 | .agg xs, h => X.pV (xs := xs) h
 | .tup xs, h => X.pV (xs := xs) h
 | .fH .., h => h
 | .ptr .., h => h
 | .aR .., h => h
 | .mref _, h => h
theorem X.pV : ∀ {xs : List X}, X.eU xs = true → X.eU (X.ir xs) = true
 | [], _ => rfl
 | x :: r, h => by
  simp only [X.eU, Bool.and_eq_true] at h
  simp only [X.ir, X.eU, Bool.and_eq_true]
  exact ⟨X.vV h.1, X.pV h.2⟩
end
def Env.vW (E E' : Env) (R : List Nat) : Prop :=
 E'.w = E.w ∧ E'.β = E.β ∧ (∀ c i v, E.φ c i = some v → E'.φ c i = some v) ∧ ∀ b ∈ R, ∀ i v, E.w.cell? ⟨b, i, none⟩ = some v → E'.φ b i = some v
theorem Env.vW.sub {E E' : Env} {R R' : List Nat} (h : E.vW E' R) (hs : ∀ b ∈ R', b ∈ R) : E.vW E' R' := ⟨h.1, h.2.1, h.2.2.1, fun b hb => h.2.2.2 b (hs b hb)⟩
theorem Env.vW.on {E E' : Env} {R : List Nat} (h : E.vW E' R) : E.On E' [] := ⟨h.2.2.1, fun _ h => by cases h⟩
mutual
theorem RX.lg {E E' : Env} : ∀ (x : X) (c : Value) (R : List Nat), E.vW E' R → RX E x c R → RX E' x.lg c []
 | .v u, c, R, hE, h => by simp only [RX, X.lg] at h ⊢; exact ⟨h.1, trivial⟩
 | .no, c, R, hE, h => by simp only [RX, X.lg]
 | .fz s rows, c, R, hE, h => by
  have h0 : R = [] := by simp only [RX] at h; exact h.1
  subst h0; exact RX.mono _ _ _ hE.on (fun _ _ => by rw [hE.2.1]) h
 | .ptr o s i k, c, R, hE, h => by
  have h0 : R = [] := by simp only [RX] at h; exact h.1
  subst h0; exact RX.mono _ _ _ hE.on (fun _ _ => by rw [hE.2.1]) h
 | .aR o s lo n, c, R, hE, h => by
  have h0 : R = [] := by simp only [RX] at h; exact h.1
  subst h0; exact RX.mono _ _ _ hE.on (fun _ _ => by rw [hE.2.1]) h
 | .mref o, c, R, hE, h => by
  have h0 : R = [] := by simp only [RX] at h; exact h.1
  subst h0; exact RX.mono _ _ _ hE.on (fun _ _ => by rw [hE.2.1]) h
 | .fp row k, c, R, hE, h => by
  have h0 : R = [] := by simp only [RX] at h; exact h.1
  subst h0; exact RX.mono _ _ _ hE.on (fun _ _ => by rw [hE.2.1]) h
 | .fH fn a b, c, R, hE, h => by
  have h0 : R = [] := by simp only [RX] at h; exact h.1
  subst h0; exact RX.mono _ _ _ hE.on (fun _ _ => by rw [hE.2.1]) h
 | .cX s rows, c, R, hE, h => by
  simp only [RX, X.lg] at h ⊢
  obtain ⟨hu, base, cap, hc, hh⟩ := h
  refine ⟨trivial, hu.lh, base, cap, by rw [X.jS]; exact hc, ?_⟩
  rcases hh with ⟨h1, h2, h3⟩ | ⟨b, off, cs, ty, R', hb, hw, hl, ho, hφ, hr, hR⟩
  ·subst h1; exact .inl ⟨rfl, h2⟩
  ·subst hR
   refine .inr ⟨b, off, hb, by rw [X.jS]; exact hl, ?_⟩
   exact bM.lg rows cs b off R' (fun i v hi => hE.2.2.2 b (by simp) i v (by rw [bZ hw]; exact hi)) (hE.sub (fun _ h => by simp [h])) hr
 | .agg xs, c, R, hE, h => by
  simp only [RX, X.lg] at h ⊢
  obtain ⟨cs, hc, hs⟩ := h
  exact ⟨cs, hc, bg.lg xs _ R hE hs⟩
 | .tup xs, c, R, hE, h => by
  simp only [RX, X.lg] at h ⊢
  obtain ⟨cs, hc, hs⟩ := h
  exact ⟨cs, hc, dy.lg xs _ R hE hs⟩
theorem bg.lg {E E' : Env} : ∀ (xs : List X) (cs : List Value) (R : List Nat), E.vW E' R → bg E xs cs R → bg E' (X.ir xs) cs []
 | [], cs, R, _, h => by simp only [bg, X.ir] at h ⊢; exact ⟨h.1, trivial⟩
 | x :: r, cs, R, hE, h => by
  simp only [bg, X.ir] at h ⊢
  obtain ⟨c, cp, R₁, R₂, hc, hs, h1, h2, hR⟩ := h
  subst hR
  exact ⟨c, cp, [], [], hc, hs, RX.lg x c R₁ (hE.sub (fun _ h => bK h)) h1, bg.lg r cp R₂ (hE.sub (fun _ h => bC h)) h2, rfl⟩
theorem dy.lg {E E' : Env} : ∀ (xs : List X) (cs : List Value) (R : List Nat), E.vW E' R → dy E xs cs R → dy E' (X.ir xs) cs []
 | [], cs, R, _, h => by simp only [dy, X.ir] at h ⊢; exact ⟨h.1, trivial⟩
 | x :: r, cs, R, hE, h => by
  simp only [dy, X.ir] at h ⊢
  obtain ⟨c, cp, R₁, R₂, hc, h1, h2, hR⟩ := h
  subst hR
  exact ⟨c, cp, [], [], hc, RX.lg x c R₁ (hE.sub (fun _ h => bK h)) h1, dy.lg r cp R₂ (hE.sub (fun _ h => bC h)) h2, rfl⟩
theorem RO.lg {E E' : Env} : ∀ (xs : List X) (cs : Array Value) (b off : Nat) (R : List Nat), (∀ i v, cs[i]? = some v → E'.φ b i = some v) → E.vW E' R → X.eU xs = true → RO E xs cs off R → RF E' (X.ir xs) b off
 | [], _, _, _, _, _, _, _, _ => by simp [RF, X.ir]
 | x :: r, cs, b, off, R, hb, hE, hn, h => by
  simp only [RO] at h
  obtain ⟨u, R₁, R₂, hu, hs, hx, hr, hR⟩ := h
  subst hR
  simp only [X.eU, Bool.and_eq_true] at hn
  simp only [X.ir, RF]
  exact ⟨⟨u, hb _ _ hu, hs, X.vV hn.1, RX.lg x u R₁ (hE.sub (fun _ h => bK h)) hx⟩, RO.lg r cs b (off + 1) R₂ hb (hE.sub (fun _ h => bC h)) hn.2 hr⟩
theorem bM.lg {E E' : Env} : ∀ (rs : List (List X)) (cs : Array Value) (b off : Nat) (R : List Nat), (∀ i v, cs[i]? = some v → E'.φ b i = some v) → E.vW E' R → bM E rs cs off R → gp E' (X.lh rs) b off
 | [], _, _, _, _, _, _, _ => by simp [gp, X.lh]
 | r :: rs, cs, b, off, R, hb, hE, h => by
  simp only [bM] at h
  obtain ⟨R₁, R₂, hn, hx, hr, hR⟩ := h
  subst hR
  simp only [X.lh, gp]
  refine ⟨RO.lg r cs b off R₁ hb (hE.sub (fun _ h => bK h)) hn hx, ?_⟩
  rw [X.jR]
  exact bM.lg rs cs b _ R₂ hb (hE.sub (fun _ h => bC h)) hr
end
section
variable {N : dJ} {st : St} {d : Nat}
theorem Sh.yv {x y : X} (hx : look st.ax d = some x) (he : x.lg = y) : Sh N st (st.put d y) := by
 intro G hn a w hh
 obtain ⟨E, RR, rfl, hi⟩ := hh
 have hv := hi.ax d _ hx
 have j5 := hi.no d
 have Hz : ∀ p, ∀ b ∈ en RR (.slot d) [] p, b ∉ RR (.slot d) := by
  intro p b hp hb
  unfold en at hp
  split at hp
  ·cases hp
  ·rename_i h; exact hi.apart _ _ h b hp hb
 -- what is frozen already is in no owned block
 have hle : ∀ c i v, E.φ c i = some v → (E.eJ (fun b => b ∈ RR (.slot d))).φ c i = some v := by
  intro c i v h
  by_cases hc : c ∈ RR (.slot d)
  ·rw [gE E (LB := fun b => b ∈ RR (.slot d)) hc]; exact hi.jH c i v h
  ·rw [dP E (LB := fun b => b ∈ RR (.slot d)) hc]; exact h
 have gq : ∀ p, E.On (E.eJ (fun b => b ∈ RR (.slot d))) (en RR (.slot d) [] p) := by
  intro p
  refine ⟨hle, fun c hc => ⟨rfl, fun h i => ?_⟩⟩
  rw [dP E (LB := fun b => b ∈ RR (.slot d)) (Hz p c hc)]; exact h i
 have hf : E.vW (E.eJ (fun b => b ∈ RR (.slot d))) (RR (.slot d)) :=
  ⟨rfl, rfl, hle, fun b hb i v h => by rw [gE E (LB := fun b => b ∈ RR (.slot d)) hb]; exact h⟩
 have HF : Inv G (E.eJ (fun b => b ∈ RR (.slot d))) (en RR (.slot d) []) (st.put d .no) a :=
  {j5 with
   jH := by
    intro c i v h
    by_cases hc : c ∈ RR (.slot d)
    ·rw [gE E (LB := fun b => b ∈ RR (.slot d)) hc] at h; exact h
    ·rw [dP E (LB := fun b => b ∈ RR (.slot d)) hc] at h; exact hi.jH c i v h
   ax := fun q x hx => RX.mono x _ _ (gq _) (fun _ _ => rfl) (j5.ax q x hx)
   ay := fun o ob aL => dq.mono (gq _) rfl (fun _ _ _ _ => rfl) (j5.ay o ob aL)
   φ0 := fun c i v h => hle c i v (hi.φ0 c i v h)
   grow := by
    intro c i v h
    by_cases hc : c ∈ RR (.slot d)
    ·exact .inr (hi.own _ _ hc).2
    ·rw [dP E (LB := fun b => b ∈ RR (.slot d)) hc] at h; exact hi.grow c i v h }
 have h4 := HF.relabel (d := d) (x := y) (R := []) (he ▸ RX.lg x _ _ hf hv) List.nodup_nil (fun _ h => by cases h)
 refine ⟨E.eJ (fun b => b ∈ RR (.slot d)), en (en RR (.slot d) []) (.slot d) [], rfl, { h4 with ax := fun q x hx => ?_, ay := h4.ay }⟩
 refine h4.ax q x ?_
 simp only [St.put, look] at hx ⊢
 cases hq : Nat.beq d q with
 | true => rw [hq] at hx; simpa using hx
 | false => rw [hq] at hx; simpa using hx
end
end Go.AW
namespace Go.AW
open Go
section
variable {P : Program} {N : dJ} {st : St} {Q : Exit → St → Prop} {all : Array Oper} {rest : List Oper} {d : Nat} {ty : TypeId} {pos : String} {af : Array Edge}
theorem aa.jT {t : TypeId} {x y : Operand} {o s i k m : Nat} {v : X} {ys row : List X} {rs : List (List X)} (p6 : List (List X)) (ht : TY.size P t = some m) (hx : bu st x = some (.ptr o s i k)) (hy : bu st y = some v) (qZ : v.flat = some ys) (hf : X.aW ys = true)
  (hn : X.eU ys = true) (hm : ys.length = m) (ho : look st.ay o = some (.rows s rs)) (hr : rs[i]? = some row) (hk : k + m ≤ row.length) (he : rs.set i (gD row k ys) = p6) (kk : aa P N all rest (st.dr o (.rows s p6)) Q) :
  aa P N all (⟨none, .store t x y, ty, pos, af, none⟩ :: rest) st Q := by
 subst he
 exact aa.Bg ht hx hy qZ hf hn hm ho hr hk kk
theorem Sh.Bo {s n : Nat} {rows : List (List X)} (o : Nat) (hx : look st.ax d = some (.cX s rows)) (hn : n = rows.length) (hF : N.F.elem o = false) : Sh N st (((st.kill o).dr o (.rows s rows)).put d (.aR o s 0 n)) := by
 subst hn; exact Sh.DB o hx hF
theorem aa.bY {t e s cj tv : Nat} {z : List Value} {x : Operand} {o lo n : Nat} {rs new : List (List X)} (p6 : List (List X)) (n' : Nat) (ht : TY.slice P t = some (e, s, cj)) (hz : TY.zero P e = some z) (mS : Nat.beq z.length s = true)
  (hy : look st.ax tv = some (.cX s new)) (hx : bu (st.put tv .no) x = some (.aR o s lo n)) (ho : look st.ay o = some (.rows s rs)) (kX : lo + n ≤ rs.length)
  (he : ((rs.drop lo).take n) ++ new = p6) (nJ : n + new.length = n') (mr : n' * cj ≤ 140737488355328) (vp : n' ≤ 4611686018427387904) (hF : N.F.elem o = false) (hd : d < N.n)
  (k : aa P N all rest (((((st.put tv .no).kill o).dr o (.rows s p6))).put d (.aR o s 0 n')) Q) :
  aa P N all (⟨some d, .call ⟨.builtin .append, #[x, .tmp tv], #[t, t]⟩, ty, pos, af, none⟩ :: rest) st Q := by
 subst he nJ
 exact aa.append ht hz mS hy hx ho kX mr vp hF hd k
theorem aa.vX {α : Type} {t e s cj tv : Nat} {z : List Value} {x : Operand} {o lo n : Nat} {rs new : List (List X)} (f : α → List X) (l : List α) (ht : TY.slice P t = some (e, s, cj)) (hz : TY.zero P e = some z) (mS : Nat.beq z.length s = true)
 (hy : look st.ax tv = some (.cX s new)) (hx : bu (st.put tv .no) x = some (.aR o s lo n)) (ho : look st.ay o = some (.rows s rs)) (kX : lo + n ≤ rs.length)
 (he : ((rs.drop lo).take n) ++ new = l.map f) (nJ : n + new.length = l.length) (mr : l.length * cj ≤ 140737488355328) (vp : l.length ≤ 4611686018427387904) (hF : N.F.elem o = false) (hd : d < N.n)
 (k : aa P N all rest (((((st.put tv .no).kill o).dr o (.rows s (l.map f)))).put d (.aR o s 0 l.length)) Q) :
 aa P N all (⟨some d, .call ⟨.builtin .append, #[x, .tmp tv], #[t, t]⟩, ty, pos, af, none⟩ :: rest) st Q := aa.bY (l.map f) l.length ht hz mS hy hx ho kX he nJ mr vp hF hd k
end
mutual
theorem X.n8 {ν : Nat → Nat} : ∀ {x : X}, x.lt 0 = true → x.eu ν = x
 | .v _, _ | .no, _ | .fz .., _ | .cX .., _ | .fp .., _ => rfl
 | .ptr o .., h => by simp [X.lt, Nat.blt] at h
 | .aR o .., h => by simp [X.lt, Nat.blt] at h
 | .mref o, h => by simp [X.lt, Nat.blt] at h
 | .agg xs, h => by simp only [X.eu]; rw [X.jU (xs := xs) h]
 | .tup xs, h => by simp only [X.eu]; rw [X.jU (xs := xs) h]
 | .fH f a b, h => by
  simp only [X.lt, Bool.and_eq_true] at h
  simp only [X.eu]; rw [X.jU h.1, X.jU h.2]
theorem X.jU {ν : Nat → Nat} : ∀ {xs : List X}, X.xT 0 xs = true → X.iL ν xs = xs
 | [], _ => rfl
 | x :: r, h => by
  simp only [X.xT, Bool.and_eq_true] at h
  simp only [X.iL]; rw [X.n8 h.1, X.jU h.2]
end
section
variable {P : Program} {N : dJ} {st : St} {Q : Exit → St → Prop} {all : Array Oper} {rest : List Oper} {d : Nat} {ty : TypeId} {pos : String} {af : Array Edge}
theorem aa.br {f : FuncId} {bF : Array Operand} {l5 : Array TypeId} {xs args : List X} {R : X} (mX : aJ P f = true) (eR : ak P f args [] [] (fun r o => r = R ∧ o = []))
  (eM : iq st bF.toList = some xs) (dK : cL st [] (bs []) xs args) (hd : d < N.n) (gA : R.lt 0 = true)
  (k : aa P N all rest (st.put d R) Q) : aa P N all (⟨some d, .call ⟨.value (.func f), bF, l5⟩, ty, pos, af, none⟩ :: rest) st Q :=
 aa.DX mX eR eM dK hd gA (X.n8 gA) k
end
end Go.AW
namespace Go.AW
open Go
section
variable {P : Program} {N : dJ} {st : St} {Q : Exit → St → Prop} {ops : Array Oper} {d : Nat} {ty : TypeId} {pos : String} {af : Array Edge}
def aE (P : Program) (N : dJ) (st : St) (o : Oper) (x : X) : Prop :=
 ∀ (G : Ctx) (E : Env) (RR : Own → List Nat) (a : Act), G.fn = N → Inv G E RR st a → ∃ u, (∀ w, (execOp a.eval o).run P w = .ok (.value u) w) ∧ RX E x u []
section
variable {dst : Option Nat} {g : Option (Nat × Bool)}
theorem aE.move {x : Operand} {y : X} (hx : bu st x = some y) (hf : y.free = true) : aE P N st ⟨dst, .move x, ty, pos, af, g⟩ y := by
 intro G E RR a _ hi
 obtain ⟨R, hv⟩ := hi.eval hx
 have := RX.free hf hv
 subst this
 exact ⟨_, fun w => rfl, hv⟩
theorem aE.assign {x : Operand} {y : X} (hx : bu st x = some y) (hf : y.free = true) : aE P N st ⟨dst, .assign x, ty, pos, af, g⟩ y := by
 intro G E RR a _ hi
 obtain ⟨R, hv⟩ := hi.eval hx
 have := RX.free hf hv
 subst this
 exact ⟨_, fun w => rfl, hv⟩
theorem aE.HG {t e s cj : Nat} {x : Operand} {lo fk : Option Operand} {rows : List (List X)} {l h : Nat} {iV : List (List X)} (ht : TY.slice P t = some (e, s, cj)) (hx : bu st x = some (.fz s rows))
  (hl : Bd st lo 0 l) (hh : Bd st fk rows.length h) (h1 : l ≤ h) (h2 : h ≤ rows.length) (hr : (rows.take h).drop l = iV) :
  aE P N st ⟨dst, .slice t x lo fk none, ty, pos, af, g⟩ (.fz s iV) := by
 intro G E RR a _ hi
 obtain ⟨R, hp⟩ := hi.eval hx
 simp only [RX] at hp
 obtain ⟨_, hu, base, cap, hc, cu⟩ := hp
 obtain ⟨tD, i, fG, ei, _⟩ := TY.ct ht
 subst hr
 have jJ : h ≤ cap := by
  rcases cu with ⟨h', pN⟩ | ⟨_, _, _, tE, _⟩
  ·subst h'; simp at h2; omega
  ·omega
 refine ⟨.slice (if cap = l then base else base.map (·.add (l * s))) (h - l) (cap - l), fun w => ?_, ?_⟩
 ·show (do let z ← Instr.sliceAt t (a.eval x) (lo.map a.eval) (fk.map a.eval) none; pure (Next.value z) : Sem Next).run P w = _
  rw [hc]
  refine cK ?_
  simp only [Instr.sliceAt, Sem.run_bind, run_underlying tD, Result.andThen_ok, Instr.slice, eV hi hl hh h1 jJ, run_sizeOf fG, ei]
  rfl
 ·have hlen : ((rows.take h).drop l).length = h - l := by simp; omega
  simp only [RX, hlen]
  refine ⟨trivial, (hu.take h).drop l, _, _, rfl, ?_⟩
  rcases cu with ⟨h', pN⟩ | ⟨b, off, hb, tE, hf⟩
  ·exact .inl ⟨by subst h'; simp, om⟩
  ·refine .inr ?_
   subst hb
   by_cases pO : cap = l
   ·refine ⟨b, off, by rw [if_pos pO], om, ?_⟩
    have : (rows.take h).drop l = [] := by
     apply List.eq_nil_of_length_eq_zero
     rw [hlen]; omega
    rw [this]; simp [gp]
   ·refine ⟨b, off + l * s, by rw [if_neg pO]; simp [fq], om, ?_⟩
    exact gp.drop l (hu.take h) (by simp; omega) (hf.take h)
end
def aS (P : Program) (N : dJ) (ops : Array Oper) (n : Nat) (ae : Array Bool) (st : St) (K : St → Prop) : Prop :=
 ∀ G : Ctx, G.fn = N → ∀ a w, bO G st a w → wpAny P .any ops (fun e a w => e = .normal ∧ ∃ aQ, K aQ ∧ bO G aQ a w) n ae a w
variable {K : St → Prop}
theorem aS.blind {n : Nat} {ae : Array Bool} (i : Nat) {op : Op} {x : X} (ho : ops[i]? = some ⟨some d, op, ty, pos, af, none⟩)
  (hB : (Region.noSelect ops && Region.free .any ops ae i && (Region.ready .any ops ae).contains i) = true) (hy : aE P N st ⟨some d, op, ty, pos, af, none⟩ x) (hd : d < N.n)
  (k : aS P N ops n (ae.setIfInBounds i true) (st.put d x) K) : aS P N ops (n + 1) ae st K := by
 intro G hn a w hh
 obtain ⟨E, RR, rfl, hi⟩ := hh
 obtain ⟨u, hr, hx⟩ := hy G E RR a hn hi
 simp only [Bool.and_eq_true] at hB
 refine wpAny_take (v := u) ho hB.1.1 hB.1.2 hB.2 ?_ (.inl ⟨by simp [Region.wanted], hr⟩) (k G hn _ _ ⟨E, _, rfl, hi.eP (hn ▸ hd) hx⟩)
 intro c a w h
 cases h.1
theorem aS.step {n : Nat} {ae : Array Bool} (j : Nat) {o : Oper} (ho : ops[j]? = some o)
  (k : aa P N ops [o] st (fun e aQ => e = .normal ∧ aS P N ops n (ae.setIfInBounds j true) aQ K)) (G : Ctx) (hn : G.fn = N) (a : Act) (w : World) (hh : bO G st a w) :
  wpOp P ops (fun e a w => e = .normal ∧ ∃ aQ, K aQ ∧ bO G aQ a w) j (wpAny P .any ops (fun e a w => e = .normal ∧ ∃ aQ, K aQ ∧ bO G aQ a w) n (ae.setIfInBounds j true)) a w := by
 have hk := k G hn a w hh
 have key : wpOp P ops (fun e a w => jC G (fun e aQ => e = .normal ∧ aS P N ops n (ae.setIfInBounds j true) aQ K) e a w) j
   (fun a w => jC G (fun e aQ => e = .normal ∧ aS P N ops n (ae.setIfInBounds j true) aQ K) .normal a w) a w := by
  unfold wpOp; simp only [ho]; exact hk
 have mono : ∀ {Q1 Q2 : Exit → Act → World → Prop} {K1 K2 : Act → World → Prop}, (∀ e a w, e ≠ .normal → Q1 e a w → False) → (∀ a w, K1 a w → K2 a w) → wpOp P ops Q1 j K1 a w → wpOp P ops Q2 j K2 a w := by
  intro Q1 Q2 K1 K2 hQ hK h
  unfold wpOp at *
  simp only [ho] at *
  split
  ·rename_i hw
   simp only [hw, if_true] at h
   rcases h with h | ⟨_, hl⟩
   ·refine .inl ?_
    unfold Oper.wp at *
    generalize (execOp a.eval o).run P w = r at *
    cases r with
    | ok nx w' =>
     cases nx <;> simp only [Oper.upon] at h ⊢ <;> first
      | exact hK _ _ h
      | exact Calls.mono h (fun e K4 he => by
        cases e with
        | returned u => exact hK _ _ he
        | panicked c => exact (hQ _ _ _ (by simp) he).elim
        | outgrown => exact (let ⟨_, _, h'⟩ := he; hQ _ _ _ (by simp) h').elim)
      | exact Rows.mono h (fun _ _ he => hK _ _ he)
    | halt x w' => cases x <;> simp only [Oper.upon] at h ⊢ <;> first | exact (hQ _ _ _ (by simp) h).elim | exact (let ⟨_, _, h'⟩ := h; hQ _ _ _ (by simp) h').elim | exact h
   ·obtain ⟨_, _, h'⟩ := hl
    exact (hQ _ _ _ (by simp) h').elim
  ·rename_i hw
   simp only [hw] at h
   exact hK _ _ h
 refine mono ?_ ?_ key
 ·rintro e a w he ⟨aQ, _, h, _⟩
  exact he h
 ·rintro a w ⟨aQ, fI, _, tN⟩
  exact tN G hn a w fI
theorem aS.one {n : Nat} {ae : Array Bool} (i : Nat) {o : Oper} (ho : ops[i]? = some o) (hr : (Region.ready .any ops ae == [i]) = true)
  (k : aa P N ops [o] st (fun e aQ => e = .normal ∧ aS P N ops n (ae.setIfInBounds i true) aQ K)) : aS P N ops (n + 1) ae st K := by
 intro G hn a w hh
 refine wpAny_all (rs := [i]) (by simpa using hr) (by simp) ?_
 intro j hj
 have : j = i := by simpa using hj
 subst this
 exact aS.step j ho k G hn a w hh
theorem aS.two {n : Nat} {ae : Array Bool} (i i' : Nat) {o o' : Oper} (ho : ops[i]? = some o) (kD : ops[i']? = some o') (hr : (Region.ready .any ops ae == [i, i']) = true)
  (k : aa P N ops [o] st (fun e aQ => e = .normal ∧ aS P N ops n (ae.setIfInBounds i true) aQ K))
  (k' : aa P N ops [o'] st (fun e aQ => e = .normal ∧ aS P N ops n (ae.setIfInBounds i' true) aQ K)) : aS P N ops (n + 1) ae st K := by
 intro G hn a w hh
 refine wpAny_all (rs := [i, i']) (by simpa using hr) (by simp) ?_
 intro j hj
 simp only [List.mem_cons, List.not_mem_nil, or_false] at hj
 rcases hj with rfl | rfl
 ·exact aS.step j ho k G hn a w hh
 ·exact aS.step j kD k' G hn a w hh
theorem aS.done {n : Nat} {ae : Array Bool} (hr : (Region.ready .any ops ae).isEmpty = true) (h : K st) : aS P N ops n ae st K :=
 fun _ _ _ _ hh => wpAny_done (by simpa using hr) ⟨rfl, st, h, hh⟩ n
theorem ah.cC {id : Nat} (hm : P.follows .mixedOrders = true) (h : aS P N ops ops.size (Array.replicate ops.size false) st (fun aQ => Q .normal aQ)) : ah P N (.region id ops true) st Q := by
 intro G hn a w hh
 refine wp_mono (wp_region_any hm (h G hn a _ hh.drew)) ?_
 rintro e a w ⟨rfl, aQ, hk, fI⟩
 exact ⟨aQ, fI, hk⟩
end
end Go.AW
namespace Go.AW
open Go
def nS (want : Bool) : Value → Bool
 | .bool b => !(b == want)
 | _ => true
section
variable {P : Program} {N : dJ} {st : St} {Q : Exit → St → Prop} {K : St → Prop} {all : Array Oper} {rest : List Oper} {d dd : Nat} {ty : TypeId} {pos : String} {af : Array Edge} {dst : Option Nat} {op : Op} {j : Nat} {want : Bool} {u : Value}
theorem iY {G : Ctx} {E : Env} {RR : Own → List Nat} {a : Act} (hi : Inv G E RR st a) (hj : (all[j]?).bind (·.dst) = some d) (hd : d < G.fn.n) (hx : look st.ax d = some (.v u)) (er : nS want u = true) :
  Region.wanted ⟨dst, op, ty, pos, af, some (j, want)⟩ (yielded all a.tmps) = false := by
 have hs := hi.ax d _ hx
 simp only [RX] at hs
 have ei : d < a.tmps.size := by rw [hi.tmps]; exact hd
 have hv : a.tmps[d]? = some u := by
  have := hs.1
  simp only [Array.getD, ei, dif_pos] at this
  rw [Array.getElem?_eq_getElem ei]
  exact congrArg some this
 have hy : yielded all a.tmps j ≠ some want := by
  unfold yielded
  rw [hj, Option.bind_some, hv]
  intro h
  cases u <;> simp [nS] at er h
  exact er h
 simp only [Region.wanted]
 cases h : yielded all a.tmps j with
 | none => rfl
 | some b => rw [h] at hy; simpa using hy
theorem aa.aA (hj : (all[j]?).bind (·.dst) = some d) (hd : d < N.n) (yw : dd < N.n) (hx : look st.ax d = some (.v u)) (er : nS want u = true)
  (k : aa P N all rest (st.put dd (.v undef)) Q) : aa P N all (⟨some dd, op, ty, pos, af, some (j, want)⟩ :: rest) st Q := by
 intro G hn a w hh
 obtain ⟨E, RR, rfl, hi⟩ := hh
 unfold wpList
 rw [if_neg (by rw [iY hi hj (hn ▸ hd) hx er]; simp)]
 exact k G hn _ _ ⟨E, _, rfl, hi.eP (hn ▸ yw) (by simp [RX])⟩
theorem aY.aA (hj : (all[j]?).bind (·.dst) = some d) (hd : d < N.n) (yw : dd < N.n) (hx : look st.ax d = some (.v u)) (er : nS want u = true)
  (k : aY P N all rest (st.put dd (.v undef)) K) : aY P N all (⟨some dd, op, ty, pos, af, some (j, want)⟩ :: rest) st K := by
 intro G hn a w hh
 obtain ⟨E, RR, rfl, hi⟩ := hh
 unfold wpStill
 rw [if_neg (by rw [iY hi hj (hn ▸ hd) hx er]; simp)]
 exact k G hn _ _ ⟨E, _, rfl, hi.eP (hn ▸ yw) (by simp [RX])⟩
end
end Go.AW
namespace Go.AW
open Go Go.ChangeShapes Go.WideShapes Go.Deep Go.RowKit
def E0 (W : World) : Env := ⟨fun b i => W.cell? ⟨b, i, none⟩, fun _ => none, W⟩
theorem ak.row {P : Program} {f : FuncId} {args : List X} {u : Value} (h : ak P f args [] [] (fun r o => r = .v u ∧ o = [])) {W : World} {cZ : Array Value} (hn : cZ.size = args.length)
  (hx : ∀ (i : Nat) x, args[i]? = some x → RX (E0 W) x (cZ.getD i undef) []) : Calls P f cZ W (fun e W' => e = .returned u ∧ Below W.heap.size W W') := by
 have hi : Inv (pc (fun b => b < W.heap.size) (E0 W) ⟨args.length, []⟩) (E0 W) (fun _ => []) ⟨di 0 args, di 0 []⟩ ⟨cZ, []⟩ :=
  {jH := fun _ _ _ h => h
   ax := fun s x hs => by
    rw [fK] at hs
    exact hx s x hs
   ay := fun o ob ho => by simp [di, look] at ho
   nodup := fun _ => List.nodup_nil
   apart := fun _ _ _ _ h => by cases h
   own := fun _ _ h => by cases h
   au := fun _ _ => rfl
   size := Nat.le_refl _
   small := fun _ h => h
   os := rfl
   tape := rfl
   output := rfl
   φ0 := fun _ _ _ h => h
   grow := fun _ _ _ h => .inl h
   fixed := fun _ _ => rfl
   tmps := hn
   defers := rfl }
 refine Calls.mono (h _ _ _ _ hi) ?_
 rintro e W' ⟨v, r, a8, rfl, ⟨rfl, _⟩, _, E', et, rfl, fk⟩
 have hs := fk.ax 0 (.v u) rfl
 simp only [RX] at hs
 have hv : v = u := hs.1
 exact ⟨by rw [hv], fk.os, fk.tape, fk.output, fk.size, fun k hk => fk.au k hk⟩
theorem RF.of {E : Env} {b : Nat} : ∀ {row : List X} {off : Nat}, (∀ (j : Nat) x, row[j]? = some x → ∃ u, x = .v u ∧ gm u ∧ E.φ b (off + j) = some u) → RF E row b off
 | [], _, _ => by simp [RF]
 | x :: r, off, h => by
  obtain ⟨u, rfl, hs, hu⟩ := h 0 x rfl
  simp only [RF]
  refine ⟨⟨u, by simpa using hu, hs, rfl, by simp [RX]⟩, RF.of fun j y hj => ?_⟩
  obtain ⟨u', h1, h2, h3⟩ := h (j + 1) y (by simpa using hj)
  exact ⟨u', h1, h2, by rw [show off + 1 + j = off + (j + 1) by omega]; exact h3⟩
theorem gp.of {E : Env} {b s : Nat} : ∀ {rows : List (List X)} {off : Nat}, bA s rows → (∀ (i : Nat) row, rows[i]? = some row → RF E row b (off + i * s)) → gp E rows b off
 | [], _, _, _ => by simp [gp]
 | r :: rs, off, hu, h => by
  simp only [gp]
  refine ⟨by simpa using h 0 r rfl, gp.of (fun q hq => hu q (by simp [hq])) fun i row hi => ?_⟩
  have := h (i + 1) row (by simpa using hi)
  rw [hu r (by simp)]
  rw [Nat.add_mul, Nat.one_mul] at this
  rw [show off + s + i * s = off + (i * s + s) by omega]; exact this
section
variable {H : Type} {enc : TypeId × Value → H} {P : Program} {W : World} {base : Nat} {spare : Nat → Bool} {held : Bool} {n : Nat} {e : TypeId} {cs : List Value} {y : DataW H × List MemPlace}
end
end Go.AW
namespace Go.AW
open Go
section
variable {P : Program} {N : dJ} {st : St} {Q : Exit → St → Prop} {all : Array Oper} {rest : List Oper} {dst : Option Nat} {d : Nat} {ty : TypeId} {pos : String} {af : Array Edge} {g : Option (Nat × Bool)}
theorem Y.zb {t t' : TypeId} {x y : Operand} {k : IntKind} {a b r : Int} (hx : bu st x = some (.v (.int k a))) (hy : bu st y = some (.v (.int k b))) (hr : r = if b > a then b else a) :
  Yields P N st ⟨dst, .call ⟨.builtin .max, #[x, y], #[t, t']⟩, ty, pos, af, g⟩ (.v (.int k r)) := by
 subst hr
 intro G E RR ac _ hi
 refine ⟨.int k (if b > a then b else a), fb ?_, by simp [RX]⟩
 have h1 := hi.val hx
 have h2 := hi.val hy
 simp [builtin, Builtin.max_, h1, h2, Builtin.max2]
theorem Y.zc {t t' : TypeId} {x y : Operand} {k : IntKind} {a b r : Int} (hx : bu st x = some (.v (.int k a))) (hy : bu st y = some (.v (.int k b))) (hr : r = if b < a then b else a) :
  Yields P N st ⟨dst, .call ⟨.builtin .min, #[x, y], #[t, t']⟩, ty, pos, af, g⟩ (.v (.int k r)) := by
 subst hr
 intro G E RR ac _ hi
 refine ⟨.int k (if b < a then b else a), fb ?_, by simp [RX]⟩
 have h1 := hi.val hx
 have h2 := hi.val hy
 simp [builtin, Builtin.min_, h1, h2, Builtin.min2]
theorem aE.extract {x : Operand} {xs : List X} {y : X} {k : Nat} (hx : bu st x = some (.tup xs)) (hy : xs[k]? = some y) (hf : y.free = true) : aE P N st ⟨dst, .extract x k, ty, pos, af, g⟩ y := by
 intro G E RR a _ hi
 obtain ⟨R, hp⟩ := hi.eval hx
 simp only [RX] at hp
 obtain ⟨cs, hc, eM⟩ := hp
 obtain ⟨u, R₁, hu, h1⟩ := dy.get eM hy
 have h0 := RX.free hf h1
 subst h0
 refine ⟨u, fun w => ?_, h1⟩
 show (do let z ← Instr.extract (a.eval x) k; pure (Next.value z) : Sem Next).run P w = _
 rw [hc]
 refine cK ?_
 have xP : cs[k]? = some u := by simpa using hu
 simp only [Instr.extract, xP]; rfl
theorem aa.nT {t e s cj : Nat} {z : List Value} {x y : Operand} {o lo n : Nat} {rs new : List (List X)} (p6 : List (List X)) (n' : Nat) (ht : TY.slice P t = some (e, s, cj)) (hz : TY.zero P e = some z) (mS : Nat.beq z.length s = true)
  (hy : bu st y = some (.fz s new)) (hx : bu st x = some (.aR o s lo n)) (ho : look st.ay o = some (.rows s rs)) (kX : lo + n ≤ rs.length)
  (he : ((rs.drop lo).take n) ++ new = p6) (nJ : n + new.length = n') (mr : n' * cj ≤ 140737488355328) (vp : n' ≤ 4611686018427387904) (hF : N.F.elem o = false) (hd : d < N.n)
  (k : aa P N all rest ((((st.kill o).dr o (.rows s p6))).put d (.aR o s 0 n')) Q) :
  aa P N all (⟨some d, .call ⟨.builtin .append, #[x, y], #[t, t]⟩, ty, pos, af, none⟩ :: rest) st Q := by
 subst he nJ
 exact aa.yj ht hz mS hy hx ho kX mr vp hF hd k
end
end Go.AW
namespace Go.AW
open Go
section
variable {P : Program} {N : dJ} {st : St} {Q : Exit → St → Prop} {all : Array Oper} {rest : List Oper} {d : Nat} {ty : TypeId} {pos : String} {af : Array Edge}
theorem cL.eJ {L : List Nat} {ν : Nat → Nat} {o s lo n : Nat} {rs p6 : List (List X)} {xs ys : List X} (ho : look st.ay o = some (.rows s rs)) (hL : L.elem o = true) (kX : lo + n ≤ rs.length) (he : (rs.drop lo).take n = p6)
  (hs : cL st L ν xs ys) : cL st L ν (.aR o s lo n :: xs) (.fz s p6 :: ys) := by
 subst he
 exact .cons (.view ho (List.elem_iff.1 hL) kX) hs
theorem DZ {o : Nat} {ob : Obj} (h : look st.ay o = some ob) (h' : iy ob) : ∀ q ∈ [o], ∃ ob, look st.ay q = some ob ∧ iy ob := by
 intro q hq
 simp only [List.mem_singleton] at hq
 subst hq
 exact ⟨ob, h, h'⟩
theorem aa.Bp {f : FuncId} {bF : Array Operand} {l5 : Array TypeId} {xs args : List X} {R : X} (L : List Nat) (mX : aJ P f = true) (eR : ak P f args [] [] (fun r o => r = R ∧ o = []))
  (eM : iq st bF.toList = some xs) (dK : cL st L (bs []) xs args) (h0 : ∀ o ∈ L, ∃ ob, look st.ay o = some ob ∧ iy ob) (hd : d < N.n) (gA : R.lt 0 = true) (hp : R.plain)
  (k : aa P N all rest (st.put d R) Q) : aa P N all (⟨some d, .call ⟨.value (.func f), bF, l5⟩, ty, pos, af, none⟩ :: rest) st Q :=
 aa.DY L mX eR eM dK h0 hd gA (X.n8 gA) hp k
end
end Go.AW
namespace Go.AW
open Go Go.Maps
section
variable {P : Program} {N : dJ} {st : St} {Q : Exit → St → Prop} {all : Array Oper} {rest : List Oper} {dst : Option Nat} {d : Nat} {ty : TypeId} {pos : String} {af : Array Edge} {g : Option (Nat × Bool)}
theorem Inv.s4 {G : Ctx} {E : Env} {RR : Own → List Nat} {a : Act} (hi : Inv G E RR st a) {m : Operand} {o : Nat} {es : List (Value × Value)} (hm : bu st m = some (.mref o)) (ho : look st.ay o = some (.s4 es)) :
  ∃ B nn clock, E.β o = some B ∧ a.eval m = .map (some B.b) ∧ E.w.heap[B.b]? = some (.map nn clock) ∧ (∀ i, E.φ B.b i = none) ∧ nn.toList.map (fun e => (e.key, e.val)) = es ∧ RR (.obj o) = [B.b] := by
 have aL := hi.ay o _ ho
 simp only [dq] at aL
 obtain ⟨B, nn, clock, hB, hw, hf, he, hR⟩ := aL
 obtain ⟨R, hx⟩ := hi.eval hm
 simp only [RX] at hx
 obtain ⟨_, B', fY, hc⟩ := hx
 rw [hB] at fY
 obtain rfl := Option.some.inj fY
 exact ⟨B, nn, clock, hB, hc, hw, hf, he, hR⟩
end
end Go.AW
namespace Go.AW
open Go
section
variable {P : Program} {N : dJ} {st : St} {ty : TypeId} {pos : String} {af : Array Edge} {dst : Option Nat} {g : Option (Nat × Bool)}
theorem aE.nilCheck {x : Operand} {p q : X} (hx : bu st x = some p) (hq : p.on 0 = some q) : aE P N st ⟨dst, .nilCheck x, ty, pos, af, g⟩ q := by
 intro G E RR a _ hi
 obtain ⟨R, hp⟩ := hi.eval hx
 obtain ⟨b, off, hc, h⟩ := hp.on hq
 refine ⟨_, fun w => ?_, h⟩
 simp only [execOp, hc]; rfl
theorem aE.fieldAddr {t : TypeId} {x : Operand} {p q : X} {f off : Nat} {ft : TypeId} (ht : TY.jh P t f = some (off, ft)) (hx : bu st x = some p) (hq : p.on off = some q) :
  aE P N st ⟨dst, .fieldAddr t x f, ty, pos, af, g⟩ q := by
 intro G E RR a _ hi
 obtain ⟨R, hp⟩ := hi.eval hx
 obtain ⟨b, o, hc, h⟩ := hp.on hq
 refine ⟨_, fun w => ?_, h⟩
 show (do let z ← Instr.fieldAt t (a.eval x) f; pure (Next.value z) : Sem Next).run P w = _
 rw [hc]
 exact cK (TY.tC ht b o w)
end
end Go.AW
namespace Go.AW
open Go
section
variable {P : Program} {N : dJ} {st : St} {d : Nat}
theorem cL.named {L : List Nat} {ν : Nat → Nat} {x y : X} {xs ys : List X} (h : x.free = true) (he : x.eu ν = y) (hs : cL st L ν xs ys) : cL st L ν (y :: xs) (x :: ys) := by
 subst he
 exact .cons (.same h) hs
end
end Go.AW
namespace Go.AW
open Go
section
variable {P : Program} {N : dJ} {st : St} {Q : Exit → St → Prop}
theorem ah.nU {x y : Code} (J : St) (I : Prop) (hx : ah P N x st (iU (fun aQ => I ∧ Le aQ J) Q)) (hy : I → ah P N y J Q) : ah P N (.seq x y) st Q :=
 ah.join (fun _ : Unit => J) (fun _ => I) (hx.mono fun e _ h => by cases e <;> first | exact ⟨(), h⟩ | exact h) (fun _ h => hy h)
theorem ah.j7 {α0 : Type} {c : Code} (S : α0 → St) (I : α0 → Prop) (μ : α0 → Nat) (i0 : α0) (hi : I i0) (hs : Le st (S i0))
  (round : ∀ a0, I a0 → ah P N c (S a0) (iU (fun aQ => ∃ b0, I b0 ∧ μ b0 < μ a0 ∧ Le aQ (S b0)) Q)) : ah P N (.loop c) st Q :=
 ah.loop (ι := α0) (fun u => S u) (fun u => I u) (fun u => μ u) i0 hi hs (fun u h => (round u h).mono fun e _ h => by
  cases e <;> first | exact h | (obtain ⟨b0, h⟩ := h; exact ⟨b0, h⟩))
theorem ah.iA {α0 : Type} {x y : Code} (J : α0 → St) (I : α0 → Prop) (hx : ah P N x st (iU (fun aQ => ∃ b0, I b0 ∧ Le aQ (J b0)) Q)) (hy : ∀ a0, I a0 → ah P N y (J a0) Q) : ah P N (.seq x y) st Q :=
 ah.join (ι := α0) (fun u => J u) (fun u => I u) (hx.mono fun e _ h => by cases e <;> first | exact h | (obtain ⟨b0, h⟩ := h; exact ⟨b0, h⟩)) (fun u h => hy u h)
theorem ah.kJ {α0 α1 : Type} {c : Code} (S : α0 → α1 → St) (I : α0 → α1 → Prop) (μ : α0 → α1 → Nat) (i0 : α0) (i1 : α1) (hi : I i0 i1) (hs : Le st (S i0 i1))
  (round : ∀ a0 a1, I a0 a1 → ah P N c (S a0 a1) (iU (fun aQ => ∃ b0 b1, I b0 b1 ∧ μ b0 b1 < μ a0 a1 ∧ Le aQ (S b0 b1)) Q)) : ah P N (.loop c) st Q :=
 ah.loop (ι := α0 × α1) (fun u => S u.1 u.2) (fun u => I u.1 u.2) (fun u => μ u.1 u.2) (i0, i1) hi hs (fun u h => (round u.1 u.2 h).mono fun e _ h => by
  cases e <;> first | exact h | (obtain ⟨b0, b1, h⟩ := h; exact ⟨(b0, b1), h⟩))
theorem ah.lI {α0 α1 : Type} {x y : Code} (J : α0 → α1 → St) (I : α0 → α1 → Prop) (hx : ah P N x st (iU (fun aQ => ∃ b0 b1, I b0 b1 ∧ Le aQ (J b0 b1)) Q)) (hy : ∀ a0 a1, I a0 a1 → ah P N y (J a0 a1) Q) : ah P N (.seq x y) st Q :=
 ah.join (ι := α0 × α1) (fun u => J u.1 u.2) (fun u => I u.1 u.2) (hx.mono fun e _ h => by cases e <;> first | exact h | (obtain ⟨b0, b1, h⟩ := h; exact ⟨(b0, b1), h⟩)) (fun u h => hy u.1 u.2 h)
theorem ah.eS {α0 α1 α2 : Type} {c : Code} (S : α0 → α1 → α2 → St) (I : α0 → α1 → α2 → Prop) (μ : α0 → α1 → α2 → Nat) (i0 : α0) (i1 : α1) (i2 : α2) (hi : I i0 i1 i2) (hs : Le st (S i0 i1 i2))
  (round : ∀ a0 a1 a2, I a0 a1 a2 → ah P N c (S a0 a1 a2) (iU (fun aQ => ∃ b0 b1 b2, I b0 b1 b2 ∧ μ b0 b1 b2 < μ a0 a1 a2 ∧ Le aQ (S b0 b1 b2)) Q)) : ah P N (.loop c) st Q :=
 ah.loop (ι := α0 × α1 × α2) (fun u => S u.1 u.2.1 u.2.2) (fun u => I u.1 u.2.1 u.2.2) (fun u => μ u.1 u.2.1 u.2.2) (i0, i1, i2) hi hs (fun u h => (round u.1 u.2.1 u.2.2 h).mono fun e _ h => by
  cases e <;> first | exact h | (obtain ⟨b0, b1, b2, h⟩ := h; exact ⟨(b0, b1, b2), h⟩))
theorem ah.Ah {α0 α1 α2 : Type} {x y : Code} (J : α0 → α1 → α2 → St) (I : α0 → α1 → α2 → Prop) (hx : ah P N x st (iU (fun aQ => ∃ b0 b1 b2, I b0 b1 b2 ∧ Le aQ (J b0 b1 b2)) Q)) (hy : ∀ a0 a1 a2, I a0 a1 a2 → ah P N y (J a0 a1 a2) Q) : ah P N (.seq x y) st Q :=
 ah.join (ι := α0 × α1 × α2) (fun u => J u.1 u.2.1 u.2.2) (fun u => I u.1 u.2.1 u.2.2) (hx.mono fun e _ h => by cases e <;> first | exact h | (obtain ⟨b0, b1, b2, h⟩ := h; exact ⟨(b0, b1, b2), h⟩)) (fun u h => hy u.1 u.2.1 u.2.2 h)
theorem ah.Ai {α0 α1 α2 α3 : Type} {c : Code} (S : α0 → α1 → α2 → α3 → St) (I : α0 → α1 → α2 → α3 → Prop) (μ : α0 → α1 → α2 → α3 → Nat) (i0 : α0) (i1 : α1) (i2 : α2) (i3 : α3) (hi : I i0 i1 i2 i3) (hs : Le st (S i0 i1 i2 i3))
  (round : ∀ a0 a1 a2 a3, I a0 a1 a2 a3 → ah P N c (S a0 a1 a2 a3) (iU (fun aQ => ∃ b0 b1 b2 b3, I b0 b1 b2 b3 ∧ μ b0 b1 b2 b3 < μ a0 a1 a2 a3 ∧ Le aQ (S b0 b1 b2 b3)) Q)) : ah P N (.loop c) st Q :=
 ah.loop (ι := α0 × α1 × α2 × α3) (fun u => S u.1 u.2.1 u.2.2.1 u.2.2.2) (fun u => I u.1 u.2.1 u.2.2.1 u.2.2.2) (fun u => μ u.1 u.2.1 u.2.2.1 u.2.2.2) (i0, i1, i2, i3) hi hs (fun u h => (round u.1 u.2.1 u.2.2.1 u.2.2.2 h).mono fun e _ h => by
  cases e <;> first | exact h | (obtain ⟨b0, b1, b2, b3, h⟩ := h; exact ⟨(b0, b1, b2, b3), h⟩))
theorem ah.Aj {α0 α1 α2 α3 : Type} {x y : Code} (J : α0 → α1 → α2 → α3 → St) (I : α0 → α1 → α2 → α3 → Prop) (hx : ah P N x st (iU (fun aQ => ∃ b0 b1 b2 b3, I b0 b1 b2 b3 ∧ Le aQ (J b0 b1 b2 b3)) Q)) (hy : ∀ a0 a1 a2 a3, I a0 a1 a2 a3 → ah P N y (J a0 a1 a2 a3) Q) : ah P N (.seq x y) st Q :=
 ah.join (ι := α0 × α1 × α2 × α3) (fun u => J u.1 u.2.1 u.2.2.1 u.2.2.2) (fun u => I u.1 u.2.1 u.2.2.1 u.2.2.2) (hx.mono fun e _ h => by cases e <;> first | exact h | (obtain ⟨b0, b1, b2, b3, h⟩ := h; exact ⟨(b0, b1, b2, b3), h⟩)) (fun u h => hy u.1 u.2.1 u.2.2.1 u.2.2.2 h)
theorem ah.Ea {α0 α1 α2 α3 α4 : Type} {c : Code} (S : α0 → α1 → α2 → α3 → α4 → St) (I : α0 → α1 → α2 → α3 → α4 → Prop) (μ : α0 → α1 → α2 → α3 → α4 → Nat) (i0 : α0) (i1 : α1) (i2 : α2) (i3 : α3) (i4 : α4) (hi : I i0 i1 i2 i3 i4) (hs : Le st (S i0 i1 i2 i3 i4))
  (round : ∀ a0 a1 a2 a3 a4, I a0 a1 a2 a3 a4 → ah P N c (S a0 a1 a2 a3 a4) (iU (fun aQ => ∃ b0 b1 b2 b3 b4, I b0 b1 b2 b3 b4 ∧ μ b0 b1 b2 b3 b4 < μ a0 a1 a2 a3 a4 ∧ Le aQ (S b0 b1 b2 b3 b4)) Q)) : ah P N (.loop c) st Q :=
 ah.loop (ι := α0 × α1 × α2 × α3 × α4) (fun u => S u.1 u.2.1 u.2.2.1 u.2.2.2.1 u.2.2.2.2) (fun u => I u.1 u.2.1 u.2.2.1 u.2.2.2.1 u.2.2.2.2) (fun u => μ u.1 u.2.1 u.2.2.1 u.2.2.2.1 u.2.2.2.2) (i0, i1, i2, i3, i4) hi hs (fun u h => (round u.1 u.2.1 u.2.2.1 u.2.2.2.1 u.2.2.2.2 h).mono fun e _ h => by
  cases e <;> first | exact h | (obtain ⟨b0, b1, b2, b3, b4, h⟩ := h; exact ⟨(b0, b1, b2, b3, b4), h⟩))
end
section
variable {α : Type} {f : α → List X} {l m : List α} {i n : Nat} {d a b : α}
theorem ao (h : i < l.length) : (l.map f)[i]? = some (f (l.getD i d)) := by
 rw [List.getElem?_map, List.getElem?_eq_getElem h, List.getD_eq_getElem?_getD, List.getElem?_eq_getElem h]; rfl
theorem aT (h : i < l.length) : (l.map f)[0 + i]? = some (f (l.getD i d)) := by rw [Nat.zero_add]; exact ao h
theorem ga {k : Nat} {ys : List X} (h : gD (f a) k ys = f b) : (l.map f).set (0 + i) (gD (f a) k ys) = (l.set i b).map f := by
 rw [h, Nat.zero_add, List.map_set]
theorem bB (h : n = l.length) : (((l.map f).drop 0).take n) ++ m.map f = (l ++ m).map f := by
 rw [List.drop_zero, List.take_of_length_le (by rw [List.length_map]; omega), List.map_append]
theorem bU (h : n = l.length) : 0 + n ≤ (l.map f).length := by rw [List.length_map]; omega
theorem da (h : n = l.length) : n + (m.map f).length = (l ++ m).length := by rw [List.length_map, List.length_append]; omega
theorem yx (h : n = l.length) : 0 + n ≤ (l.map f).length := by rw [List.length_map]; omega
theorem yy (h : n = l.length) : ((l.map f).drop 0).take n = l.map f := by
 rw [List.drop_zero, List.take_of_length_le (by rw [List.length_map]; omega)]
theorem yz {f : α → List X} {z : List X} (h : z = f a) : List.replicate n z = (List.replicate n a).map f := by rw [List.map_replicate, h]
theorem jV {p : Prop} (h : p := by first | rfl | exact yz rfl) : p := h
theorem bf (h : n = l.length) : n = (l.map f).length := by rw [List.length_map]; exact h
theorem O8 {p : Prop} (h : p := by first | rfl | exact bf rfl | exact bf (by omega)) : p := h
end
section
variable {N : dJ} {st : St} {d : Nat}
theorem Sh.fL {s n : Nat} {rows : List (List X)} (o : Nat) (iV : List (List X)) (hx : look st.ax d = some (.cX s rows)) (he : rows = iV) (hn : n = iV.length) (hF : N.F.elem o = false) : Sh N st (((st.kill o).dr o (.rows s iV)).put d (.aR o s 0 n)) := by
 subst he; exact Sh.Bo o hx hn hF
theorem Sh.c1 {s : Nat} {rows : List (List X)} (iV : List (List X)) (hx : look st.ax d = some (.cX s rows)) (he : rows = iV) (hf : du iV) : Sh N st (st.put d (.fz s iV)) := by
 subst he; exact Sh.freeze hx hf
end
section
variable {P : Program} {N : dJ} {st : St} {dst : Option Nat} {ty : TypeId} {pos : String} {af : Array Edge} {g : Option (Nat × Bool)}
theorem Y.qj {s d : TypeId} {x : Operand} {k k' : IntKind} {n : Int} (hs : TY.isInt P s = some k') (hd : TY.isInt P d = some k) (hx : bu st x = some (.v (.int k' n))) (hr : k.wrap n = n) :
  Yields P N st ⟨dst, .convert s d x, ty, pos, af, g⟩ (.v (.int k n)) := Y.qi hs hd hx hr
end
theorem aI {l : List (Nat × X)} {i o s lo n n' : Nat} (h : look l i = some (.aR o s lo n)) (e : n = n') : look l i = some (.aR o s lo n') := e ▸ h
theorem aq {l : List (Nat × X)} {i : Nat} {k : IntKind} {a b : Int} (h : look l i = some (.v (.int k a))) (e : a = b) : look l i = some (.v (.int k b)) := e ▸ h
theorem bo {l : List (Nat × X)} {i : Nat} {a b : Bool} (h : look l i = some (.v (.bool a))) (e : a = b) : look l i = some (.v (.bool b)) := e ▸ h
theorem aB {l : List (Nat × Obj)} {i : Nat} {a b : List X} (h : look l i = some (.cells a)) (e : a = b) : look l i = some (.cells b) := e ▸ h
theorem aD {α : Type} {s : Nat} {f : α → List X} (h : ∀ a, (f a).length = s) {l : List α} : bA s (l.map f) := by
 intro r hr
 obtain ⟨a, _, rfl⟩ := List.mem_map.1 hr
 exact h a
theorem xW {α0 γ : Type} (f : α0 → γ) {a0 b0 : α0} (h0 : a0 = b0) : f a0 = f b0 := by subst h0; rfl
end Go.AW
namespace Go.AW
section
variable {α : Type} {l m : List α} {i j n : Nat} {d a x : α}
theorem lJ (h : i < n) : (List.replicate n a).getD i d = a := by
 rw [List.getD_eq_getElem?_getD, List.getElem?_replicate, if_pos h]; rfl
theorem sL {p : Nat → Prop} (h : ∀ j, j < i → p j) (hp : p i) : ∀ j, j < i + 1 → p j := by
 intro j hj
 rcases Nat.lt_or_ge j i with h1 | h1
 ·exact h j h1
 ·obtain rfl : j = i := by omega
  exact hp
end
end Go.AW
namespace Go.AW
open Go Go.ChangeShapes Go.WideShapes Go.Deep Go.RowKit
theorem bg.Eb {E : Env} : ∀ {xs ys : List X} {cs ds : List Value}, bg E xs cs [] → bg E ys ds [] → bg E (xs ++ ys) (cs ++ ds) []
 | [], _, _, _, h, h' => by simp only [bg] at h; rw [h.1]; exact h'
 | x :: r, ys, cs, ds, h, h' => by
  simp only [bg] at h
  obtain ⟨c, cp, R₁, R₂, rfl, hs, h1, h2, hR⟩ := h
  obtain ⟨rfl, rfl⟩ := List.append_eq_nil_iff.1 hR.symm
  simp only [List.cons_append, bg]
  exact ⟨c, cp ++ ds, [], [], rfl, hs, h1, bg.Eb h2 h', rfl⟩
theorem bg.v1 {E : Env} {u : Value} (h : gm u) : bg E [.v u] [u] [] := by
 simp only [bg]
 exact ⟨u, [], [], [], rfl, h, by simp [RX], ⟨rfl, rfl⟩, rfl⟩
theorem bg.len {E : Env} : ∀ {xs : List X} {cs : List Value} {R : List Nat}, bg E xs cs R → xs.length = cs.length
 | [], _, _, h => by simp only [bg] at h; rw [h.1]; rfl
 | x :: r, cs, R, h => by
  simp only [bg] at h
  obtain ⟨c, cp, R₁, R₂, rfl, _, _, h2, _⟩ := h
  simp [bg.len h2]
theorem RF.K5 {E : Env} {b : Nat} : ∀ {row : List X} {cs : List Value} {off : Nat}, bg E row cs [] → X.eU row = true → (∀ (j : Nat) c, cs[j]? = some c → E.φ b (off + j) = some c) → RF E row b off
 | [], _, _, _, _, _ => by simp [RF]
 | x :: r, cs, off, h, hn, hc => by
  simp only [bg] at h
  obtain ⟨c, cp, R₁, R₂, rfl, hs, h1, h2, hR⟩ := h
  obtain ⟨rfl, rfl⟩ := List.append_eq_nil_iff.1 hR.symm
  simp only [X.eU, Bool.and_eq_true] at hn
  simp only [RF]
  refine ⟨⟨c, by simpa using hc 0 c rfl, hs, hn.1, h1⟩, RF.K5 h2 hn.2 fun j c' hj => ?_⟩
  rw [show off + 1 + j = off + (j + 1) by omega]
  exact hc (j + 1) c' (by simpa using hj)
mutual
def oZ {H : Type} : DataW H → Nat
 | .lit (.string bytes) => bytes.length + 1
 | .lit _ => 1
 | .nil => 1
 | .ptr d => oZ d + 1
 | .slice elems spare => gU elems + gU spare + 1
 | .agg parts => gU parts + 1
 | .iface _ d => oZ d + 1
 | .map entries => nV entries + 1
 | .held _ => 1
def gU {H : Type} : List (DataW H) → Nat
 | [] => 0
 | d :: r => oZ d + gU r
def nV {H : Type} : List (Lit × DataW H) → Nat
 | [] => 0
 | x :: r => vY x + nV r
def vY {H : Type} : Lit × DataW H → Nat
 | (.string bytes, d) => bytes.length + oZ d + 1
 | (_, d) => oZ d + 1
end
theorem kK {H α : Type} {m : α → Nat} : ∀ {l : List α} {ds : List (DataW H)}, l.length = ds.length → (∀ (i : Nat) a d, l[i]? = some a → ds[i]? = some d → m a ≤ oZ d) → (l.map m).sum ≤ gU ds
 | [], _, _, _ => by simp
 | a :: l, [], h, _ => by simp at h
 | a :: l, d :: ds, h, hm => by
  have h1 := hm 0 a d rfl rfl
  have h2 := kK (l := l) (ds := ds) (by simpa using h) (fun i a' d' ha hd => hm (i + 1) a' d' (by simpa using ha) (by simpa using hd))
  simp only [List.map_cons, List.sum_cons, gU]; omega
section
variable {H : Type} (enc : TypeId × Value → H) (P : Program) (W : World) (base : Nat)
def Sz {H : Type} (P : Program) (t : TypeId) (d : DataW H) : Prop := ∀ n ∈ d.weights P t, n ≤ 140737488351232
def Reads (t : TypeId) {α : Type} (f : α → List X) (p : α → Prop) (m : α → Nat) : Prop :=
 ∀ (n : Nat) (cs : List Value) (y : DataW H × List MemPlace), DataW.trod enc P W base (fun _ => true) true n t cs = some y → Sz P t y.1 →
  ∃ a : α, p a ∧ bg (E0 W) (f a) cs [] ∧ X.aW (f a) = true ∧ X.eU (f a) = true ∧ m a ≤ oZ y.1
def mz (fl : List Field) (off m : Nat) {α : Type} (f : α → List X) (p : α → Prop) (mm : α → Nat) : Prop :=
 ∀ (n : Nat) (cs : List Value) (xs : List (DataW H × List MemPlace)), off + m ≤ cs.length → xs.length = fl.length →
  (∀ (i : Nat) (fd : Field), fl[i]? = some fd → DataW.trod enc P W base (fun _ => true) true n fd.type ((cs.drop fd.offset).take (P.cellsOf fd.type)) = xs[i]?) →
  (∀ (i : Nat) (fd : Field) (x : DataW H × List MemPlace), fl[i]? = some fd → xs[i]? = some x → Sz P fd.type x.1) →
  ∃ a : α, p a ∧ bg (E0 W) (f a) ((cs.drop off).take m) [] ∧ X.aW (f a) = true ∧ X.eU (f a) = true ∧ mm a ≤ gU (xs.map (·.1))
end
section
variable {H : Type} {enc : TypeId × Value → H} {P : Program} {W : World} {base : Nat} {t e : TypeId} {α β : Type} {f : α → List X} {p : α → Prop} {g : β → List X} {q : β → Prop} {mf : α → Nat} {mg : β → Nat}
theorem p7 : ∀ {a b : List X}, X.aW a = true → X.aW b = true → X.aW (a ++ b) = true
 | [], _, _, h => h
 | x :: r, b, h, h' => by
  simp only [X.aW, Bool.and_eq_true, List.cons_append] at h ⊢
  exact ⟨h.1, p7 h.2 h'⟩
theorem tO : ∀ {a b : List X}, X.eU a = true → X.eU b = true → X.eU (a ++ b) = true
 | [], _, _, h => h
 | x :: r, b, h, h' => by
  simp only [X.eU, Bool.and_eq_true, List.cons_append] at h ⊢
  exact ⟨h.1, tO h.2 h'⟩
theorem Reads.map (φ : α → β) (h : Reads enc P W base t f p mf) (hf : ∀ a, g (φ a) = f a) (hp : ∀ a, p a → q (φ a)) (hm : ∀ a, mg (φ a) ≤ mf a) : Reads enc P W base t g q mg := by
 intro n cs y hy hs
 obtain ⟨a, h1, h2, h3, h4, h5⟩ := h n cs y hy hs
 exact ⟨φ a, hp a h1, by rw [hf]; exact h2, by rw [hf]; exact h3, by rw [hf]; exact h4, Nat.le_trans (hm a) h5⟩
theorem Reads.int {k : IntKind} (he : P.underlying t = some (.int k)) : Reads enc P W base t (fun z : Int => [.v (.int k z)]) (fun z => (Lit.int k z).wf = true) (fun _ => 1) := by
 intro n cs y hy _
 obtain ⟨z, rfl, hd, hw⟩ := DataW.trod_int he hy
 exact ⟨z, hw, bg.v1 trivial, rfl, rfl, by rw [hd]; exact Nat.le_refl _⟩
theorem Reads.bool (he : P.underlying t = some .bool) : Reads enc P W base t (fun z : Bool => [.v (.bool z)]) (fun _ => True) (fun _ => 1) := by
 intro n cs y hy _
 obtain ⟨z, rfl, hd⟩ := DataW.trod_bool he hy
 exact ⟨z, trivial, bg.v1 trivial, rfl, rfl, by rw [hd]; exact Nat.le_refl _⟩
theorem gV {H : Type} {P : Program} {e : TypeId} : ∀ {ds : List (DataW H)} {d : DataW H}, d ∈ ds → ∀ n ∈ d.weights P e, n ∈ DataW.weightsAll P e ds
 | d' :: r, d, h, n, hn => by
  simp only [DataW.weightsAll, List.mem_append]
  rcases List.mem_cons.1 h with rfl | h
  ·exact .inl hn
  ·exact .inr (gV h n hn)
theorem Reads.slice [Inhabited α] {s B : Nat} (ht : P.underlying t = some (.slice e)) (hC : P.cellsOf e = s) (hs : 0 < s) (hB : P.bytesOf e = B) (he : Reads enc P W base e f p mf) :
  Reads enc P W base t (fun l : List α => [.fz s (l.map f)]) (fun l => l.length * B ≤ 140737488351232 ∧ ∀ a ∈ l, p a) (fun l => (l.map mf).sum) := by
 intro fuel cs y hy ei
 rcases open_slice ht hy with ⟨rfl, rfl⟩ | ⟨a, len, cap, m, n, D, Pl, rfl, _, hl, _, hm, rfl, hi⟩
 ·refine ⟨[], ⟨by simp, fun _ h => by cases h⟩, ?_, rfl, rfl, by simp⟩
  simp only [bg, List.map_nil]
  refine ⟨.slice none 0 0, [], [], [], rfl, trivial, ?_, ⟨rfl, by trivial⟩, rfl⟩
  simp only [RX]
  exact ⟨trivial, (fun _ h => by cases h), none, 0, rfl, .inl ⟨by trivial, rfl⟩⟩
 ·simp only [if_true] at hm
  subst hm
  rw [hC] at hi
  have hD : ∀ i, i < m → Sz P e (D i) := by
   intro i O9 k hk
   refine ei k ?_
   simp only [DataW.weights, ht, List.mem_cons, List.mem_append]
   right
   by_cases vG : i < len
   ·exact .inl (gV (List.mem_map.2 ⟨i, List.mem_range.2 vG, rfl⟩) k hk)
   ·refine .inr (gV (List.mem_map.2 ⟨i - len, List.mem_range.2 om, ?_⟩) k hk)
    congr 1; omega
  have Ms : ∀ i, ∃ x : α, i < len → ∃ cs, W.cells? base (a.add (i * s)) s = some cs ∧ p x ∧ bg (E0 W) (f x) cs [] ∧ X.aW (f x) = true ∧ X.eU (f x) = true ∧ mf x ≤ oZ (D i) := by
   intro i
   by_cases vG : i < len
   ·obtain ⟨cs, hc, Hy⟩ := hi i om
    obtain ⟨x, h0, h1, h2, h3, h4⟩ := he n cs _ Hy (hD i om)
    exact ⟨x, fun _ => ⟨cs, hc, h0, h1, h2, h3, h4⟩⟩
   ·exact ⟨default, fun h => absurd h vG⟩
  obtain ⟨g, hg⟩ := Classical.axiomOfChoice Ms
  refine ⟨(List.range len).map g, ⟨?_, ?_⟩, ?_, rfl, rfl, ?_⟩
  rotate_right
  ·refine Nat.le_trans (kK (m := mf) (ds := (List.range len).map D) (by simp) ?_) (by show _ ≤ gU _ + gU _ + 1; omega)
   intro i a' d' ha hd
   simp only [List.getElem?_map, Option.map_eq_some_iff] at ha hd
   obtain ⟨k, hk, rfl⟩ := ha
   obtain ⟨k', tN, rfl⟩ := hd
   rw [hk] at tN
   obtain rfl := Option.some.inj tN
   have Ac : i < len := by have := (List.getElem?_eq_some_iff.1 hk).1; simpa using this
   have oV : k = i := by rw [List.getElem?_range Ac] at hk; exact (Option.some.inj hk).symm
   subst oV
   obtain ⟨_, _, _, _, _, _, h5⟩ := hg k Ac
   exact h5
  ·have z := ei ((((List.range len).map D).length + ((List.range (m - len)).map fun j => D (len + j)).length) * P.bytesOf e) (by simp [DataW.weights, ht])
   rw [hB] at z
   simp only [List.length_map, List.length_range] at z ⊢
   exact Nat.le_trans (Nat.mul_le_mul_right _ om) z
  ·intro x hx
   simp only [List.mem_map, List.mem_range] at hx
   obtain ⟨i, fk, rfl⟩ := hx
   obtain ⟨_, _, h0, _⟩ := hg i fk
   exact h0
  ·have hu : bA s (((List.range len).map g).map f) := by
    intro r hr
    simp only [List.map_map, List.mem_map, List.mem_range, Function.comp] at hr
    obtain ⟨i, fk, rfl⟩ := hr
    obtain ⟨cs, hc, _, h1, _⟩ := hg i fk
    rw [bg.len h1]
    exact (World.cells?_some hc).2.1
   simp only [bg]
   refine ⟨_, [], [], [], rfl, trivial, ?_, ⟨rfl, rfl⟩, rfl⟩
   simp only [RX]
   refine ⟨trivial, hu, some a, m, by simp, ?_⟩
   by_cases Mt : m = 0
   ·exact .inl ⟨by simp [show len = 0 by omega], Mt⟩
   ·have Ak : a = ⟨a.block, a.off, none⟩ := by
     obtain ⟨cs, hc, _⟩ := hi 0 om
     have h1 := (World.cells?_some hc).2.2 0 hs
     have hlen := (World.cells?_some hc).2.1
     simp only [Nat.zero_mul, Addr.add, if_true] at h1
     rw [List.getElem?_eq_getElem (show 0 < cs.length by omega)] at h1
     unfold World.cell? at h1
     obtain ⟨b, o, sp⟩ := a
     cases sp with
     | none => rfl
     | some q => split at h1 <;> simp at h1
    refine .inr ⟨a.block, a.off, by rw [← Ak], by simp; omega, gp.of hu ?_⟩
    intro i row mn
    simp only [List.map_map, List.getElem?_map, Option.map_eq_some_iff, Function.comp] at mn
    obtain ⟨k, hk, rfl⟩ := mn
    have Ac : i < len := by have := (List.getElem?_eq_some_iff.1 hk).1; simpa using this
    have oV : k = i := by rw [List.getElem?_range Ac] at hk; exact (Option.some.inj hk).symm
    subst oV
    obtain ⟨cs, hc, _, h1, _, h2, _⟩ := hg k Ac
    refine RF.K5 h1 h2 fun j c K6 => ?_
    have kt : j < s := by have := (List.getElem?_eq_some_iff.1 K6).1; rw [(World.cells?_some hc).2.1] at this; exact this
    have h3 := (World.cells?_some hc).2.2 j kt
    rw [K6, add_add, Ak, fq] at h3
    show W.cell? _ = _
    rw [← h3]
    congr 2
    omega
theorem mz.nil {off : Nat} : mz enc P W base [] off 0 (fun _ : Unit => []) (fun _ => True) (fun _ => 0) := by
 intro n cs xs _ _ _ _
 exact ⟨(), trivial, by simp [bg], rfl, rfl, Nat.zero_le _⟩
theorem mz.cons {fd : Field} {fl : List Field} {off s m : Nat} (ho : fd.offset = off) (hC : P.cellsOf fd.type = s) (h : Reads enc P W base fd.type f p mf) (hr : mz enc P W base fl (off + s) m g q mg) :
  mz enc P W base (fd :: fl) off (s + m) (fun x : α × β => f x.1 ++ g x.2) (fun x => p x.1 ∧ q x.2) (fun x => mf x.1 + mg x.2) := by
 intro n cs xs hlen vr hx ei
 cases xs with
 | nil => simp at vr
 | cons x xs =>
  have h0 := hx 0 fd rfl
  rw [ho, hC] at h0
  obtain ⟨a, ha, h1, h2, h3, h4⟩ := h n _ x h0 (ei 0 fd x rfl rfl)
  obtain ⟨b, hb, g1, g2, g3, g4⟩ := hr n cs xs om (by simpa using vr) (fun i HH hi => by simpa using hx (i + 1) HH (by simpa using hi)) (fun i HH x' hi im => ei (i + 1) HH x' (by simpa using hi) (by simpa using im))
  refine ⟨(a, b), ⟨ha, hb⟩, ?_, p7 h2 g2, tO h3 g3, by simp only [List.map_cons, gU]; omega⟩
  have Bq : (cs.drop off).take (s + m) = (cs.drop off).take s ++ (cs.drop (off + s)).take m := by
   rw [List.take_add, List.drop_drop]
  rw [Bq]
  exact bg.Eb h1 g1
theorem j8 {H : Type} {P : Program} : ∀ {fl : List Field} {xs : List (DataW H × List MemPlace)} {i : Nat} {fd : Field} {x : DataW H × List MemPlace}, fl[i]? = some fd → xs[i]? = some x →
  ∀ n ∈ x.1.weights P fd.type, n ∈ DataW.weightsEach P (fl.map (·.type)) (xs.map (·.1))
 | f :: fl, y :: xs, 0, fd, x, h, h', n, hn => by
  simp only [List.getElem?_cons_zero, Option.some.injEq] at h h'
  subst h h'
  simp only [List.map_cons, DataW.weightsEach, List.mem_append]
  exact .inl hn
 | f :: fl, y :: xs, i + 1, fd, x, h, h', n, hn => by
  simp only [List.map_cons, DataW.weightsEach, List.mem_append]
  exact .inr (j8 (i := i) (by simpa using h) (by simpa using h') n hn)
theorem Reads.struct {fs : Array Field} {m : Nat} (ht : P.underlying t = some (.struct fs)) (hC : P.cellsOf t = m) (h : mz enc P W base fs.toList 0 m f p mf) : Reads enc P W base t f p mf := by
 intro fuel cs y hy ei
 obtain ⟨xs, n, _, rfl, hlen, vr, hx⟩ := DataW.trod_struct ht hy
 obtain ⟨a, ha, h1, h2, h3, h4⟩ := h n cs xs om (by simpa using vr) (fun i fd hi => hx i fd (by simpa using hi)) (fun i fd x hi im k hk => by
  refine ei k ?_
  simp only [DataW.weights, ht]
  exact j8 hi im k hk)
 refine ⟨a, ha, ?_, h2, h3, by show _ ≤ gU _ + 1; omega⟩
 rw [List.drop_zero, List.take_of_length_le om] at h1
 exact h1
theorem Reads.one {x : α → X} {v : Value} {d : DataW H} {ps : List MemPlace} (h : Reads enc P W base t (fun a => [x a]) p mf) (hs : Sz P t d) (hv : v.cells.toList = [v]) (ht : DataW.Trod enc P W base (fun _ => true) true t v d ps) :
  ∃ a, p a ∧ RX (E0 W) (x a) v [] ∧ mf a ≤ oZ d := by
 obtain ⟨fuel, hf⟩ := ht
 rw [hv] at hf
 obtain ⟨a, ha, h1, _, _, h5⟩ := h fuel _ _ hf hs
 simp only [bg] at h1
 obtain ⟨c, cp, R₁, R₂, hc, _, h2, _, hR⟩ := h1
 obtain ⟨rfl, rfl⟩ := List.append_eq_nil_iff.1 hR.symm
 simp only [List.cons.injEq] at hc
 exact ⟨a, ha, by rw [hc.1]; exact h2, h5⟩
theorem Reads.agg {cs : Array Value} {d : DataW H} {ps : List MemPlace} (h : Reads enc P W base t f p mf) (hs : Sz P t d) (ht : DataW.Trod enc P W base (fun _ => true) true t (.agg cs) d ps) :
  ∃ a, p a ∧ RX (E0 W) (.agg (f a)) (.agg cs) [] ∧ mf a ≤ oZ d := by
 obtain ⟨fuel, hf⟩ := ht
 obtain ⟨a, ha, h1, _, _, h5⟩ := h fuel _ _ hf hs
 exact ⟨a, ha, by simp only [RX]; exact ⟨cs, rfl, h1⟩, h5⟩
theorem Sz.of {ts : List TypeId} {ds : List (DataW H)} (h : (DataW.weightsEach P ts ds).all (· ≤ reachBytes) = true) {j : Nat} {d : DataW H} (Mu : ts[j]? = some t) (Mv : ds[j]? = some d) : Sz P t d := by
 intro n hn
 have := List.all_eq_true.1 h _ (DataW.weights_mem_each Mu Mv n hn)
 have h2 := of_decide_eq_true this
 exact h2
end
end Go.AW
namespace Go.AW
open Go
def lk (ops : Array Oper) (j i : Nat) : Bool := match ops[j]? with
 | some o => o.after.any fun e => Region.binds .any e && e.on == i
 | none => false
def Br (ops : Array Oper) (l rest : List Nat) (t : Nat) (ae : Array Bool) : Bool :=
 ae.size == ops.size && ((List.range ops.size).all fun j => !ae.getD j false || match ops[j]? with
  | some o => o.after.all fun e => !Region.binds .any e || ae.getD e.on false
  | none => true) && ((List.range ops.size).all fun j => ae.getD j true || l.contains j || rest.contains j) && (rest.all fun j => !ae.getD j true && !l.contains j) && (l.all fun j => !ae.getD j true) &&
  (rest.isEmpty || l.all fun i => (t :: l).any fun j => decide (i < j) && lk ops j i) && (rest.all fun j => j == t || rest.any fun k => lk ops j k) && decide l.Nodup
structure On (ops : Array Oper) (l0 rest : List Nat) (t : Nat) (l : List Nat) (ae : Array Bool) : Prop where
 size : ae.size = ops.size
 closed : ∀ j o, ops[j]? = some o → ae.getD j false = true → ∀ e ∈ o.after, Region.binds .any e = true → ae.getD e.on false = true
 part : ∀ j, ae.getD j true = false → j ∈ l ∨ j ∈ rest
 out : ∀ j ∈ rest, ae.getD j true = false ∧ j ∉ l0
 open_ : ∀ j ∈ l, ae.getD j true = false
 sub : ∀ j ∈ l, j ∈ l0
 sink : rest ≠ [] → ∀ i ∈ l0, ∃ j, (j = t ∨ j ∈ l0) ∧ i < j ∧ lk ops j i = true
 wait : ∀ j ∈ rest, j = t ∨ ∃ k ∈ rest, lk ops j k = true
 nodup : l.Nodup
theorem p8 {ae : Array Bool} {i : Nat} (h : ae.getD i true = false) : ae.getD i false = false := by
 rcases Nat.lt_or_ge i ae.size with h' | h'
 ·simp [h'] at h ⊢; exact h
 ·simp [Array.getElem?_eq_none h'] at h
theorem sM {ae : Array Bool} {i : Nat} (hi : i < ae.size) (h : ae.getD i false = false) : ae.getD i true = false := by
 simp [hi] at h ⊢; exact h
theorem mY {ops : Array Oper} {j i : Nat} (h : lk ops j i = true) : ∃ o, ops[j]? = some o ∧ ∃ e ∈ o.after, Region.binds .any e = true ∧ e.on = i := by
 unfold lk at h
 split at h
 ·rename_i o ho
  obtain ⟨e, he, hb⟩ := Array.any_eq_true'.1 h
  simp only [Bool.and_eq_true, beq_iff_eq] at hb
  exact ⟨o, ho, e, he, hb.1, hb.2⟩
 ·cases h
theorem y0 {ops : Array Oper} {l rest : List Nat} {t : Nat} {ae : Array Bool} (h : Br ops l rest t ae = true) : On ops l rest t l ae := by
 simp only [Br, Bool.and_eq_true, beq_iff_eq, List.all_eq_true, decide_eq_true_eq, List.mem_range, Bool.or_eq_true, Bool.not_eq_true', List.any_eq_true, List.contains_iff_mem] at h
 obtain ⟨⟨⟨⟨⟨⟨⟨h1, h2⟩, h3⟩, h4⟩, h5⟩, h6⟩, h7⟩, h8⟩ := h
 refine ⟨h1, ?_, ?_, ?_, h5, fun _ h => h, ?_, ?_, h8⟩
 ·intro j o ho hl e he hb
  have := h2 j (Array.getElem?_eq_some_iff.1 ho).1
  rw [hl, ho] at this
  simp only [Bool.true_eq_false, false_or] at this
  have h9 := Array.all_eq_true_iff_forall_mem.1 this e he
  simpa [hb] using h9
 ·intro j hj
  have CN : j < ops.size := by
   rcases Nat.lt_or_ge j ae.size with h' | h'
   ·omega
   ·simp [Array.getElem?_eq_none h'] at hj
  have := h3 j CN
  rw [hj] at this
  simpa using this
 ·intro j hj
  have := h4 j hj
  exact ⟨this.1, by simpa using this.2⟩
 ·intro er i hi
  obtain ⟨j, hj, gA, hw⟩ := (h6.resolve_left (by simpa using er)) i hi
  exact ⟨j, by simpa using hj, gA, hw⟩
 ·intro j hj
  exact h7 j hj
theorem p9 {ops : Array Oper} {ae : Array Bool} {j k : Nat} (hw : lk ops j k = true) (hk : ae.getD k true = false) : j ∉ Region.ready .any ops ae := by
 intro hj
 obtain ⟨_, o, ho, oY⟩ := mem_ready.1 hj
 obtain ⟨o', kD, e, he, hb, gq⟩ := mY hw
 rw [ho] at kD
 cases kD
 have := oY e he hb
 rw [gq, p8 hk] at this
 cases this
theorem nW : ∀ {l : List Nat}, l ≠ [] → ∃ m ∈ l, ∀ x ∈ l, x ≤ m
 | [], h => absurd rfl h
 | [a], _ => ⟨a, by simp, by simp⟩
 | a :: b :: r, _ => by
  obtain ⟨m, hm, hx⟩ := nW (l := b :: r) (by simp)
  rcases Nat.le_total a m with h | h
  ·exact ⟨m, List.mem_cons_of_mem _ hm, fun x im => by rcases List.mem_cons.1 im with rfl | im; exact h; exact hx x im⟩
  ·exact ⟨a, by simp, fun x im => by rcases List.mem_cons.1 im with rfl | im; exact Nat.le_refl _; exact Nat.le_trans (hx x im) h⟩
theorem On.ready {ops : Array Oper} {l0 rest l : List Nat} {t : Nat} {ae : Array Bool} (h : On ops l0 rest t l ae) (er : l ≠ []) : ∀ j ∈ Region.ready .any ops ae, j ∈ l := by
 intro j hj
 have tD := (mem_ready.1 hj).1
 rcases h.part j tD with hl | hr
 ·exact hl
 ·exfalso
  rcases h.wait j hr with rfl | ⟨k, hk, hw⟩
  ·obtain ⟨m, hm, HJ⟩ := nW er
   obtain ⟨j', uB, gA, hw⟩ := h.sink (fun e => by rw [e] at hr; cases hr) m (h.sub m hm)
   rcases uB with rfl | uB
   ·exact p9 hw (h.open_ m hm) hj
   ·obtain ⟨o, ho, e, he, hb, gq⟩ := mY hw
    cases hl : ae.getD j' false with
    | true =>
     have := h.closed j' o ho hl e he hb
     rw [gq, p8 (h.open_ m hm)] at this
     cases this
    | false =>
     have hs : j' < ae.size := by rw [h.size]; exact (Array.getElem?_eq_some_iff.1 ho).1
     rcases h.part j' (sM hs hl) with h1 | h1
     ·have := HJ j' h1; omega
     ·exact (h.out j' h1).2 uB
  ·exact p9 hw (h.out k hk).1 hj
theorem On.step {ops : Array Oper} {l0 rest l : List Nat} {t j : Nat} {ae : Array Bool} (h : On ops l0 rest t l ae) (hj : j ∈ Region.ready .any ops ae) (hl : j ∈ l) : On ops l0 rest t (l.erase j) (ae.setIfInBounds j true) := by
 obtain ⟨_, oj, vt, oY⟩ := mem_ready.1 hj
 have other : ∀ k (d : Bool), j ≠ k → (ae.setIfInBounds j true).getD k d = ae.getD k d := fun k d py => by
  simp only [Array.getD_eq_getD_getElem?, Array.getElem?_setIfInBounds_ne py]
 refine ⟨by simp [h.size], ?_, ?_, ?_, ?_, fun k hk => h.sub k (List.mem_of_mem_erase hk), h.sink, h.wait, h.nodup.erase j⟩
 ·intro k o ho hk e he hb
  by_cases py : j = k
  ·subst py
   rw [vt] at ho
   cases ho
   exact getD_set_true (oY e he hb)
  ·rw [other k false py] at hk
   exact getD_set_true (h.closed k o ho hk e he hb)
 ·intro k hk
  by_cases py : j = k
  ·subst py
   rw [Array.getD_eq_getD_getElem?] at hk
   rcases Nat.lt_or_ge j ae.size with h' | h'
   ·simp [h'] at hk
   ·simp at hk
  ·rw [other k true py] at hk
   rcases h.part k hk with h1 | h1
   ·exact .inl ((List.mem_erase_of_ne (fun e => py e.symm)).2 h1)
   ·exact .inr h1
 ·intro k hk
  have h1 := h.out k hk
  have py : j ≠ k := fun e => h1.2 (e ▸ h.sub j hl)
  exact ⟨by rw [other k true py]; exact h1.1, h1.2⟩
 ·intro k hk
  have py : j ≠ k := fun e => by subst e; exact (List.Nodup.not_mem_erase h.nodup) hk
  rw [other k true py]; exact h.open_ k (List.mem_of_mem_erase hk)
section
variable {P : Program} {N : dJ} {ops : Array Oper} {d : Nat} {ty : TypeId} {pos : String} {af : Array Edge}
def j9 (P : Program) (ops : Array Oper) (w : World) (L : Array Bool → Act → Prop) : Nat → Array Bool → Act → Prop
 | 0, ae, a => L ae a
 | n + 1, ae, a => Region.ready .any ops ae ≠ [] ∧ ∀ j ∈ Region.ready .any ops ae, stOp P ops w j (j9 P ops w L n (ae.setIfInBounds j true)) a
theorem j9.any {w : World} {L : Array Bool → Act → Prop} {Q' : Exit → Act → World → Prop} {k : Nat} (hL : ∀ ae a, L ae a → wpAny P .any ops Q' k ae a w) :
  ∀ (n : Nat) (ae : Array Bool) (a : Act), j9 P ops w L n ae a → wpAny P .any ops Q' (n + k) ae a w
 | 0, ae, a, h => by rw [Nat.zero_add]; exact hL _ _ h
 | n + 1, ae, a, h => by
  rw [Nat.add_right_comm]
  exact ⟨fun e => absurd e h.1, fun j hj => wpOp_of_stOp (fun a' => j9.any hL n _ a') (h.2 j hj)⟩
theorem j9.first {l0 rest : List Nat} {t : Nat} {w : World} {L : Array Bool → Act → Prop} {i : Nat} {oi : Oper} {v : Value} (hi : ops[i]? = some oi) (vZ : Region.noSelect ops = true) : ∀ (n : Nat) (l : List Nat) (ae : Array Bool) (a : Act),
  l.length = n → On ops l0 rest t (i :: l) ae → (∀ j oj, ops[j]? = some oj → j ≠ i → ae.getD j true = false → (∀ e ∈ oj.after, Region.binds .any e = true → e.on ≠ i) → oi.apart ops oj = true) →
  i ∈ Region.ready .any ops ae → YieldsAt P ops w oi v a → j9 P ops w L n (ae.setIfInBounds i true) (a.put oi.dst v) → j9 P ops w L (n + 1) ae a := by
 intro n
 induction n with
 | zero =>
  intro l ae a hl hB _ hr hy H
  refine ⟨fun e => (by rw [e] at hr; cases hr), fun j hj => ?_⟩
  have h1 := hB.ready (by simp) j hj
  have Mw : l = [] := List.length_eq_zero_iff.1 hl
  subst Mw
  obtain rfl : j = i := by simpa using h1
  exact hy.stOp hi H
 | succ n ih =>
  intro l ae a hl hB iX hr hy H
  refine ⟨fun e => (by rw [e] at hr; cases hr), fun j hj => ?_⟩
  by_cases sw : j = i
  ·subst sw; exact hy.stOp hi H
  ·have h1 := hB.ready (by simp) j hj
   have h2 := hB.step hj h1
   have kt : j ∈ l := by simpa [sw] using h1
   have er : (i == j) = false := by simpa using fun h => sw h.symm
   rw [List.erase_cons, er] at h2
   obtain ⟨tD, oj, vt, oY⟩ := mem_ready.1 hj
   have y4 : ∀ e ∈ oj.after, Region.binds .any e = true → e.on ≠ i := by
    intro e he hb heq
    have h3 := oY e he hb
    have h4 := (mem_ready.1 hr).1
    rw [heq] at h3
    rcases Nat.lt_or_ge i ae.size with h' | h'
    ·simp [h'] at h3 h4; rw [h3] at h4; cases h4
    ·simp [Array.getElem?_eq_none h'] at h3
   have h5 := stOp_put vt (iX j oj vt sw tD y4) (fun cs b => Region.noSelect_spec vZ i oi cs b hi) (fun cs b => Region.noSelect_spec vZ j oj cs b vt) hy (H.2 j (ready_mono hj sw))
   refine stOp_mono (fun a' h6 => ih (l.erase j) _ a' (by rw [List.length_erase_of_mem kt, hl]; rfl) h2 ?_ (ready_mono hr (fun h => sw h.symm)) h6.1 ?_) h5
   ·intro k ok hk oV Ec DV
    refine iX k ok hk oV ?_ DV
    by_cases py : j = k
    ·subst py; exact tD
    ·have : (ae.setIfInBounds j true).getD k true = ae.getD k true := by
      simp only [Array.getD_eq_getD_getElem?, Array.getElem?_setIfInBounds_ne py]
     rw [this] at Ec; exact Ec
   ·have : (ae.setIfInBounds j true).setIfInBounds i true = (ae.setIfInBounds i true).setIfInBounds j true := Array.setIfInBounds_comm _ _ sw
    rw [this]; exact h6.2
def AQ (P : Program) (N : dJ) (ops : Array Oper) (l0 rest : List Nat) (t : Nat) (l : List Nat) (ae : Array Bool) (st : St) (K : Array Bool → St → Prop) : Prop :=
 On ops l0 rest t l ae → ∀ G : Ctx, G.fn = N → ∀ a w, bO G st a w → j9 P ops w (fun n9 a' => ∃ aQ, K n9 aQ ∧ bO G aQ a' w) l.length ae a
theorem AQ.nil {l0 rest : List Nat} {t : Nat} {ae : Array Bool} {st : St} {K : Array Bool → St → Prop} (h : K ae st) : AQ P N ops l0 rest t [] ae st K := fun _ _ _ _ _ hh => ⟨st, h, hh⟩
theorem AQ.cons {l0 rest : List Nat} {t i : Nat} {l : List Nat} {ae : Array Bool} {st : St} {K : Array Bool → St → Prop} {op : Op} {x : X} (ho : ops[i]? = some ⟨some d, op, ty, pos, af, none⟩)
  (hB : (Region.noSelect ops && Region.free .any ops ae i && (Region.ready .any ops ae).contains i) = true) (hy : Yields P N st ⟨some d, op, ty, pos, af, none⟩ x) (hd : d < N.n)
  (k : AQ P N ops l0 rest t l (ae.setIfInBounds i true) (st.put d x) K) : AQ P N ops l0 rest t (i :: l) ae st K := by
 intro h4 G hn a w hh
 obtain ⟨E, RR, rfl, hi⟩ := hh
 obtain ⟨u, hr, hx⟩ := hy G E RR a hn hi
 simp only [Bool.and_eq_true] at hB
 obtain ⟨⟨h1, h2⟩, h3⟩ := hB
 have h5 := h4.step (j := i) (by simpa using h3) (by simp)
 rw [List.erase_cons_head] at h5
 exact j9.first ho h1 l.length l ae a rfl h4 (Region.free_spec ho h2) (by simpa using h3) (v := u) (.inl ⟨by simp [Region.wanted], .inl hr⟩) (k h5 G hn _ _ ⟨E, _, rfl, hi.eP (hn ▸ hd) hx⟩)
theorem AQ.skip {l0 rest : List Nat} {t i : Nat} {l : List Nat} {ae : Array Bool} {st : St} {K : Array Bool → St → Prop} {op : Op} {j dj : Nat} {want : Bool} {u : Value} (ho : ops[i]? = some ⟨some d, op, ty, pos, af, some (j, want)⟩)
  (hB : (Region.noSelect ops && Region.free .any ops ae i && (Region.ready .any ops ae).contains i) = true)
  (hj : (ops[j]?).bind (·.dst) = some dj) (pe : dj < N.n) (hd : d < N.n) (hx : look st.ax dj = some (.v u)) (er : nS want u = true)
  (k : AQ P N ops l0 rest t l (ae.setIfInBounds i true) (st.put d (.v undef)) K) : AQ P N ops l0 rest t (i :: l) ae st K := by
 intro h4 G hn a w hh
 obtain ⟨E, RR, rfl, hi⟩ := hh
 simp only [Bool.and_eq_true] at hB
 obtain ⟨⟨h1, h2⟩, h3⟩ := hB
 have h5 := h4.step (j := i) (by simpa using h3) (by simp)
 rw [List.erase_cons_head] at h5
 have hw := iY (all := ops) (dst := some d) (op := op) (ty := ty) (pos := pos) (af := af) hi hj (hn ▸ pe) hx er
 exact j9.first ho h1 l.length l ae a rfl h4 (Region.free_spec ho h2) (by simpa using h3) (v := undef) (.inr ⟨hw, rfl⟩) (k h5 G hn _ _ ⟨E, _, rfl, hi.eP (hn ▸ hd) (by simp [RX])⟩)
theorem AQ.run {l0 rest : List Nat} {t i : Nat} {l : List Nat} {ae : Array Bool} {st : St} {K : Array Bool → St → Prop} {op : Op} {x : X} {j dj : Nat} {want : Bool} (ho : ops[i]? = some ⟨some d, op, ty, pos, af, some (j, want)⟩)
  (hB : (Region.noSelect ops && Region.free .any ops ae i && (Region.ready .any ops ae).contains i) = true)
  (hj : (ops[j]?).bind (·.dst) = some dj) (pe : dj < N.n) (hx : look st.ax dj = some (.v (.bool want))) (hy : Yields P N st ⟨some d, op, ty, pos, af, some (j, want)⟩ x) (hd : d < N.n)
  (k : AQ P N ops l0 rest t l (ae.setIfInBounds i true) (st.put d x) K) : AQ P N ops l0 rest t (i :: l) ae st K := by
 intro h4 G hn a w hh
 obtain ⟨E, RR, rfl, hi⟩ := hh
 obtain ⟨u, hr, im⟩ := hy G E RR a hn hi
 simp only [Bool.and_eq_true] at hB
 obtain ⟨⟨h1, h2⟩, h3⟩ := hB
 have h5 := h4.step (j := i) (by simpa using h3) (by simp)
 rw [List.erase_cons_head] at h5
 have hs := hi.ax dj _ hx
 simp only [RX] at hs
 have ei : dj < a.tmps.size := by rw [hi.tmps, hn]; exact pe
 have hv : a.tmps[dj]? = some (.bool want) := by
  have := hs.1
  simp only [Array.getD, ei, dif_pos] at this
  rw [Array.getElem?_eq_getElem ei]
  exact congrArg some this
 have hw : Region.wanted ⟨some d, op, ty, pos, af, some (j, want)⟩ (yielded ops a.tmps) = true := by
  simp [Region.wanted, yielded, hj, hv]
 exact j9.first ho h1 l.length l ae a rfl h4 (Region.free_spec ho h2) (by simpa using h3) (v := u) (.inl ⟨hw, .inl hr⟩) (k h5 G hn _ _ ⟨E, _, rfl, hi.eP (hn ▸ hd) im⟩)
theorem aS.bl (l rest : List Nat) (t : Nat) {m n : Nat} (hm : m = l.length + n) {ae : Array Bool} {st : St} {K : St → Prop} (hB : Br ops l rest t ae = true)
  (h : AQ P N ops l rest t l ae st (fun n9 aQ => aS P N ops n n9 aQ K)) : aS P N ops m ae st K := by
 subst hm
 intro G hn a w hh
 refine j9.any (fun n9 a' ⟨aQ, hk, fI⟩ => ?_) l.length ae a (h (y0 hB) G hn a w hh)
 exact hk G hn a' w fI
end
end Go.AW
namespace Go.AW
open Go
section
variable {P : Program} {N : dJ} {st : St} {Q : Exit → St → Prop} {all : Array Oper} {rest : List Oper} {d : Nat} {ty : TypeId} {pos : String} {af : Array Edge}
theorem Inv.nX {G : Ctx} {E : Env} {RR : Own → List Nat} {a : Act} (hi : Inv G E RR st a) {tv : Nat} {x : X} (hy : look st.ax tv = some x) (hd : d < G.fn.n) :
  ∃ et, Inv G E et ((st.put tv .no).put d x) (a.put (some d) (a.eval (.tmp tv))) := by
 have hv := hi.ax tv _ hy
 have j5 := hi.no tv
 refine ⟨_, j5.put (R := RR (.slot tv)) hd hv (hi.nodup _) (fun b hb => ⟨(hi.own _ _ hb).1, (hi.own _ _ hb).2, fun p _ hp => ?_⟩)⟩
 unfold en at hp
 split at hp
 ·cases hp
 ·rename_i h; exact hi.apart _ _ h b hp hb
theorem aa.bx {tv : Nat} {x : X} (hy : look st.ax tv = some x) (hd : d < N.n) (k : aa P N all rest ((st.put tv .no).put d x) Q) :
  aa P N all (⟨some d, .assign (.tmp tv), ty, pos, af, none⟩ :: rest) st Q :=
 aa.vB (fun G E RR a hn hi => let ⟨et, h⟩ := hi.nX hy (by rw [hn]; exact hd); ⟨a.eval (.tmp tv), E, et, rfl, h⟩) k
theorem aa.nX {tv : Nat} {x : X} (hy : look st.ax tv = some x) (hd : d < N.n) (k : aa P N all rest ((st.put tv .no).put d x) Q) :
  aa P N all (⟨some d, .move (.tmp tv), ty, pos, af, none⟩ :: rest) st Q :=
 aa.vB (fun G E RR a hn hi => let ⟨et, h⟩ := hi.nX hy (by rw [hn]; exact hd); ⟨a.eval (.tmp tv), E, et, rfl, h⟩) k
theorem dy.tP {E : Env} : ∀ {xs : List X} {cs : List Value} {R : List Nat} {k : Nat} {x : X}, dy E xs cs R → xs[k]? = some x →
  ∃ u Ra Rk Rb, cs[k]? = some u ∧ RX E x u Rk ∧ R = Ra ++ (Rk ++ Rb) ∧ dy E (xs.set k .no) cs (Ra ++ Rb)
 | [], _, _, _, _, _, h => by simp at h
 | y :: r, cs, R, 0, x, h, hx => by
  simp only [dy] at h
  simp only [List.getElem?_cons_zero, Option.some.injEq] at hx
  subst hx
  obtain ⟨c, cp, R₁, R₂, rfl, h1, h2, rfl⟩ := h
  refine ⟨c, [], R₁, R₂, rfl, h1, rfl, ?_⟩
  simp only [List.set_cons_zero, dy, List.nil_append]
  exact ⟨c, cp, [], R₂, rfl, by simp [RX], h2, rfl⟩
 | y :: r, cs, R, k + 1, x, h, hx => by
  simp only [dy] at h
  obtain ⟨c, cp, R₁, R₂, rfl, h1, h2, rfl⟩ := h
  obtain ⟨u, Ra, Rk, Rb, hu, h3, rfl, h4⟩ := dy.tP (k := k) h2 (by simpa using hx)
  refine ⟨u, R₁ ++ Ra, Rk, Rb, by simpa using hu, h3, by simp, ?_⟩
  simp only [List.set_cons_succ, dy]
  exact ⟨c, cp, R₁, Ra ++ Rb, rfl, h1, h4, by simp⟩
theorem aa.jW {tv : Nat} {xs : List X} {y : X} {k : Nat} (hx : look st.ax tv = some (.tup xs)) (hy : xs[k]? = some y) (hd : d < N.n)
  (kk : aa P N all rest ((st.put tv (.tup (xs.set k .no))).put d y) Q) : aa P N all (⟨some d, .extract (.tmp tv) k, ty, pos, af, none⟩ :: rest) st Q := by
 refine aa.vB (fun G E RR a hn hi => ?_) kk
 have hp := hi.ax tv _ hx
 have iw := hi.nodup (.slot tv)
 simp only [RX] at hp
 obtain ⟨cs, hc, eM⟩ := hp
 obtain ⟨u, Ra, Rk, Rb, hu, h1, hR, h2⟩ := dy.tP eM hy
 have cx : ∀ b ∈ Ra ++ Rb, b ∈ RR (.slot tv) := by
  intro b hb
  rw [hR]
  rcases List.mem_append.1 hb with h | h
  ·exact bK h
  ·exact bC (bC h)
 have wa : ∀ b ∈ Rk, b ∈ RR (.slot tv) := fun b hb => by rw [hR]; exact bC (bK hb)
 rw [hR, List.nodup_append, List.nodup_append] at iw
 obtain ⟨Mx, ⟨Gx, Bn, HK⟩, AZ⟩ := iw
 have Ed : (Ra ++ Rb).Nodup := List.nodup_append.2 ⟨Mx, Bn, fun x hx y hy => AZ x hx y (bC hy)⟩
 have j5 := hi.relabel (d := tv) (x := .tup (xs.set k .no)) (R := Ra ++ Rb) (by simp only [RX]; exact ⟨cs, hc, h2⟩) Ed
  (fun b hb => ⟨(hi.own _ _ (cx b hb)).1, (hi.own _ _ (cx b hb)).2, fun p hp u6 => hi.apart p (.slot tv) hp b u6 (cx b hb)⟩)
 refine ⟨u, E, _, ?_, j5.put (R := Rk) (by rw [hn]; exact hd) h1 Gx (fun b hb => ⟨(hi.own _ _ (wa b hb)).1, (hi.own _ _ (wa b hb)).2, fun p _ u6 => ?_⟩)⟩
 ·show (do let z ← Instr.extract (a.eval (.tmp tv)) k; pure (Next.value z) : Sem Next).run P E.w = _
  have lB : a.eval (.tmp tv) = .tuple cs := hc
  rw [lB]
  refine cK ?_
  have xP : cs[k]? = some u := by simpa using hu
  simp only [Instr.extract, xP]; rfl
 ·unfold en at u6
  split at u6
  ·rcases List.mem_append.1 u6 with h | h
   ·exact AZ b h b (bK hb) rfl
   ·exact HK b hb b h rfl
  ·rename_i h; exact hi.apart _ _ h b u6 (wa b hb)
end
end Go.AW
namespace Go.AW
open Go
section
variable {P : Program} {N : dJ} {st : St} {Q : Exit → St → Prop} {all : Array Oper} {rest : List Oper} {d : Nat} {ty : TypeId} {pos : String} {af : Array Edge}
end
end Go.AW
namespace Go.AW
open Go
mutual
def X.l8 (o : Nat) (row : List X) : X → X
 | .ptr p s i k => bif Nat.beq p o && Nat.beq (i * s) 0 then .fp row k else .ptr p s i k
 | .agg xs => .agg (X.jq o row xs)
 | .tup xs => .tup (X.jq o row xs)
 | .fH f a b => .fH f (X.jq o row a) (X.jq o row b)
 | .v u => .v u
 | .no => .no
 | .fz s rs => .fz s rs
 | .cX s rs => .cX s rs
 | .aR p s l n => .aR p s l n
 | .mref p => .mref p
 | .fp r k => .fp r k
def X.jq (o : Nat) (row : List X) : List X → List X
 | [] => []
 | x :: r => X.l8 o row x :: X.jq o row r
end
def Obj.l8 (o : Nat) (row : List X) : Obj → Obj
 | .cells xs => .cells (X.jq o row xs)
 | ob => ob
mutual
theorem X.wb {o : Nat} {row : List X} : ∀ {x : X}, x.free = true → (x.l8 o row).free = true
 | .ptr p s i k, _ => by
  simp only [X.l8]
  cases Nat.beq p o && Nat.beq (i * s) 0 <;> rfl
 | .agg xs, h => X.jr (xs := xs) h
 | .tup xs, h => X.jr (xs := xs) h
 | .fH f a b, _ => rfl
 | .v u, _ | .no, _ | .fz s rs, _ | .aR p s l n, _ | .mref p, _ | .fp r k, _ => rfl
theorem X.jr {o : Nat} {row : List X} : ∀ {xs : List X}, X.aW xs = true → X.aW (X.jq o row xs) = true
 | [], _ => rfl
 | x :: r, h => by
  simp only [X.aW, Bool.and_eq_true] at h
  simp only [X.jq, X.aW, X.wb h.1, X.jr h.2, Bool.and_self]
end
theorem X.ry {o : Nat} {row : List X} : ∀ {xs : List X}, (X.jq o row xs).length = xs.length
 | [] => rfl
 | x :: r => by simp [X.jq, X.ry (xs := r)]
mutual
theorem RX.l8 {E E' : Env} {o : Nat} {row : List X} {B : zV} (hB : E.β o = some B) (hF : RF E' row B.b B.off) (hβ : E'.β = E.β) : ∀ (x : X) (c : Value) (R : List Nat), E.On E' R → RX E x c R → RX E' (x.l8 o row) c R
 | .ptr p s i k, c, R, hE, h => by
  simp only [X.l8]
  cases hc : Nat.beq p o && Nat.beq (i * s) 0 with
  | false => simp only [cond_false]; exact RX.mono _ c R hE (fun q _ => by rw [hβ]) h
  | true =>
   simp only [Bool.and_eq_true] at hc
   have h1 := Nat.eq_of_beq_eq_true hc.1
   have h2 := Nat.eq_of_beq_eq_true hc.2
   subst h1
   simp only [cond_true, RX] at h ⊢
   obtain ⟨hR, B', fY, rfl⟩ := h
   rw [hB] at fY
   obtain rfl := Option.some.inj fY
   exact ⟨hR, B.b, B.off, by rw [h2, Nat.zero_add], hF⟩
 | .agg xs, c, R, hE, h => by
  simp only [RX, X.l8] at h ⊢
  obtain ⟨cs, hc, hs⟩ := h
  exact ⟨cs, hc, bg.l8 hB hF hβ xs _ R hE hs⟩
 | .tup xs, c, R, hE, h => by
  simp only [RX, X.l8] at h ⊢
  obtain ⟨cs, hc, hs⟩ := h
  exact ⟨cs, hc, dy.l8 hB hF hβ xs _ R hE hs⟩
 | .fH fn a b, c, R, hE, h => by
  simp only [RX, X.l8] at h ⊢
  obtain ⟨hR, f, cc, hc, h1, h2⟩ := h
  exact ⟨hR, f, cc, hc, dy.l8 hB hF hβ a _ [] (hE.sub (by simp)) h1, dy.l8 hB hF hβ b _ [] (hE.sub (by simp)) h2⟩
 | .v u, c, R, hE, h => RX.mono (.v u) c R hE (fun q _ => by rw [hβ]) h
 | .no, c, R, hE, h => RX.mono .no c R hE (fun q _ => by rw [hβ]) h
 | .fz s rs, c, R, hE, h => RX.mono (.fz s rs) c R hE (fun q _ => by rw [hβ]) h
 | .cX s rs, c, R, hE, h => RX.mono (.cX s rs) c R hE (fun q _ => by rw [hβ]) h
 | .aR p s l n, c, R, hE, h => RX.mono (.aR p s l n) c R hE (fun q _ => by rw [hβ]) h
 | .mref p, c, R, hE, h => RX.mono (.mref p) c R hE (fun q _ => by rw [hβ]) h
 | .fp r k, c, R, hE, h => RX.mono (.fp r k) c R hE (fun q _ => by rw [hβ]) h
theorem bg.l8 {E E' : Env} {o : Nat} {row : List X} {B : zV} (hB : E.β o = some B) (hF : RF E' row B.b B.off) (hβ : E'.β = E.β) : ∀ (xs : List X) (cs : List Value) (R : List Nat), E.On E' R → bg E xs cs R → bg E' (X.jq o row xs) cs R
 | [], _, _, _, h => by simpa [bg, X.jq] using h
 | x :: r, cs, R, hE, h => by
  simp only [bg, X.jq] at h ⊢
  obtain ⟨c, cp, R₁, R₂, hc, hs, h1, h2, hR⟩ := h
  subst hR
  exact ⟨c, cp, R₁, R₂, hc, hs, RX.l8 hB hF hβ x c R₁ (hE.sub (fun _ h => bK h)) h1, bg.l8 hB hF hβ r cp R₂ (hE.sub (fun _ h => bC h)) h2, rfl⟩
theorem dy.l8 {E E' : Env} {o : Nat} {row : List X} {B : zV} (hB : E.β o = some B) (hF : RF E' row B.b B.off) (hβ : E'.β = E.β) : ∀ (xs : List X) (cs : List Value) (R : List Nat), E.On E' R → dy E xs cs R → dy E' (X.jq o row xs) cs R
 | [], _, _, _, h => by simpa [dy, X.jq] using h
 | x :: r, cs, R, hE, h => by
  simp only [dy, X.jq] at h ⊢
  obtain ⟨c, cp, R₁, R₂, hc, h1, h2, hR⟩ := h
  subst hR
  exact ⟨c, cp, R₁, R₂, hc, RX.l8 hB hF hβ x c R₁ (hE.sub (fun _ h => bK h)) h1, dy.l8 hB hF hβ r cp R₂ (hE.sub (fun _ h => bC h)) h2, rfl⟩
theorem RO.l8 {E E' : Env} {o : Nat} {row : List X} {B : zV} (hB : E.β o = some B) (hF : RF E' row B.b B.off) (hβ : E'.β = E.β) : ∀ (xs : List X) (cs : Array Value) (off : Nat) (R : List Nat), E.On E' R → RO E xs cs off R → RO E' (X.jq o row xs) cs off R
 | [], _, _, _, _, h => by simpa [RO, X.jq] using h
 | x :: r, cs, off, R, hE, h => by
  simp only [RO, X.jq] at h ⊢
  obtain ⟨u, R₁, R₂, hu, hs, h1, h2, hR⟩ := h
  subst hR
  exact ⟨u, R₁, R₂, hu, hs, RX.l8 hB hF hβ x u R₁ (hE.sub (fun _ h => bK h)) h1, RO.l8 hB hF hβ r cs (off + 1) R₂ (hE.sub (fun _ h => bC h)) h2, rfl⟩
end
def HL (o : Nat) (row : List X) (l : List (Nat × X)) : List (Nat × X) := l.map fun p => (p.1, p.2.l8 o row)
def HM (o : Nat) (row : List X) (l : List (Nat × Obj)) : List (Nat × Obj) := l.map fun p => (p.1, p.2.l8 o row)
theorem m0 {α β : Type} {f : α → β} : ∀ {l : List (Nat × α)} {s : Nat} {y : β}, look (l.map fun p => (p.1, f p.2)) s = some y → ∃ x, look l s = some x ∧ y = f x
 | [], _, _, h => by cases h
 | (t, x) :: r, s, y, h => by
  simp only [List.map_cons, look] at h ⊢
  cases hb : Nat.beq t s with
  | true => rw [hb] at h; simp only [cond_true, Option.some.injEq] at h ⊢; exact ⟨x, rfl, h.symm⟩
  | false => rw [hb] at h; simp only [cond_false] at h ⊢; exact m0 h
section
variable {N : dJ} {st : St}
theorem Sh.pW (o : Nat) {xs : List X} (ho : look st.ay o = some (.cells xs)) (hn : X.eU xs = true) : Sh N st ⟨HL o xs st.ax, (o, .gone) :: HM o xs st.ay⟩ := by
 intro G _ a w hh
 obtain ⟨E, RR, rfl, hi⟩ := hh
 have aL := hi.ay o _ ho
 simp only [dq] at aL
 obtain ⟨nz, B, cs, ty, hB, hw, hφ, hlen, il, gr⟩ := aL
 have fv : ∀ i v, cs[i]? = some v → (E.eJ (fun b => b = B.b)).φ B.b i = some v := by
  intro i v h
  rw [gE E (LB := fun b => b = B.b) rfl]
  unfold World.cell?
  simp [hw, h]
 have hle : ∀ c i v, E.φ c i = some v → (E.eJ (fun b => b = B.b)).φ c i = some v := by
  intro c i v h
  by_cases hc : c = B.b
  ·subst hc; rw [hφ i] at h; cases h
  ·rw [dP E (LB := fun b => b = B.b) hc]; exact h
 have hF : RF (E.eJ (fun b => b = B.b)) xs B.b B.off := by
  have h1 := RO.lg (E := E) (E' := E.eJ (fun b => b = B.b)) xs cs B.b B.off [] fv ⟨rfl, rfl, hle, fun _ h => by cases h⟩ hn il
  rw [X.jo nz] at h1
  exact h1
 have lE : ∀ p, p ≠ .obj o → B.b ∉ RR p := fun p hp hb => hi.apart p (.obj o) hp _ hb (by rw [gr]; simp)
 have gq : ∀ p, p ≠ .obj o → E.On (E.eJ (fun b => b = B.b)) (RR p) := by
  intro p hp
  refine ⟨hle, fun c hc => ⟨rfl, fun h i => ?_⟩⟩
  rw [dP E (LB := fun b => b = B.b) (fun e => lE p hp (e ▸ hc))]; exact h i
 have vq : B.b ∈ RR (.obj o) := by rw [gr]; simp
 have kL : ∀ p, p ≠ .obj o → en RR (.obj o) [] p = RR p := fun p hp => by simp [en, hp]
 have cx : ∀ p, ∀ b ∈ en RR (.obj o) [] p, b ∈ RR p := by
  intro p b hb
  unfold en at hb
  split at hb
  ·cases hb
  ·exact hb
 refine ⟨E.eJ (fun b => b = B.b), en RR (.obj o) [], rfl, { hi with jH := ?_, ax := ?_, ay := ?_, nodup := ?_, apart := ?_, own := ?_, φ0 := ?_, grow := ?_ }⟩
 ·intro c i v h
  by_cases hc : c = B.b
  ·rw [gE E (LB := fun b => b = B.b) hc] at h; exact h
  ·rw [dP E (LB := fun b => b = B.b) hc] at h; exact hi.jH c i v h
 ·intro s x hx
  obtain ⟨y, hy, rfl⟩ := m0 (f := X.l8 o xs) hx
  rw [kL _ (by simp)]
  exact RX.l8 hB hF rfl y _ _ (gq _ (by simp)) (hi.ax s y hy)
 ·intro q ob aL
  simp only [look] at aL
  cases hq : Nat.beq o q with
  | true =>
   rw [hq] at aL
   simp only [cond_true, Option.some.injEq] at aL
   obtain rfl := Nat.eq_of_beq_eq_true hq
   subst aL
   simp [dq, en]
  | false =>
   rw [hq] at aL
   simp only [cond_false] at aL
   have er : q ≠ o := fun e => by subst e; simp at hq
   obtain ⟨ss, yu, rfl⟩ := m0 (f := Obj.l8 o xs) aL
   rw [kL _ (by simp [er])]
   have h1 := hi.ay q ss yu
   have pd := gq (.obj q) (by simp [er])
   cases ss with
   | cells ys =>
    simp only [dq, Obj.l8] at h1 ⊢
    obtain ⟨h1, B', cp, K7, h2, h3, h4, h5, h6, h7⟩ := h1
    exact ⟨X.jr h1, B', cp, K7, h2, h3, (pd.2 B'.b (by rw [h7]; simp)).2 h4, by rw [X.ry]; exact h5, RO.l8 hB hF rfl ys cp _ [] (pd.sub (fun _ h => by cases h)) h6, h7⟩
   | rows s rs => exact dq.mono pd rfl (fun _ _ _ _ => rfl) h1
   | s4 es => exact dq.mono pd rfl (fun _ _ _ _ => rfl) h1
   | gone => exact dq.mono pd rfl (fun _ _ _ _ => rfl) h1
 ·intro p
  unfold en
  split
  ·exact List.nodup_nil
  ·exact hi.nodup p
 ·intro p q jI b hb eO
  exact hi.apart p q jI b (cx p b hb) (cx q b eO)
 ·intro p b hb
  exact hi.own p b (cx p b hb)
 ·intro c i v h
  exact hle c i v (hi.φ0 c i v h)
 ·intro c i v h
  by_cases hc : c = B.b
  ·subst hc; exact .inr (hi.own _ _ vq).2
  ·rw [dP E (LB := fun b => b = B.b) hc] at h; exact hi.grow c i v h
end
section
variable {P : Program} {N : dJ} {st : St} {Q : Exit → St → Prop} {all : Array Oper} {rest : List Oper} {dst : Option Nat} {d : Nat} {ty : TypeId} {pos : String} {af : Array Edge} {g : Option (Nat × Bool)}
theorem nY {G : Ctx} {E : Env} {RR : Own → List Nat} {a : Act} (hi : Inv G E RR st a) : ∀ {l : List Operand} {xs : List X}, iq st l = some xs → X.aW xs = true → dy E xs (l.map a.eval) []
 | [], xs, h, _ => by simp only [iq, Option.some.injEq] at h; subst h; simp [dy]
 | o :: r, xs, h, hf => by
  simp only [iq] at h
  cases h1 : bu st o with
  | none => simp [h1] at h
  | some y =>
   cases h2 : iq st r with
   | none => simp [h1, h2] at h
   | some ys =>
    rw [h1, h2] at h
    simp only [Option.some.injEq] at h
    subst h
    simp only [X.aW, Bool.and_eq_true] at hf
    obtain ⟨R, hR⟩ := hi.eval h1
    have h0 := RX.free hf.1 hR
    subst h0
    simp only [List.map_cons, dy]
    exact ⟨_, _, [], [], rfl, hR, nY hi h2 hf.2, rfl⟩
theorem Y.za {fn : Fn} {first ml : Array Operand} {xs ys : List X} (hx : iq st first.toList = some xs) (hy : iq st ml.toList = some ys) (CO : X.aW xs = true) (My : X.aW ys = true) :
  Yields P N st ⟨dst, .makeFunc fn first ml, ty, pos, af, g⟩ (.fH fn xs ys) := by
 intro G E RR a _ hi
 refine ⟨.func fn (first.map a.eval) (ml.map a.eval), rfl, ?_⟩
 simp only [RX]
 refine ⟨trivial, _, _, rfl, ?_, ?_⟩
 ·rw [Array.toList_map]; exact nY hi hx CO
 ·rw [Array.toList_map]; exact nY hi hy My
theorem aa.Bs {f : FuncId} {x : Operand} {bF : Array Operand} {l5 : Array TypeId} {ml xs args : List X} {ay : List Obj} {F : List Nat} {Q' : X → List Obj → Prop} (ν L : List Nat) (hx : bu st x = some (.fH (.func f) [] ml)) (mX : aJ P f = true) (eR : ak P f args ay F Q')
  (eM : iq st bF.toList = some xs) (dK : cL st L (bs ν) (xs ++ ml) args) (lH : lb st (bs ν) 0 ay) (hlen : ν.length = ay.length) (vN : ν.Nodup) (yo : ∀ o ∈ L, o ∉ ν)
  (h0 : ∀ o ∈ L, ∃ ob, look st.ay o = some ob ∧ iy ob) (yp : ∀ o ∈ loose ν F, N.F.elem o = false) (hd : d < N.n)
  (k : ∀ r a8, Q' r a8 → a8.length = ay.length → (r.lt ay.length = true ∧ (∀ ob ∈ a8, ob.lt ay.length = true) ∧ (L = [] ∨ (r.plain ∧ ∀ ob ∈ a8, ob.plain))) ∧ aa P N all rest ((jQ st ν F a8).put d (r.eu (bs ν))) Q) :
  aa P N all (⟨some d, .call ⟨.value x, bF, l5⟩, ty, pos, af, none⟩ :: rest) st Q := by
 intro G hn a w hh
 obtain ⟨E, RR, rfl, hi⟩ := hh
 obtain ⟨Rx, CO⟩ := hi.eval hx
 simp only [RX] at CO
 obtain ⟨_, ff, cc, Mz, K8, K9⟩ := CO
 simp only [dy] at K8
 have HN : ff = #[] := by
  have := K8.1
  cases ff; simp_all
 subst HN
 obtain ⟨vr, Ae⟩ := lG hi eM
 have pO : ml.length = cc.toList.length := by
  have : ∀ {l : List X} {c : List Value} {R : List Nat}, dy E l c R → l.length = c.length := by
   intro l
   induction l with
   | nil => intro c R h; simp only [dy] at h; rw [h.1]; rfl
   | cons y r ih =>
    intro c R h
    simp only [dy] at h
    obtain ⟨_, c', _, _, rfl, _, h2, _⟩ := h
    simp [ih h2]
  exact this K9
 have hc := hi.Ad (vs := bF.toList.map a.eval ++ cc.toList) eR (by simp only [List.length_append, List.length_map]; omega) (fun j y hy => by
  rcases Nat.lt_or_ge j xs.length with hj | hj
  ·rw [List.getElem?_append_left hj] at hy
   obtain ⟨o, ho, R, hR⟩ := Ae j y hy
   exact ⟨a.eval o, by rw [List.getElem?_append_left (by rw [List.length_map]; omega)]; simp [ho], R, hR⟩
  ·rw [List.getElem?_append_right hj] at hy
   obtain ⟨u, R, hu, hR⟩ := dy.get K9 hy
   exact ⟨u, by rw [List.getElem?_append_right (by rw [List.length_map]; omega), List.length_map, ← vr]; exact hu, R, hR⟩) dK
  (fun j ob h => by have := lH.get j ob h; rwa [Nat.zero_add] at this) hlen vN yo h0 (fun o ho => by rw [hn]; exact yp o ho) (d := d) (by rw [hn]; exact hd)
 have fJ : (execOp a.eval ⟨some d, .call ⟨.value x, bF, l5⟩, ty, pos, af, none⟩).run P E.w = .ok (.enter f (bF.toList.map a.eval ++ cc.toList).toArray) E.w := by
  have e : (execOp a.eval ⟨some d, .call ⟨.value x, bF, l5⟩, ty, pos, af, none⟩).run P E.w = (do let d ← Deferred.ofValue (a.eval x) (bF.map a.eval); invoke d.target d.args : Sem Next).run P E.w := rfl
  rw [e, Mz]
  have e2 : (do let d ← Deferred.ofValue (.func (.func f) #[] cc) (bF.map a.eval); invoke d.target d.args : Sem Next).run P E.w = (callFunc f ((#[] ++ bF.map a.eval) ++ cc)).run P E.w := rfl
  rw [e2, nR mX]
  congr 2
  apply Array.ext'
  simp
 refine wpList_plain rfl fun K hK => ?_
 simp only [Oper.wp, fJ, Oper.upon_enter]
 refine hc.mono ?_
 rintro e w' ⟨v, r, a8, rfl, DR, tE, vR⟩
 obtain ⟨⟨h1, h2, h3⟩, hk⟩ := k r a8 DR tE
 obtain ⟨iW, pT, hw, hI⟩ := vR h1 h2 h3
 exact hK _ _ (hk G hn _ _ ⟨iW, pT, hw, hI⟩)
theorem aa.js {f : FuncId} {x : Operand} {bF : Array Operand} {l5 : Array TypeId} {ml xs args : List X} {R : X} (hx : bu st x = some (.fH (.func f) [] ml)) (mX : aJ P f = true) (eR : ak P f args [] [] (fun r o => r = R ∧ o = []))
  (eM : iq st bF.toList = some xs) (dK : cL st [] (bs []) (xs ++ ml) args) (hd : d < N.n) (gA : R.lt 0 = true)
  (k : aa P N all rest (st.put d R) Q) : aa P N all (⟨some d, .call ⟨.value x, bF, l5⟩, ty, pos, af, none⟩ :: rest) st Q := by
 refine aa.Bs [] [] hx mX eR eM dK trivial rfl List.nodup_nil (fun _ h => by cases h) (fun _ h => by cases h) (fun _ h => by cases h) hd ?_
 rintro r a8 ⟨rfl, rfl⟩ _
 refine ⟨⟨gA, fun _ h => (by cases h), .inl rfl⟩, ?_⟩
 rw [la, X.n8 gA]; exact k
end
section
variable {P : Program} {N : dJ} {ops : Array Oper} {st : St} {d : Nat} {ae : Array Bool} {n : Nat} {K : St → Prop} {KK : Array Bool → St → Prop} {l0 rest l : List Nat} {t : Nat}
theorem aS.le {aQ : St} (hl : Le st aQ) (h : aS P N ops n ae aQ K) : aS P N ops n ae st K := fun G hn a w hh => h G hn a w (hl.holds hh)
theorem aS.split {b : Bool} (hx : look st.ax d = some (.v (.bool b))) (ht : b = true → aS P N ops n ae (st.put d (.v (.bool true))) K) (hf : b = false → aS P N ops n ae (st.put d (.v (.bool false))) K) : aS P N ops n ae st K := by
 have : Le st (st.put d (.v (.bool b))) := ⟨eC.cons hx (fun _ _ h => h), fun _ _ h => h⟩
 cases b
 ·exact (hf rfl).le this
 ·exact (ht rfl).le this
theorem aS.aw {p : Prop} {inst : Decidable p} (hx : look st.ax d = some (.v (.bool (decide p)))) (ht : p → aS P N ops n ae (st.put d (.v (.bool true))) K) (hf : ¬ p → aS P N ops n ae (st.put d (.v (.bool false))) K) : aS P N ops n ae st K :=
 aS.split hx (fun h => ht (of_decide_eq_true h)) (fun h => hf (of_decide_eq_false h))
theorem AQ.le {aQ : St} (hl : Le st aQ) (h : AQ P N ops l0 rest t l ae aQ KK) : AQ P N ops l0 rest t l ae st KK := fun ho G hn a w hh => h ho G hn a w (hl.holds hh)
theorem AQ.split {b : Bool} (hx : look st.ax d = some (.v (.bool b))) (ht : b = true → AQ P N ops l0 rest t l ae (st.put d (.v (.bool true))) KK) (hf : b = false → AQ P N ops l0 rest t l ae (st.put d (.v (.bool false))) KK) : AQ P N ops l0 rest t l ae st KK := by
 have : Le st (st.put d (.v (.bool b))) := ⟨eC.cons hx (fun _ _ h => h), fun _ _ h => h⟩
 cases b
 ·exact (hf rfl).le this
 ·exact (ht rfl).le this
theorem AQ.aw {p : Prop} {inst : Decidable p} (hx : look st.ax d = some (.v (.bool (decide p)))) (ht : p → AQ P N ops l0 rest t l ae (st.put d (.v (.bool true))) KK) (hf : ¬ p → AQ P N ops l0 rest t l ae (st.put d (.v (.bool false))) KK) : AQ P N ops l0 rest t l ae st KK :=
 AQ.split hx (fun h => ht (of_decide_eq_true h)) (fun h => hf (of_decide_eq_false h))
end
def aV (b : ByteArray) (m : Nat) : Nat := (b.data.toList.getD m 0).toNat
theorem Y.qt {P : Program} {N : dJ} {st : St} {dst : Option Nat} {ty : TypeId} {pos : String} {af : Array Edge} {g : Option (Nat × Bool)} {t : TypeId} {x ix : Operand} {b : ByteArray} {k : IntKind} {n : Int} {m : Nat} (ht : P.underlying t = some .string) (hx : bu st x = some (.v (.string b)))
  (v7 : bu st ix = some (.v (.int k n))) (hn : n = (m : Int)) (hm : m < b.size) : Yields P N st ⟨dst, .index t x ix, ty, pos, af, g⟩ (.v (.int .u8 ((aV b m : Nat) : Int))) := by
 have h := Y.qs (P := P) (N := N) (st := st) (dst := dst) (ty := ty) (pos := pos) (af := af) (g := g) ht hx v7 hn hm
 have e : b[m].toNat = aV b m := by
  unfold aV
  have : b.data.toList.getD m 0 = b[m] := by
   rw [List.getD_eq_getElem?_getD, List.getElem?_eq_getElem (by simpa using hm)]
   rfl
  rw [this]
 rw [e] at h
 exact h
theorem wc (b : ByteArray) (m : Nat) : aV b m ≤ 255 := by
 unfold aV
 have := (b.data.toList.getD m 0).toNat_lt
 omega
end Go.AW
namespace Go.AW
open Go
theorem uE (n : Nat) : IntKind.u64.wrap (n : Int) = ((n % 18446744073709551616 : Nat) : Int) := by
 simp [IntKind.wrap, IntKind.bits, IntKind.signed]
theorem we (n : Nat) (h : n < 18446744073709551616) : IntKind.u64.wrap (n : Int) = (n : Int) := by rw [uE, Nat.mod_eq_of_lt h]
theorem uF (n : Int) (h : 0 ≤ n ∧ n ≤ 18446744073709551615) : IntKind.u64.wrap n = ((n.toNat : Nat) : Int) := by rw [IntWalk.u64_in n h]; omega
theorem rz (n w : Nat) : BitVec.ofInt w (n : Int) = BitVec.ofNat w n := by
 apply BitVec.eq_of_toNat_eq
 simp [BitVec.toNat_ofInt, BitVec.toNat_ofNat]
section
variable {P : Program} {N : dJ} {st : St} {dst : Option Nat} {ty : TypeId} {pos : String} {af : Array Edge} {g : Option (Nat × Bool)} {t t' : TypeId} {x y : Operand} {a b : Nat}
theorem Y.qd (hx : bu st x = some (.v (.int .u64 (a : Int)))) (hy : bu st y = some (.v (.int .u64 (b : Int)))) (hr : a < 18446744073709551616 ∧ b < 18446744073709551616) : Yields P N st ⟨dst, .binOp .and t x y t', ty, pos, af, g⟩ (.v (.int .u64 ((a &&& b : Nat) : Int))) :=
 Y.qc hx hy (by
  rw [rz, rz, BitVec.toNat_and, BitVec.toNat_ofNat, BitVec.toNat_ofNat, show 2 ^ IntKind.u64.bits = 18446744073709551616 from rfl, Nat.mod_eq_of_lt hr.1, Nat.mod_eq_of_lt hr.2]
  exact we _ (Nat.lt_of_le_of_lt Nat.and_le_left hr.1))
theorem uG (a b : Nat) (h : a < 18446744073709551616) : a / 2 ^ (min b 64) = a / 2 ^ b := by
 rcases Nat.le_total b 64 with hb | hb
 ·rw [Nat.min_eq_left hb]
 ·rw [Nat.min_eq_right hb, Nat.div_eq_of_lt h]
  exact (Nat.div_eq_of_lt (Nat.lt_of_lt_of_le h (Nat.pow_le_pow_right (show 0 < 2 by decide) hb))).symm
theorem Y.zq {k' : IntKind} {i : Int} (b : Nat) (hx : bu st x = some (.v (.int .u64 (a : Int)))) (hy : bu st y = some (.v (.int k' i))) (hi : i = (b : Int)) (hr : a < 18446744073709551616) : Yields P N st ⟨dst, .binOp .shr t x y t', ty, pos, af, g⟩ (.v (.int .u64 ((a / 2 ^ b : Nat) : Int))) :=
 Y.zp hx hy om (by
  subst hi
  show (a : Int).fdiv (2 ^ (Min.min b 64)) = _
  have h2 : (0 : Int) ≤ 2 ^ (Min.min b 64) := Int.le_of_lt (Int.pow_pos (show (0 : Int) < 2 by decide))
  rw [← uG a b hr, Int.fdiv_eq_ediv_of_nonneg _ h2]
  norm_cast)
end
end Go.AW
namespace Go.AW
open Go
section
variable {P : Program} {N : dJ} {ops : Array Oper} {st : St} {d : Nat} {ty : TypeId} {pos : String} {af : Array Edge} {K : St → Prop}
theorem aS.bH {n : Nat} {ae : Array Bool} (i : Nat) {op : Op} {j dj : Nat} {want : Bool} {u : Value} (ho : ops[i]? = some ⟨some d, op, ty, pos, af, some (j, want)⟩)
  (hB : (Region.noSelect ops && Region.free .any ops ae i && (Region.ready .any ops ae).contains i) = true)
  (hj : (ops[j]?).bind (·.dst) = some dj) (pe : dj < N.n) (hd : d < N.n) (hx : look st.ax dj = some (.v u)) (er : nS want u = true)
  (k : aS P N ops n (ae.setIfInBounds i true) (st.put d (.v undef)) K) : aS P N ops (n + 1) ae st K := by
 intro G hn a w hh
 obtain ⟨E, RR, rfl, hi⟩ := hh
 simp only [Bool.and_eq_true] at hB
 have hw := iY (all := ops) (dst := some d) (op := op) (ty := ty) (pos := pos) (af := af) hi hj (hn ▸ pe) hx er
 refine wpAny_take (v := undef) ho hB.1.1 hB.1.2 hB.2 ?_ (.inr ⟨hw, rfl⟩) (k G hn _ _ ⟨E, _, rfl, hi.eP (hn ▸ hd) (by simp [RX])⟩)
 intro c a w h
 cases h.1
theorem aS.gW {n : Nat} {ae : Array Bool} (i : Nat) {op : Op} {x : X} {j dj : Nat} {want : Bool} (ho : ops[i]? = some ⟨some d, op, ty, pos, af, some (j, want)⟩)
  (hB : (Region.noSelect ops && Region.free .any ops ae i && (Region.ready .any ops ae).contains i) = true)
  (hj : (ops[j]?).bind (·.dst) = some dj) (pe : dj < N.n) (hx : look st.ax dj = some (.v (.bool want))) (hy : aE P N st ⟨some d, op, ty, pos, af, some (j, want)⟩ x) (hd : d < N.n)
  (k : aS P N ops n (ae.setIfInBounds i true) (st.put d x) K) : aS P N ops (n + 1) ae st K := by
 intro G hn a w hh
 obtain ⟨E, RR, rfl, hi⟩ := hh
 obtain ⟨u, hr, im⟩ := hy G E RR a hn hi
 simp only [Bool.and_eq_true] at hB
 have hs := hi.ax dj _ hx
 simp only [RX] at hs
 have ei : dj < a.tmps.size := by rw [hi.tmps, hn]; exact pe
 have hv : a.tmps[dj]? = some (.bool want) := by
  have := hs.1
  simp only [Array.getD, ei, dif_pos] at this
  rw [Array.getElem?_eq_getElem ei]
  exact congrArg some this
 have hw : Region.wanted ⟨some d, op, ty, pos, af, some (j, want)⟩ (yielded ops a.tmps) = true := by
  simp [Region.wanted, yielded, hj, hv]
 refine wpAny_take (v := u) ho hB.1.1 hB.1.2 hB.2 ?_ (.inl ⟨hw, hr⟩) (k G hn _ _ ⟨E, _, rfl, hi.eP (hn ▸ hd) im⟩)
 intro c a w h
 cases h.1
end
end Go.AW
namespace Go.AW
open Go
section
variable {P : Program} {N : dJ} {G : Ctx} {E : Env} {RR : Own → List Nat} {st : St} {a : Act} {Q : Exit → St → Prop} {all : Array Oper} {rest : List Oper} {d : Nat} {dst : Option Nat} {ty : TypeId} {pos : String} {af : Array Edge} {g : Option (Nat × Bool)}
theorem Y.qh {t e s cj : Nat} {x : Operand} (ht : TY.slice P t = some (e, s, cj)) (hx : bu st x = some (.v (.slice none 0 0))) :
  Yields P N st ⟨dst, .call ⟨.builtin .cap, #[x], #[t]⟩, ty, pos, af, g⟩ (.v (.int .i64 0)) := by
 intro G E RR a _ hi
 refine ⟨.int .i64 0, fb ?_, by simp [RX]⟩
 obtain ⟨hu, _⟩ := TY.ct ht
 have hc := hi.val hx
 simp [builtin, Builtin.cap_, hc, run_underlying hu, goInt]
theorem Y.zs {t e s cj : Nat} {x : Operand} {lo fk : Option Operand} (ht : TY.slice P t = some (e, s, cj)) (hx : bu st x = some (.v (.slice none 0 0))) (hl : Bd st lo 0 0) (hh : Bd st fk 0 0) :
  Yields P N st ⟨dst, .slice t x lo fk none, ty, pos, af, g⟩ (.v (.slice none 0 0)) := by
 intro G E RR a _ hi
 obtain ⟨tD, i, fG, ei, _⟩ := TY.ct ht
 have hc := hi.val hx
 refine ⟨.slice none 0 0, ?_, by simp [RX]⟩
 show (do let z ← Instr.sliceAt t (a.eval x) (lo.map a.eval) (fk.map a.eval) none; pure (Next.value z) : Sem Next).run P E.w = _
 rw [hc]
 refine cK ?_
 simp only [Instr.sliceAt, Sem.run_bind, run_underlying tD, Result.andThen_ok, Instr.slice, eV hi hl hh (Nat.le_refl 0) (Nat.le_refl 0), run_sizeOf fG, ei]
 rfl
theorem aa.sN {t tn e s cj n : Nat} {x y : Operand} {z : List Value} {k kn : IntKind} (ht : TY.slice P t = some (e, s, cj)) (hz : TY.zero P e = some z) (mS : z.length = s) (h1 : X.oX (z.map X.v) = true) (KA : TY.isInt P tn = some kn)
  (hx : bu st x = some (.v (.slice none 0 0))) (hy : bu st y = some (.v (.int k (n : Int)))) (h0 : 0 < n) (Gv : 0 < s) (hb : n * cj ≤ 281474976710656) (LW : n ≤ 9223372036854775807) (hd : d < N.n)
  (kk : aa P N all rest (st.put d (.cX s (List.replicate n (z.map X.v)))) Q) : aa P N all (⟨some d, .call ⟨.builtin .append, #[x, y], #[t, tn]⟩, ty, pos, af, none⟩ :: rest) st Q := by
 refine aa.vB (fun G E RR a hn hi => ?_) kk
 obtain ⟨hu, i, fG, hs, zX⟩ := TY.ct ht
 obtain ⟨i', z0, l4, vh, vj⟩ := TY.eh hz
 rw [fG] at l4
 obtain rfl := Option.some.inj l4
 have ra : z0.cells = z.toArray := by rw [← vj]
 have fJ := Lib.run_append_nil_zeros (P := P) E.w t tn ty e i z0 k kn hu (by unfold TY.isInt at KA; split at KA <;> simp_all : P.underlying tn = some (.int kn)) fG vh n h0 (by rw [hs]; exact Gv) om (by rw [zX]; exact hb)
 rw [ra] at fJ
 have hU : bA s (List.replicate n (z.map X.v)) := by
  intro r hr
  rw [(List.mem_replicate.1 hr).2]; simpa using mS
 have j5 := hi.tF (cb.drew G E) rfl
 have jJ := grownCap_ge E.w n 0 e
 have ei : (Builtin.zeroCells z.toArray n ++ Builtin.zeroCells z.toArray (grownCap E.w n 0 e - n)).size = grownCap E.w n 0 e * s := by
  rw [Array.size_append, size_zeroCells, size_zeroCells, ← Nat.add_mul]
  simp only [List.size_toArray, mS]
  congr 1; omega
 obtain ⟨et, fk⟩ := j5.newRow (cs := Builtin.zeroCells z.toArray n ++ Builtin.zeroCells z.toArray (grownCap E.w n 0 e - n)) (e := e) (s := s) (cap := grownCap E.w n 0 e) (d := d) hU (by rw [List.length_replicate]; exact jJ) (by rw [ei]; exact Nat.le_refl _) (by
  refine bM.sA hU fun j row hr => ?_
  have hj : j < n := by
   rcases Nat.lt_or_ge j n with h' | h'
   ·exact h'
   ·rw [List.getElem?_eq_none (by rw [List.length_replicate]; exact h')] at hr; cases hr
  have : row = z.map X.v := by
   have := List.mem_of_getElem? hr
   exact (List.mem_replicate.1 this).2
  subst this
  refine ⟨vA z, bg.Bc (pv h1) fun q hq => ?_⟩
  have yf : q < s := by simpa [mS] using hq
  have gA : j * s + q < n * s := by
   have : (j + 1) * s ≤ n * s := Nat.mul_le_mul_right s hj
   rw [Nat.add_mul] at this; omega
  have Be : q < z.length := by omega
  rw [Array.getElem?_append_left (by rw [size_zeroCells]; simp only [List.size_toArray, mS]; omega)]
  simp only [Nat.zero_add, Builtin.zeroCells]
  rw [Array.getElem?_map, Array.getElem?_range, if_pos (by simpa [mS] using gA)]
  simp only [Option.map_some, List.size_toArray, mS, vC yf]
  rw [List.getElem?_eq_getElem Be]
  simp [Be]) (by rw [hn]; exact hd)
 simp only [List.length_replicate] at fk
 refine ⟨_, _, _, ?_, fk⟩
 refine fb (g := none) ?_
 have e' : (#[x, y] : Array Operand).map a.eval = #[.slice none 0 0, .int k (n : Int)] := by simp [hi.val hx, hi.val hy]
 rw [e']
 exact cK fJ
theorem Sh.Al {d o s lo n : Nat} {rs : List (List X)} (p6 : List (List X)) (hx : look st.ax d = some (.aR o s lo n)) (ho : look st.ay o = some (.rows s rs)) (kX : lo + n ≤ rs.length) (he : (rs.drop lo).take n = p6) (hF : N.F.elem o = false) :
  Sh N st (((st.kill o).dr o (.rows s p6)).put d (.aR o s 0 n)) := by subst he; exact Sh.trim hx ho kX hF
end
end Go.AW
