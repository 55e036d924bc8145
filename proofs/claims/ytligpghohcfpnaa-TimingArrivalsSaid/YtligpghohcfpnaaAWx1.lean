/- Part of the abstract walk: contracts, and wP the body of a call proves one. -/
import Derived.Test.YtligpghohcfpnaaAWx0
import Derived.StillTail
import Derived.Orders
import Derived.Below
import Derived.Carry
import Derived.Deep.Slices
import Derived.Deep.Fields
import Derived.ChangeSame
import Derived.ChangeSlices
import Derived.SizedLaws
import Derived.Deep.Grids
import Derived.Maps.Keyed
import Derived.DeepKeys4
import Derived.OpenShut
set_option linter.unusedSimpArgs false
set_option linter.unusedVariables false
set_option linter.unusedSectionVars false
namespace Go.AW
open Go
def du {α : Type} : Nat → List α → List (Nat × α)
 | _, [] => []
 | i, x :: r => (i, x) :: du (i + 1) r
theorem rQ {α : Type} : ∀ (l : List α) (i s : Nat), look (du i l) s = if i ≤ s then l[s - i]? else none
 | [], i, s => by simp [du, look]
 | x :: r, i, s => by
  simp only [du, look]
  cases hb : Nat.beq i s with
  | true => have := Nat.eq_of_beq_eq_true hb; subst this; simp
  | false =>
   have ew := Nat.ne_of_beq_eq_false hb
   simp only [cond_false]
   rw [rQ r (i + 1) s]
   by_cases h : i ≤ s
   ·rw [if_pos h, if_pos om, show s - i = (s - (i + 1)) + 1 by omega]; simp
   ·rw [if_neg h, if_neg om]
theorem gr {α : Type} (l : List α) (s : Nat) : look (du 0 l) s = l[s]? := by
 rw [rQ]; simp
def nc (K : Nat → Prop) (E : Env) (fn : eL) : Ctx := ⟨K, E.w, E.φ, E.β, fn, []⟩
def au (P : Program) (f : FuncId) (args : List X) (aG : List Obj) (F : List Nat) (Q : X → List Obj → Prop) : Prop :=
 ∀ (K : Nat → Prop) (E : Env) (RR : Own → List Nat) (cI : Array Value), Inv (nc K E ⟨args.length, F⟩) E RR ⟨du 0 args, du 0 aG⟩ ⟨cI, []⟩ →
  Calls P f cI E.w fun e w' => ∃ v r bn, e = .returned v ∧ Q r bn ∧ bn.length = aG.length ∧ ∃ E' fg, E'.w = w' ∧ Inv (nc K E ⟨1, F⟩) E' fg ⟨[(0, r)], du 0 bn⟩ ⟨#[v], []⟩
theorem au.mono {P : Program} {f : FuncId} {args : List X} {aG : List Obj} {F : List Nat} {Q Q' : X → List Obj → Prop} (h : au P f args aG F Q) (hq : ∀ r o, Q r o → Q' r o) : au P f args aG F Q' :=
 fun K E RR cI hi => Calls.mono (h K E RR cI hi) fun _ _ ⟨v, r, bn, he, hQ, hl, hx⟩ => ⟨v, r, bn, he, hq _ _ hQ, hl, hx⟩
def uz (P : Program) (st : St) : ResultVar → Option X
 | .tmp t => look st.aD t
 | .cell a t => match look st.aD a with
  | some p => match rowAt st p with
   | some row => match TY.shape P t with
    | some none => match row[kO p]? with
     | some y => bif y.free then some y else none
     | none => none
    | some (some m) => bif Nat.ble (kO p + m) row.length && X.b9 ((row.drop (kO p)).take m) then some (.agg ((row.drop (kO p)).take m)) else none
    | none => none
   | none => none
  | none => none
def jD (P : Program) (st : St) : List ResultVar → Option (List X)
 | [] => some []
 | r :: rs => match uz P st r, jD P st rs with
  | some x, some xs => some (x :: xs)
  | _, _ => none
def gC : List ResultVar → List Nat
 | [] => []
 | .tmp t :: r => t :: gC r
 | .cell _ _ :: r => gC r
def o6 : List X → X
 | [x] => x
 | xs => .tup xs
section
variable {P : Program} {N : eL} {G : Ctx} {E : Env} {RR : Own → List Nat} {st : St} {a : Act}
def o7 (tmps : Array Value) (rv : ResultVar) : Sem Value :=
 match rv with
 | .tmp t => pure (tmps.getD t undef)
 | .cell a t => do loadVar t (← asAddr (tmps.getD a undef))
theorem DH (hi : Inv G E RR st a) {rv : ResultVar} {x : X} (h : uz P st rv = some x) :
  ∃ c R, (o7 a.tmps rv).run P E.w = .ok c E.w ∧ RX E x c R ∧ ((∃ t, rv = .tmp t ∧ R = RR (.slot t)) ∨ R = []) := by
 cases rv with
 | tmp t => exact ⟨_, _, rfl, hi.aD t x h, .inl ⟨t, rfl, rfl⟩⟩
 | cell ad t =>
  simp only [uz] at h
  cases hp : look st.aD ad with
  | none => simp [hp] at h
  | some p =>
   rw [hp] at h
   simp only at h
   cases pM : rowAt st p with
   | none => simp [pM] at h
   | some row =>
    rw [pM] at h
    simp only at h
    obtain ⟨b, off, hc, g6⟩ := hi.behind (hi.aD ad p hp) pM
    cases hs : TY.shape P t with
    | none => simp [hs] at h
    | some sh =>
     rw [hs] at h
     cases sh with
     | none =>
      simp only at h
      cases hk : row[kO p]? with
      | none => simp [hk] at h
      | some y =>
       rw [hk] at h
       simp only at h
       cases hf : y.free with
       | false => simp [hf] at h
       | true =>
        rw [hf] at h
        simp only [cond_true, Option.some.injEq] at h
        subst h
        have DI : kO p < row.length := by
         rcases Nat.lt_or_ge (kO p) row.length with h' | h'
         ·exact h'
         ·simp [List.getElem?_eq_none h'] at hk
        obtain ⟨vs, R', hl, hv, fx⟩ := g6 (kO p) 1 om
        rw [getElem?_drop_take_one hk] at fx
        simp only [bz] at fx
        obtain ⟨c, di, R₁, R₂, DB, _, h1, ⟨rfl, rfl⟩, rfl⟩ := fx
        subst DB
        have h0 := RX.free hf h1
        subst h0
        refine ⟨c, [], ?_, h1, .inr rfl⟩
        have fW := hv 0 c rfl
        simp only [Nat.add_zero] at fW
        simp [o7, hc, asAddr, loadVar, (TY.gO hs E.w).1, fW]
     | some m =>
      simp only at h
      cases hb : Nat.ble (kO p + m) row.length && X.b9 ((row.drop (kO p)).take m) with
      | false => simp [hb] at h
      | true =>
       rw [hb] at h
       simp only [cond_true, Option.some.injEq] at h
       subst h
       simp only [Bool.and_eq_true] at hb
       obtain ⟨vs, R', hl, hv, fx⟩ := g6 (kO p) m (Nat.le_of_ble_eq_true hb.1)
       have h0 := bz.free hb.2 fx
       subst h0
       refine ⟨.agg vs.toArray, [], ?_, by simp only [RX]; exact ⟨_, rfl, fx⟩, .inr rfl⟩
       obtain ⟨h1, h2⟩ := TY.lN hs E.w
       have h3 : (loadCells ⟨b, off + kO p, none⟩ m).run P E.w = .ok vs.toArray E.w := by
        rw [← hl]
        exact run_loadCells_list (w := E.w) _ vs fun j v hj => by rw [iy, Nat.add_assoc]; exact hv j v hj
       simp [o7, hc, asAddr, loadVar, h1, h2, h3]
theorem u0 (hi : Inv G E RR st a) : ∀ {mJ : List ResultVar} {xs : List X}, jD P st mJ = some xs → (gC mJ).Nodup →
  ∃ cs R, (mJ.mapM (o7 a.tmps)).run P E.w = .ok cs E.w ∧ ej E xs cs R ∧ R.Nodup ∧ (∀ b ∈ R, ∃ t ∈ gC mJ, b ∈ RR (.slot t))
 | [], xs, h, _ => by
  simp only [jD, Option.some.injEq] at h
  subst h
  exact ⟨[], [], rfl, by simp [ej], List.nodup_nil, fun _ h => by cases h⟩
 | rv :: mJ, xs, h, hn => by
  simp only [jD] at h
  cases h1 : uz P st rv with
  | none => simp [h1] at h
  | some x =>
   cases h2 : jD P st mJ with
   | none => simp [h1, h2] at h
   | some ys =>
    rw [h1, h2] at h
    simp only [Option.some.injEq] at h
    subst h
    have pI : (gC mJ).Nodup := by
     cases rv with
     | tmp t => exact (List.nodup_cons.1 hn).2
     | cell _ _ => exact hn
    obtain ⟨c, R1, RD, Ql, pP⟩ := DH hi h1
    obtain ⟨cs, R2, I4, J9, v7, vz⟩ := u0 hi h2 pI
    refine ⟨c :: cs, R1 ++ R2, ?_, ?_, ?_, ?_⟩
    ·rw [List.mapM_cons]
     refine jr RD ?_
     refine jr I4 rfl
    ·simp only [ej]; exact ⟨c, cs, R1, R2, rfl, Ql, J9, rfl⟩
    ·rcases pP with ⟨t, rfl, rfl⟩ | rfl
     ·rw [List.nodup_append]
      refine ⟨hi.nodup _, v7, fun b hb b' gq e => ?_⟩
      subst e
      obtain ⟨t', MW, rz⟩ := vz b gq
      have ew : t ≠ t' := fun e => by subst e; exact (List.nodup_cons.1 hn).1 MW
      exact hi.apart (.slot t) (.slot t') (by simpa using ew) b hb rz
     ·simpa using v7
    ·intro b hb
     rcases List.mem_append.1 hb with hb | hb
     ·rcases pP with ⟨t, rfl, rfl⟩ | rfl
      ·exact ⟨t, by simp [gC], hb⟩
      ·cases hb
     ·obtain ⟨t, ht, gq⟩ := vz b hb
      refine ⟨t, ?_, gq⟩
      cases rv with
      | tmp t' => exact List.mem_cons.2 (.inr ht)
      | cell _ _ => exact ht
def jk (l : List (Nat × Obj)) : Nat → Nat → Option (List Obj)
 | _, 0 => some []
 | i, k + 1 => match look l i, jk l (i + 1) k with
  | some ob, some r => some (ob :: r)
  | _, _ => none
theorem lQ : ∀ {l : List (Nat × Obj)} {k i : Nat} {r : List Obj}, jk l i k = some r → r.length = k ∧ ∀ j, j < k → look l (i + j) = r[j]?
 | _, 0, _, r, h => by simp only [jk, Option.some.injEq] at h; subst h; exact ⟨rfl, fun j hj => by omega⟩
 | l, k + 1, i, r, h => by
  simp only [jk] at h
  cases h1 : look l i with
  | none => simp [h1] at h
  | some ob =>
   cases h2 : jk l (i + 1) k with
   | none => simp [h1, h2] at h
   | some r' =>
    rw [h1, h2] at h
    simp only [Option.some.injEq] at h
    subst h
    obtain ⟨hl, hg⟩ := lQ h2
    refine ⟨by simp [hl], fun j hj => ?_⟩
    cases j with
    | zero => simpa using h1
    | succ j =>
     have := hg j om
     rw [show i + (j + 1) = i + 1 + j by omega, this]; simp
def Ends (P : Program) (mJ : List ResultVar) (k : Nat) (Q : X → List Obj → Prop) : Exit → St → Prop
 | .normal, st | .ret, st => ∃ xs bn, jD P st mJ = some xs ∧ jk st.aG 0 k = some bn ∧ Q (o6 xs) bn
 | _, _ => False
theorem Inv.enter {fn : Func} {args : List X} {aG : List Obj} {F : List Nat} {n : Nat} {K : Nat → Prop} {E : Env} {RR : Own → List Nat} {cI : Array Value} (hn : fn.ntmps = n) (hle : args.length ≤ n) (hi : Inv (nc K E ⟨args.length, F⟩) E RR ⟨du 0 args, du 0 aG⟩ ⟨cI, []⟩) :
  Inv (nc K E ⟨n, F⟩) E RR ⟨du 0 args, du 0 aG⟩ ⟨cI ++ Array.replicate (fn.ntmps - cI.size) undef, []⟩ := by
 have te : cI.size = args.length := hi.tmps
 refine { hi with aD := ?_, tmps := ?_, defers := rfl }
 ·intro s x hx
  have h0 := hi.aD s x hx
  have hs : s < cI.size := by
   rw [te]
   have iw : look (du 0 args) s = some x := hx
   rw [gr] at iw
   rcases Nat.lt_or_ge s args.length with h' | h'
   ·exact h'
   ·simp [List.getElem?_eq_none h'] at iw
  have : (cI ++ Array.replicate (fn.ntmps - cI.size) undef).getD s undef = cI.getD s undef := by
   simp only [Array.getD_eq_getD_getElem?, Array.getElem?_append_left hs]
  show RX E x ((cI ++ Array.replicate (fn.ntmps - cI.size) undef).getD s undef) (RR (.slot s))
  rw [this]; exact h0
 ·show (cI ++ Array.replicate (fn.ntmps - cI.size) undef).size = n
  simp; omega
theorem v8 {fn : Func} {aG : List Obj} {F : List Nat} {Q : X → List Obj → Prop} {n : Nat} {mJ : List ResultVar} {K : Nat → Prop} {E E' : Env} {fg : Own → List Nat} {st : St} {a : Act} (hr : fn.results.toList = mJ) (iV : (gC mJ).Nodup) (h1 : Inv (nc K E ⟨n, F⟩) E' fg st a) :
  (∃ xs bn, jD P st mJ = some xs ∧ jk st.aG 0 aG.length = some bn ∧ Q (o6 xs) bn) → a.defers = [] ∧ ∃ v, (results fn a.tmps).run P E'.w = .ok v E'.w ∧
   ∃ v' r bn, Ending.returned v = .returned v' ∧ Q r bn ∧ bn.length = aG.length ∧ ∃ kT rR, kT.w = E'.w ∧ Inv (nc K E ⟨1, F⟩) kT rR ⟨[(0, r)], du 0 bn⟩ ⟨#[v'], []⟩ := by
 rintro ⟨xs, bn, xa, mK, hQ⟩
 obtain ⟨hlen, Bi⟩ := lQ mK
 have lv : ∀ j, j < aG.length → look st.aG j = bn[j]? := fun j hj => by have := Bi j hj; rwa [Nat.zero_add] at this
 refine ⟨h1.defers, ?_⟩
 obtain ⟨cs, R, gQ, hx, JA, MX⟩ := u0 h1 xa iV
 have rS : (results fn a.tmps).run P E'.w = .ok (if h : cs.toArray.size = 1 then cs.toArray[0] else .tuple cs.toArray) E'.w := by
  have e : results fn a.tmps = (do let vs ← fn.results.mapM (o7 a.tmps); Pure.pure (if h : vs.size = 1 then vs[0] else .tuple vs) : Sem Value) := rfl
  rw [e, show fn.results = mJ.toArray by rw [← hr]]
  refine jr (u := cs.toArray) ?_ rfl
  rw [List.mapM_toArray]
  simp only [Sem.run_map, gQ]
  rfl
 refine ⟨_, rS, _, o6 xs, bn, rfl, hQ, hlen, ?_⟩
 have MY : RX E' (o6 xs) (if h : cs.toArray.size = 1 then cs.toArray[0] else .tuple cs.toArray) R := by
  cases xs with
  | nil =>
   simp only [ej] at hx
   obtain ⟨rfl, rfl⟩ := hx
   simp only [o6, RX]
   exact ⟨#[], by simp, by simp [ej]⟩
  | cons x xs =>
   cases xs with
   | nil =>
    simp only [ej] at hx
    obtain ⟨c, di, R₁, R₂, rfl, h1, ⟨rfl, rfl⟩, rfl⟩ := hx
    simpa [o6] using h1
   | cons y ys =>
    have iw := hx
    simp only [ej] at hx
    obtain ⟨c, di, R₁, R₂, rfl, _, ⟨c', GM, R₃, R₄, rfl, _⟩, _⟩ := hx
    simp only [o6, RX]
    exact ⟨(c :: c' :: GM).toArray, by simp, by simpa using iw⟩
 let nW : Own → List Nat := fun p => match p with
  | .slot s => if s = 0 then R else []
  | .obj o => if o < aG.length then fg (.obj o) else []
 have qR : ∀ p b, b ∈ nW p → ∃ q, b ∈ fg q ∧ ((∃ o, p = .obj o ∧ q = .obj o) ∨ (p = .slot 0 ∧ ∃ t, q = .slot t)) := by
  intro p b hb
  cases p with
  | slot s =>
   by_cases hs : s = 0
   ·subst hs
    simp only [nW, if_true] at hb
    obtain ⟨t, _, ht⟩ := MX b hb
    exact ⟨.slot t, ht, .inr ⟨rfl, t, rfl⟩⟩
   ·simp [nW, hs] at hb
  | obj o =>
   by_cases ho : o < aG.length
   ·simp only [nW, ho, if_true] at hb
    exact ⟨.obj o, hb, .inl ⟨o, rfl, rfl⟩⟩
   ·simp [nW, ho] at hb
 refine ⟨E', nW, rfl, { h1 with aD := ?_, aG := ?_, nodup := ?_, apart := ?_, own := ?_, tmps := ?_, defers := rfl }⟩
 ·intro s x iw
  simp only [look] at iw
  cases vx : Nat.beq 0 s with
  | false => simp [vx] at iw
  | true =>
   have := Nat.eq_of_beq_eq_true vx
   subst this
   simp only [vx, cond_true, Option.some.injEq] at iw
   subst iw
   simpa [nW] using MY
 ·intro o ob ho
  have lp : look (du 0 bn) o = some ob := ho
  rw [gr] at lp
  have iU : o < aG.length := by
   rcases Nat.lt_or_ge o aG.length with h' | h'
   ·exact h'
   ·rw [List.getElem?_eq_none om] at lp; cases lp
  have := h1.aG o ob (by rw [lv o iU]; exact lp)
  simpa [nW, iU] using this
 ·intro p
  cases p with
  | slot s => by_cases hs : s = 0 <;> simp [nW, hs, JA]
  | obj o => by_cases ho : o < aG.length <;> simp [nW, ho, h1.nodup]
 ·intro p q lr b hb gq
  obtain ⟨p', Fp, MZ⟩ := qR p b hb
  obtain ⟨q', yV, JB⟩ := qR q b gq
  have ew : p' ≠ q' := by
   rcases MZ with ⟨o, rfl, rfl⟩ | ⟨rfl, t, rfl⟩
   ·rcases JB with ⟨o', rfl, rfl⟩ | ⟨rfl, t', rfl⟩
    ·exact lr
    ·simp
   ·rcases JB with ⟨o', rfl, rfl⟩ | ⟨rfl, t', rfl⟩
    ·simp
    ·exact absurd rfl lr
  exact h1.apart p' q' ew b Fp yV
 ·intro p b hb
  obtain ⟨q, yV, _⟩ := qR p b hb
  exact h1.own q b yV
 ·rfl
theorem au.of {f : FuncId} {fn : Func} {c : Code} {args : List X} {aG : List Obj} {F : List Nat} {Q : X → List Obj → Prop} {n : Nat} {mJ : List ResultVar} (hf : P.funcs[f]? = some fn) (hb : fn.body = some c) (hn : fn.ntmps = n) (hr : fn.results.toList = mJ)
  (iV : (gC mJ).Nodup) (hle : args.length ≤ n) (h : dk P ⟨n, F⟩ c ⟨du 0 args, du 0 aG⟩ (Ends P mJ aG.length Q)) : au P f args aG F Q := by
 intro K E RR cI hi
 refine calls_of_wp hf hb ?_
 refine wp_mono (h (nc K E ⟨n, F⟩) rfl _ _ ⟨E, RR, rfl, hi.enter hn hle⟩) ?_
 rintro e a w ⟨st, ⟨E', fg, rfl, h1⟩, hq⟩
 have key := v8 (P := P) (aG := aG) (Q := Q) hr iV h1
 cases e with
 | normal => exact key hq
 | ret => exact key hq
 | _ => exact hq.elim
end
end Go.AW
namespace Go.AW
open Go
mutual
def X.fQ (ν : Nat → Nat) : X → X
 | .ptr o s i k => .ptr (ν o) s i k
 | .ba o s lo n => .ba (ν o) s lo n
 | .mref o => .mref (ν o)
 | .agg xs => .agg (X.kY ν xs)
 | .tup xs => .tup (X.kY ν xs)
 | .gB f a b => .gB f (X.kY ν a) (X.kY ν b)
 | .v u => .v u
 | .no => .no
 | .fz s rows => .fz s rows
 | .ei s rows => .ei s rows
 | .fp row k => .fp row k
def X.kY (ν : Nat → Nat) : List X → List X
 | [] => []
 | x :: r => x.fQ ν :: X.kY ν r
end
def Env.names (E : Env) (ν : Nat → Nat) : Env := { E with β := fun o => E.β (ν o) }
theorem fX (E : Env) (ν : Nat → Nat) (R : List Nat) : (E.names ν).On E R ∧ E.On (E.names ν) R := ⟨⟨fun _ _ _ h => h, fun _ _ => ⟨rfl, fun h => h⟩⟩, ⟨fun _ _ _ h => h, fun _ _ => ⟨rfl, fun h => h⟩⟩⟩
mutual
theorem RX.fQ {E : Env} {ν : Nat → Nat} : ∀ (x : X) (c : Value) (R : List Nat), RX (E.names ν) x c R ↔ RX E (x.fQ ν) c R
 | .ptr .., _, _ => by simp only [X.fQ, RX]; exact Iff.rfl
 | .ba .., _, _ => by simp only [X.fQ, RX]; exact Iff.rfl
 | .mref _, _, _ => by simp only [X.fQ, RX]; exact Iff.rfl
 | .v _, _, _ => by simp only [X.fQ, RX]
 | .no, _, _ => by simp only [X.fQ, RX]
 | .fz s rows, c, R => ⟨RX.mono _ c R (fX E ν R).1 (fun o h => by simp [X.dN] at h), RX.mono _ c R (fX E ν R).2 (fun o h => by simp [X.fQ, X.dN] at h)⟩
 | .ei s rows, c, R => ⟨RX.mono _ c R (fX E ν R).1 (fun o h => by simp [X.dN] at h), RX.mono _ c R (fX E ν R).2 (fun o h => by simp [X.fQ, X.dN] at h)⟩
 | .fp row k, c, R => ⟨RX.mono _ c R (fX E ν R).1 (fun o h => by simp [X.dN] at h), RX.mono _ c R (fX E ν R).2 (fun o h => by simp [X.fQ, X.dN] at h)⟩
 | .agg xs, c, R => by
  simp only [X.fQ, RX]
  exact ⟨fun ⟨cs, h1, h2⟩ => ⟨cs, h1, (bz.fQ xs _ R).1 h2⟩, fun ⟨cs, h1, h2⟩ => ⟨cs, h1, (bz.fQ xs _ R).2 h2⟩⟩
 | .tup xs, c, R => by
  simp only [X.fQ, RX]
  exact ⟨fun ⟨cs, h1, h2⟩ => ⟨cs, h1, (ej.fQ xs _ R).1 h2⟩, fun ⟨cs, h1, h2⟩ => ⟨cs, h1, (ej.fQ xs _ R).2 h2⟩⟩
 | .gB f xs ys, c, R => by
  simp only [X.fQ, RX]
  exact ⟨fun ⟨h0, f, cc, h1, h2, h3⟩ => ⟨h0, f, cc, h1, (ej.fQ xs _ []).1 h2, (ej.fQ ys _ []).1 h3⟩, fun ⟨h0, f, cc, h1, h2, h3⟩ => ⟨h0, f, cc, h1, (ej.fQ xs _ []).2 h2, (ej.fQ ys _ []).2 h3⟩⟩
theorem bz.fQ {E : Env} {ν : Nat → Nat} : ∀ (xs : List X) (cs : List Value) (R : List Nat), bz (E.names ν) xs cs R ↔ bz E (X.kY ν xs) cs R
 | [], _, _ => by simp only [X.kY, bz]
 | x :: r, cs, R => by
  simp only [X.kY, bz]
  exact ⟨fun ⟨c, di, R₁, R₂, h1, h2, h3, h4, h5⟩ => ⟨c, di, R₁, R₂, h1, h2, (RX.fQ x c R₁).1 h3, (bz.fQ r di R₂).1 h4, h5⟩,
   fun ⟨c, di, R₁, R₂, h1, h2, h3, h4, h5⟩ => ⟨c, di, R₁, R₂, h1, h2, (RX.fQ x c R₁).2 h3, (bz.fQ r di R₂).2 h4, h5⟩⟩
theorem ej.fQ {E : Env} {ν : Nat → Nat} : ∀ (xs : List X) (cs : List Value) (R : List Nat), ej (E.names ν) xs cs R ↔ ej E (X.kY ν xs) cs R
 | [], _, _ => by simp only [X.kY, ej]
 | x :: r, cs, R => by
  simp only [X.kY, ej]
  exact ⟨fun ⟨c, di, R₁, R₂, h1, h3, h4, h5⟩ => ⟨c, di, R₁, R₂, h1, (RX.fQ x c R₁).1 h3, (ej.fQ r di R₂).1 h4, h5⟩,
   fun ⟨c, di, R₁, R₂, h1, h3, h4, h5⟩ => ⟨c, di, R₁, R₂, h1, (RX.fQ x c R₁).2 h3, (ej.fQ r di R₂).2 h4, h5⟩⟩
end
theorem RO.fQ {E : Env} {ν : Nat → Nat} : ∀ (xs : List X) (cs : Array Value) (off : Nat) (R : List Nat), RO (E.names ν) xs cs off R ↔ RO E (X.kY ν xs) cs off R
 | [], _, _, _ => by simp only [X.kY, RO]
 | x :: r, cs, off, R => by
  simp only [X.kY, RO]
  exact ⟨fun ⟨u, R₁, R₂, h1, h2, h3, h4, h5⟩ => ⟨u, R₁, R₂, h1, h2, (RX.fQ x u R₁).1 h3, (RO.fQ r cs _ R₂).1 h4, h5⟩,
   fun ⟨u, R₁, R₂, h1, h2, h3, h4, h5⟩ => ⟨u, R₁, R₂, h1, h2, (RX.fQ x u R₁).2 h3, (RO.fQ r cs _ R₂).2 h4, h5⟩⟩
theorem qS (ν : Nat → Nat) : ∀ xs : List X, (X.kY ν xs).length = xs.length
 | [] => rfl
 | _ :: r => by simp [X.kY, qS ν r]
mutual
theorem X.v9 (ν : Nat → Nat) : ∀ x : X, (x.fQ ν).free = x.free
 | .ptr .. | .ba .. | .mref _ | .v _ | .no | .fz .. | .ei .. | .fp .. | .gB .. => rfl
 | .agg xs => X.nN ν xs
 | .tup xs => X.nN ν xs
theorem X.nN (ν : Nat → Nat) : ∀ xs : List X, X.b9 (X.kY ν xs) = X.b9 xs
 | [] => rfl
 | x :: r => by simp only [X.kY, X.b9, X.v9 ν x, X.nN ν r]
end
def Obj.fQ (ν : Nat → Nat) : Obj → Obj
 | .cells xs => .cells (X.kY ν xs)
 | .rows s rs => .rows s rs
 | .wA es => .wA es
 | .gone => .gone
theorem dG.fQ {E : Env} {ν : Nat → Nat} {j : Nat} {ob : Obj} {R : List Nat} : dG (E.names ν) j ob R ↔ dG E (ν j) (ob.fQ ν) R := by
 cases ob with
 | cells xs =>
  simp only [Obj.fQ, dG, X.nN, qS]
  exact ⟨fun ⟨h0, B, cs, ty, h1, h2, h3, h4, h5, h6⟩ => ⟨h0, B, cs, ty, h1, h2, h3, h4, (RO.fQ xs cs _ []).1 h5, h6⟩,
   fun ⟨h0, B, cs, ty, h1, h2, h3, h4, h5, h6⟩ => ⟨h0, B, cs, ty, h1, h2, h3, h4, (RO.fQ xs cs _ []).2 h5, h6⟩⟩
 | rows s rs =>
  simp only [Obj.fQ, dG]
  refine ⟨fun ⟨hu, h⟩ => ⟨hu, h.imp (fun h => h) ?_⟩, fun ⟨hu, h⟩ => ⟨hu, h.imp (fun h => h) ?_⟩⟩
  ·exact fun ⟨B, cs, ty, R', h1, h2, h3, h4, h5, h6, h7⟩ => ⟨B, cs, ty, R', h1, h2, h3, h4, h5, cH.mono rs cs _ R' (fX E ν R').1 h6, h7⟩
  ·exact fun ⟨B, cs, ty, R', h1, h2, h3, h4, h5, h6, h7⟩ => ⟨B, cs, ty, R', h1, h2, h3, h4, h5, cH.mono rs cs _ R' (fX E ν R').2 h6, h7⟩
 | wA es => exact Iff.rfl
 | gone => simp only [Obj.fQ, dG]
mutual
def X.plain : X → Prop
 | .v _ | .no | .ptr .. | .ba .. | .mref _ => True
 | .fz _ _ | .fp _ _ | .gB .. => False
 | .ei _ rows => X.lR rows
 | .agg xs => X.iB xs
 | .tup xs => X.iB xs
def X.iB : List X → Prop
 | [] => True
 | x :: r => x.plain ∧ X.iB r
def X.lR : List (List X) → Prop
 | [] => True
 | x :: r => X.iB x ∧ X.lR r
end
def Env.DJ (E E' : Env) (R : List Nat) : Prop := ∀ b ∈ R, E'.w.heap[b]? = E.w.heap[b]? ∧ ((∀ i, E.φ b i = none) → ∀ i, E'.φ b i = none)
theorem Env.DJ.sub {E E' : Env} {R R' : List Nat} (h : E.DJ E' R) (hs : ∀ b ∈ R', b ∈ R) : E.DJ E' R' := fun b hb => h b (hs b hb)
mutual
theorem RX.off {E E' : Env} : ∀ (x : X) (c : Value) (R : List Nat), x.plain → E.DJ E' R → (∀ o, E'.β o = E.β o) → RX E x c R → RX E' x c R
 | .v _, _, _, _, _, _, h => by simpa [RX] using h
 | .no, _, _, _, _, _, h => by simpa [RX] using h
 | .fz .., _, _, hp, _, _, _ => hp.elim
 | .fp .., _, _, hp, _, _, _ => hp.elim
 | .gB .., _, _, hp, _, _, _ => hp.elim
 | .ptr o .., _, _, _, _, hβ, h => by simp only [RX] at h ⊢; rw [hβ]; exact h
 | .ba o .., _, _, _, _, hβ, h => by simp only [RX] at h ⊢; rw [hβ]; exact h
 | .mref o, _, _, _, _, hβ, h => by simp only [RX] at h ⊢; rw [hβ]; exact h
 | .ei s rows, c, R, hp, hE, hβ, h => by
  simp only [RX] at h ⊢
  obtain ⟨hu, base, cap, hc, hh⟩ := h
  refine ⟨hu, base, cap, hc, ?_⟩
  rcases hh with hh | ⟨b, off, cs, ty, R', hb, hw, hl, ho, hf, hr, hR⟩
  ·exact .inl hh
  ·subst hR
   have h2 := hE b (by simp)
   exact .inr ⟨b, off, cs, ty, R', hb, h2.1.trans hw, hl, ho, h2.2 hf, cH.off rows cs off R' hp (hE.sub (fun _ h => by simp [h])) hβ hr, rfl⟩
 | .agg xs, c, R, hp, hE, hβ, h => by
  simp only [RX] at h ⊢
  obtain ⟨cs, hc, hs⟩ := h
  exact ⟨cs, hc, bz.off xs _ R hp hE hβ hs⟩
 | .tup xs, c, R, hp, hE, hβ, h => by
  simp only [RX] at h ⊢
  obtain ⟨cs, hc, hs⟩ := h
  exact ⟨cs, hc, ej.off xs _ R hp hE hβ hs⟩
theorem bz.off {E E' : Env} : ∀ (xs : List X) (cs : List Value) (R : List Nat), X.iB xs → E.DJ E' R → (∀ o, E'.β o = E.β o) → bz E xs cs R → bz E' xs cs R
 | [], _, _, _, _, _, h => by simpa [bz] using h
 | x :: r, cs, R, hp, hE, hβ, h => by
  simp only [bz] at h ⊢
  simp only [X.iB] at hp
  obtain ⟨c, di, R₁, R₂, hc, hs, h1, h2, hR⟩ := h
  subst hR
  exact ⟨c, di, R₁, R₂, hc, hs, RX.off x c R₁ hp.1 (hE.sub (fun _ h => cJ h)) hβ h1, bz.off r di R₂ hp.2 (hE.sub (fun _ h => cA h)) hβ h2, rfl⟩
theorem ej.off {E E' : Env} : ∀ (xs : List X) (cs : List Value) (R : List Nat), X.iB xs → E.DJ E' R → (∀ o, E'.β o = E.β o) → ej E xs cs R → ej E' xs cs R
 | [], _, _, _, _, _, h => by simpa [ej] using h
 | x :: r, cs, R, hp, hE, hβ, h => by
  simp only [ej] at h ⊢
  simp only [X.iB] at hp
  obtain ⟨c, di, R₁, R₂, hc, h1, h2, hR⟩ := h
  subst hR
  exact ⟨c, di, R₁, R₂, hc, RX.off x c R₁ hp.1 (hE.sub (fun _ h => cJ h)) hβ h1, ej.off r di R₂ hp.2 (hE.sub (fun _ h => cA h)) hβ h2, rfl⟩
theorem RO.off {E E' : Env} : ∀ (xs : List X) (cs : Array Value) (off : Nat) (R : List Nat), X.iB xs → E.DJ E' R → (∀ o, E'.β o = E.β o) → RO E xs cs off R → RO E' xs cs off R
 | [], _, _, _, _, _, _, h => by simpa [RO] using h
 | x :: r, cs, off, R, hp, hE, hβ, h => by
  simp only [RO] at h ⊢
  simp only [X.iB] at hp
  obtain ⟨u, R₁, R₂, hu, hs, h1, h2, hR⟩ := h
  subst hR
  exact ⟨u, R₁, R₂, hu, hs, RX.off x u R₁ hp.1 (hE.sub (fun _ h => cJ h)) hβ h1, RO.off r cs (off + 1) R₂ hp.2 (hE.sub (fun _ h => cA h)) hβ h2, rfl⟩
theorem cH.off {E E' : Env} : ∀ (rs : List (List X)) (cs : Array Value) (off : Nat) (R : List Nat), X.lR rs → E.DJ E' R → (∀ o, E'.β o = E.β o) → cH E rs cs off R → cH E' rs cs off R
 | [], _, _, _, _, _, _, h => by simpa [cH] using h
 | r :: rs, cs, off, R, hp, hE, hβ, h => by
  simp only [cH] at h ⊢
  simp only [X.lR] at hp
  obtain ⟨R₁, R₂, hn, h1, h2, hR⟩ := h
  subst hR
  exact ⟨R₁, R₂, hn, RO.off r cs off R₁ hp.1 (hE.sub (fun _ h => cJ h)) hβ h1, cH.off rs cs _ R₂ hp.2 (hE.sub (fun _ h => cA h)) hβ h2, rfl⟩
end
def Obj.plain : Obj → Prop
 | .cells xs => X.iB xs
 | .rows _ rs => X.lR rs
 | .wA _ => True
 | .gone => True
theorem dG.off {E E' : Env} {o : Nat} {ob : Obj} {R : List Nat} (hp : ob.plain) (hE : E.DJ E' R) (hβ : ∀ o, E'.β o = E.β o) (h : dG E o ob R) : dG E' o ob R := by
 cases ob with
 | cells xs =>
  simp only [dG] at h ⊢
  obtain ⟨rC, B, cs, ty, hB, hw, hf, hl, hR, rfl⟩ := h
  have h2 := hE B.b (by simp)
  exact ⟨rC, B, cs, ty, (hβ o).trans hB, h2.1.trans hw, h2.2 hf, hl, RO.off xs cs _ [] hp (hE.sub (fun _ h => by cases h)) hβ hR, rfl⟩
 | rows s rs =>
  simp only [dG] at h ⊢
  obtain ⟨hu, h⟩ := h
  refine ⟨hu, ?_⟩
  rcases h with ⟨h1, h2, h3⟩ | ⟨B, cs, ty, R', hB, hw, hf, hl, hc, hR, rfl⟩
  ·exact .inl ⟨(hβ o).trans h1, h2, h3⟩
  ·have h2 := hE B.b (by simp)
   exact .inr ⟨B, cs, ty, R', (hβ o).trans hB, h2.1.trans hw, h2.2 hf, hl, hc, cH.off rs cs _ R' hp (hE.sub (fun _ h => by simp [h])) hβ hR, rfl⟩
 | wA es =>
  simp only [dG] at h ⊢
  obtain ⟨B, pL, clock, hB, hw, hf, he, rfl⟩ := h
  have h2 := hE B.b (by simp)
  exact ⟨B, pL, clock, (hβ o).trans hB, h2.1.trans hw, h2.2 hf, he, rfl⟩
 | gone => simpa [dG] using h
mutual
def X.lt (k : Nat) : X → Bool
 | .v _ | .no | .fz .. | .ei .. | .fp .. => true
 | .ptr o .. => Nat.blt o k
 | .ba o .. => Nat.blt o k
 | .mref o => Nat.blt o k
 | .agg xs => X.Dp k xs
 | .tup xs => X.Dp k xs
 | .gB _ a b => X.Dp k a && X.Dp k b
def X.Dp (k : Nat) : List X → Bool
 | [] => true
 | x :: r => x.lt k && X.Dp k r
end
theorem xb {o k : Nat} (h : Nat.blt o k = true) : o < k := Nat.le_of_ble_eq_true h
mutual
theorem X.yu {k o : Nat} : ∀ {x : X}, x.lt k = true → x.dN o = true → o < k
 | .v _, _, h | .no, _, h | .fz .., _, h | .ei .., _, h | .fp .., _, h => by simp [X.dN] at h
 | .ptr p .., h, hm => by simp only [X.dN] at hm; rw [← Nat.eq_of_beq_eq_true hm]; exact xb h
 | .ba p .., h, hm => by simp only [X.dN] at hm; rw [← Nat.eq_of_beq_eq_true hm]; exact xb h
 | .mref p, h, hm => by simp only [X.dN] at hm; rw [← Nat.eq_of_beq_eq_true hm]; exact xb h
 | .agg xs, h, hm => X.jW (xs := xs) h hm
 | .tup xs, h, hm => X.jW (xs := xs) h hm
 | .gB _ a b, h, hm => by
  simp only [X.lt, Bool.and_eq_true] at h
  simp only [X.dN, Bool.or_eq_true] at hm
  exact hm.elim (X.jW h.1) (X.jW h.2)
theorem X.jW {k o : Nat} : ∀ {xs : List X}, X.Dp k xs = true → X.cG o xs = true → o < k
 | [], _, h => by simp [X.cG] at h
 | x :: r, h, hm => by
  simp only [X.Dp, Bool.and_eq_true] at h
  simp only [X.cG, Bool.or_eq_true] at hm
  exact hm.elim (X.yu h.1) (X.jW h.2)
end
def Obj.lt (k : Nat) : Obj → Bool
 | .cells xs => X.Dp k xs
 | _ => true
def dX (l : List Nat) (x : X) : X := bif l.any (fun o => x.dN o) then .no else x
def Obj.dX (l : List Nat) : Obj → Obj
 | .cells xs => .cells (xs.map (AW.dX l))
 | ob => ob
def St.dX (st : St) (l : List Nat) : St := ⟨st.aD.map fun p => (p.1, AW.dX l p.2), st.aG.map fun p => (p.1, p.2.dX l)⟩
theorem xc {l : List Nat} {x : X} {q : Nat} (h : (dX l x).dN q = true) : q ∉ l ∧ dX l x = x ∧ x.dN q = true := by
 unfold dX at h ⊢
 cases hk : l.any (fun o => x.dN o) with
 | true => simp [hk, X.dN] at h
 | false =>
  rw [hk] at h
  simp only [cond_false] at h ⊢
  refine ⟨fun hq => ?_, trivial, h⟩
  have : l.any (fun o => x.dN o) = true := List.any_eq_true.2 ⟨q, hq, h⟩
  rw [hk] at this; cases this
theorem qT (l : List Nat) : ∀ {xs : List X}, X.b9 xs = true → X.b9 (xs.map (dX l)) = true
 | [], _ => rfl
 | x :: r, h => by
  simp only [X.b9, Bool.and_eq_true] at h
  have h1 : (dX l x).free = true := by
   unfold dX
   cases l.any (fun o => x.dN o) with
   | true => rfl
   | false => exact h.1
  simp only [List.map_cons, X.b9, h1, qT l h.2, Bool.and_self]
theorem RO.dX {E : Env} {l : List Nat} : ∀ {xs : List X} {cs : Array Value} {off : Nat}, X.b9 xs = true → RO E xs cs off [] → RO E (xs.map (AW.dX l)) cs off []
 | [], _, _, _, h => h
 | x :: r, _, _, hf, h => by
  simp only [RO] at h
  obtain ⟨u, R₁, R₂, hu, hs, h1, h2, hR⟩ := h
  simp only [X.b9, Bool.and_eq_true] at hf
  have MG := RX.free hf.1 h1
  have MH := RO.free hf.2 h2
  subst MG; subst MH
  have h3 := RO.dX (l := l) hf.2 h2
  simp only [List.map_cons, RO]
  refine ⟨u, [], [], hu, hs, ?_, h3, rfl⟩
  unfold AW.dX
  cases l.any (fun o => x.dN o) with
  | true => simp [RX]
  | false => exact h1
theorem qU {l : List Nat} : ∀ {xs : List X} {q : Nat}, X.cG q (xs.map (dX l)) = true → q ∉ l
 | [], _, h => by simp [X.cG] at h
 | x :: r, q, h => by
  simp only [List.map_cons, X.cG, Bool.or_eq_true] at h
  rcases h with h | h
  ·exact (xc h).1
  ·exact qU h
end Go.AW
namespace Go.AW
open Go
inductive vA (st : St) (L : List Nat) (ν : Nat → Nat) : X → X → Prop where
 | same {x : X} (h : x.free = true) : vA st L ν (x.fQ ν) x
 | view {o s lo n : Nat} {rs : List (List X)} (ho : look st.aG o = some (.rows s rs)) (hL : o ∈ L) (qP : lo + n ≤ rs.length) : vA st L ν (.ba o s lo n) (.fz s ((rs.drop lo).take n))
 | deref {o s i k : Nat} {row : List X} (ho : rowAt st (.ptr o s i k) = some row) (hL : o ∈ L) (tD : X.gA row = true) : vA st L ν (.ptr o s i k) (.fp row k)
inductive dK (st : St) (L : List Nat) (ν : Nat → Nat) : List X → List X → Prop where
 | nil : dK st L ν [] []
 | cons {x y : X} {xs ys : List X} (h : vA st L ν x y) (hs : dK st L ν xs ys) : dK st L ν (x :: xs) (y :: ys)
 | agg {us vs xs ys : List X} (h : dK st L ν us vs) (h1 : X.td vs = true) (hs : dK st L ν xs ys) : dK st L ν (.agg us :: xs) (.agg vs :: ys)
def gD : List Nat → Nat → Option Nat
 | [], _ => none
 | o :: r, q => bif Nat.beq o q then some 0 else (gD r q).map (· + 1)
theorem o8 : ∀ {l : List Nat} {q j : Nat}, gD l q = some j → l[j]? = some q
 | [], _, _, h => by cases h
 | o :: r, q, j, h => by
  simp only [gD] at h
  cases hb : Nat.beq o q with
  | true => rw [hb] at h; simp at h; subst h; simp [Nat.eq_of_beq_eq_true hb]
  | false =>
   rw [hb] at h
   simp only [cond_false, Option.map_eq_some_iff] at h
   obtain ⟨j', h1, rfl⟩ := h
   simpa using o8 h1
theorem oX : ∀ {l : List Nat} {q j : Nat}, l.Nodup → l[j]? = some q → gD l q = some j
 | [], _, _, _, h => by simp at h
 | o :: r, q, j, hn, h => by
  simp only [gD]
  have pI := List.nodup_cons.1 hn
  cases j with
  | zero =>
   simp at h; subst h
   simp
  | succ j =>
   have h' : r[j]? = some q := by simpa using h
   have ew : o ≠ q := fun e => pI.1 (by rw [e]; exact List.mem_of_getElem? h')
   have : Nat.beq o q = false := by
    cases hb : Nat.beq o q with
    | false => rfl
    | true => exact absurd (Nat.eq_of_beq_eq_true hb) ew
   rw [this]
   simp [oX pI.2 h']
theorem o9 : ∀ {l : List Nat} {q : Nat}, gD l q = none → q ∉ l
 | [], _, _ => by simp
 | o :: r, q, h => by
  simp only [gD] at h
  cases hb : Nat.beq o q with
  | true => simp [hb] at h
  | false =>
   rw [hb] at h
   simp only [cond_false, Option.map_eq_none_iff] at h
   have := o9 h
   have ew := Nat.ne_of_beq_eq_false hb
   simp [this, Ne.symm ew]
def kg (st : St) : List Operand → Option (List X)
 | [] => some []
 | x :: r => match bS st x, kg st r with
  | some y, some l => some (y :: l)
  | _, _ => none
def aP (P : Program) (f : FuncId) : Bool :=
 match P.funcs[f]? with
 | some fn => fn.body.isSome && fn.name != "runtime.NumGoroutine"
 | none => false
theorem lS {P : Program} {f : FuncId} (h : aP P f = true) (args : Array Value) (w : World) : (callFunc f args).run P w = .ok (.enter f args) w := by
 unfold aP at h
 cases hf : P.funcs[f]? with
 | none => simp [hf] at h
 | some fn =>
  rw [hf] at h
  simp only [Bool.and_eq_true] at h
  have h1 : fn.name ≠ "runtime.NumGoroutine" := by
   have := h.2
   simpa [bne] using this
  have h2 : fn.body ≠ none := fun e => by rw [e] at h; simp at h
  simp [callFunc, hf, h1, h2]
def loose (ν F : List Nat) : List Nat := ((du 0 ν).filter fun p => !F.elem p.1).map (·.2)
theorem z3 {ν F : List Nat} {o : Nat} (h : o ∉ loose ν F) {j : Nat} (hj : ν[j]? = some o) : F.elem j = true := by
 cases hF : F.elem j with
 | true => rfl
 | false =>
  refine absurd ?_ h
  unfold loose
  refine List.mem_map.2 ⟨(j, o), List.mem_filter.2 ⟨?_, by simpa using hF⟩, rfl⟩
  have : ∀ (l : List Nat) (i : Nat), l[j]? = some o → (i + j, o) ∈ du i l := by
   clear h hj hF
   induction j with
   | zero =>
    intro l i h
    cases l with
    | nil => simp at h
    | cons x r => simp at h; subst h; simp [du]
   | succ j ih =>
    intro l i h
    cases l with
    | nil => simp at h
    | cons x r =>
     simp only [du, List.mem_cons]
     right
     have := ih r (i + 1) (by simpa using h)
     rw [show i + (j + 1) = i + 1 + j by omega]; exact this
  simpa using this ν 0 hj
def bQ (ν : List Nat) (j : Nat) : Nat := ν.getD j 0
def nf (st : St) (ν F : List Nat) (bn : List Obj) : St :=
 ⟨(st.dX (loose ν F)).aD, ν.zip (bn.map (Obj.fQ (bQ ν))) ++ (st.dX (loose ν F)).aG⟩
theorem vB : ∀ {ν : List Nat} {l : List Obj} {r : List (Nat × Obj)} {o : Nat}, ν.length = l.length → look (ν.zip l ++ r) o = match gD ν o with | some j => l[j]? | none => look r o
 | [], [], _, _, _ => rfl
 | [], _ :: _, _, _, h => by simp at h
 | _ :: _, [], _, _, h => by simp at h
 | q :: ν, x :: l, r, o, h => by
  simp only [List.zip_cons_cons, List.cons_append, look, gD]
  cases hb : Nat.beq q o with
  | true => simp
  | false =>
   simp only [cond_false]
   rw [vB (by simpa using h)]
   cases hp : gD ν o with
   | none => simp
   | some j => simp
section
variable {P : Program} {N : eL} {st : St} {Q : Exit → St → Prop} {all : Array Oper} {rest : List Oper} {d : Nat} {ty : TypeId} {pos : String} {af : Array Edge}
theorem RO.freeze {E E1 : Env} {b : Nat} : ∀ {xs : List X} {cs : Array Value} {off : Nat} , (∀ i v, cs[i]? = some v → E1.φ b i = some v) → (∀ c i v, E.φ c i = some v → E1.φ c i = some v) → X.gA xs = true →
  RO E xs cs off [] → RF E1 xs b off
 | [], _, _, _, _, _, _ => by simp [RF]
 | x :: r, cs, off, h1, h2, hn, h => by
  simp only [RO] at h
  obtain ⟨u, R₁, R₂, hu, hs, hx, hr, hR⟩ := h
  obtain ⟨rfl, rfl⟩ := List.append_eq_nil_iff.1 hR.symm
  simp only [X.gA, Bool.and_eq_true] at hn
  simp only [RF]
  refine ⟨⟨u, h1 _ _ hu, hs, hn.1, RX.mono x u [] ⟨h2, fun _ h => by cases h⟩ (fun o ho => by rw [X.oy hn.1] at ho; cases ho) hx⟩, RO.freeze h1 h2 hn.2 hr⟩
theorem cH.freeze {E E1 : Env} {b : Nat} : ∀ {rs : List (List X)} {cs : Array Value} {off : Nat}, (∀ i v, cs[i]? = some v → E1.φ b i = some v) → (∀ c i v, E.φ c i = some v → E1.φ c i = some v) →
  cH E rs cs off [] → ke E1 rs b off
 | [], _, _, _, _, _ => by simp [ke]
 | r :: rs, cs, off, h1, h2, h => by
  simp only [cH] at h
  obtain ⟨R₁, R₂, hn, hx, hr, hR⟩ := h
  obtain ⟨rfl, rfl⟩ := List.append_eq_nil_iff.1 hR.symm
  simp only [ke]
  exact ⟨RO.freeze h1 h2 hn hx, cH.freeze h1 h2 hr⟩
def iC : Obj → Prop
 | .rows _ rs => ∀ r ∈ rs, X.b9 r = true
 | .cells _ => True
 | .wA _ => True
 | .gone => True
theorem cH.free {E : Env} : ∀ {rs : List (List X)} {cs : Array Value} {off : Nat} {R : List Nat}, (∀ r ∈ rs, X.b9 r = true) → cH E rs cs off R → R = []
 | [], _, _, _, _, h => by simpa [cH] using h
 | r :: rs, _, _, _, hf, h => by
  simp only [cH] at h
  obtain ⟨R₁, R₂, _, h1, h2, hR⟩ := h
  rw [hR, RO.free (hf r (by simp)) h1, cH.free (fun q hq => hf q (by simp [hq])) h2]; rfl
noncomputable def Env.cw (E : Env) (LB : Nat → Prop) : Env := by
 classical
 exact { E with φ := fun b i => if LB b then E.w.cell? ⟨b, i, none⟩ else E.φ b i }
theorem jQ (E : Env) {LB : Nat → Prop} {b : Nat} (h : LB b) (i : Nat) : (E.cw LB).φ b i = E.w.cell? ⟨b, i, none⟩ := by simp [Env.cw, h]
theorem fh (E : Env) {LB : Nat → Prop} {b : Nat} (h : ¬ LB b) (i : Nat) : (E.cw LB).φ b i = E.φ b i := by simp [Env.cw, h]
theorem vA.rx {G : Ctx} {E : Env} {RR : Own → List Nat} {a : Act} {L : List Nat} {ν : Nat → Nat} {LB : Nat → Prop} (hi : Inv G E RR st a) (DK : ∀ o ∈ L, ∀ b ∈ RR (.obj o), LB b) (hle : ∀ c i v, E.φ c i = some v → (E.cw LB).φ c i = some v)
  (h0 : ∀ o ∈ L, ∀ ob, look st.aG o = some ob → iC ob) {x y : X} {c : Value} {R : List Nat} (h : vA st L ν x y) (hx : RX E x c R) : RX ((E.cw LB).names ν) y c [] := by
 have gx : E.On (E.cw LB) [] := ⟨hle, fun _ h => by cases h⟩
 cases h with
 | same hf =>
  have : R = [] := RX.free (by rw [X.v9]; exact hf) hx
  subst this
  exact (RX.fQ y c []).2 (RX.mono _ c [] gx (fun _ _ => rfl) hx)
 | view ho hL qP =>
  rename_i o s lo n rs
  have dm := hi.aG o _ ho
  have lx : ∀ r ∈ rs, X.b9 r = true := h0 o hL _ ho
  simp only [RX] at hx ⊢
  obtain ⟨_, base, cap, rfl, dA⟩ := hx
  simp only [dG] at dm
  obtain ⟨hu, dm⟩ := dm
  have yt : ((rs.drop lo).take n).length = n := by simp; omega
  refine ⟨trivial, (hu.drop lo).take n, base, cap, by rw [yt], ?_⟩
  by_cases na : cap = 0
  ·refine .inl ⟨?_, na⟩
   have wD : n = 0 := by rcases dA with ⟨_, _, h, _⟩ | ⟨_, _, _, h, _⟩ <;> omega
   subst wD; simp
  ·rcases dA with ⟨_, _, _, h⟩ | ⟨B, hB, Jj, pI, hb⟩
   ·exact absurd h na
   have gq := hb.resolve_left na
   rcases dm with ⟨h1, _⟩ | ⟨B', cs, tb, R', iz, hw, hφ, mS, fu, jB, ir⟩
   ·rw [hB] at h1; cases h1
   rw [hB] at iz
   obtain rfl := Option.some.inj iz
   have DL := cH.free lx jB
   subst DL
   obtain ⟨R1, yZ, dz, _⟩ := cH.wY hu jB qP
   have pP : R1 = [] := by
    cases R1 with
    | nil => rfl
    | cons b r => have := dz b (by simp); cases this
   subst pP
   have JC : LB B.b := DK o hL _ (by rw [ir]; simp)
   refine .inr ⟨B.b, B.off + lo * s, gq, om, ?_⟩
   have rC : ke (E.cw LB) ((rs.drop lo).take n) B.b (B.off + lo * s) := cH.freeze (fun i v hv => by rw [jQ E JC, dq hw]; exact hv) hle yZ
   exact ke.mono _ _ _ (fX (E.cw LB) ν []).2 rC
 | deref ho hL tD =>
  rename_i o s i k row
  simp only [RX] at hx ⊢
  obtain ⟨_, B, hB, rfl⟩ := hx
  simp only [rowAt] at ho
  split at ho
  ·rename_i xs lv
   have dm := hi.aG o _ lv
   simp only [dG] at dm
   obtain ⟨_, B', cs, tb, iz, hw, _, _, jB, ir⟩ := dm
   rw [hB] at iz
   obtain rfl := Option.some.inj iz
   cases oV : Nat.beq i 0 with
   | false => simp [oV] at ho
   | true =>
    have := Nat.eq_of_beq_eq_true oV
    subst this
    simp only [oV, cond_true, Option.some.injEq] at ho
    subst ho
    have JC : LB B.b := DK o hL _ (by rw [ir]; simp)
    refine ⟨trivial, B.b, B.off, by simp, ?_⟩
    exact RF.mono _ _ _ (fX (E.cw LB) ν []).2 (RO.freeze (fun i v hv => by rw [jQ E JC, dq hw]; exact hv) hle tD jB)
  ·rename_i s' rs lv
   have dm := hi.aG o _ lv
   have lx : ∀ r ∈ rs, X.b9 r = true := h0 o hL _ lv
   simp only [dG] at dm
   obtain ⟨hu, dm⟩ := dm
   cases Gt : Nat.beq s s' with
   | false => simp [Gt] at ho
   | true =>
    have := Nat.eq_of_beq_eq_true Gt
    subst this
    simp only [Gt, cond_true] at ho
    rcases dm with ⟨_, h1, _⟩ | ⟨B', cs, tb, R', iz, hw, _, _, _, jB, ir⟩
    ·subst h1; simp at ho
    rw [hB] at iz
    obtain rfl := Option.some.inj iz
    have DL := cH.free lx jB
    subst DL
    obtain ⟨R1, _, pM, dz⟩ := cH.get hu jB ho
    have pP : R1 = [] := by
     cases R1 with
     | nil => rfl
     | cons b r => have := dz b (by simp); cases this
    subst pP
    have JC : LB B.b := DK o hL _ (by rw [ir]; simp)
    refine ⟨trivial, B.b, B.off + i * s, by rw [Nat.add_assoc], ?_⟩
    exact RF.mono _ _ _ (fX (E.cw LB) ν []).2 (RO.freeze (fun i v hv => by rw [jQ E JC, dq hw]; exact hv) hle tD pM)
  ·cases ho
theorem dK.get {L : List Nat} {ν : Nat → Nat} : ∀ {xs ys : List X} {j : Nat} {y : X}, dK st L ν xs ys → ys[j]? = some y → ∃ x, xs[j]? = some x ∧ (vA st L ν x y ∨ ∃ us vs, x = .agg us ∧ y = .agg vs ∧ dK st L ν us vs ∧ X.td vs = true)
 | _, _, j, y, .nil, h => by simp at h
 | _, _, 0, y, .cons h _, hy => by simp at hy; subst hy; exact ⟨_, rfl, .inl h⟩
 | _, _, j + 1, y, .cons _ hs, hy => by simpa using dK.get hs (by simpa using hy)
 | _, _, 0, y, .agg h h1 _, hy => by simp at hy; subst hy; exact ⟨_, rfl, .inr ⟨_, _, rfl, rfl, h, h1⟩⟩
 | _, _, j + 1, y, .agg _ _ hs, hy => by simpa using dK.get hs (by simpa using hy)
theorem dK.length {L : List Nat} {ν : Nat → Nat} : ∀ {xs ys : List X}, dK st L ν xs ys → xs.length = ys.length
 | _, _, .nil => rfl
 | _, _, .cons _ hs => by simp [hs.length]
 | _, _, .agg _ _ hs => by simp [hs.length]
theorem dK.Qm {G : Ctx} {E : Env} {RR : Own → List Nat} {a : Act} {L : List Nat} {ν : Nat → Nat} {LB : Nat → Prop} (hi : Inv G E RR st a) (DK : ∀ o ∈ L, ∀ b ∈ RR (.obj o), LB b) (hle : ∀ c i v, E.φ c i = some v → (E.cw LB).φ c i = some v)
  (h0 : ∀ o ∈ L, ∀ ob, look st.aG o = some ob → iC ob) : ∀ {xs ys : List X} {cs : List Value} {R : List Nat}, dK st L ν xs ys → bz E xs cs R → bz ((E.cw LB).names ν) ys cs []
 | _, _, cs, R, .nil, h => by simp only [bz] at h ⊢; exact ⟨h.1, trivial⟩
 | _, _, cs, R, .cons hl hs, h => by
  simp only [bz] at h ⊢
  obtain ⟨c, di, R₁, R₂, rfl, h1, h2, h3, _⟩ := h
  exact ⟨c, di, [], [], rfl, h1, hl.rx hi DK hle h0 h2, hs.Qm hi DK hle h0 h3, rfl⟩
 | _, _, cs, R, .agg hl _ hs, h => by
  simp only [bz] at h ⊢
  obtain ⟨c, di, R₁, R₂, rfl, h1, h2, h3, _⟩ := h
  simp only [RX] at h2
  obtain ⟨ds, rfl, h4⟩ := h2
  exact h1.elim
end
end Go.AW
namespace Go.AW
open Go
section
variable {P : Program} {N : eL} {st : St} {Q : Exit → St → Prop} {all : Array Oper} {rest : List Oper} {d : Nat} {ty : TypeId} {pos : String} {af : Array Edge}
theorem oY {G : Ctx} {E : Env} {RR : Own → List Nat} {a : Act} (hi : Inv G E RR st a) : ∀ {l : List Operand} {xs : List X}, kg st l = some xs → xs.length = l.length ∧ ∀ (j : Nat) (x : X), xs[j]? = some x → ∃ o : Operand, l[j]? = some o ∧ ∃ R, RX E x (a.eval o) R
 | [], xs, h => by simp only [kg, Option.some.injEq] at h; subst h; exact ⟨rfl, by simp⟩
 | o :: r, xs, h => by
  simp only [kg] at h
  cases h1 : bS st o with
  | none => simp [h1] at h
  | some y =>
   cases h2 : kg st r with
   | none => simp [h1, h2] at h
   | some ys =>
    rw [h1, h2] at h
    simp only [Option.some.injEq] at h
    subst h
    obtain ⟨hl, hg⟩ := oY hi h2
    refine ⟨by simp [hl], fun j x hx => ?_⟩
    cases j with
    | zero => simp at hx; subst hx; exact ⟨o, rfl, hi.eval h1⟩
    | succ j => simpa using hg j x (by simpa using hx)
theorem Inv.Fq {G : Ctx} {E : Env} {RR : Own → List Nat} {a : Act} {f : FuncId} {vs : List Value} {xs args : List X} {aG : List Obj} {F ν L : List Nat} {Q' : X → List Obj → Prop} (hi : Inv G E RR st a) (fi : au P f args aG F Q')
  (xd : xs.length = vs.length) (Fs : ∀ (j : Nat) (x : X), xs[j]? = some x → ∃ v : Value, vs[j]? = some v ∧ ∃ R, RX E x v R) (dO : dK st L (bQ ν) xs args) (oZ : ∀ j ob, aG[j]? = some ob → look st.aG (bQ ν j) = some (ob.fQ (bQ ν))) (hlen : ν.length = aG.length) (Bj : ν.Nodup) (DM : ∀ o ∈ L, o ∉ ν)
  (h0 : ∀ o ∈ L, ∃ ob, look st.aG o = some ob ∧ iC ob) (DN : ∀ o ∈ loose ν F, G.fn.F.elem o = false) (hd : d < G.fn.n) :
  Calls P f vs.toArray E.w fun e w' => ∃ v r bn, e = .returned v ∧ Q' r bn ∧ bn.length = aG.length ∧
   (r.lt aG.length = true → (∀ ob ∈ bn, ob.lt aG.length = true) → (L = [] ∨ (r.plain ∧ ∀ ob ∈ bn, ob.plain)) → ∃ kT rR, kT.w = w' ∧ Inv G kT rR ((nf st ν F bn).put d (r.fQ (bQ ν))) (a.put (some d) v)) := by
 classical
 -- the blocks that are lent, and those that are handed u3
 let LB : Nat → Prop := fun b => ∃ o ∈ L, b ∈ RR (.obj o)
 let PB : Nat → Prop := fun b => ∃ j, j < aG.length ∧ b ∈ RR (.obj (bQ ν j))
 have I5 : ∀ j, j < aG.length → ν[j]? = some (bQ ν j) := by
  intro j hj
  have : j < ν.length := by omega
  simp [bQ, List.getD, List.getElem?_eq_getElem this]
 have Qn : ∀ b, LB b → ∀ i, E.φ b i = none := by
  rintro b ⟨o, I6, hb⟩
  obtain ⟨ob, dm, lP⟩ := h0 o I6
  have h := hi.aG o ob dm
  cases ob with
  | cells ys =>
   simp only [dG] at h
   obtain ⟨_, B, cs, tb, _, _, hφ, _, _, ir⟩ := h
   rw [ir] at hb
   simp only [List.mem_singleton] at hb
   rw [hb]; exact hφ
  | rows s rs =>
   simp only [dG] at h
   obtain ⟨_, h⟩ := h
   rcases h with ⟨_, _, h3⟩ | ⟨B, cs, tb, R', _, _, hφ, _, _, jB, ir⟩
   ·rw [h3] at hb; cases hb
   ·have DL := cH.free lP jB
    subst DL
    rw [ir] at hb
    simp only [List.mem_singleton] at hb
    rw [hb]; exact hφ
  | wA es =>
   simp only [dG] at h
   obtain ⟨B, pL, clock, _, _, hφ, _, ir⟩ := h
   rw [ir] at hb
   simp only [List.mem_singleton] at hb
   rw [hb]; exact hφ
  | gone =>
   simp only [dG] at h
   rw [h] at hb; cases hb
 have RE : ∀ b, LB b → ¬ PB b := by
  rintro b ⟨o, I6, hb⟩ ⟨j, hj, gq⟩
  have ew : o ≠ bQ ν j := fun e => DM o I6 (by rw [e]; exact List.mem_of_getElem? (I5 j hj))
  exact hi.apart (.obj o) (.obj (bQ ν j)) (by simpa using ew) b hb gq
 have hle : ∀ c i v, E.φ c i = some v → (E.cw LB).φ c i = some v := by
  intro c i v h
  have : ¬ LB c := fun hL => by rw [Qn c hL i] at h; cases h
  rw [fh E this]; exact h
 let E1 : Env := (E.cw LB).names (bQ ν)
 have RG : E1.w = E.w := rfl
 have RH : ∀ o, E1.β o = E.β (bQ ν o) := fun _ => rfl
 have Na : ∀ b i, E1.φ b i = (E.cw LB).φ b i := fun _ _ => rfl
 let K1 : Nat → Prop := fun b => b < E.w.heap.size ∧ ¬ PB b
 let Dq : Own → List Nat := fun p => match p with
  | .obj j => if j < aG.length then RR (.obj (bQ ν j)) else []
  | .slot _ => []
 have Nb : ∀ i j, i < aG.length → j < aG.length → bQ ν i = bQ ν j → i = j := by
  intro i j iv pa h
  have h1 := oX Bj (I5 i iv)
  have h2 := oX Bj (I5 j pa)
  rw [h] at h1
  rw [h1] at h2
  exact Option.some.inj h2
 have JD : Inv (nc K1 E1 ⟨args.length, F⟩) E1 Dq ⟨du 0 args, du 0 aG⟩ ⟨vs.toArray, []⟩ := by
  constructor
  ·intro b i v h
   rw [Na] at h
   by_cases hL : LB b
   ·rw [jQ E hL] at h; exact h
   ·rw [fh E hL] at h; exact hi.kR b i v h
  ·intro s y hy
   have Dk : look (du 0 args) s = some y := hy
   rw [gr] at Dk
   obtain ⟨x, hx, dA⟩ := dO.get Dk
   obtain ⟨o, ho, R, hR⟩ := Fs s x hx
   have z4 : vs.toArray.getD s undef = o := by
    simp [Array.getD_eq_getD_getElem?, ho]
   show RX E1 y (vs.toArray.getD s undef) []
   rw [z4]
   have DK : ∀ o ∈ L, ∀ b ∈ RR (.obj o), LB b := fun o ho b hb => ⟨o, ho, hb⟩
   have Qo : ∀ o ∈ L, ∀ ob, look st.aG o = some ob → iC ob := fun o ho ob dm => by
    obtain ⟨wB, h1, h2⟩ := h0 o ho
    rw [h1] at dm
    obtain rfl := Option.some.inj dm
    exact h2
   rcases dA with hl | ⟨us, vs, rfl, rfl, hl, _⟩
   ·exact hl.rx hi DK hle Qo hR
   ·simp only [RX] at hR ⊢
    obtain ⟨cs, hc, h2⟩ := hR
    exact ⟨cs, hc, hl.Qm hi DK hle Qo h2⟩
  ·intro j ob ho
   have lp : look (du 0 aG) j = some ob := ho
   rw [gr] at lp
   have hj : j < aG.length := by
    rcases Nat.lt_or_ge j aG.length with h' | h'
    ·exact h'
    ·simp [List.getElem?_eq_none h'] at lp
   have h1 := hi.aG _ _ (oZ j ob lp)
   have pP : Dq (.obj j) = RR (.obj (bQ ν j)) := by simp [Dq, hj]
   rw [pP]
   have h2 : dG (E.names (bQ ν)) j ob (RR (.obj (bQ ν j))) := dG.fQ.2 h1
   refine dG.mono (E := E.names (bQ ν)) ⟨hle, fun b hb => ⟨rfl, fun hφ i => ?_⟩⟩ rfl (fun _ _ _ _ => rfl) h2
   have : ¬ LB b := fun hL => RE b hL ⟨j, hj, hb⟩
   show (E.cw LB).φ b i = none
   rw [fh E this]; exact hφ i
  ·intro p
   cases p with
   | slot s => exact List.nodup_nil
   | obj j => by_cases hj : j < aG.length <;> simp [Dq, hj, hi.nodup]
  ·intro p q lr b hb gq
   cases p with
   | slot s => cases hb
   | obj i =>
    cases q with
    | slot s => cases gq
    | obj j =>
     by_cases yW : i < aG.length
     ·by_cases qN : j < aG.length
      ·simp only [Dq, yW, qN, if_true] at hb gq
       have ew : bQ ν i ≠ bQ ν j := fun e => lr (by rw [Nb i j yW qN e])
       exact hi.apart (.obj (bQ ν i)) (.obj (bQ ν j)) (by simpa using ew) b hb gq
      ·simp [Dq, qN] at gq
     ·simp [Dq, yW] at hb
  ·intro p b hb
   cases p with
   | slot s => cases hb
   | obj j =>
    by_cases hj : j < aG.length
    ·simp only [Dq, hj, if_true] at hb
     exact ⟨(hi.own _ _ hb).1, fun h => h.2 ⟨j, hj, hb⟩⟩
    ·simp [Dq, hj] at hb
  ·intro b _; rfl
  ·exact Nat.le_refl _
  ·intro b hb; exact hb.1
  ·rfl
  ·rfl
  ·rfl
  ·intro b i v h; exact h
  ·intro b i v h; exact .inl h
  ·intro o _; rfl
  ·show vs.toArray.size = args.length
   have := dO.length
   simp; omega
  ·rfl
 refine (fi K1 E1 Dq _ JD).mono ?_
 rintro e w' ⟨v, r, bn, he, JE, Dn, E', fg, rfl, vC⟩
 refine ⟨v, r, bn, he, JE, Dn, fun Nc Nd Bk => ?_⟩
 -- what the callee leaves
 have Ft : ∀ b, b < E.w.heap.size → ¬ PB b → E'.w.heap[b]? = E.w.heap[b]? := fun b h1 h2 => vC.ah b ⟨h1, h2⟩
 have fu : E.w.heap.size ≤ E'.w.heap.size := vC.size
 let kT : Env := { φ := fun b i => if LB b then none else E'.φ b i, β := fun o => match gD ν o with | some j => E'.β j | none => E.β o, w := E'.w }
 have DO : ∀ b i, LB b → kT.φ b i = none := fun b i h => by simp [kT, h]
 have tJ : ∀ b i, ¬ LB b → kT.φ b i = E'.φ b i := fun b i h => by simp [kT, h]
 have JF : ∀ b i v, E.φ b i = some v → kT.φ b i = some v := by
  intro b i v h
  have hn : ¬ LB b := fun hL => by rw [Qn b hL i] at h; cases h
  rw [tJ b i hn]
  refine vC.φ0 b i v ?_
  show (E.cw LB).φ b i = some v
  exact hle b i v h
 have GN : ∀ b, b < E.w.heap.size → ¬ PB b → (∀ i, E.φ b i = none) → ∀ i, kT.φ b i = none := by
  intro b hb hP hφ i
  by_cases hL : LB b
  ·exact DO b i hL
  ·rw [tJ b i hL]
   cases h : E'.φ b i with
   | none => rfl
   | some v =>
    rcases vC.grow b i v h with h1 | h1
    ·have JG : (E.cw LB).φ b i = some v := h1
     rw [fh E hL, hφ i] at JG; cases JG
    ·exact absurd ⟨hb, hP⟩ h1
 have gx : ∀ R, (∀ b ∈ R, b < E.w.heap.size ∧ ¬ PB b) → E.On kT R := fun R h => ⟨JF, fun b hb => ⟨Ft b (h b hb).1 (h b hb).2, GN b (h b hb).1 (h b hb).2⟩⟩
 have hβ : ∀ o, o ∉ loose ν F → kT.β o = E.β o := by
  intro o ho
  show (match gD ν o with | some j => E'.β j | none => E.β o) = E.β o
  cases hp : gD ν o with
  | none => rfl
  | some j =>
   have h1 := o8 hp
   have hF := z3 ho h1
   have h2 := vC.fixed j hF
   have h3 : (nc K1 E1 ⟨1, F⟩).β0 j = E.β (bQ ν j) := rfl
   rw [h3] at h2
   have h4 : bQ ν j = o := by simp [bQ, List.getD, h1]
   rw [h4] at h2
   exact h2
 have Nf : ∀ j, j < aG.length → kT.β (bQ ν j) = E'.β j := by
  intro j hj
  show (match gD ν (bQ ν j) with | some j => E'.β j | none => E.β (bQ ν j)) = E'.β j
  rw [oX Bj (I5 j hj)]
 -- who owns what then
 let nW : Own → List Nat := fun p => match p with
  | .slot s => match look st.aD s with
   | some x => bif (loose ν F).any (fun o => x.dN o) then [] else RR (.slot s)
   | none => []
  | .obj o => match gD ν o with
   | some j => fg (.obj j)
   | none => RR (.obj o)
 have DP : ∀ s b, b ∈ nW (.slot s) → b ∈ RR (.slot s) := by
  intro s b hb
  simp only [nW] at hb
  cases hs : look st.aD s with
  | none => simp [hs] at hb
  | some x =>
   rw [hs] at hb
   simp only at hb
   cases hk : (loose ν F).any (fun o => x.dN o) with
   | true => simp [hk] at hb
   | false => simpa [hk] using hb
 have xe : ∀ p b, b ∈ RR p → (∀ j, j < aG.length → p ≠ .obj (bQ ν j)) → b < E.w.heap.size ∧ ¬ PB b := by
  intro p b hb hp
  refine ⟨(hi.own p b hb).1, ?_⟩
  rintro ⟨j, hj, gq⟩
  exact hi.apart p _ (hp j hj) b hb gq
 have u4 : ∀ q b, b ∈ fg q → b < E'.w.heap.size ∧ (E.w.heap.size ≤ b ∨ PB b) := by
  intro q b hb
  have h := vC.own q b hb
  refine ⟨h.1, ?_⟩
  by_cases rz : b < E.w.heap.size
  ·right
   by_cases hP : PB b
   ·exact hP
   ·exact absurd ⟨rz, hP⟩ h.2
  ·left; omega
 have xf : ∀ p b, b ∈ RR p → (∀ j, j < aG.length → p ≠ .obj (bQ ν j)) → ∀ q, b ∉ fg q := by
  intro p b hb hp q hq
  have h1 := xe p b hb hp
  rcases (u4 q b hq).2 with h | h
  ·omega
  ·exact h1.2 h
 have Fu : ∀ q b, b ∈ fg q → ¬ G.K b := by
  intro q b hb hK
  rcases (u4 q b hb).2 with h | ⟨j, hj, h⟩
  ·have := hi.small b hK; have := hi.size; omega
  ·exact (hi.own _ _ h).2 hK
 have GO : ∀ o j, gD ν o = some j → j < aG.length ∧ bQ ν j = o := by
  intro o j h
  have h1 := o8 h
  have hj : j < ν.length := by
   rcases Nat.lt_or_ge j ν.length with h' | h'
   ·exact h'
   ·simp [List.getElem?_eq_none h'] at h1
  exact ⟨om, by simp [bQ, List.getD, h1]⟩
 have yv : L = [] → ∀ b i, kT.φ b i = E'.φ b i := by
  intro hL b i
  refine tJ b i ?_
  rintro ⟨o, ho, _⟩
  rw [hL] at ho; cases ho
 have Bl : ∀ b, (∀ i, E'.φ b i = none) → ∀ i, kT.φ b i = none := by
  intro b h i
  by_cases hL : LB b
  ·exact DO b i hL
  ·rw [tJ b i hL]; exact h i
 have vD : ∀ p b, b ∈ nW p → (b ∈ RR p ∧ ∀ j, j < aG.length → p ≠ .obj (bQ ν j)) ∨ (∃ o j, p = .obj o ∧ gD ν o = some j ∧ b ∈ fg (.obj j)) := by
  intro p b hb
  cases p with
  | slot s => exact .inl ⟨DP s b hb, fun j hj => by simp⟩
  | obj o =>
   simp only [nW] at hb
   cases hp : gD ν o with
   | some j => rw [hp] at hb; exact .inr ⟨o, j, rfl, hp, hb⟩
   | none =>
    rw [hp] at hb
    refine .inl ⟨hb, fun j hj e => o9 hp ?_⟩
    have : o = bQ ν j := by simpa using e
    rw [this]; exact List.mem_of_getElem? (I5 j hj)
 have th : Inv G kT nW (nf st ν F bn) a := by
  refine { hi with kR := ?_, aD := ?_, aG := ?_, nodup := ?_, apart := ?_, own := ?_, ah := ?_, size := ?_, os := ?_, tape := ?_, output := ?_, φ0 := ?_, grow := ?_, fixed := ?_ }
  ·intro b i v h
   by_cases hL : LB b
   ·rw [DO b i hL] at h; cases h
   ·rw [tJ b i hL] at h; exact vC.kR b i v h
  ·intro s y hy
   have Dk : look ((st.aD).map fun p => (p.1, AW.dX (loose ν F) p.2)) s = some y := hy
   rw [mU (AW.dX (loose ν F))] at Dk
   cases hs : look st.aD s with
   | none => simp [hs] at Dk
   | some x =>
    rw [hs] at Dk
    simp only [Option.map_some, Option.some.injEq] at Dk
    subst Dk
    cases hk : (loose ν F).any (fun o => x.dN o) with
    | true =>
     have : nW (.slot s) = [] := by simp [nW, hs, hk]
     rw [this]
     simp [AW.dX, hk, RX]
    | false =>
     have : nW (.slot s) = RR (.slot s) := by simp [nW, hs, hk]
     rw [this]
     simp only [AW.dX, hk, cond_false]
     refine RX.mono x _ _ (gx _ (fun b hb => xe _ b hb (fun j hj => by simp))) (fun o ho => hβ o (fun wX => ?_)) (hi.aD s x hs)
     have : (loose ν F).any (fun o => x.dN o) = true := List.any_eq_true.2 ⟨o, wX, ho⟩
     rw [hk] at this; cases this
  ·intro o ob ho
   have lp : look (ν.zip (bn.map (Obj.fQ (bQ ν))) ++ (st.aG.map fun p => (p.1, p.2.dX (loose ν F)))) o = some ob := ho
   rw [vB (by simp [Dn, hlen])] at lp
   cases hp : gD ν o with
   | some j =>
    rw [hp] at lp
    simp only [List.getElem?_map, Option.map_eq_some_iff] at lp
    obtain ⟨wB, DQ, rfl⟩ := lp
    obtain ⟨hj, RI⟩ := GO o j hp
    have vz : nW (.obj o) = fg (.obj j) := by simp [nW, hp]
    rw [vz, ← RI]
    have h1 : dG E' j wB (fg (.obj j)) := vC.aG j wB (by rw [gr]; exact DQ)
    have r3 : wB ∈ bn := List.mem_of_getElem? DQ
    refine dG.fQ.1 (?_ : dG (kT.names (bQ ν)) j wB (fg (.obj j)))
    have h3 : dG { E' with φ := kT.φ } j wB (fg (.obj j)) := by
     rcases Bk with hL | Dl
     ·exact dG.mono (E := E') ⟨fun b i v h => by show kT.φ b i = _; rw [yv hL b i]; exact h, fun b _ => ⟨rfl, fun h i => by show kT.φ b i = _; rw [yv hL b i]; exact h i⟩⟩ rfl (fun _ _ _ _ => rfl) h1
     ·exact dG.off (E := E') (Dl.2 wB r3) (fun b _ => ⟨rfl, Bl b⟩) (fun _ => rfl) h1
    refine dG.mono (E := { E' with φ := kT.φ }) ⟨fun _ _ _ h => h, fun b _ => ⟨rfl, fun h => h⟩⟩ (Nf j hj) (fun ys vq q hq => ?_) h3
    subst vq
    exact Nf q (X.jW (Nd _ r3) hq)
   | none =>
    rw [hp] at lp
    simp only at lp
    rw [mU (Obj.dX (loose ν F))] at lp
    cases hs : look st.aG o with
    | none => simp [hs] at lp
    | some Jk =>
     rw [hs] at lp
     simp only [Option.map_some, Option.some.injEq] at lp
     subst lp
     have vz : nW (.obj o) = RR (.obj o) := by simp [nW, hp]
     rw [vz]
     have DR : ∀ j, j < aG.length → Own.obj o ≠ .obj (bQ ν j) := fun j hj e => o9 hp (by
      have : o = bQ ν j := by simpa using e
      rw [this]; exact List.mem_of_getElem? (I5 j hj))
     have ti := gx _ (fun b hb => xe _ b hb DR)
     have lv := hi.aG o Jk hs
     have Ng : kT.β o = E.β o := by
      show (match gD ν o with | some j => E'.β j | none => E.β o) = E.β o
      rw [hp]
     cases Jk with
     | cells ys =>
      simp only [Obj.dX, dG] at lv ⊢
      obtain ⟨rC, B, cs, tb, hB, hw, hf, JH, jB, ir⟩ := lv
      have h2 := ti.2 B.b (by rw [ir]; simp)
      exact ⟨qT _ rC, B, cs, tb, Ng.trans hB, h2.1.trans hw, h2.2 hf, by simpa using JH,
       RO.mono _ cs _ [] (ti.sub (fun _ h => by cases h)) (fun q hq => hβ q (qU hq)) (RO.dX rC jB), ir⟩
     | rows s rs => exact dG.mono ti Ng (fun ys h => by cases h) lv
     | wA es => exact dG.mono ti Ng (fun ys h => by cases h) lv
     | gone => simpa [Obj.dX, dG] using lv
  ·intro p
   cases p with
   | slot s =>
    simp only [nW]
    cases hs : look st.aD s with
    | none => exact List.nodup_nil
    | some x =>
     simp only
     cases (loose ν F).any (fun o => x.dN o) with
     | true => exact List.nodup_nil
     | false => exact hi.nodup _
   | obj o =>
    simp only [nW]
    cases gD ν o with
    | some j => exact vC.nodup _
    | none => exact hi.nodup _
  ·intro p q lr b hb gq
   rcases vD p b hb with ⟨h1, h2⟩ | ⟨o, j, rfl, hp, h1⟩
   ·rcases vD q b gq with ⟨h3, h4⟩ | ⟨o', j', rfl, Fp, h3⟩
    ·exact hi.apart p q lr b h1 h3
    ·exact xf p b h1 h2 _ h3
   ·rcases vD q b gq with ⟨h3, h4⟩ | ⟨o', j', rfl, Fp, h3⟩
    ·exact xf q b h3 h4 _ h1
    ·have RJ : j ≠ j' := fun e => by
      subst e
      have := (GO o j hp).2.symm.trans (GO o' j Fp).2
      exact lr (by rw [this])
     exact vC.apart (.obj j) (.obj j') (by simpa using RJ) b h1 h3
  ·intro p b hb
   rcases vD p b hb with ⟨h1, h2⟩ | ⟨o, j, rfl, hp, h1⟩
   ·have h4 := hi.own p b h1
    exact ⟨Nat.lt_of_lt_of_le h4.1 fu, h4.2⟩
   ·exact ⟨(u4 _ b h1).1, Fu _ b h1⟩
  ·intro b hK
   have h1 : b < E.w.heap.size := Nat.lt_of_lt_of_le (hi.small b hK) hi.size
   have h2 : ¬ PB b := fun ⟨j, hj, h⟩ => (hi.own _ _ h).2 hK
   have := Ft b h1 h2
   exact this.trans (hi.ah b hK)
  ·exact Nat.le_trans hi.size fu
  ·exact vC.os.trans hi.os
  ·exact vC.tape.trans hi.tape
  ·exact vC.output.trans hi.output
  ·exact fun b i v h => JF b i v (hi.φ0 b i v h)
  ·intro b i v h
   by_cases hL : LB b
   ·rw [DO b i hL] at h; cases h
   ·rw [tJ b i hL] at h
    rcases vC.grow b i v h with h1 | h1
    ·have JG : (E.cw LB).φ b i = some v := h1
     rw [fh E hL] at JG
     exact hi.grow b i v JG
    ·right
     intro hK
     exact h1 ⟨Nat.lt_of_lt_of_le (hi.small b hK) hi.size, fun ⟨j, hj, h⟩ => (hi.own _ _ h).2 hK⟩
  ·intro o ho
   rw [hβ o (fun wX => by rw [DN o wX] at ho; cases ho)]
   exact hi.fixed o ho
 have hr : RX kT (r.fQ (bQ ν)) v (fg (.slot 0)) := by
  have h1 : RX E' r v (fg (.slot 0)) := vC.aD 0 r rfl
  have h3 : RX { E' with φ := kT.φ } r v (fg (.slot 0)) := by
   rcases Bk with hL | Dl
   ·exact RX.mono (E := E') r _ _ ⟨fun b i v h => by show kT.φ b i = _; rw [yv hL b i]; exact h, fun b _ => ⟨rfl, fun h i => by show kT.φ b i = _; rw [yv hL b i]; exact h i⟩⟩ (fun _ _ => rfl) h1
   ·exact RX.off (E := E') r _ _ Dl.1 (fun b _ => ⟨rfl, Bl b⟩) (fun _ => rfl) h1
  refine (RX.fQ r v _).1 (?_ : RX (kT.names (bQ ν)) r v (fg (.slot 0)))
  exact RX.mono (E := { E' with φ := kT.φ }) r _ _ ⟨fun _ _ _ h => h, fun b _ => ⟨rfl, fun h => h⟩⟩ (fun q hq => Nf q (X.yu Nc hq)) h3
 refine ⟨kT, _, rfl, th.put hd hr (vC.nodup _) (fun b hb => ⟨(u4 _ b hb).1, Fu _ b hb, fun p _ yY => ?_⟩)⟩
 rcases vD p b yY with ⟨h1, h2⟩ | ⟨o, j, rfl, hp, h1⟩
 ·exact xf p b h1 h2 _ hb
 ·exact vC.apart (.slot 0) (.obj j) (by simp) b hb h1
theorem Inv.call {G : Ctx} {E : Env} {RR : Own → List Nat} {a : Act} {f : FuncId} {cB : List Operand} {xs args : List X} {aG : List Obj} {F ν L : List Nat} {Q' : X → List Obj → Prop} (hi : Inv G E RR st a) (fi : au P f args aG F Q')
  (fx : kg st cB = some xs) (dO : dK st L (bQ ν) xs args) (oZ : ∀ j ob, aG[j]? = some ob → look st.aG (bQ ν j) = some (ob.fQ (bQ ν))) (hlen : ν.length = aG.length) (Bj : ν.Nodup) (DM : ∀ o ∈ L, o ∉ ν)
  (h0 : ∀ o ∈ L, ∃ ob, look st.aG o = some ob ∧ iC ob) (DN : ∀ o ∈ loose ν F, G.fn.F.elem o = false) (hd : d < G.fn.n) :
  Calls P f (cB.map a.eval).toArray E.w fun e w' => ∃ v r bn, e = .returned v ∧ Q' r bn ∧ bn.length = aG.length ∧
   (r.lt aG.length = true → (∀ ob ∈ bn, ob.lt aG.length = true) → (L = [] ∨ (r.plain ∧ ∀ ob ∈ bn, ob.plain)) → ∃ kT rR, kT.w = w' ∧ Inv G kT rR ((nf st ν F bn).put d (r.fQ (bQ ν))) (a.put (some d) v)) := by
 obtain ⟨xd, Fs⟩ := oY hi fx
 exact hi.Fq fi (by simpa using xd) (fun j x hx => by
  obtain ⟨o, ho, R, hR⟩ := Fs j x hx
  exact ⟨a.eval o, by simp [ho], R, hR⟩) dO oZ hlen Bj DM h0 DN hd
theorem aO.call {f : FuncId} {cB : Array Operand} {mT : Array TypeId} {xs args : List X} {aG : List Obj} {F : List Nat} {Q' : X → List Obj → Prop} (ν L : List Nat) (j9 : aP P f = true) (fi : au P f args aG F Q')
  (fx : kg st cB.toList = some xs) (dO : dK st L (bQ ν) xs args) (oZ : ∀ j ob, aG[j]? = some ob → look st.aG (bQ ν j) = some (ob.fQ (bQ ν))) (hlen : ν.length = aG.length) (Bj : ν.Nodup) (DM : ∀ o ∈ L, o ∉ ν)
  (h0 : ∀ o ∈ L, ∃ ob, look st.aG o = some ob ∧ iC ob) (DN : ∀ o ∈ loose ν F, N.F.elem o = false) (hd : d < N.n)
  (k : ∀ r bn, Q' r bn → bn.length = aG.length → (r.lt aG.length = true ∧ (∀ ob ∈ bn, ob.lt aG.length = true) ∧ (L = [] ∨ (r.plain ∧ ∀ ob ∈ bn, ob.plain))) ∧ aO P N all rest ((nf st ν F bn).put d (r.fQ (bQ ν))) Q) :
  aO P N all (⟨some d, .call ⟨.value (.func f), cB, mT⟩, ty, pos, af, none⟩ :: rest) st Q := by
 intro G hn a w hh
 obtain ⟨E, RR, rfl, hi⟩ := hh
 have hc := hi.call fi fx dO oZ hlen Bj DM h0 (fun o ho => by rw [hn]; exact DN o ho) (d := d) (by rw [hn]; exact hd)
 have gQ : (execOp a.eval ⟨some d, .call ⟨.value (.func f), cB, mT⟩, ty, pos, af, none⟩).run P E.w = .ok (.enter f (cB.toList.map a.eval).toArray) E.w := by
  have e : (execOp a.eval ⟨some d, .call ⟨.value (.func f), cB, mT⟩, ty, pos, af, none⟩).run P E.w = (callFunc f ((#[] ++ cB.map a.eval) ++ #[])).run P E.w := rfl
  rw [e, lS j9]
  congr 2
  apply Array.ext'
  simp
 refine wpList_plain rfl fun K hK => ?_
 simp only [Oper.wp, gQ, Oper.upon_enter]
 refine hc.mono ?_
 rintro e w' ⟨v, r, bn, rfl, JE, Dn, Bm⟩
 obtain ⟨⟨h1, h2, h3⟩, hk⟩ := k r bn JE Dn
 obtain ⟨kT, rR, hw, hI⟩ := Bm h1 h2 h3
 exact hK _ _ (hk G hn _ _ ⟨kT, rR, hw, hI⟩)
end
end Go.AW
namespace Go.AW
open Go
section
variable {P : Program} {N : eL} {st : St} {Q : Exit → St → Prop} {all : Array Oper} {rest : List Oper} {d : Nat} {ty : TypeId} {pos : String} {af : Array Edge}
theorem dk.aM {c : Operand} {x y : Code} (hc : bS st c = some (.v (.bool true))) (h : dk P N x st Q) : dk P N (.cond c x y) st Q := dk.cond hc (fun _ => h) (fun h => by cases h)
theorem dk.bO {c : Operand} {x y : Code} (hc : bS st c = some (.v (.bool false))) (h : dk P N y st Q) : dk P N (.cond c x y) st Q := dk.cond hc (fun h => by cases h) (fun _ => h)
section ints
variable {dst : Option Nat} {g : Option (Nat × Bool)} {t t' : TypeId} {x y : Operand} {a b : Int}
theorem Y.qb (hx : bS st x = some (.v (.int .i64 a))) (hy : bS st y = some (.v (.int .i64 b))) (hr : -9223372036854775808 ≤ a + b ∧ a + b ≤ 9223372036854775807) : Yields P N st ⟨dst, .binOp .add t x y t', ty, pos, af, g⟩ (.v (.int .i64 (a + b))) :=
 Y.qa hx hy (IntWalk.i64_in _ hr)
theorem Y.zz (hx : bS st x = some (.v (.int .i64 a))) (hy : bS st y = some (.v (.int .i64 b))) (hr : -9223372036854775808 ≤ a - b ∧ a - b ≤ 9223372036854775807) : Yields P N st ⟨dst, .binOp .sub t x y t', ty, pos, af, g⟩ (.v (.int .i64 (a - b))) :=
 Y.zy hx hy (IntWalk.i64_in _ hr)
theorem Y.zi (hx : bS st x = some (.v (.int .i64 a))) (hy : bS st y = some (.v (.int .i64 b))) (hr : -9223372036854775808 ≤ a * b ∧ a * b ≤ 9223372036854775807) : Yields P N st ⟨dst, .binOp .mul t x y t', ty, pos, af, g⟩ (.v (.int .i64 (a * b))) :=
 Y.zh hx hy (IntWalk.i64_in _ hr)
theorem Y.zp (hx : bS st x = some (.v (.int .i64 a))) (hy : bS st y = some (.v (.int .i64 b))) (hr : 0 ≤ a ∧ a ≤ 9223372036854775807 ∧ 1 ≤ b) : Yields P N st ⟨dst, .binOp .quo t x y t', ty, pos, af, g⟩ (.v (.int .i64 (a / b))) :=
 Y.zo hx hy om (IntWalk.i64_quo a b hr)
theorem Y.zs {k : IntKind} (hx : bS st x = some (.v (.int k a))) (hy : bS st y = some (.v (.int k b))) (hr : 0 ≤ a ∧ 1 ≤ b) : Yields P N st ⟨dst, .binOp .rem t x y t', ty, pos, af, g⟩ (.v (.int k (a % b))) :=
 Y.zr hx hy om (IntWalk.rem_in a b hr.1)
end ints
theorem tK (x : X) : dX [] x = x := rfl
theorem lT (st : St) : nf st [] [] [] = st := by
 have h1 : ∀ (l : List (Nat × X)), l.map (fun p => (p.1, AW.dX [] p.2)) = l := by
  intro l
  induction l with
  | nil => rfl
  | cons p r ih => simp [tK]
 have h2 : ∀ ob : Obj, ob.dX [] = ob := by
  intro ob
  cases ob with
  | cells xs =>
   have : xs.map (AW.dX []) = xs := by
    induction xs with
    | nil => rfl
    | cons x r ih => simp [ih, tK]
   simp [Obj.dX, this]
  | rows => rfl
  | wA => rfl
  | gone => rfl
 have h3 : ∀ (l : List (Nat × Obj)), l.map (fun p => (p.1, p.2.dX [])) = l := by
  intro l
  induction l with
  | nil => rfl
  | cons p r ih => simp [h2]
 cases st
 simp [nf, St.dX, loose, du, h1, h3]
def oA (st : St) (ν : Nat → Nat) : Nat → List Obj → Prop
 | _, [] => True
 | j, ob :: r => look st.aG (ν j) = some (ob.fQ ν) ∧ oA st ν (j + 1) r
theorem oA.get {ν : Nat → Nat} : ∀ {aG : List Obj} {i : Nat}, oA st ν i aG → ∀ j ob, aG[j]? = some ob → look st.aG (ν (i + j)) = some (ob.fQ ν)
 | [], _, _, _, _, h => by simp at h
 | o :: r, i, h, j, ob, hj => by
  simp only [oA] at h
  cases j with
  | zero => simp at hj; subst hj; simpa using h.1
  | succ j =>
   have := oA.get h.2 j ob (by simpa using hj)
   rw [show i + (j + 1) = i + 1 + j by omega]; exact this
theorem aO.kh {f : FuncId} {cB : Array Operand} {mT : Array TypeId} {xs args : List X} {Q' : X → List Obj → Prop} (j9 : aP P f = true) (fi : au P f args [] [] Q')
  (fx : kg st cB.toList = some xs) (dO : dK st [] (bQ []) xs args) (hd : d < N.n)
  (k : ∀ r, Q' r [] → r.lt 0 = true ∧ aO P N all rest (st.put d (r.fQ (bQ []))) Q) :
  aO P N all (⟨some d, .call ⟨.value (.func f), cB, mT⟩, ty, pos, af, none⟩ :: rest) st Q := by
 refine aO.call [] [] j9 fi fx dO (fun j ob h => by simp at h) rfl List.nodup_nil (fun _ h => by cases h) (fun _ h => by cases h) (fun _ h => by cases h) hd ?_
 intro r bn hq hl
 have : bn = [] := List.eq_nil_of_length_eq_zero hl
 subst this
 obtain ⟨h1, h2⟩ := k r hq
 refine ⟨⟨h1, fun _ h => (by cases h), .inl rfl⟩, ?_⟩
 rw [lT]; exact h2
theorem aO.JI {f : FuncId} {cB : Array Operand} {mT : Array TypeId} {xs args : List X} {R R' : X} (j9 : aP P f = true) (fi : au P f args [] [] (fun r o => r = R ∧ o = []))
  (fx : kg st cB.toList = some xs) (dO : dK st [] (bQ []) xs args) (hd : d < N.n) (iU : R.lt 0 = true) (hR : R.fQ (bQ []) = R')
  (k : aO P N all rest (st.put d R') Q) : aO P N all (⟨some d, .call ⟨.value (.func f), cB, mT⟩, ty, pos, af, none⟩ :: rest) st Q := by
 refine aO.kh j9 fi fx dO hd ?_
 rintro r ⟨rfl, _⟩
 rw [hR]; exact ⟨iU, k⟩
theorem aO.JJ {f : FuncId} {cB : Array Operand} {mT : Array TypeId} {xs args : List X} {R R' : X} (L : List Nat) (j9 : aP P f = true) (fi : au P f args [] [] (fun r o => r = R ∧ o = []))
  (fx : kg st cB.toList = some xs) (dO : dK st L (bQ []) xs args) (h0 : ∀ o ∈ L, ∃ ob, look st.aG o = some ob ∧ iC ob) (hd : d < N.n) (iU : R.lt 0 = true) (hR : R.fQ (bQ []) = R') (hp : R.plain)
  (k : aO P N all rest (st.put d R') Q) : aO P N all (⟨some d, .call ⟨.value (.func f), cB, mT⟩, ty, pos, af, none⟩ :: rest) st Q := by
 refine aO.call [] L j9 fi fx dO (fun j ob h => by simp at h) rfl List.nodup_nil (fun _ _ h => by cases h) h0 (fun _ h => by cases h) hd ?_
 rintro r bn ⟨rfl, rfl⟩ hl
 refine ⟨⟨iU, fun _ h => (by cases h), .inr ⟨hp, fun _ h => (by cases h)⟩⟩, ?_⟩
 rw [lT, hR]; exact k
theorem aO.Fv {f : FuncId} {cB : Array Operand} {mT : Array TypeId} {xs args : List X} {aG : List Obj} {F : List Nat} {Q' : X → List Obj → Prop} (ν L : List Nat) (j9 : aP P f = true) (fi : au P f args aG F Q')
  (fx : kg st cB.toList = some xs) (dO : dK st L (bQ ν) xs args) (oZ : oA st (bQ ν) 0 aG) (hlen : ν.length = aG.length) (Bj : ν.Nodup) (DM : ∀ o ∈ L, o ∉ ν)
  (h0 : ∀ o ∈ L, ∃ ob, look st.aG o = some ob ∧ iC ob) (DN : ∀ o ∈ loose ν F, N.F.elem o = false) (hd : d < N.n)
  (k : ∀ r bn, Q' r bn → bn.length = aG.length → (r.lt aG.length = true ∧ (∀ ob ∈ bn, ob.lt aG.length = true) ∧ (L = [] ∨ (r.plain ∧ ∀ ob ∈ bn, ob.plain))) ∧ aO P N all rest ((nf st ν F bn).put d (r.fQ (bQ ν))) Q) :
  aO P N all (⟨some d, .call ⟨.value (.func f), cB, mT⟩, ty, pos, af, none⟩ :: rest) st Q :=
 aO.call ν L j9 fi fx dO (fun j ob h => by have := oZ.get j ob h; rwa [Nat.zero_add] at this) hlen Bj DM h0 DN hd k
theorem aY {α : Type} {s : Nat} {f : α → List X} {l : List α} (h : ∀ a, X.b9 (f a) = true) : iC (.rows s (l.map f)) := by
 intro r hr
 obtain ⟨a, _, rfl⟩ := List.mem_map.1 hr
 exact h a
end
end Go.AW
namespace Go.AW
open Go
section
variable {P : Program} {N : eL} {st : St} {Q : Exit → St → Prop} {K : St → Prop} {all : Array Oper} {rest : List Oper} {d : Nat} {ty : TypeId} {pos : String} {af : Array Edge}
def gy (P : Program) (N : eL) (all : Array Oper) (l : List Oper) (st : St) (K : St → Prop) : Prop :=
 ∀ G : Ctx, G.fn = N → ∀ a w, cy G st a w → wpStill P all w (fun a' => ∃ aT, K aT ∧ cy G aT a' w) l a
theorem cy.drew {G : Ctx} {a : Act} {w : World} (h : cy G st a w) : cy G st a { w with drawn := w.drawn + 1 } := by
 obtain ⟨E, RR, rfl, hi⟩ := h
 exact ⟨{ E with w := E.w.drew }, RR, rfl, hi.yn (cZ.drew G E) rfl⟩
theorem gy.nil (h : K st) : gy P N all [] st K := fun _ _ _ _ hh => ⟨st, h, hh⟩
theorem gy.val {op : Op} {x : X} (hy : Yields P N st ⟨some d, op, ty, pos, af, none⟩ x) (hd : d < N.n) (k : gy P N all rest (st.put d x) K) : gy P N all (⟨some d, op, ty, pos, af, none⟩ :: rest) st K := by
 intro G hn a w hh
 obtain ⟨E, RR, rfl, hi⟩ := hh
 obtain ⟨u, hr, hx⟩ := hy G E RR a hn hi
 unfold wpStill
 rw [if_pos (by simp [Region.wanted])]
 simp only [Oper.still, hr, Oper.stillUpon_value]
 exact k G hn _ _ ⟨E, _, rfl, hi.g5 (hn ▸ hd) hx⟩
theorem gy.split {b : Bool} (hx : look st.aD d = some (.v (.bool b))) (ht : b = true → gy P N all rest (st.put d (.v (.bool true))) K) (hf : b = false → gy P N all rest (st.put d (.v (.bool false))) K) : gy P N all rest st K := by
 have : Le st (st.put d (.v (.bool b))) := ⟨eM.cons hx (fun _ _ h => h), fun _ _ h => h⟩
 intro G hn a w hh
 cases b
 ·exact hf rfl G hn a w (this.holds hh)
 ·exact ht rfl G hn a w (this.holds hh)
theorem z5 {G : Ctx} {E : Env} {RR : Own → List Nat} {a : Act} (hi : Inv G E RR st a) {b : Bool} (hd : d < G.fn.n) (hx : look st.aD d = some (.v (.bool b))) : a.tmps[d]? = some (.bool b) := by
 have hs := hi.aD d _ hx
 simp only [RX] at hs
 have fu : d < a.tmps.size := by rw [hi.tmps]; exact hd
 have := hs.1
 simp only [Array.getD, fu, dif_pos] at this
 rw [Array.getElem?_eq_getElem fu]
 exact congrArg some this
theorem gy.ar {dst : Option Nat} {op : Op} {j : Nat} {want : Bool} (hj : (all[j]?).bind (·.dst) = some d) (hd : d < N.n) (hx : look st.aD d = some (.v (.bool want)))
  (k : gy P N all (⟨dst, op, ty, pos, af, none⟩ :: rest) st K) : gy P N all (⟨dst, op, ty, pos, af, some (j, want)⟩ :: rest) st K := by
 intro G hn a w hh
 have hk := k G hn a w hh
 obtain ⟨E, RR, rfl, hi⟩ := hh
 have hv := z5 hi (by rw [hn]; exact hd) hx
 have hw : Region.wanted ⟨dst, op, ty, pos, af, some (j, want)⟩ (yielded all a.tmps) = true := by
  simp [Region.wanted, yielded, hj, hv]
 unfold wpStill at hk ⊢
 rw [if_pos hw]
 rw [if_pos (by simp [Region.wanted])] at hk
 exact hk
theorem dk.pb {id : Nat} {l : List Oper} (n : Nat) (hm : P.follows .mixedOrders = true) (hB : Region.lexTailB .any l.toArray n = true)
  (h : gy P N l.toArray (l.take n) st (fun aT => aO P N l.toArray (l.drop n) aT Q)) : dk P N (.region id l.toArray true) st Q := by
 intro G hn a w hh
 refine wp_region_still_tail n hm hB ?_
 have h1 := h G hn a _ hh.drew
 have mono : ∀ (l' : List Oper) (a : Act) {w : World} {K1 K2 : Act → Prop}, (∀ a, K1 a → K2 a) → wpStill P l.toArray w K1 l' a → wpStill P l.toArray w K2 l' a := by
  intro l'
  induction l' with
  | nil => intro a w K1 K2 hk h; exact hk _ h
  | cons o r ih =>
   intro a w K1 K2 hk h
   unfold wpStill at h ⊢
   split
   ·rename_i hw; rw [if_pos hw] at h; exact Oper.still_mono (fun a' h' => ih a' hk h') h
   ·rename_i hw; rw [if_neg hw] at h; exact ih _ hk h
 exact mono _ _ (fun a' ⟨aT, hk, gL⟩ => hk G hn a' _ gL) h1
theorem dk.fR {id : Nat} {l : List Oper} (hm : P.follows .mixedOrders = true) (hB : Region.lexB .any l.toArray = true)
  (h : gy P N l.toArray l st (fun aT => Q .normal aT)) : dk P N (.region id l.toArray true) st Q := by
 intro G hn a w hh
 refine wp_region_still_lit hm hB ?_
 have h1 := h G hn a _ hh.drew
 have mono : ∀ (l' : List Oper) (a : Act) {w : World} {K1 K2 : Act → Prop}, (∀ a, K1 a → K2 a) → wpStill P l.toArray w K1 l' a → wpStill P l.toArray w K2 l' a := by
  intro l'
  induction l' with
  | nil => intro a w K1 K2 hk h; exact hk _ h
  | cons o r ih =>
   intro a w K1 K2 hk h
   unfold wpStill at h ⊢
   split
   ·rename_i hw; rw [if_pos hw] at h; exact Oper.still_mono (fun a' h' => ih a' hk h') h
   ·rename_i hw; rw [if_neg hw] at h; exact ih _ hk h
 exact mono _ _ (fun a' ⟨aT, hk, gL⟩ => ⟨aT, gL, hk⟩) h1
end
end Go.AW
namespace Go.AW
open Go
section
variable {P : Program} {N : eL} {st aT : St} {Q : Exit → St → Prop} {K : St → Prop} {all : Array Oper} {rest : List Oper} {d : Nat} {ty : TypeId} {pos : String} {af : Array Edge}
theorem dk.a8 {c : Operand} {x y : Code} {p : Prop} {inst : Decidable p} (hc : bS st c = some (.v (.bool (decide p)))) (ht : p → dk P N x st Q) (hf : ¬ p → dk P N y st Q) :
  dk P N (.cond c x y) st Q := dk.cond hc (fun h => ht (of_decide_eq_true h)) (fun h => hf (of_decide_eq_false h))
theorem dk.dB {c : Operand} {x y : Code} {p : Prop} {inst : Decidable p} (hc : bS st c = some (.v (.bool (!decide p)))) (ht : ¬ p → dk P N x st Q) (hf : p → dk P N y st Q) :
 dk P N (.cond c x y) st Q := dk.cond hc (fun h => ht (by simpa using h)) (fun h => hf (by simpa using h))
theorem Le.test {b : Bool} (hx : look st.aD d = some (.v (.bool b))) : Le st (st.put d (.v (.bool b))) := ⟨eM.cons hx (fun _ _ h => h), fun _ _ h => h⟩
theorem dk.Bn {x y : Code} {b : Bool} (hc : look st.aD d = some (.v (.bool b))) (ht : b = true → dk P N x (st.put d (.v (.bool true))) Q) (hf : b = false → dk P N y (st.put d (.v (.bool false))) Q) :
  dk P N (.cond (.tmp d) x y) st Q := by
 refine dk.cond (b := b) hc (fun h => ?_) (fun h => ?_)
 ·subst h; exact (ht rfl).le (Le.test hc)
 ·subst h; exact (hf rfl).le (Le.test hc)
theorem dk.bx {x y : Code} {p : Prop} {inst : Decidable p} (hc : look st.aD d = some (.v (.bool (decide p)))) (ht : p → dk P N x (st.put d (.v (.bool true))) Q) (hf : ¬ p → dk P N y (st.put d (.v (.bool false))) Q) :
  dk P N (.cond (.tmp d) x y) st Q := dk.Bn hc (fun h => ht (of_decide_eq_true h)) (fun h => hf (of_decide_eq_false h))
theorem aO.ax {p : Prop} {inst : Decidable p} (hx : look st.aD d = some (.v (.bool (decide p))))
  (ht : p → aO P N all rest (st.put d (.v (.bool true))) Q) (hf : ¬ p → aO P N all rest (st.put d (.v (.bool false))) Q) : aO P N all rest st Q :=
 aO.split hx (fun h => ht (of_decide_eq_true h)) (fun h => hf (of_decide_eq_false h))
theorem aO.dP {p : Prop} {inst : Decidable p} (hx : look st.aD d = some (.v (.bool (!decide p))))
 (ht : ¬ p → aO P N all rest (st.put d (.v (.bool true))) Q) (hf : p → aO P N all rest (st.put d (.v (.bool false))) Q) : aO P N all rest st Q :=
 aO.split hx (fun h => ht (by simpa using h)) (fun h => hf (by simpa using h))
theorem gy.ax {p : Prop} {inst : Decidable p} (hx : look st.aD d = some (.v (.bool (decide p))))
  (ht : p → gy P N all rest (st.put d (.v (.bool true))) K) (hf : ¬ p → gy P N all rest (st.put d (.v (.bool false))) K) : gy P N all rest st K :=
 gy.split hx (fun h => ht (of_decide_eq_true h)) (fun h => hf (of_decide_eq_false h))
theorem dk.join {x y : Code} {ι : Type} (J : ι → St) (I : ι → Prop) (hx : dk P N x st (gN (fun aT => ∃ i, I i ∧ Le aT (J i)) Q)) (hy : ∀ i, I i → dk P N y (J i) Q) : dk P N (.seq x y) st Q := by
 refine dk.seq (hx.mono ?_)
 intro e z6 h
 cases e with
 | normal => obtain ⟨i, hI, hle⟩ := h; exact (hy i hI).le hle
 | _ => exact h
theorem dK.ah {L : List Nat} {ν : Nat → Nat} {x : X} {xs ys : List X} (h : x.free = true) (he : x.fQ ν = x) (hs : dK st L ν xs ys) : dK st L ν (x :: xs) (x :: ys) := by
 have := vA.same (st := st) (L := L) (ν := ν) h
 rw [he] at this
 exact .cons this hs
def cQ (rs : List (List X)) : Prop := ∀ r ∈ rs, X.b9 r = true
theorem cQ.map {α : Type} {f : α → List X} {l : List α} (h : ∀ a, X.b9 (f a) = true) : cQ (l.map f) := by
 intro r hr
 obtain ⟨a, _, rfl⟩ := List.mem_map.1 hr
 exact h a
theorem gR {α : Type} {f : α → List X} (h : ∀ a, X.iB (f a)) : ∀ l : List α, X.lR (l.map f)
 | [] => by simp [X.lR]
 | a :: r => by simp only [List.map_cons, X.lR]; exact ⟨h a, gR h r⟩
theorem Sh.freeze {s : Nat} {rows : List (List X)} (hx : look st.aD d = some (.ei s rows)) (hf : cQ rows) : Sh N st (st.put d (.fz s rows)) := by
 intro G hn a w hh
 obtain ⟨E, RR, rfl, hi⟩ := hh
 have hv := hi.aD d _ hx
 have iV := hi.nodup (.slot d)
 simp only [RX] at hv
 obtain ⟨hu, base, cap, hc, dA⟩ := hv
 rcases dA with ⟨h1, h2, h3⟩ | ⟨b, off, cs, ty, R', hb, hw, hl, ho, hφ, jB, ir⟩
 ·refine ⟨E, _, rfl, hi.relabel (d := d) (R := []) ?_ List.nodup_nil (fun _ h => by cases h)⟩
  simp only [RX]
  exact ⟨trivial, hu, base, cap, hc, .inl ⟨h1, h2⟩⟩
 ·have DL := cH.free hf jB
  subst DL
  have mZ : b ∈ RR (.slot d) := by rw [ir]; simp
  have lL := hi.no d
  have hle : ∀ c i v, E.φ c i = some v → (if c = b then cs[i]? else E.φ c i) = some v := by
   intro c i v h
   by_cases gn : c = b
   ·subst gn; rw [hφ i] at h; cases h
   ·rw [if_neg gn]; exact h
  have gx : ∀ R : List Nat, b ∉ R → E.On { E with φ := fun c i => if c = b then cs[i]? else E.φ c i } R := by
   intro R Gu
   refine ⟨hle, fun c oz => ⟨rfl, fun h i => ?_⟩⟩
   have : c ≠ b := fun e => Gu (e ▸ oz)
   show (if c = b then cs[i]? else E.φ c i) = none
   rw [if_neg this]; exact h i
  have GP : ∀ p, b ∉ fH RR (.slot d) [] p := by
   intro p hp
   unfold fH at hp
   split at hp
   ·cases hp
   ·rename_i h; exact hi.apart _ _ h b hp mZ
  have Nh : Inv G { E with φ := fun c i => if c = b then cs[i]? else E.φ c i } (fH RR (.slot d) []) (st.put d .no) a :=
   {lL with
    kR := by
     intro c i v h
     change (if c = b then cs[i]? else E.φ c i) = some v at h
     by_cases gn : c = b
     ·subst gn; rw [if_pos rfl] at h
      show E.w.cell? _ = _
      rw [dq hw]; exact h
     ·rw [if_neg gn] at h; exact hi.kR c i v h
    aD := fun q x hx => RX.mono x _ _ (gx _ (GP _)) (fun _ _ => rfl) (lL.aD q x hx)
    aG := fun o ob dm => dG.mono (gx _ (GP _)) rfl (fun _ _ _ _ => rfl) (lL.aG o ob dm)
    φ0 := fun c i v h => hle c i v (hi.φ0 c i v h)
    grow := by
     intro c i v h
     change (if c = b then cs[i]? else E.φ c i) = some v at h
     by_cases gn : c = b
     ·subst gn; exact .inr (hi.own _ _ mZ).2
     ·rw [if_neg gn] at h; exact hi.grow c i v h }
  have h4 := Nh.relabel (d := d) (x := .fz s rows) (R := []) (by
   simp only [RX]
   refine ⟨trivial, hu, base, cap, hc, .inr ⟨b, off, hb, hl, ?_⟩⟩
   refine cH.freeze (E := E) (fun i v h => ?_) hle jB
   show (if b = b then cs[i]? else E.φ b i) = some v
   rw [if_pos rfl]; exact h) List.nodup_nil (fun _ h => by cases h)
  refine ⟨{ E with φ := fun c i => if c = b then cs[i]? else E.φ c i }, fH (fH RR (.slot d) []) (.slot d) [], rfl, { h4 with aD := fun q x hx => ?_, aG := h4.aG }⟩
  refine h4.aD q x ?_
  simp only [St.put, look] at hx ⊢
  cases hq : Nat.beq d q with
  | true => rw [hq] at hx; simpa using hx
  | false => rw [hq] at hx; simpa using hx
end
end Go.AW
namespace Go.AW
open Go
mutual
def X.lU : X → X
 | .ei s rows => .fz s (X.nh rows)
 | .agg xs => .agg (X.js xs)
 | .tup xs => .tup (X.js xs)
 | .v u => .v u
 | .no => .no
 | .fz s rows => .fz s rows
 | .ptr o s i k => .ptr o s i k
 | .ba o s lo n => .ba o s lo n
 | .mref o => .mref o
 | .fp row k => .fp row k
 | .gB f a b => .gB f a b
def X.js : List X → List X
 | [] => []
 | x :: r => x.lU :: X.js r
def X.nh : List (List X) → List (List X)
 | [] => []
 | r :: rs => X.js r :: X.nh rs
end
theorem X.ni : ∀ xs : List X, (X.js xs).length = xs.length
 | [] => rfl
 | _ :: r => by simp [X.js, X.ni r]
theorem X.nj : ∀ rs : List (List X), (X.nh rs).length = rs.length
 | [] => rfl
 | _ :: r => by simp [X.nh, X.nj r]
theorem cz.nh {s : Nat} : ∀ {rs : List (List X)}, cz s rs → cz s (X.nh rs)
 | [], _ => fun _ h => by cases h
 | r :: rs, h => by
  intro q hq
  simp only [X.nh, List.mem_cons] at hq
  rcases hq with rfl | hq
  ·rw [X.ni]; exact h r (by simp)
  ·exact cz.nh (fun q hq => h q (by simp [hq])) q hq
mutual
theorem X.Bo : ∀ {x : X}, x.free = true → x.lU = x
 | .v _, _ | .no, _ | .fz .., _ | .ptr .., _ | .ba .., _ | .mref _, _ | .fp .., _ | .gB .., _ => rfl
 | .ei .., h => by cases h
 | .agg xs, h => by simp only [X.lU]; rw [X.kj (xs := xs) h]
 | .tup xs, h => by simp only [X.lU]; rw [X.kj (xs := xs) h]
theorem X.kj : ∀ {xs : List X}, X.b9 xs = true → X.js xs = xs
 | [], _ => rfl
 | x :: r, h => by
  simp only [X.b9, Bool.and_eq_true] at h
  simp only [X.js]
  rw [X.Bo h.1, X.kj h.2]
end
theorem X.km : ∀ {rs : List (List X)}, cQ rs → X.nh rs = rs
 | [], _ => rfl
 | r :: rs, h => by
  simp only [X.nh]
  rw [X.kj (h r (by simp)), X.km (fun q hq => h q (by simp [hq]))]
mutual
theorem X.Bp : ∀ {x : X}, x.nr = true → x.lU.nr = true
 | .v _, _ | .no, _ | .fz .., _ | .fp .., _ => rfl
 | .ei .., _ => rfl
 | .agg xs, h => X.u5 (xs := xs) h
 | .tup xs, h => X.u5 (xs := xs) h
 | .gB .., h => h
 | .ptr .., h => h
 | .ba .., h => h
 | .mref _, h => h
theorem X.u5 : ∀ {xs : List X}, X.gA xs = true → X.gA (X.js xs) = true
 | [], _ => rfl
 | x :: r, h => by
  simp only [X.gA, Bool.and_eq_true] at h
  simp only [X.js, X.gA, Bool.and_eq_true]
  exact ⟨X.Bp h.1, X.u5 h.2⟩
end
def Env.Bq (E E' : Env) (R : List Nat) : Prop :=
 E'.w = E.w ∧ E'.β = E.β ∧ (∀ c i v, E.φ c i = some v → E'.φ c i = some v) ∧ ∀ b ∈ R, ∀ i v, E.w.cell? ⟨b, i, none⟩ = some v → E'.φ b i = some v
theorem Env.Bq.sub {E E' : Env} {R R' : List Nat} (h : E.Bq E' R) (hs : ∀ b ∈ R', b ∈ R) : E.Bq E' R' := ⟨h.1, h.2.1, h.2.2.1, fun b hb => h.2.2.2 b (hs b hb)⟩
theorem Env.Bq.on {E E' : Env} {R : List Nat} (h : E.Bq E' R) : E.On E' [] := ⟨h.2.2.1, fun _ h => by cases h⟩
mutual
theorem RX.lU {E E' : Env} : ∀ (x : X) (c : Value) (R : List Nat), E.Bq E' R → RX E x c R → RX E' x.lU c []
 | .v u, c, R, hE, h => by simp only [RX, X.lU] at h ⊢; exact ⟨h.1, trivial⟩
 | .no, c, R, hE, h => by simp only [RX, X.lU]
 | .fz s rows, c, R, hE, h => by
  have h0 : R = [] := by simp only [RX] at h; exact h.1
  subst h0; exact RX.mono _ _ _ hE.on (fun _ _ => by rw [hE.2.1]) h
 | .ptr o s i k, c, R, hE, h => by
  have h0 : R = [] := by simp only [RX] at h; exact h.1
  subst h0; exact RX.mono _ _ _ hE.on (fun _ _ => by rw [hE.2.1]) h
 | .ba o s lo n, c, R, hE, h => by
  have h0 : R = [] := by simp only [RX] at h; exact h.1
  subst h0; exact RX.mono _ _ _ hE.on (fun _ _ => by rw [hE.2.1]) h
 | .mref o, c, R, hE, h => by
  have h0 : R = [] := by simp only [RX] at h; exact h.1
  subst h0; exact RX.mono _ _ _ hE.on (fun _ _ => by rw [hE.2.1]) h
 | .fp row k, c, R, hE, h => by
  have h0 : R = [] := by simp only [RX] at h; exact h.1
  subst h0; exact RX.mono _ _ _ hE.on (fun _ _ => by rw [hE.2.1]) h
 | .gB fn a b, c, R, hE, h => by
  have h0 : R = [] := by simp only [RX] at h; exact h.1
  subst h0; exact RX.mono _ _ _ hE.on (fun _ _ => by rw [hE.2.1]) h
 | .ei s rows, c, R, hE, h => by
  simp only [RX, X.lU] at h ⊢
  obtain ⟨hu, base, cap, hc, hh⟩ := h
  refine ⟨trivial, hu.nh, base, cap, by rw [X.nj]; exact hc, ?_⟩
  rcases hh with ⟨h1, h2, h3⟩ | ⟨b, off, cs, ty, R', hb, hw, hl, ho, hφ, hr, hR⟩
  ·subst h1; exact .inl ⟨rfl, h2⟩
  ·subst hR
   refine .inr ⟨b, off, hb, by rw [X.nj]; exact hl, ?_⟩
   exact cH.lU rows cs b off R' (fun i v hi => hE.2.2.2 b (by simp) i v (by rw [dq hw]; exact hi)) (hE.sub (fun _ h => by simp [h])) hr
 | .agg xs, c, R, hE, h => by
  simp only [RX, X.lU] at h ⊢
  obtain ⟨cs, hc, hs⟩ := h
  exact ⟨cs, hc, bz.lU xs _ R hE hs⟩
 | .tup xs, c, R, hE, h => by
  simp only [RX, X.lU] at h ⊢
  obtain ⟨cs, hc, hs⟩ := h
  exact ⟨cs, hc, ej.lU xs _ R hE hs⟩
theorem bz.lU {E E' : Env} : ∀ (xs : List X) (cs : List Value) (R : List Nat), E.Bq E' R → bz E xs cs R → bz E' (X.js xs) cs []
 | [], cs, R, _, h => by simp only [bz, X.js] at h ⊢; exact ⟨h.1, trivial⟩
 | x :: r, cs, R, hE, h => by
  simp only [bz, X.js] at h ⊢
  obtain ⟨c, di, R₁, R₂, hc, hs, h1, h2, hR⟩ := h
  subst hR
  exact ⟨c, di, [], [], hc, hs, RX.lU x c R₁ (hE.sub (fun _ h => cJ h)) h1, bz.lU r di R₂ (hE.sub (fun _ h => cA h)) h2, rfl⟩
theorem ej.lU {E E' : Env} : ∀ (xs : List X) (cs : List Value) (R : List Nat), E.Bq E' R → ej E xs cs R → ej E' (X.js xs) cs []
 | [], cs, R, _, h => by simp only [ej, X.js] at h ⊢; exact ⟨h.1, trivial⟩
 | x :: r, cs, R, hE, h => by
  simp only [ej, X.js] at h ⊢
  obtain ⟨c, di, R₁, R₂, hc, h1, h2, hR⟩ := h
  subst hR
  exact ⟨c, di, [], [], hc, RX.lU x c R₁ (hE.sub (fun _ h => cJ h)) h1, ej.lU r di R₂ (hE.sub (fun _ h => cA h)) h2, rfl⟩
theorem RO.lU {E E' : Env} : ∀ (xs : List X) (cs : Array Value) (b off : Nat) (R : List Nat), (∀ i v, cs[i]? = some v → E'.φ b i = some v) → E.Bq E' R → X.gA xs = true → RO E xs cs off R → RF E' (X.js xs) b off
 | [], _, _, _, _, _, _, _, _ => by simp [RF, X.js]
 | x :: r, cs, b, off, R, hb, hE, hn, h => by
  simp only [RO] at h
  obtain ⟨u, R₁, R₂, hu, hs, hx, hr, hR⟩ := h
  subst hR
  simp only [X.gA, Bool.and_eq_true] at hn
  simp only [X.js, RF]
  exact ⟨⟨u, hb _ _ hu, hs, X.Bp hn.1, RX.lU x u R₁ (hE.sub (fun _ h => cJ h)) hx⟩, RO.lU r cs b (off + 1) R₂ hb (hE.sub (fun _ h => cA h)) hn.2 hr⟩
theorem cH.lU {E E' : Env} : ∀ (rs : List (List X)) (cs : Array Value) (b off : Nat) (R : List Nat), (∀ i v, cs[i]? = some v → E'.φ b i = some v) → E.Bq E' R → cH E rs cs off R → ke E' (X.nh rs) b off
 | [], _, _, _, _, _, _, _ => by simp [ke, X.nh]
 | r :: rs, cs, b, off, R, hb, hE, h => by
  simp only [cH] at h
  obtain ⟨R₁, R₂, hn, hx, hr, hR⟩ := h
  subst hR
  simp only [X.nh, ke]
  refine ⟨RO.lU r cs b off R₁ hb (hE.sub (fun _ h => cJ h)) hn hx, ?_⟩
  rw [X.ni]
  exact cH.lU rs cs b _ R₂ hb (hE.sub (fun _ h => cA h)) hr
end
section
variable {N : eL} {st : St} {d : Nat}
theorem Sh.pc {x y : X} (hx : look st.aD d = some x) (he : x.lU = y) : Sh N st (st.put d y) := by
 intro G hn a w hh
 obtain ⟨E, RR, rfl, hi⟩ := hh
 have hv := hi.aD d _ hx
 have lL := hi.no d
 have JA : ∀ p, ∀ b ∈ fH RR (.slot d) [] p, b ∉ RR (.slot d) := by
  intro p b hp hb
  unfold fH at hp
  split at hp
  ·cases hp
  ·rename_i h; exact hi.apart _ _ h b hp hb
 -- what is frozen already is in no owned block
 have hle : ∀ c i v, E.φ c i = some v → (E.cw (fun b => b ∈ RR (.slot d))).φ c i = some v := by
  intro c i v h
  by_cases hc : c ∈ RR (.slot d)
  ·rw [jQ E (LB := fun b => b ∈ RR (.slot d)) hc]; exact hi.kR c i v h
  ·rw [fh E (LB := fun b => b ∈ RR (.slot d)) hc]; exact h
 have gx : ∀ p, E.On (E.cw (fun b => b ∈ RR (.slot d))) (fH RR (.slot d) [] p) := by
  intro p
  refine ⟨hle, fun c hc => ⟨rfl, fun h i => ?_⟩⟩
  rw [fh E (LB := fun b => b ∈ RR (.slot d)) (JA p c hc)]; exact h i
 have hf : E.Bq (E.cw (fun b => b ∈ RR (.slot d))) (RR (.slot d)) :=
  ⟨rfl, rfl, hle, fun b hb i v h => by rw [jQ E (LB := fun b => b ∈ RR (.slot d)) hb]; exact h⟩
 have Nh : Inv G (E.cw (fun b => b ∈ RR (.slot d))) (fH RR (.slot d) []) (st.put d .no) a :=
  {lL with
   kR := by
    intro c i v h
    by_cases hc : c ∈ RR (.slot d)
    ·rw [jQ E (LB := fun b => b ∈ RR (.slot d)) hc] at h; exact h
    ·rw [fh E (LB := fun b => b ∈ RR (.slot d)) hc] at h; exact hi.kR c i v h
   aD := fun q x hx => RX.mono x _ _ (gx _) (fun _ _ => rfl) (lL.aD q x hx)
   aG := fun o ob dm => dG.mono (gx _) rfl (fun _ _ _ _ => rfl) (lL.aG o ob dm)
   φ0 := fun c i v h => hle c i v (hi.φ0 c i v h)
   grow := by
    intro c i v h
    by_cases hc : c ∈ RR (.slot d)
    ·exact .inr (hi.own _ _ hc).2
    ·rw [fh E (LB := fun b => b ∈ RR (.slot d)) hc] at h; exact hi.grow c i v h }
 have h4 := Nh.relabel (d := d) (x := y) (R := []) (he ▸ RX.lU x _ _ hf hv) List.nodup_nil (fun _ h => by cases h)
 refine ⟨E.cw (fun b => b ∈ RR (.slot d)), fH (fH RR (.slot d) []) (.slot d) [], rfl, { h4 with aD := fun q x hx => ?_, aG := h4.aG }⟩
 refine h4.aD q x ?_
 simp only [St.put, look] at hx ⊢
 cases hq : Nat.beq d q with
 | true => rw [hq] at hx; simpa using hx
 | false => rw [hq] at hx; simpa using hx
end
end Go.AW
namespace Go.AW
open Go
section
variable {P : Program} {N : eL} {st : St} {Q : Exit → St → Prop} {all : Array Oper} {rest : List Oper} {d : Nat} {ty : TypeId} {pos : String} {af : Array Edge}
theorem aO.dC {t : TypeId} {x y : Operand} {o s i k m : Nat} {v : X} {ys row : List X} {rs : List (List X)} (tL : List (List X)) (ht : TY.size P t = some m) (hx : bS st x = some (.ptr o s i k)) (hy : bS st y = some v) (ux : v.flat = some ys) (hf : X.b9 ys = true)
  (hn : X.gA ys = true) (hm : ys.length = m) (ho : look st.aG o = some (.rows s rs)) (hr : rs[i]? = some row) (hk : k + m ≤ row.length) (he : rs.set i (jP row k ys) = tL) (kk : aO P N all rest (st.eb o (.rows s tL)) Q) :
  aO P N all (⟨none, .store t x y, ty, pos, af, none⟩ :: rest) st Q := by
 subst he
 exact aO.GG ht hx hy ux hf hn hm ho hr hk kk
theorem Sh.GQ {s n : Nat} {rows : List (List X)} (o : Nat) (hx : look st.aD d = some (.ei s rows)) (hn : n = rows.length) (hF : N.F.elem o = false) : Sh N st (((st.kill o).eb o (.rows s rows)).put d (.ba o s 0 n)) := by
 subst hn; exact Sh.Js o hx hF
theorem aO.DS {t e s cY tv : Nat} {z : List Value} {x : Operand} {o lo n : Nat} {rs new : List (List X)} (tL : List (List X)) (n' : Nat) (ht : TY.slice P t = some (e, s, cY)) (hz : TY.zero P e = some z) (qO : Nat.beq z.length s = true)
  (hy : look st.aD tv = some (.ei s new)) (hx : bS (st.put tv .no) x = some (.ba o s lo n)) (ho : look st.aG o = some (.rows s rs)) (qP : lo + n ≤ rs.length)
  (he : ((rs.drop lo).take n) ++ new = tL) (pI : n + new.length = n') (pQ : n' * cY ≤ 140737488355328) (AL : n' ≤ 4611686018427387904) (hF : N.F.elem o = false) (hd : d < N.n)
  (k : aO P N all rest (((((st.put tv .no).kill o).eb o (.rows s tL))).put d (.ba o s 0 n')) Q) :
  aO P N all (⟨some d, .call ⟨.builtin .append, #[x, .tmp tv], #[t, t]⟩, ty, pos, af, none⟩ :: rest) st Q := by
 subst he pI
 exact aO.append ht hz qO hy hx ho qP pQ AL hF hd k
theorem aO.dW {α : Type} {t e s cY tv : Nat} {z : List Value} {x : Operand} {o lo n : Nat} {rs new : List (List X)} (f : α → List X) (l : List α) (ht : TY.slice P t = some (e, s, cY)) (hz : TY.zero P e = some z) (qO : Nat.beq z.length s = true)
 (hy : look st.aD tv = some (.ei s new)) (hx : bS (st.put tv .no) x = some (.ba o s lo n)) (ho : look st.aG o = some (.rows s rs)) (qP : lo + n ≤ rs.length)
 (he : ((rs.drop lo).take n) ++ new = l.map f) (pI : n + new.length = l.length) (pQ : l.length * cY ≤ 140737488355328) (AL : l.length ≤ 4611686018427387904) (hF : N.F.elem o = false) (hd : d < N.n)
 (k : aO P N all rest (((((st.put tv .no).kill o).eb o (.rows s (l.map f)))).put d (.ba o s 0 l.length)) Q) :
 aO P N all (⟨some d, .call ⟨.builtin .append, #[x, .tmp tv], #[t, t]⟩, ty, pos, af, none⟩ :: rest) st Q := aO.DS (l.map f) l.length ht hz qO hy hx ho qP he pI pQ AL hF hd k
end
mutual
theorem X.rD {ν : Nat → Nat} : ∀ {x : X}, x.lt 0 = true → x.fQ ν = x
 | .v _, _ | .no, _ | .fz .., _ | .ei .., _ | .fp .., _ => rfl
 | .ptr o .., h => by simp [X.lt, Nat.blt] at h
 | .ba o .., h => by simp [X.lt, Nat.blt] at h
 | .mref o, h => by simp [X.lt, Nat.blt] at h
 | .agg xs, h => by simp only [X.fQ]; rw [X.nk (xs := xs) h]
 | .tup xs, h => by simp only [X.fQ]; rw [X.nk (xs := xs) h]
 | .gB f a b, h => by
  simp only [X.lt, Bool.and_eq_true] at h
  simp only [X.fQ]; rw [X.nk h.1, X.nk h.2]
theorem X.nk {ν : Nat → Nat} : ∀ {xs : List X}, X.Dp 0 xs = true → X.kY ν xs = xs
 | [], _ => rfl
 | x :: r, h => by
  simp only [X.Dp, Bool.and_eq_true] at h
  simp only [X.kY]; rw [X.rD h.1, X.nk h.2]
end
section
variable {P : Program} {N : eL} {st : St} {Q : Exit → St → Prop} {all : Array Oper} {rest : List Oper} {d : Nat} {ty : TypeId} {pos : String} {af : Array Edge}
theorem aO.aH {f : FuncId} {cB : Array Operand} {mT : Array TypeId} {xs args : List X} {R : X} (j9 : aP P f = true) (fi : au P f args [] [] (fun r o => r = R ∧ o = []))
  (fx : kg st cB.toList = some xs) (dO : dK st [] (bQ []) xs args) (hd : d < N.n) (iU : R.lt 0 = true)
  (k : aO P N all rest (st.put d R) Q) : aO P N all (⟨some d, .call ⟨.value (.func f), cB, mT⟩, ty, pos, af, none⟩ :: rest) st Q :=
 aO.JI j9 fi fx dO hd iU (X.rD iU) k
end
end Go.AW
namespace Go.AW
open Go
section
variable {P : Program} {N : eL} {st : St} {Q : Exit → St → Prop} {ops : Array Oper} {d : Nat} {ty : TypeId} {pos : String} {af : Array Edge}
def aw (P : Program) (N : eL) (st : St) (o : Oper) (x : X) : Prop :=
 ∀ (G : Ctx) (E : Env) (RR : Own → List Nat) (a : Act), G.fn = N → Inv G E RR st a → ∃ u, (∀ w, (execOp a.eval o).run P w = .ok (.value u) w) ∧ RX E x u []
section
variable {dst : Option Nat} {g : Option (Nat × Bool)}
theorem aw.move {x : Operand} {y : X} (hx : bS st x = some y) (hf : y.free = true) : aw P N st ⟨dst, .move x, ty, pos, af, g⟩ y := by
 intro G E RR a _ hi
 obtain ⟨R, hv⟩ := hi.eval hx
 have := RX.free hf hv
 subst this
 exact ⟨_, fun w => rfl, hv⟩
theorem aw.assign {x : Operand} {y : X} (hx : bS st x = some y) (hf : y.free = true) : aw P N st ⟨dst, .assign x, ty, pos, af, g⟩ y := by
 intro G E RR a _ hi
 obtain ⟨R, hv⟩ := hi.eval hx
 have := RX.free hf hv
 subst this
 exact ⟨_, fun w => rfl, hv⟩
end
def eN (P : Program) (N : eL) (ops : Array Oper) (n : Nat) (ag : Array Bool) (st : St) (K : St → Prop) : Prop :=
 ∀ G : Ctx, G.fn = N → ∀ a w, cy G st a w → wpAny P .any ops (fun e a w => e = .normal ∧ ∃ aT, K aT ∧ cy G aT a w) n ag a w
variable {K : St → Prop}
theorem eN.blind {n : Nat} {ag : Array Bool} (i : Nat) {op : Op} {x : X} (ho : ops[i]? = some ⟨some d, op, ty, pos, af, none⟩)
  (hB : (Region.noSelect ops && Region.free .any ops ag i && (Region.ready .any ops ag).contains i) = true) (hy : aw P N st ⟨some d, op, ty, pos, af, none⟩ x) (hd : d < N.n)
  (k : eN P N ops n (ag.setIfInBounds i true) (st.put d x) K) : eN P N ops (n + 1) ag st K := by
 intro G hn a w hh
 obtain ⟨E, RR, rfl, hi⟩ := hh
 obtain ⟨u, hr, hx⟩ := hy G E RR a hn hi
 simp only [Bool.and_eq_true] at hB
 refine wpAny_take (v := u) ho hB.1.1 hB.1.2 hB.2 ?_ (.inl ⟨by simp [Region.wanted], hr⟩) (k G hn _ _ ⟨E, _, rfl, hi.g5 (hn ▸ hd) hx⟩)
 intro c a w h
 cases h.1
theorem eN.step {n : Nat} {ag : Array Bool} (j : Nat) {o : Oper} (ho : ops[j]? = some o)
  (k : aO P N ops [o] st (fun e aT => e = .normal ∧ eN P N ops n (ag.setIfInBounds j true) aT K)) (G : Ctx) (hn : G.fn = N) (a : Act) (w : World) (hh : cy G st a w) :
  wpOp P ops (fun e a w => e = .normal ∧ ∃ aT, K aT ∧ cy G aT a w) j (wpAny P .any ops (fun e a w => e = .normal ∧ ∃ aT, K aT ∧ cy G aT a w) n (ag.setIfInBounds j true)) a w := by
 have hk := k G hn a w hh
 have key : wpOp P ops (fun e a w => mI G (fun e aT => e = .normal ∧ eN P N ops n (ag.setIfInBounds j true) aT K) e a w) j
   (fun a w => mI G (fun e aT => e = .normal ∧ eN P N ops n (ag.setIfInBounds j true) aT K) .normal a w) a w := by
  unfold wpOp; simp only [ho]; exact hk
 have mono : ∀ {Q1 Q2 : Exit → Act → World → Prop} {K1 K2 : Act → World → Prop}, (∀ e a w, e ≠ .normal → Q1 e a w → False) → (∀ a w, K1 a w → K2 a w) → wpOp P ops Q1 j K1 a w → wpOp P ops Q2 j K2 a w := by
  intro Q1 Q2 K1 K2 hQ hK h
  unfold wpOp at *
  simp only [ho] at *
  split
  ·rename_i hw
   simp only [hw, if_true] at h
   rcases h with h | ⟨_, hl⟩
   ·refine .inl ?_
    unfold Oper.wp at *
    generalize (execOp a.eval o).run P w = r at *
    cases r with
    | ok nx w' =>
     cases nx <;> simp only [Oper.upon] at h ⊢ <;> first
      | exact hK _ _ h
      | exact Calls.mono h (fun e Qp he => by
        cases e with
        | returned u => exact hK _ _ he
        | panicked c => exact (hQ _ _ _ (by simp) he).elim
        | outgrown => exact (let ⟨_, _, h'⟩ := he; hQ _ _ _ (by simp) h').elim)
      | exact Rows.mono h (fun _ _ he => hK _ _ he)
    | halt x w' => cases x <;> simp only [Oper.upon] at h ⊢ <;> first | exact (hQ _ _ _ (by simp) h).elim | exact (let ⟨_, _, h'⟩ := h; hQ _ _ _ (by simp) h').elim | exact h
   ·obtain ⟨_, _, h'⟩ := hl
    exact (hQ _ _ _ (by simp) h').elim
  ·rename_i hw
   simp only [hw] at h
   exact hK _ _ h
 refine mono ?_ ?_ key
 ·rintro e a w he ⟨aT, _, h, _⟩
  exact he h
 ·rintro a w ⟨aT, gL, _, AM⟩
  exact AM G hn a w gL
theorem eN.one {n : Nat} {ag : Array Bool} (i : Nat) {o : Oper} (ho : ops[i]? = some o) (hr : (Region.ready .any ops ag == [i]) = true)
  (k : aO P N ops [o] st (fun e aT => e = .normal ∧ eN P N ops n (ag.setIfInBounds i true) aT K)) : eN P N ops (n + 1) ag st K := by
 intro G hn a w hh
 refine wpAny_all (rs := [i]) (by simpa using hr) (by simp) ?_
 intro j hj
 have : j = i := by simpa using hj
 subst this
 exact eN.step j ho k G hn a w hh
theorem eN.two {n : Nat} {ag : Array Bool} (i i' : Nat) {o o' : Oper} (ho : ops[i]? = some o) (lp : ops[i']? = some o') (hr : (Region.ready .any ops ag == [i, i']) = true)
  (k : aO P N ops [o] st (fun e aT => e = .normal ∧ eN P N ops n (ag.setIfInBounds i true) aT K))
  (k' : aO P N ops [o'] st (fun e aT => e = .normal ∧ eN P N ops n (ag.setIfInBounds i' true) aT K)) : eN P N ops (n + 1) ag st K := by
 intro G hn a w hh
 refine wpAny_all (rs := [i, i']) (by simpa using hr) (by simp) ?_
 intro j hj
 simp only [List.mem_cons, List.not_mem_nil, or_false] at hj
 rcases hj with rfl | rfl
 ·exact eN.step j ho k G hn a w hh
 ·exact eN.step j lp k' G hn a w hh
theorem eN.done {n : Nat} {ag : Array Bool} (hr : (Region.ready .any ops ag).isEmpty = true) (h : K st) : eN P N ops n ag st K :=
 fun _ _ _ _ hh => wpAny_done (by simpa using hr) ⟨rfl, st, h, hh⟩ n
theorem dk.fN {id : Nat} (hm : P.follows .mixedOrders = true) (h : eN P N ops ops.size (Array.replicate ops.size false) st (fun aT => Q .normal aT)) : dk P N (.region id ops true) st Q := by
 intro G hn a w hh
 refine wp_mono (wp_region_any hm (h G hn a _ hh.drew)) ?_
 rintro e a w ⟨rfl, aT, hk, gL⟩
 exact ⟨aT, gL, hk⟩
end
end Go.AW
namespace Go.AW
open Go
def rT (want : Bool) : Value → Bool
 | .bool b => !(b == want)
 | _ => true
section
variable {P : Program} {N : eL} {st : St} {Q : Exit → St → Prop} {K : St → Prop} {all : Array Oper} {rest : List Oper} {d dd : Nat} {ty : TypeId} {pos : String} {af : Array Edge} {dst : Option Nat} {op : Op} {j : Nat} {want : Bool} {u : Value}
theorem ly {G : Ctx} {E : Env} {RR : Own → List Nat} {a : Act} (hi : Inv G E RR st a) (hj : (all[j]?).bind (·.dst) = some d) (hd : d < G.fn.n) (hx : look st.aD d = some (.v u)) (ew : rT want u = true) :
  Region.wanted ⟨dst, op, ty, pos, af, some (j, want)⟩ (yielded all a.tmps) = false := by
 have hs := hi.aD d _ hx
 simp only [RX] at hs
 have fu : d < a.tmps.size := by rw [hi.tmps]; exact hd
 have hv : a.tmps[d]? = some u := by
  have := hs.1
  simp only [Array.getD, fu, dif_pos] at this
  rw [Array.getElem?_eq_getElem fu]
  exact congrArg some this
 have hy : yielded all a.tmps j ≠ some want := by
  unfold yielded
  rw [hj, Option.bind_some, hv]
  intro h
  cases u <;> simp [rT] at ew h
  exact ew h
 simp only [Region.wanted]
 cases h : yielded all a.tmps j with
 | none => rfl
 | some b => rw [h] at hy; simpa using hy
theorem aO.al (hj : (all[j]?).bind (·.dst) = some d) (hd : d < N.n) (DT : dd < N.n) (hx : look st.aD d = some (.v u)) (ew : rT want u = true)
  (k : aO P N all rest (st.put dd (.v undef)) Q) : aO P N all (⟨some dd, op, ty, pos, af, some (j, want)⟩ :: rest) st Q := by
 intro G hn a w hh
 obtain ⟨E, RR, rfl, hi⟩ := hh
 unfold wpList
 rw [if_neg (by rw [ly hi hj (hn ▸ hd) hx ew]; simp)]
 exact k G hn _ _ ⟨E, _, rfl, hi.g5 (hn ▸ DT) (by simp [RX])⟩
theorem gy.al (hj : (all[j]?).bind (·.dst) = some d) (hd : d < N.n) (DT : dd < N.n) (hx : look st.aD d = some (.v u)) (ew : rT want u = true)
  (k : gy P N all rest (st.put dd (.v undef)) K) : gy P N all (⟨some dd, op, ty, pos, af, some (j, want)⟩ :: rest) st K := by
 intro G hn a w hh
 obtain ⟨E, RR, rfl, hi⟩ := hh
 unfold wpStill
 rw [if_neg (by rw [ly hi hj (hn ▸ hd) hx ew]; simp)]
 exact k G hn _ _ ⟨E, _, rfl, hi.g5 (hn ▸ DT) (by simp [RX])⟩
end
end Go.AW
namespace Go.AW
open Go Go.ChangeShapes Go.WideShapes Go.Deep Go.RowKit
def E0 (W : World) : Env := ⟨fun b i => W.cell? ⟨b, i, none⟩, fun _ => none, W⟩
theorem au.row {P : Program} {f : FuncId} {args : List X} {u : Value} (h : au P f args [] [] (fun r o => r = .v u ∧ o = [])) {W : World} {cI : Array Value} (hn : cI.size = args.length)
  (hx : ∀ (i : Nat) x, args[i]? = some x → RX (E0 W) x (cI.getD i undef) []) : Calls P f cI W (fun e W' => e = .returned u ∧ Below W.heap.size W W') := by
 have hi : Inv (nc (fun b => b < W.heap.size) (E0 W) ⟨args.length, []⟩) (E0 W) (fun _ => []) ⟨du 0 args, du 0 []⟩ ⟨cI, []⟩ :=
  {kR := fun _ _ _ h => h
   aD := fun s x hs => by
    rw [gr] at hs
    exact hx s x hs
   aG := fun o ob ho => by simp [du, look] at ho
   nodup := fun _ => List.nodup_nil
   apart := fun _ _ _ _ h => by cases h
   own := fun _ _ h => by cases h
   ah := fun _ _ => rfl
   size := Nat.le_refl _
   small := fun _ h => h
   os := rfl
   tape := rfl
   output := rfl
   φ0 := fun _ _ _ h => h
   grow := fun _ _ _ h => .inl h
   fixed := fun _ _ => rfl
   tmps := hn
   defers := rfl }
 refine Calls.mono (h _ _ _ _ hi) ?_
 rintro e W' ⟨v, r, bn, rfl, ⟨rfl, _⟩, _, E', fg, rfl, iv⟩
 have hs := iv.aD 0 (.v u) rfl
 simp only [RX] at hs
 have hv : v = u := hs.1
 exact ⟨by rw [hv], iv.os, iv.tape, iv.output, iv.size, fun k hk => iv.ah k hk⟩
theorem RF.of {E : Env} {b : Nat} : ∀ {row : List X} {off : Nat}, (∀ (j : Nat) x, row[j]? = some x → ∃ u, x = .v u ∧ jA u ∧ E.φ b (off + j) = some u) → RF E row b off
 | [], _, _ => by simp [RF]
 | x :: r, off, h => by
  obtain ⟨u, rfl, hs, hu⟩ := h 0 x rfl
  simp only [RF]
  refine ⟨⟨u, by simpa using hu, hs, rfl, by simp [RX]⟩, RF.of fun j y hj => ?_⟩
  obtain ⟨u', h1, h2, h3⟩ := h (j + 1) y (by simpa using hj)
  exact ⟨u', h1, h2, by rw [show off + 1 + j = off + (j + 1) by omega]; exact h3⟩
theorem ke.of {E : Env} {b s : Nat} : ∀ {rows : List (List X)} {off : Nat}, cz s rows → (∀ (i : Nat) row, rows[i]? = some row → RF E row b (off + i * s)) → ke E rows b off
 | [], _, _, _ => by simp [ke]
 | r :: rs, off, hu, h => by
  simp only [ke]
  refine ⟨by simpa using h 0 r rfl, ke.of (fun q hq => hu q (by simp [hq])) fun i row hi => ?_⟩
  have := h (i + 1) row (by simpa using hi)
  rw [hu r (by simp)]
  rw [Nat.add_mul, Nat.one_mul] at this
  rw [show off + s + i * s = off + (i * s + s) by omega]; exact this
section
variable {H : Type} {enc : TypeId × Value → H} {P : Program} {W : World} {base : Nat} {spare : Nat → Bool} {held : Bool} {n : Nat} {e : TypeId} {cs : List Value} {y : DataW H × List MemPlace}
end
end Go.AW
namespace Go.AW
open Go
section
variable {P : Program} {N : eL} {st : St} {Q : Exit → St → Prop} {all : Array Oper} {rest : List Oper} {dst : Option Nat} {d : Nat} {ty : TypeId} {pos : String} {af : Array Edge} {g : Option (Nat × Bool)}
theorem Y.ze {t t' : TypeId} {x y : Operand} {k : IntKind} {a b r : Int} (hx : bS st x = some (.v (.int k a))) (hy : bS st y = some (.v (.int k b))) (hr : r = if b > a then b else a) :
  Yields P N st ⟨dst, .call ⟨.builtin .max, #[x, y], #[t, t']⟩, ty, pos, af, g⟩ (.v (.int k r)) := by
 subst hr
 intro G E RR ac _ hi
 refine ⟨.int k (if b > a then b else a), hX ?_, by simp [RX]⟩
 have h1 := hi.val hx
 have h2 := hi.val hy
 simp [builtin, Builtin.max_, h1, h2, Builtin.max2]
theorem Y.zf {t t' : TypeId} {x y : Operand} {k : IntKind} {a b r : Int} (hx : bS st x = some (.v (.int k a))) (hy : bS st y = some (.v (.int k b))) (hr : r = if b < a then b else a) :
  Yields P N st ⟨dst, .call ⟨.builtin .min, #[x, y], #[t, t']⟩, ty, pos, af, g⟩ (.v (.int k r)) := by
 subst hr
 intro G E RR ac _ hi
 refine ⟨.int k (if b < a then b else a), hX ?_, by simp [RX]⟩
 have h1 := hi.val hx
 have h2 := hi.val hy
 simp [builtin, Builtin.min_, h1, h2, Builtin.min2]
theorem aw.extract {x : Operand} {xs : List X} {y : X} {k : Nat} (hx : bS st x = some (.tup xs)) (hy : xs[k]? = some y) (hf : y.free = true) : aw P N st ⟨dst, .extract x k, ty, pos, af, g⟩ y := by
 intro G E RR a _ hi
 obtain ⟨R, hp⟩ := hi.eval hx
 simp only [RX] at hp
 obtain ⟨cs, hc, fx⟩ := hp
 obtain ⟨u, R₁, hu, h1⟩ := ej.get fx hy
 have h0 := RX.free hf h1
 subst h0
 refine ⟨u, fun w => ?_, h1⟩
 show (do let z ← Instr.extract (a.eval x) k; pure (Next.value z) : Sem Next).run P w = _
 rw [hc]
 refine dJ ?_
 have yT : cs[k]? = some u := by simpa using hu
 simp only [Instr.extract, yT]; rfl
theorem aO.Br {t e s cY : Nat} {z : List Value} {x y : Operand} {o lo n : Nat} {rs new : List (List X)} (tL : List (List X)) (n' : Nat) (ht : TY.slice P t = some (e, s, cY)) (hz : TY.zero P e = some z) (qO : Nat.beq z.length s = true)
  (hy : bS st y = some (.fz s new)) (hx : bS st x = some (.ba o s lo n)) (ho : look st.aG o = some (.rows s rs)) (qP : lo + n ≤ rs.length)
  (he : ((rs.drop lo).take n) ++ new = tL) (pI : n + new.length = n') (pQ : n' * cY ≤ 140737488355328) (AL : n' ≤ 4611686018427387904) (hF : N.F.elem o = false) (hd : d < N.n)
  (k : aO P N all rest ((((st.kill o).eb o (.rows s tL))).put d (.ba o s 0 n')) Q) :
  aO P N all (⟨some d, .call ⟨.builtin .append, #[x, y], #[t, t]⟩, ty, pos, af, none⟩ :: rest) st Q := by
 subst he pI
 exact aO.DG ht hz qO hy hx ho qP pQ AL hF hd k
end
end Go.AW
namespace Go.AW
open Go
section
variable {P : Program} {N : eL} {st : St} {Q : Exit → St → Prop} {all : Array Oper} {rest : List Oper} {d : Nat} {ty : TypeId} {pos : String} {af : Array Edge}
theorem dK.cw {L : List Nat} {ν : Nat → Nat} {o s lo n : Nat} {rs tL : List (List X)} {xs ys : List X} (ho : look st.aG o = some (.rows s rs)) (hL : L.elem o = true) (qP : lo + n ≤ rs.length) (he : (rs.drop lo).take n = tL)
  (hs : dK st L ν xs ys) : dK st L ν (.ba o s lo n :: xs) (.fz s tL :: ys) := by
 subst he
 exact .cons (.view ho (List.elem_iff.1 hL) qP) hs
theorem hY {o : Nat} {ob : Obj} (h : look st.aG o = some ob) (h' : iC ob) : ∀ q ∈ [o], ∃ ob, look st.aG q = some ob ∧ iC ob := by
 intro q hq
 simp only [List.mem_singleton] at hq
 subst hq
 exact ⟨ob, h, h'⟩
theorem dY {o : Nat} {ob : Obj} {L : List Nat} (h : look st.aG o = some ob) (h' : iC ob) (hs : ∀ q ∈ L, ∃ ob, look st.aG q = some ob ∧ iC ob) : ∀ q ∈ o :: L, ∃ ob, look st.aG q = some ob ∧ iC ob := by
 intro q hq
 rcases List.mem_cons.1 hq with rfl | hq
 ·exact ⟨ob, h, h'⟩
 ·exact hs q hq
theorem aO.g7 {f : FuncId} {cB : Array Operand} {mT : Array TypeId} {xs args : List X} {R : X} (L : List Nat) (j9 : aP P f = true) (fi : au P f args [] [] (fun r o => r = R ∧ o = []))
  (fx : kg st cB.toList = some xs) (dO : dK st L (bQ []) xs args) (h0 : ∀ o ∈ L, ∃ ob, look st.aG o = some ob ∧ iC ob) (hd : d < N.n) (iU : R.lt 0 = true) (hp : R.plain)
  (k : aO P N all rest (st.put d R) Q) : aO P N all (⟨some d, .call ⟨.value (.func f), cB, mT⟩, ty, pos, af, none⟩ :: rest) st Q :=
 aO.JJ L j9 fi fx dO h0 hd iU (X.rD iU) hp k
end
end Go.AW
namespace Go.AW
open Go Go.Maps
section
variable {P : Program} {N : eL} {st : St} {Q : Exit → St → Prop} {all : Array Oper} {rest : List Oper} {dst : Option Nat} {d : Nat} {ty : TypeId} {pos : String} {af : Array Edge} {g : Option (Nat × Bool)}
theorem Inv.wA {G : Ctx} {E : Env} {RR : Own → List Nat} {a : Act} (hi : Inv G E RR st a) {m : Operand} {o : Nat} {es : List (Value × Value)} (hm : bS st m = some (.mref o)) (ho : look st.aG o = some (.wA es)) :
  ∃ B pL clock, E.β o = some B ∧ a.eval m = .map (some B.b) ∧ E.w.heap[B.b]? = some (.map pL clock) ∧ (∀ i, E.φ B.b i = none) ∧ pL.toList.map (fun e => (e.key, e.val)) = es ∧ RR (.obj o) = [B.b] := by
 have dm := hi.aG o _ ho
 simp only [dG] at dm
 obtain ⟨B, pL, clock, hB, hw, hf, he, hR⟩ := dm
 obtain ⟨R, hx⟩ := hi.eval hm
 simp only [RX] at hx
 obtain ⟨_, B', iz, hc⟩ := hx
 rw [hB] at iz
 obtain rfl := Option.some.inj iz
 exact ⟨B, pL, clock, hB, hc, hw, hf, he, hR⟩
end
end Go.AW
namespace Go.AW
open Go
section
variable {P : Program} {N : eL} {st : St} {ty : TypeId} {pos : String} {af : Array Edge} {dst : Option Nat} {g : Option (Nat × Bool)}
theorem aw.nilCheck {x : Operand} {p q : X} (hx : bS st x = some p) (hq : p.on 0 = some q) : aw P N st ⟨dst, .nilCheck x, ty, pos, af, g⟩ q := by
 intro G E RR a _ hi
 obtain ⟨R, hp⟩ := hi.eval hx
 obtain ⟨b, off, hc, h⟩ := hp.on hq
 refine ⟨_, fun w => ?_, h⟩
 simp only [execOp, hc]; rfl
theorem aw.fieldAddr {t : TypeId} {x : Operand} {p q : X} {f off : Nat} {ft : TypeId} (ht : TY.jI P t f = some (off, ft)) (hx : bS st x = some p) (hq : p.on off = some q) :
  aw P N st ⟨dst, .fieldAddr t x f, ty, pos, af, g⟩ q := by
 intro G E RR a _ hi
 obtain ⟨R, hp⟩ := hi.eval hx
 obtain ⟨b, o, hc, h⟩ := hp.on hq
 refine ⟨_, fun w => ?_, h⟩
 show (do let z ← Instr.fieldAt t (a.eval x) f; pure (Next.value z) : Sem Next).run P w = _
 rw [hc]
 exact dJ (TY.ym ht b o w)
end
end Go.AW
namespace Go.AW
open Go
section
variable {P : Program} {N : eL} {st : St} {d : Nat}
theorem dK.named {L : List Nat} {ν : Nat → Nat} {x y : X} {xs ys : List X} (h : x.free = true) (he : x.fQ ν = y) (hs : dK st L ν xs ys) : dK st L ν (y :: xs) (x :: ys) := by
 subst he
 exact .cons (.same h) hs
end
end Go.AW
namespace Go.AW
open Go
section
variable {P : Program} {N : eL} {st : St} {Q : Exit → St → Prop}
theorem dk.nn {x y : Code} (J : St) (I : Prop) (hx : dk P N x st (gN (fun aT => I ∧ Le aT J) Q)) (hy : I → dk P N y J Q) : dk P N (.seq x y) st Q :=
 dk.join (fun _ : Unit => J) (fun _ => I) (hx.mono fun e _ h => by cases e <;> first | exact ⟨(), h⟩ | exact h) (fun _ h => hy h)
theorem dk.fY {α0 : Type} {c : Code} (S : α0 → St) (I : α0 → Prop) (μ : α0 → Nat) (i0 : α0) (hi : I i0) (hs : Le st (S i0))
  (round : ∀ a0, I a0 → dk P N c (S a0) (gN (fun aT => ∃ b0, I b0 ∧ μ b0 < μ a0 ∧ Le aT (S b0)) Q)) : dk P N (.loop c) st Q :=
 dk.loop (ι := α0) (fun u => S u) (fun u => I u) (fun u => μ u) i0 hi hs (fun u h => (round u h).mono fun e _ h => by
  cases e <;> first | exact h | (obtain ⟨b0, h⟩ := h; exact ⟨b0, h⟩))
theorem dk.fb {α0 : Type} {x y : Code} (J : α0 → St) (I : α0 → Prop) (hx : dk P N x st (gN (fun aT => ∃ b0, I b0 ∧ Le aT (J b0)) Q)) (hy : ∀ a0, I a0 → dk P N y (J a0) Q) : dk P N (.seq x y) st Q :=
 dk.join (ι := α0) (fun u => J u) (fun u => I u) (hx.mono fun e _ h => by cases e <;> first | exact h | (obtain ⟨b0, h⟩ := h; exact ⟨b0, h⟩)) (fun u h => hy u h)
theorem dk.e0 {α0 α1 : Type} {c : Code} (S : α0 → α1 → St) (I : α0 → α1 → Prop) (μ : α0 → α1 → Nat) (i0 : α0) (i1 : α1) (hi : I i0 i1) (hs : Le st (S i0 i1))
  (round : ∀ a0 a1, I a0 a1 → dk P N c (S a0 a1) (gN (fun aT => ∃ b0 b1, I b0 b1 ∧ μ b0 b1 < μ a0 a1 ∧ Le aT (S b0 b1)) Q)) : dk P N (.loop c) st Q :=
 dk.loop (ι := α0 × α1) (fun u => S u.1 u.2) (fun u => I u.1 u.2) (fun u => μ u.1 u.2) (i0, i1) hi hs (fun u h => (round u.1 u.2 h).mono fun e _ h => by
  cases e <;> first | exact h | (obtain ⟨b0, b1, h⟩ := h; exact ⟨(b0, b1), h⟩))
theorem dk.np {α0 α1 : Type} {x y : Code} (J : α0 → α1 → St) (I : α0 → α1 → Prop) (hx : dk P N x st (gN (fun aT => ∃ b0 b1, I b0 b1 ∧ Le aT (J b0 b1)) Q)) (hy : ∀ a0 a1, I a0 a1 → dk P N y (J a0 a1) Q) : dk P N (.seq x y) st Q :=
 dk.join (ι := α0 × α1) (fun u => J u.1 u.2) (fun u => I u.1 u.2) (hx.mono fun e _ h => by cases e <;> first | exact h | (obtain ⟨b0, b1, h⟩ := h; exact ⟨(b0, b1), h⟩)) (fun u h => hy u.1 u.2 h)
theorem dk.jt {α0 α1 α2 : Type} {c : Code} (S : α0 → α1 → α2 → St) (I : α0 → α1 → α2 → Prop) (μ : α0 → α1 → α2 → Nat) (i0 : α0) (i1 : α1) (i2 : α2) (hi : I i0 i1 i2) (hs : Le st (S i0 i1 i2))
  (round : ∀ a0 a1 a2, I a0 a1 a2 → dk P N c (S a0 a1 a2) (gN (fun aT => ∃ b0 b1 b2, I b0 b1 b2 ∧ μ b0 b1 b2 < μ a0 a1 a2 ∧ Le aT (S b0 b1 b2)) Q)) : dk P N (.loop c) st Q :=
 dk.loop (ι := α0 × α1 × α2) (fun u => S u.1 u.2.1 u.2.2) (fun u => I u.1 u.2.1 u.2.2) (fun u => μ u.1 u.2.1 u.2.2) (i0, i1, i2) hi hs (fun u h => (round u.1 u.2.1 u.2.2 h).mono fun e _ h => by
  cases e <;> first | exact h | (obtain ⟨b0, b1, b2, h⟩ := h; exact ⟨(b0, b1, b2), h⟩))
theorem dk.vE {α0 α1 α2 : Type} {x y : Code} (J : α0 → α1 → α2 → St) (I : α0 → α1 → α2 → Prop) (hx : dk P N x st (gN (fun aT => ∃ b0 b1 b2, I b0 b1 b2 ∧ Le aT (J b0 b1 b2)) Q)) (hy : ∀ a0 a1 a2, I a0 a1 a2 → dk P N y (J a0 a1 a2) Q) : dk P N (.seq x y) st Q :=
 dk.join (ι := α0 × α1 × α2) (fun u => J u.1 u.2.1 u.2.2) (fun u => I u.1 u.2.1 u.2.2) (hx.mono fun e _ h => by cases e <;> first | exact h | (obtain ⟨b0, b1, b2, h⟩ := h; exact ⟨(b0, b1, b2), h⟩)) (fun u h => hy u.1 u.2.1 u.2.2 h)
theorem dk.vF {α0 α1 α2 α3 : Type} {c : Code} (S : α0 → α1 → α2 → α3 → St) (I : α0 → α1 → α2 → α3 → Prop) (μ : α0 → α1 → α2 → α3 → Nat) (i0 : α0) (i1 : α1) (i2 : α2) (i3 : α3) (hi : I i0 i1 i2 i3) (hs : Le st (S i0 i1 i2 i3))
  (round : ∀ a0 a1 a2 a3, I a0 a1 a2 a3 → dk P N c (S a0 a1 a2 a3) (gN (fun aT => ∃ b0 b1 b2 b3, I b0 b1 b2 b3 ∧ μ b0 b1 b2 b3 < μ a0 a1 a2 a3 ∧ Le aT (S b0 b1 b2 b3)) Q)) : dk P N (.loop c) st Q :=
 dk.loop (ι := α0 × α1 × α2 × α3) (fun u => S u.1 u.2.1 u.2.2.1 u.2.2.2) (fun u => I u.1 u.2.1 u.2.2.1 u.2.2.2) (fun u => μ u.1 u.2.1 u.2.2.1 u.2.2.2) (i0, i1, i2, i3) hi hs (fun u h => (round u.1 u.2.1 u.2.2.1 u.2.2.2 h).mono fun e _ h => by
  cases e <;> first | exact h | (obtain ⟨b0, b1, b2, b3, h⟩ := h; exact ⟨(b0, b1, b2, b3), h⟩))
theorem dk.yw {α0 α1 α2 α3 : Type} {x y : Code} (J : α0 → α1 → α2 → α3 → St) (I : α0 → α1 → α2 → α3 → Prop) (hx : dk P N x st (gN (fun aT => ∃ b0 b1 b2 b3, I b0 b1 b2 b3 ∧ Le aT (J b0 b1 b2 b3)) Q)) (hy : ∀ a0 a1 a2 a3, I a0 a1 a2 a3 → dk P N y (J a0 a1 a2 a3) Q) : dk P N (.seq x y) st Q :=
 dk.join (ι := α0 × α1 × α2 × α3) (fun u => J u.1 u.2.1 u.2.2.1 u.2.2.2) (fun u => I u.1 u.2.1 u.2.2.1 u.2.2.2) (hx.mono fun e _ h => by cases e <;> first | exact h | (obtain ⟨b0, b1, b2, b3, h⟩ := h; exact ⟨(b0, b1, b2, b3), h⟩)) (fun u h => hy u.1 u.2.1 u.2.2.1 u.2.2.2 h)
end
section
variable {α : Type} {f : α → List X} {l m : List α} {i n : Nat} {d a b : α}
theorem aq (h : i < l.length) : (l.map f)[i]? = some (f (l.getD i d)) := by
 rw [List.getElem?_map, List.getElem?_eq_getElem h, List.getD_eq_getElem?_getD, List.getElem?_eq_getElem h]; rfl
theorem aB (h : i < l.length) : (l.map f)[0 + i]? = some (f (l.getD i d)) := by rw [Nat.zero_add]; exact aq h
theorem ck {k : Nat} {ys : List X} (h : jP (f a) k ys = f b) : (l.map f).set (0 + i) (jP (f a) k ys) = (l.set i b).map f := by
 rw [h, Nat.zero_add, List.map_set]
theorem bq (h : n = l.length) : (((l.map f).drop 0).take n) ++ m.map f = (l ++ m).map f := by
 rw [List.drop_zero, List.take_of_length_le (by rw [List.length_map]; omega), List.map_append]
theorem bK (h : n = l.length) : 0 + n ≤ (l.map f).length := by rw [List.length_map]; omega
theorem cD (h : n = l.length) : n + (m.map f).length = (l ++ m).length := by rw [List.length_map, List.length_append]; omega
theorem bo (h : n = l.length) : 0 + n ≤ (l.map f).length := by rw [List.length_map]; omega
theorem bp (h : n = l.length) : ((l.map f).drop 0).take n = l.map f := by
 rw [List.drop_zero, List.take_of_length_le (by rw [List.length_map]; omega)]
theorem DU {f : α → List X} {z : List X} (h : z = f a) : List.replicate n z = (List.replicate n a).map f := by rw [List.map_replicate, h]
theorem jJ {p : Prop} (h : p := by first | rfl | exact DU rfl) : p := h
theorem b5 (h : n = l.length) : n = (l.map f).length := by rw [List.length_map]; exact h
theorem sZ {p : Prop} (h : p := by first | rfl | exact b5 rfl | exact b5 (by omega)) : p := h
end
section
variable {N : eL} {st : St} {d : Nat}
theorem Sh.ep {s n : Nat} {rows : List (List X)} (o : Nat) (rU : List (List X)) (hx : look st.aD d = some (.ei s rows)) (he : rows = rU) (hn : n = rU.length) (hF : N.F.elem o = false) : Sh N st (((st.kill o).eb o (.rows s rU)).put d (.ba o s 0 n)) := by
 subst he; exact Sh.GQ o hx hn hF
theorem Sh.dg {s : Nat} {rows : List (List X)} (rU : List (List X)) (hx : look st.aD d = some (.ei s rows)) (he : rows = rU) (hf : cQ rU) : Sh N st (st.put d (.fz s rU)) := by
 subst he; exact Sh.freeze hx hf
end
section
variable {P : Program} {N : eL} {st : St} {dst : Option Nat} {ty : TypeId} {pos : String} {af : Array Edge} {g : Option (Nat × Bool)}
theorem Y.qk {s d : TypeId} {x : Operand} {k k' : IntKind} {n : Int} (hs : TY.isInt P s = some k') (hd : TY.isInt P d = some k) (hx : bS st x = some (.v (.int k' n))) (hr : k.wrap n = n) :
  Yields P N st ⟨dst, .convert s d x, ty, pos, af, g⟩ (.v (.int k n)) := Y.qj hs hd hx hr
end
theorem bV {l : List (Nat × X)} {i o s lo n n' : Nat} (h : look l i = some (.ba o s lo n)) (e : n = n') : look l i = some (.ba o s lo n') := e ▸ h
theorem aj {l : List (Nat × X)} {i : Nat} {k : IntKind} {a b : Int} (h : look l i = some (.v (.int k a))) (e : a = b) : look l i = some (.v (.int k b)) := e ▸ h
theorem aF {l : List (Nat × X)} {i : Nat} {a b : Bool} (h : look l i = some (.v (.bool a))) (e : a = b) : look l i = some (.v (.bool b)) := e ▸ h
theorem aX {l : List (Nat × Obj)} {i : Nat} {a b : List X} (h : look l i = some (.cells a)) (e : a = b) : look l i = some (.cells b) := e ▸ h
theorem aA {α : Type} {s : Nat} {f : α → List X} (h : ∀ a, (f a).length = s) {l : List α} : cz s (l.map f) := by
 intro r hr
 obtain ⟨a, _, rfl⟩ := List.mem_map.1 hr
 exact h a
theorem Ml {α0 γ : Type} (f : α0 → γ) {a0 b0 : α0} (h0 : a0 = b0) : f a0 = f b0 := by subst h0; rfl
end Go.AW
namespace Go.AW
section
variable {α : Type} {l m : List α} {i j n : Nat} {d a x : α}
theorem lz (h : i < n) : (List.replicate n a).getD i d = a := by
 rw [List.getD_eq_getElem?_getD, List.getElem?_replicate, if_pos h]; rfl
theorem rV {p : Nat → Prop} (h : ∀ j, j < i → p j) (hp : p i) : ∀ j, j < i + 1 → p j := by
 intro j hj
 rcases Nat.lt_or_ge j i with h1 | h1
 ·exact h j h1
 ·obtain rfl : j = i := by omega
  exact hp
end
end Go.AW
namespace Go.AW
open Go Go.ChangeShapes Go.WideShapes Go.Deep Go.RowKit
theorem bz.Bs {E : Env} : ∀ {xs ys : List X} {cs ds : List Value}, bz E xs cs [] → bz E ys ds [] → bz E (xs ++ ys) (cs ++ ds) []
 | [], _, _, _, h, h' => by simp only [bz] at h; rw [h.1]; exact h'
 | x :: r, ys, cs, ds, h, h' => by
  simp only [bz] at h
  obtain ⟨c, di, R₁, R₂, rfl, hs, h1, h2, hR⟩ := h
  obtain ⟨rfl, rfl⟩ := List.append_eq_nil_iff.1 hR.symm
  simp only [List.cons_append, bz]
  exact ⟨c, di ++ ds, [], [], rfl, hs, h1, bz.Bs h2 h', rfl⟩
theorem bz.v1 {E : Env} {u : Value} (h : jA u) : bz E [.v u] [u] [] := by
 simp only [bz]
 exact ⟨u, [], [], [], rfl, h, by simp [RX], ⟨rfl, rfl⟩, rfl⟩
theorem bz.len {E : Env} : ∀ {xs : List X} {cs : List Value} {R : List Nat}, bz E xs cs R → xs.length = cs.length
 | [], _, _, h => by simp only [bz] at h; rw [h.1]; rfl
 | x :: r, cs, R, h => by
  simp only [bz] at h
  obtain ⟨c, di, R₁, R₂, rfl, _, _, h2, _⟩ := h
  simp [bz.len h2]
theorem RF.Qq {E : Env} {b : Nat} : ∀ {row : List X} {cs : List Value} {off : Nat}, bz E row cs [] → X.gA row = true → (∀ (j : Nat) c, cs[j]? = some c → E.φ b (off + j) = some c) → RF E row b off
 | [], _, _, _, _, _ => by simp [RF]
 | x :: r, cs, off, h, hn, hc => by
  simp only [bz] at h
  obtain ⟨c, di, R₁, R₂, rfl, hs, h1, h2, hR⟩ := h
  obtain ⟨rfl, rfl⟩ := List.append_eq_nil_iff.1 hR.symm
  simp only [X.gA, Bool.and_eq_true] at hn
  simp only [RF]
  refine ⟨⟨c, by simpa using hc 0 c rfl, hs, hn.1, h1⟩, RF.Qq h2 hn.2 fun j c' hj => ?_⟩
  rw [show off + 1 + j = off + (j + 1) by omega]
  exact hc (j + 1) c' (by simpa using hj)
mutual
def tg {H : Type} : DataW H → Nat
 | .lit (.string bytes) => bytes.length + 1
 | .lit _ => 1
 | .nil => 1
 | .ptr d => tg d + 1
 | .slice elems spare => ko elems + ko spare + 1
 | .agg parts => ko parts + 1
 | .iface _ d => tg d + 1
 | .map entries => rW entries + 1
 | .held _ => 1
def ko {H : Type} : List (DataW H) → Nat
 | [] => 0
 | d :: r => tg d + ko r
def rW {H : Type} : List (Lit × DataW H) → Nat
 | [] => 0
 | x :: r => Bt x + rW r
def Bt {H : Type} : Lit × DataW H → Nat
 | (.string bytes, d) => bytes.length + tg d + 1
 | (_, d) => tg d + 1
end
theorem oe {H α : Type} {m : α → Nat} : ∀ {l : List α} {ds : List (DataW H)}, l.length = ds.length → (∀ (i : Nat) a d, l[i]? = some a → ds[i]? = some d → m a ≤ tg d) → (l.map m).sum ≤ ko ds
 | [], _, _, _ => by simp
 | a :: l, [], h, _ => by simp at h
 | a :: l, d :: ds, h, hm => by
  have h1 := hm 0 a d rfl rfl
  have h2 := oe (l := l) (ds := ds) (by simpa using h) (fun i a' d' ha hd => hm (i + 1) a' d' (by simpa using ha) (by simpa using hd))
  simp only [List.map_cons, List.sum_cons, ko]; omega
section
variable {H : Type} (enc : TypeId × Value → H) (P : Program) (W : World) (base : Nat)
def Sz {H : Type} (P : Program) (t : TypeId) (d : DataW H) : Prop := ∀ n ∈ d.weights P t, n ≤ 140737488351232
def Reads (t : TypeId) {α : Type} (f : α → List X) (p : α → Prop) (m : α → Nat) : Prop :=
 ∀ (n : Nat) (cs : List Value) (y : DataW H × List MemPlace), DataW.trod enc P W base (fun _ => true) true n t cs = some y → Sz P t y.1 →
  ∃ a : α, p a ∧ bz (E0 W) (f a) cs [] ∧ X.b9 (f a) = true ∧ X.gA (f a) = true ∧ m a ≤ tg y.1
def ec (fl : List Field) (off m : Nat) {α : Type} (f : α → List X) (p : α → Prop) (mm : α → Nat) : Prop :=
 ∀ (n : Nat) (cs : List Value) (xs : List (DataW H × List MemPlace)), off + m ≤ cs.length → xs.length = fl.length →
  (∀ (i : Nat) (fd : Field), fl[i]? = some fd → DataW.trod enc P W base (fun _ => true) true n fd.type ((cs.drop fd.offset).take (P.cellsOf fd.type)) = xs[i]?) →
  (∀ (i : Nat) (fd : Field) (x : DataW H × List MemPlace), fl[i]? = some fd → xs[i]? = some x → Sz P fd.type x.1) →
  ∃ a : α, p a ∧ bz (E0 W) (f a) ((cs.drop off).take m) [] ∧ X.b9 (f a) = true ∧ X.gA (f a) = true ∧ mm a ≤ ko (xs.map (·.1))
end
section
variable {H : Type} {enc : TypeId × Value → H} {P : Program} {W : World} {base : Nat} {t e : TypeId} {α β : Type} {f : α → List X} {p : α → Prop} {g : β → List X} {q : β → Prop} {mf : α → Nat} {mg : β → Nat}
theorem l1 : ∀ {a b : List X}, X.b9 a = true → X.b9 b = true → X.b9 (a ++ b) = true
 | [], _, _, h => h
 | x :: r, b, h, h' => by
  simp only [X.b9, Bool.and_eq_true, List.cons_append] at h ⊢
  exact ⟨h.1, l1 h.2 h'⟩
theorem pd : ∀ {a b : List X}, X.gA a = true → X.gA b = true → X.gA (a ++ b) = true
 | [], _, _, h => h
 | x :: r, b, h, h' => by
  simp only [X.gA, Bool.and_eq_true, List.cons_append] at h ⊢
  exact ⟨h.1, pd h.2 h'⟩
theorem Reads.map (φ : α → β) (h : Reads enc P W base t f p mf) (hf : ∀ a, g (φ a) = f a) (hp : ∀ a, p a → q (φ a)) (hm : ∀ a, mg (φ a) ≤ mf a) : Reads enc P W base t g q mg := by
 intro n cs y hy hs
 obtain ⟨a, h1, h2, h3, h4, h5⟩ := h n cs y hy hs
 exact ⟨φ a, hp a h1, by rw [hf]; exact h2, by rw [hf]; exact h3, by rw [hf]; exact h4, Nat.le_trans (hm a) h5⟩
theorem Reads.int {k : IntKind} (he : P.underlying t = some (.int k)) : Reads enc P W base t (fun z : Int => [.v (.int k z)]) (fun z => (Lit.int k z).wf = true) (fun _ => 1) := by
 intro n cs y hy _
 obtain ⟨z, rfl, hd, hw⟩ := DataW.trod_int he hy
 exact ⟨z, hw, bz.v1 trivial, rfl, rfl, by rw [hd]; exact Nat.le_refl _⟩
theorem Reads.bool (he : P.underlying t = some .bool) : Reads enc P W base t (fun z : Bool => [.v (.bool z)]) (fun _ => True) (fun _ => 1) := by
 intro n cs y hy _
 obtain ⟨z, rfl, hd⟩ := DataW.trod_bool he hy
 exact ⟨z, trivial, bz.v1 trivial, rfl, rfl, by rw [hd]; exact Nat.le_refl _⟩
theorem Reads.JK (he : P.underlying t = some (.int .u64)) : Reads enc P W base t (fun z : Nat => [.v (.int .u64 (z : Int))]) (fun z => z < 18446744073709551616) (fun _ => 1) := by
 intro n cs y hy _
 obtain ⟨z, rfl, hd, hw⟩ := DataW.trod_int he hy
 simp only [Lit.wf, IntKind.min, IntKind.max, IntKind.signed, IntKind.bits] at hw
 simp at hw
 obtain ⟨m, rfl⟩ := Int.eq_ofNat_of_zero_le (show 0 ≤ z by omega)
 exact ⟨m, om, bz.v1 trivial, rfl, rfl, by rw [hd]; exact Nat.le_refl _⟩
theorem Reads.Ni (he : P.underlying t = some (.int .u8)) : Reads enc P W base t (fun z : Nat => [.v (.int .u8 (z : Int))]) (fun z => z < 256) (fun _ => 1) := by
 intro n cs y hy _
 obtain ⟨z, rfl, hd, hw⟩ := DataW.trod_int he hy
 simp only [Lit.wf, IntKind.min, IntKind.max, IntKind.signed, IntKind.bits] at hw
 simp at hw
 obtain ⟨m, rfl⟩ := Int.eq_ofNat_of_zero_le (show 0 ≤ z by omega)
 exact ⟨m, om, bz.v1 trivial, rfl, rfl, by rw [hd]; exact Nat.le_refl _⟩
theorem Reads.str (he : P.underlying t = some .string) : Reads enc P W base t (fun z : ByteArray => [.v (.string z)]) (fun z => z.size ≤ 140737488351232) (fun _ => 0) := by
 intro n cs y hy hs
 obtain ⟨z, rfl, rfl, _⟩ := DataW.trod_string he hy
 refine ⟨z, ?_, bz.v1 trivial, rfl, rfl, Nat.zero_le _⟩
 have := hs z.data.toList.length (by simp [DataW.weights])
 simpa using this
theorem fZ {H : Type} {P : Program} {e : TypeId} : ∀ {ds : List (DataW H)} {d : DataW H}, d ∈ ds → ∀ n ∈ d.weights P e, n ∈ DataW.weightsAll P e ds
 | d' :: r, d, h, n, hn => by
  simp only [DataW.weightsAll, List.mem_append]
  rcases List.mem_cons.1 h with rfl | h
  ·exact .inl hn
  ·exact .inr (fZ h n hn)
theorem Reads.slice [Inhabited α] {s B : Nat} (ht : P.underlying t = some (.slice e)) (hC : P.cellsOf e = s) (hs : 0 < s) (hB : P.bytesOf e = B) (he : Reads enc P W base e f p mf) :
  Reads enc P W base t (fun l : List α => [.fz s (l.map f)]) (fun l => l.length * B ≤ 140737488351232 ∧ ∀ a ∈ l, p a) (fun l => (l.map mf).sum) := by
 intro fuel cs y hy fu
 rcases open_slice ht hy with ⟨rfl, rfl⟩ | ⟨a, len, cap, m, n, D, Pl, rfl, _, hl, _, hm, rfl, hi⟩
 ·refine ⟨[], ⟨by simp, fun _ h => by cases h⟩, ?_, rfl, rfl, by simp⟩
  simp only [bz, List.map_nil]
  refine ⟨.slice none 0 0, [], [], [], rfl, trivial, ?_, ⟨rfl, by trivial⟩, rfl⟩
  simp only [RX]
  exact ⟨trivial, (fun _ h => by cases h), none, 0, rfl, .inl ⟨by trivial, rfl⟩⟩
 ·simp only [if_true] at hm
  subst hm
  rw [hC] at hi
  have hD : ∀ i, i < m → Sz P e (D i) := by
   intro i Ua k hk
   refine fu k ?_
   simp only [DataW.weights, ht, List.mem_cons, List.mem_append]
   right
   by_cases yW : i < len
   ·exact .inl (fZ (List.mem_map.2 ⟨i, List.mem_range.2 yW, rfl⟩) k hk)
   ·refine .inr (fZ (List.mem_map.2 ⟨i - len, List.mem_range.2 om, ?_⟩) k hk)
    congr 1; omega
  have RK : ∀ i, ∃ x : α, i < len → ∃ cs, W.cells? base (a.add (i * s)) s = some cs ∧ p x ∧ bz (E0 W) (f x) cs [] ∧ X.b9 (f x) = true ∧ X.gA (f x) = true ∧ mf x ≤ tg (D i) := by
   intro i
   by_cases yW : i < len
   ·obtain ⟨cs, hc, MW⟩ := hi i om
    obtain ⟨x, h0, h1, h2, h3, h4⟩ := he n cs _ MW (hD i om)
    exact ⟨x, fun _ => ⟨cs, hc, h0, h1, h2, h3, h4⟩⟩
   ·exact ⟨default, fun h => absurd h yW⟩
  obtain ⟨g, hg⟩ := Classical.axiomOfChoice RK
  refine ⟨(List.range len).map g, ⟨?_, ?_⟩, ?_, rfl, rfl, ?_⟩
  rotate_right
  ·refine Nat.le_trans (oe (m := mf) (ds := (List.range len).map D) (by simp) ?_) (by show _ ≤ ko _ + ko _ + 1; omega)
   intro i a' d' ha hd
   simp only [List.getElem?_map, Option.map_eq_some_iff] at ha hd
   obtain ⟨k, hk, rfl⟩ := ha
   obtain ⟨k', AM, rfl⟩ := hd
   rw [hk] at AM
   obtain rfl := Option.some.inj AM
   have DI : i < len := by have := (List.getElem?_eq_some_iff.1 hk).1; simpa using this
   have wE : k = i := by rw [List.getElem?_range DI] at hk; exact (Option.some.inj hk).symm
   subst wE
   obtain ⟨_, _, _, _, _, _, h5⟩ := hg k DI
   exact h5
  ·have z := fu ((((List.range len).map D).length + ((List.range (m - len)).map fun j => D (len + j)).length) * P.bytesOf e) (by simp [DataW.weights, ht])
   rw [hB] at z
   simp only [List.length_map, List.length_range] at z ⊢
   exact Nat.le_trans (Nat.mul_le_mul_right _ om) z
  ·intro x hx
   simp only [List.mem_map, List.mem_range] at hx
   obtain ⟨i, iv, rfl⟩ := hx
   obtain ⟨_, _, h0, _⟩ := hg i iv
   exact h0
  ·have hu : cz s (((List.range len).map g).map f) := by
    intro r hr
    simp only [List.map_map, List.mem_map, List.mem_range, Function.comp] at hr
    obtain ⟨i, iv, rfl⟩ := hr
    obtain ⟨cs, hc, _, h1, _⟩ := hg i iv
    rw [bz.len h1]
    exact (World.cells?_some hc).2.1
   simp only [bz]
   refine ⟨_, [], [], [], rfl, trivial, ?_, ⟨rfl, rfl⟩, rfl⟩
   simp only [RX]
   refine ⟨trivial, hu, some a, m, by simp, ?_⟩
   by_cases Qr : m = 0
   ·exact .inl ⟨by simp [show len = 0 by omega], Qr⟩
   ·have Fw : a = ⟨a.block, a.off, none⟩ := by
     obtain ⟨cs, hc, _⟩ := hi 0 om
     have h1 := (World.cells?_some hc).2.2 0 hs
     have hlen := (World.cells?_some hc).2.1
     simp only [Nat.zero_mul, Addr.add, if_true] at h1
     rw [List.getElem?_eq_getElem (show 0 < cs.length by omega)] at h1
     unfold World.cell? at h1
     obtain ⟨b, o, sp⟩ := a
     cases sp with
     | none => rfl
     | some q => split at h1 <;> simp at h1
    refine .inr ⟨a.block, a.off, by rw [← Fw], by simp; omega, ke.of hu ?_⟩
    intro i row pM
    simp only [List.map_map, List.getElem?_map, Option.map_eq_some_iff, Function.comp] at pM
    obtain ⟨k, hk, rfl⟩ := pM
    have DI : i < len := by have := (List.getElem?_eq_some_iff.1 hk).1; simpa using this
    have wE : k = i := by rw [List.getElem?_range DI] at hk; exact (Option.some.inj hk).symm
    subst wE
    obtain ⟨cs, hc, _, h1, _, h2, _⟩ := hg k DI
    refine RF.Qq h1 h2 fun j c Qs => ?_
    have qN : j < s := by have := (List.getElem?_eq_some_iff.1 Qs).1; rw [(World.cells?_some hc).2.1] at this; exact this
    have h3 := (World.cells?_some hc).2.2 j qN
    rw [Qs, add_add, Fw, iy] at h3
    show W.cell? _ = _
    rw [← h3]
    congr 2
    omega
theorem ec.nil {off : Nat} : ec enc P W base [] off 0 (fun _ : Unit => []) (fun _ => True) (fun _ => 0) := by
 intro n cs xs _ _ _ _
 exact ⟨(), trivial, by simp [bz], rfl, rfl, Nat.zero_le _⟩
theorem ec.cons {fd : Field} {fl : List Field} {off s m : Nat} (ho : fd.offset = off) (hC : P.cellsOf fd.type = s) (h : Reads enc P W base fd.type f p mf) (hr : ec enc P W base fl (off + s) m g q mg) :
  ec enc P W base (fd :: fl) off (s + m) (fun x : α × β => f x.1 ++ g x.2) (fun x => p x.1 ∧ q x.2) (fun x => mf x.1 + mg x.2) := by
 intro n cs xs hlen xd hx fu
 cases xs with
 | nil => simp at xd
 | cons x xs =>
  have h0 := hx 0 fd rfl
  rw [ho, hC] at h0
  obtain ⟨a, ha, h1, h2, h3, h4⟩ := h n _ x h0 (fu 0 fd x rfl rfl)
  obtain ⟨b, hb, g1, g2, g3, g4⟩ := hr n cs xs om (by simpa using xd) (fun i Nj hi => by simpa using hx (i + 1) Nj (by simpa using hi)) (fun i Nj x' hi iw => fu (i + 1) Nj x' (by simpa using hi) (by simpa using iw))
  refine ⟨(a, b), ⟨ha, hb⟩, ?_, l1 h2 g2, pd h3 g3, by simp only [List.map_cons, ko]; omega⟩
  have rX : (cs.drop off).take (s + m) = (cs.drop off).take s ++ (cs.drop (off + s)).take m := by
   rw [List.take_add, List.drop_drop]
  rw [rX]
  exact bz.Bs h1 g1
theorem m7 {H : Type} {P : Program} : ∀ {fl : List Field} {xs : List (DataW H × List MemPlace)} {i : Nat} {fd : Field} {x : DataW H × List MemPlace}, fl[i]? = some fd → xs[i]? = some x →
  ∀ n ∈ x.1.weights P fd.type, n ∈ DataW.weightsEach P (fl.map (·.type)) (xs.map (·.1))
 | f :: fl, y :: xs, 0, fd, x, h, h', n, hn => by
  simp only [List.getElem?_cons_zero, Option.some.injEq] at h h'
  subst h h'
  simp only [List.map_cons, DataW.weightsEach, List.mem_append]
  exact .inl hn
 | f :: fl, y :: xs, i + 1, fd, x, h, h', n, hn => by
  simp only [List.map_cons, DataW.weightsEach, List.mem_append]
  exact .inr (m7 (i := i) (by simpa using h) (by simpa using h') n hn)
theorem Reads.struct {fs : Array Field} {m : Nat} (ht : P.underlying t = some (.struct fs)) (hC : P.cellsOf t = m) (h : ec enc P W base fs.toList 0 m f p mf) : Reads enc P W base t f p mf := by
 intro fuel cs y hy fu
 obtain ⟨xs, n, _, rfl, hlen, xd, hx⟩ := DataW.trod_struct ht hy
 obtain ⟨a, ha, h1, h2, h3, h4⟩ := h n cs xs om (by simpa using xd) (fun i fd hi => hx i fd (by simpa using hi)) (fun i fd x hi iw k hk => by
  refine fu k ?_
  simp only [DataW.weights, ht]
  exact m7 hi iw k hk)
 refine ⟨a, ha, ?_, h2, h3, by show _ ≤ ko _ + 1; omega⟩
 rw [List.drop_zero, List.take_of_length_le om] at h1
 exact h1
theorem Reads.Nk {s : Nat} (ht : P.underlying t = some (.array 2 e)) (hC : P.cellsOf e = s) (hT : P.cellsOf t = 2 * s) (h : Reads enc P W base e f p mf) :
  Reads enc P W base t (fun x : α × α => f x.1 ++ f x.2) (fun x => p x.1 ∧ p x.2) (fun _ => 0) := by
 intro fuel cs y hy fu
 obtain ⟨xs, n, _, rfl, hlen, xd, hx⟩ := DataW.trod_array ht hy
 match xs, xd with
 | [x0, x1], _ =>
  have w0 : ∀ x ∈ [x0, x1], Sz P e x.1 := fun x hx k hk => fu k (by
   simp only [DataW.weights, ht]
   exact fZ (List.mem_map.2 ⟨x, hx, rfl⟩) k hk)
  obtain ⟨a, ha, a1, a2, a3, _⟩ := h n _ x0 (hx 0 om) (w0 x0 (by simp))
  obtain ⟨b, hb, b1, b2, b3, _⟩ := h n _ x1 (hx 1 om) (w0 x1 (by simp))
  refine ⟨(a, b), ⟨ha, hb⟩, ?_, l1 a2 b2, pd a3 b3, Nat.zero_le _⟩
  have rX : cs = (cs.drop (0 * P.cellsOf e)).take (P.cellsOf e) ++ (cs.drop (1 * P.cellsOf e)).take (P.cellsOf e) := by
   rw [Nat.zero_mul, Nat.one_mul, List.drop_zero, hC, List.take_of_length_le (l := cs.drop s) (by rw [List.length_drop]; omega), List.take_append_drop]
  rw [rX]
  exact bz.Bs a1 b1
theorem Reads.Nl {s : Nat} (ht : P.underlying t = some (.array 3 e)) (hC : P.cellsOf e = s) (hT : P.cellsOf t = 3 * s) (h : Reads enc P W base e f p mf) :
  Reads enc P W base t (fun x : α × α × α => f x.1 ++ (f x.2.1 ++ f x.2.2)) (fun x => p x.1 ∧ p x.2.1 ∧ p x.2.2) (fun _ => 0) := by
 intro fuel cs y hy fu
 obtain ⟨xs, n, _, rfl, hlen, xd, hx⟩ := DataW.trod_array ht hy
 match xs, xd with
 | [x0, x1, x2], _ =>
  have w0 : ∀ x ∈ [x0, x1, x2], Sz P e x.1 := fun x hx k hk => fu k (by
   simp only [DataW.weights, ht]
   exact fZ (List.mem_map.2 ⟨x, hx, rfl⟩) k hk)
  obtain ⟨a, ha, a1, a2, a3, _⟩ := h n _ x0 (hx 0 om) (w0 x0 (by simp))
  obtain ⟨b, hb, b1, b2, b3, _⟩ := h n _ x1 (hx 1 om) (w0 x1 (by simp))
  obtain ⟨c, hc, c1, c2, c3, _⟩ := h n _ x2 (hx 2 om) (w0 x2 (by simp))
  refine ⟨(a, b, c), ⟨ha, hb, hc⟩, ?_, l1 a2 (l1 b2 c2), pd a3 (pd b3 c3), Nat.zero_le _⟩
  have rX : cs = (cs.drop (0 * P.cellsOf e)).take (P.cellsOf e) ++ ((cs.drop (1 * P.cellsOf e)).take (P.cellsOf e) ++ (cs.drop (2 * P.cellsOf e)).take (P.cellsOf e)) := by
   rw [Nat.zero_mul, Nat.one_mul, List.drop_zero, hC, List.take_of_length_le (l := cs.drop (2 * s)) (by rw [List.length_drop]; omega), show 2 * s = s + s by omega, ← List.drop_drop, List.take_append_drop, List.take_append_drop]
  rw [rX]
  exact bz.Bs a1 (bz.Bs b1 c1)
theorem Reads.one {x : α → X} {v : Value} {d : DataW H} {ps : List MemPlace} (h : Reads enc P W base t (fun a => [x a]) p mf) (hs : Sz P t d) (hv : v.cells.toList = [v]) (ht : DataW.Trod enc P W base (fun _ => true) true t v d ps) :
  ∃ a, p a ∧ RX (E0 W) (x a) v [] ∧ mf a ≤ tg d := by
 obtain ⟨fuel, hf⟩ := ht
 rw [hv] at hf
 obtain ⟨a, ha, h1, _, _, h5⟩ := h fuel _ _ hf hs
 simp only [bz] at h1
 obtain ⟨c, di, R₁, R₂, hc, _, h2, _, hR⟩ := h1
 obtain ⟨rfl, rfl⟩ := List.append_eq_nil_iff.1 hR.symm
 simp only [List.cons.injEq] at hc
 exact ⟨a, ha, by rw [hc.1]; exact h2, h5⟩
theorem Reads.agg {cs : Array Value} {d : DataW H} {ps : List MemPlace} (h : Reads enc P W base t f p mf) (hs : Sz P t d) (ht : DataW.Trod enc P W base (fun _ => true) true t (.agg cs) d ps) :
  ∃ a, p a ∧ RX (E0 W) (.agg (f a)) (.agg cs) [] ∧ mf a ≤ tg d := by
 obtain ⟨fuel, hf⟩ := ht
 obtain ⟨a, ha, h1, _, _, h5⟩ := h fuel _ _ hf hs
 exact ⟨a, ha, by simp only [RX]; exact ⟨cs, rfl, h1⟩, h5⟩
theorem Sz.of {ts : List TypeId} {ds : List (DataW H)} (h : (DataW.weightsEach P ts ds).all (· ≤ reachBytes) = true) {j : Nat} {d : DataW H} (GR : ts[j]? = some t) (Nm : ds[j]? = some d) : Sz P t d := by
 intro n hn
 have := List.all_eq_true.1 h _ (DataW.weights_mem_each GR Nm n hn)
 have h2 := of_decide_eq_true this
 exact h2
end
end Go.AW
namespace Go.AW
open Go
def oB (ops : Array Oper) (j i : Nat) : Bool := match ops[j]? with
 | some o => o.after.any fun e => Region.binds .any e && e.on == i
 | none => false
def GS (ops : Array Oper) (l rest : List Nat) (t : Nat) (ag : Array Bool) : Bool :=
 ag.size == ops.size && ((List.range ops.size).all fun j => !ag.getD j false || match ops[j]? with
  | some o => o.after.all fun e => !Region.binds .any e || ag.getD e.on false
  | none => true) && ((List.range ops.size).all fun j => ag.getD j true || l.contains j || rest.contains j) && (rest.all fun j => !ag.getD j true && !l.contains j) && (l.all fun j => !ag.getD j true) &&
  (rest.isEmpty || l.all fun i => (t :: l).any fun j => decide (i < j) && oB ops j i) && (rest.all fun j => j == t || rest.any fun k => oB ops j k) && decide l.Nodup
structure On (ops : Array Oper) (l0 rest : List Nat) (t : Nat) (l : List Nat) (ag : Array Bool) : Prop where
 size : ag.size = ops.size
 closed : ∀ j o, ops[j]? = some o → ag.getD j false = true → ∀ e ∈ o.after, Region.binds .any e = true → ag.getD e.on false = true
 part : ∀ j, ag.getD j true = false → j ∈ l ∨ j ∈ rest
 out : ∀ j ∈ rest, ag.getD j true = false ∧ j ∉ l0
 open_ : ∀ j ∈ l, ag.getD j true = false
 sub : ∀ j ∈ l, j ∈ l0
 sink : rest ≠ [] → ∀ i ∈ l0, ∃ j, (j = t ∨ j ∈ l0) ∧ i < j ∧ oB ops j i = true
 wait : ∀ j ∈ rest, j = t ∨ ∃ k ∈ rest, oB ops j k = true
 nodup : l.Nodup
theorem tM {ag : Array Bool} {i : Nat} (h : ag.getD i true = false) : ag.getD i false = false := by
 rcases Nat.lt_or_ge i ag.size with h' | h'
 ·simp [h'] at h ⊢; exact h
 ·simp [Array.getElem?_eq_none h'] at h
theorem xg {ag : Array Bool} {i : Nat} (hi : i < ag.size) (h : ag.getD i false = false) : ag.getD i true = false := by
 simp [hi] at h ⊢; exact h
theorem qV {ops : Array Oper} {j i : Nat} (h : oB ops j i = true) : ∃ o, ops[j]? = some o ∧ ∃ e ∈ o.after, Region.binds .any e = true ∧ e.on = i := by
 unfold oB at h
 split at h
 ·rename_i o ho
  obtain ⟨e, he, hb⟩ := Array.any_eq_true'.1 h
  simp only [Bool.and_eq_true, beq_iff_eq] at hb
  exact ⟨o, ho, e, he, hb.1, hb.2⟩
 ·cases h
theorem DV {ops : Array Oper} {l rest : List Nat} {t : Nat} {ag : Array Bool} (h : GS ops l rest t ag = true) : On ops l rest t l ag := by
 simp only [GS, Bool.and_eq_true, beq_iff_eq, List.all_eq_true, decide_eq_true_eq, List.mem_range, Bool.or_eq_true, Bool.not_eq_true', List.any_eq_true, List.contains_iff_mem] at h
 obtain ⟨⟨⟨⟨⟨⟨⟨h1, h2⟩, h3⟩, h4⟩, h5⟩, h6⟩, h7⟩, h8⟩ := h
 refine ⟨h1, ?_, ?_, ?_, h5, fun _ h => h, ?_, ?_, h8⟩
 ·intro j o ho hl e he hb
  have := h2 j (Array.getElem?_eq_some_iff.1 ho).1
  rw [hl, ho] at this
  simp only [Bool.true_eq_false, false_or] at this
  have h9 := Array.all_eq_true_iff_forall_mem.1 this e he
  simpa [hb] using h9
 ·intro j hj
  have I1 : j < ops.size := by
   rcases Nat.lt_or_ge j ag.size with h' | h'
   ·omega
   ·simp [Array.getElem?_eq_none h'] at hj
  have := h3 j I1
  rw [hj] at this
  simpa using this
 ·intro j hj
  have := h4 j hj
  exact ⟨this.1, by simpa using this.2⟩
 ·intro ew i hi
  obtain ⟨j, hj, iU, hw⟩ := (h6.resolve_left (by simpa using ew)) i hi
  exact ⟨j, by simpa using hj, iU, hw⟩
 ·intro j hj
  exact h7 j hj
theorem tN {ops : Array Oper} {ag : Array Bool} {j k : Nat} (hw : oB ops j k = true) (hk : ag.getD k true = false) : j ∉ Region.ready .any ops ag := by
 intro hj
 obtain ⟨_, o, ho, tf⟩ := mem_ready.1 hj
 obtain ⟨o', lp, e, he, hb, gx⟩ := qV hw
 rw [ho] at lp
 cases lp
 have := tf e he hb
 rw [gx, tM hk] at this
 cases this
theorem rY : ∀ {l : List Nat}, l ≠ [] → ∃ m ∈ l, ∀ x ∈ l, x ≤ m
 | [], h => absurd rfl h
 | [a], _ => ⟨a, by simp, by simp⟩
 | a :: b :: r, _ => by
  obtain ⟨m, hm, hx⟩ := rY (l := b :: r) (by simp)
  rcases Nat.le_total a m with h | h
  ·exact ⟨m, List.mem_cons_of_mem _ hm, fun x iw => by rcases List.mem_cons.1 iw with rfl | iw; exact h; exact hx x iw⟩
  ·exact ⟨a, by simp, fun x iw => by rcases List.mem_cons.1 iw with rfl | iw; exact Nat.le_refl _; exact Nat.le_trans (hx x iw) h⟩
theorem On.ready {ops : Array Oper} {l0 rest l : List Nat} {t : Nat} {ag : Array Bool} (h : On ops l0 rest t l ag) (ew : l ≠ []) : ∀ j ∈ Region.ready .any ops ag, j ∈ l := by
 intro j hj
 have AG := (mem_ready.1 hj).1
 rcases h.part j AG with hl | hr
 ·exact hl
 ·exfalso
  rcases h.wait j hr with rfl | ⟨k, hk, hw⟩
  ·obtain ⟨m, hm, Nn⟩ := rY ew
   obtain ⟨j', pa, iU, hw⟩ := h.sink (fun e => by rw [e] at hr; cases hr) m (h.sub m hm)
   rcases pa with rfl | pa
   ·exact tN hw (h.open_ m hm) hj
   ·obtain ⟨o, ho, e, he, hb, gx⟩ := qV hw
    cases hl : ag.getD j' false with
    | true =>
     have := h.closed j' o ho hl e he hb
     rw [gx, tM (h.open_ m hm)] at this
     cases this
    | false =>
     have hs : j' < ag.size := by rw [h.size]; exact (Array.getElem?_eq_some_iff.1 ho).1
     rcases h.part j' (xg hs hl) with h1 | h1
     ·have := Nn j' h1; omega
     ·exact (h.out j' h1).2 pa
  ·exact tN hw (h.out k hk).1 hj
theorem On.step {ops : Array Oper} {l0 rest l : List Nat} {t j : Nat} {ag : Array Bool} (h : On ops l0 rest t l ag) (hj : j ∈ Region.ready .any ops ag) (hl : j ∈ l) : On ops l0 rest t (l.erase j) (ag.setIfInBounds j true) := by
 obtain ⟨_, oj, AN, tf⟩ := mem_ready.1 hj
 have other : ∀ k (d : Bool), j ≠ k → (ag.setIfInBounds j true).getD k d = ag.getD k d := fun k d tH => by
  simp only [Array.getD_eq_getD_getElem?, Array.getElem?_setIfInBounds_ne tH]
 refine ⟨by simp [h.size], ?_, ?_, ?_, ?_, fun k hk => h.sub k (List.mem_of_mem_erase hk), h.sink, h.wait, h.nodup.erase j⟩
 ·intro k o ho hk e he hb
  by_cases tH : j = k
  ·subst tH
   rw [AN] at ho
   cases ho
   exact getD_set_true (tf e he hb)
  ·rw [other k false tH] at hk
   exact getD_set_true (h.closed k o ho hk e he hb)
 ·intro k hk
  by_cases tH : j = k
  ·subst tH
   rw [Array.getD_eq_getD_getElem?] at hk
   rcases Nat.lt_or_ge j ag.size with h' | h'
   ·simp [h'] at hk
   ·simp at hk
  ·rw [other k true tH] at hk
   rcases h.part k hk with h1 | h1
   ·exact .inl ((List.mem_erase_of_ne (fun e => tH e.symm)).2 h1)
   ·exact .inr h1
 ·intro k hk
  have h1 := h.out k hk
  have tH : j ≠ k := fun e => h1.2 (e ▸ h.sub j hl)
  exact ⟨by rw [other k true tH]; exact h1.1, h1.2⟩
 ·intro k hk
  have tH : j ≠ k := fun e => by subst e; exact (List.Nodup.not_mem_erase h.nodup) hk
  rw [other k true tH]; exact h.open_ k (List.mem_of_mem_erase hk)
section
variable {P : Program} {N : eL} {ops : Array Oper} {d : Nat} {ty : TypeId} {pos : String} {af : Array Edge}
def m8 (P : Program) (ops : Array Oper) (w : World) (L : Array Bool → Act → Prop) : Nat → Array Bool → Act → Prop
 | 0, ag, a => L ag a
 | n + 1, ag, a => Region.ready .any ops ag ≠ [] ∧ ∀ j ∈ Region.ready .any ops ag, stOp P ops w j (m8 P ops w L n (ag.setIfInBounds j true)) a
theorem m8.any {w : World} {L : Array Bool → Act → Prop} {Q' : Exit → Act → World → Prop} {k : Nat} (hL : ∀ ag a, L ag a → wpAny P .any ops Q' k ag a w) :
  ∀ (n : Nat) (ag : Array Bool) (a : Act), m8 P ops w L n ag a → wpAny P .any ops Q' (n + k) ag a w
 | 0, ag, a, h => by rw [Nat.zero_add]; exact hL _ _ h
 | n + 1, ag, a, h => by
  rw [Nat.add_right_comm]
  exact ⟨fun e => absurd e h.1, fun j hj => wpOp_of_stOp (fun a' => m8.any hL n _ a') (h.2 j hj)⟩
theorem m8.first {l0 rest : List Nat} {t : Nat} {w : World} {L : Array Bool → Act → Prop} {i : Nat} {oi : Oper} {v : Value} (hi : ops[i]? = some oi) (Bu : Region.noSelect ops = true) : ∀ (n : Nat) (l : List Nat) (ag : Array Bool) (a : Act),
  l.length = n → On ops l0 rest t (i :: l) ag → (∀ j oj, ops[j]? = some oj → j ≠ i → ag.getD j true = false → (∀ e ∈ oj.after, Region.binds .any e = true → e.on ≠ i) → oi.apart ops oj = true) →
  i ∈ Region.ready .any ops ag → YieldsAt P ops w oi v a → m8 P ops w L n (ag.setIfInBounds i true) (a.put oi.dst v) → m8 P ops w L (n + 1) ag a := by
 intro n
 induction n with
 | zero =>
  intro l ag a hl hB _ hr hy H
  refine ⟨fun e => (by rw [e] at hr; cases hr), fun j hj => ?_⟩
  have h1 := hB.ready (by simp) j hj
  have Qt : l = [] := List.length_eq_zero_iff.1 hl
  subst Qt
  obtain rfl : j = i := by simpa using h1
  exact hy.stOp hi H
 | succ n ih =>
  intro l ag a hl hB lx hr hy H
  refine ⟨fun e => (by rw [e] at hr; cases hr), fun j hj => ?_⟩
  by_cases wF : j = i
  ·subst wF; exact hy.stOp hi H
  ·have h1 := hB.ready (by simp) j hj
   have h2 := hB.step hj h1
   have qN : j ∈ l := by simpa [wF] using h1
   have ew : (i == j) = false := by simpa using fun h => wF h.symm
   rw [List.erase_cons, ew] at h2
   obtain ⟨AG, oj, AN, tf⟩ := mem_ready.1 hj
   have DW : ∀ e ∈ oj.after, Region.binds .any e = true → e.on ≠ i := by
    intro e he hb heq
    have h3 := tf e he hb
    have h4 := (mem_ready.1 hr).1
    rw [heq] at h3
    rcases Nat.lt_or_ge i ag.size with h' | h'
    ·simp [h'] at h3 h4; rw [h3] at h4; cases h4
    ·simp [Array.getElem?_eq_none h'] at h3
   have h5 := stOp_put AN (lx j oj AN wF AG DW) (fun cs b => Region.noSelect_spec Bu i oi cs b hi) (fun cs b => Region.noSelect_spec Bu j oj cs b AN) hy (H.2 j (ready_mono hj wF))
   refine stOp_mono (fun a' h6 => ih (l.erase j) _ a' (by rw [List.length_erase_of_mem qN, hl]; rfl) h2 ?_ (ready_mono hr (fun h => wF h.symm)) h6.1 ?_) h5
   ·intro k ok hk wE JL DR
    refine lx k ok hk wE ?_ DR
    by_cases tH : j = k
    ·subst tH; exact AG
    ·have : (ag.setIfInBounds j true).getD k true = ag.getD k true := by
      simp only [Array.getD_eq_getD_getElem?, Array.getElem?_setIfInBounds_ne tH]
     rw [this] at JL; exact JL
   ·have : (ag.setIfInBounds j true).setIfInBounds i true = (ag.setIfInBounds i true).setIfInBounds j true := Array.setIfInBounds_comm _ _ wF
    rw [this]; exact h6.2
def AQ (P : Program) (N : eL) (ops : Array Oper) (l0 rest : List Nat) (t : Nat) (l : List Nat) (ag : Array Bool) (st : St) (K : Array Bool → St → Prop) : Prop :=
 On ops l0 rest t l ag → ∀ G : Ctx, G.fn = N → ∀ a w, cy G st a w → m8 P ops w (fun rE a' => ∃ aT, K rE aT ∧ cy G aT a' w) l.length ag a
theorem AQ.nil {l0 rest : List Nat} {t : Nat} {ag : Array Bool} {st : St} {K : Array Bool → St → Prop} (h : K ag st) : AQ P N ops l0 rest t [] ag st K := fun _ _ _ _ _ hh => ⟨st, h, hh⟩
theorem AQ.cons {l0 rest : List Nat} {t i : Nat} {l : List Nat} {ag : Array Bool} {st : St} {K : Array Bool → St → Prop} {op : Op} {x : X} (ho : ops[i]? = some ⟨some d, op, ty, pos, af, none⟩)
  (hB : (Region.noSelect ops && Region.free .any ops ag i && (Region.ready .any ops ag).contains i) = true) (hy : Yields P N st ⟨some d, op, ty, pos, af, none⟩ x) (hd : d < N.n)
  (k : AQ P N ops l0 rest t l (ag.setIfInBounds i true) (st.put d x) K) : AQ P N ops l0 rest t (i :: l) ag st K := by
 intro h4 G hn a w hh
 obtain ⟨E, RR, rfl, hi⟩ := hh
 obtain ⟨u, hr, hx⟩ := hy G E RR a hn hi
 simp only [Bool.and_eq_true] at hB
 obtain ⟨⟨h1, h2⟩, h3⟩ := hB
 have h5 := h4.step (j := i) (by simpa using h3) (by simp)
 rw [List.erase_cons_head] at h5
 exact m8.first ho h1 l.length l ag a rfl h4 (Region.free_spec ho h2) (by simpa using h3) (v := u) (.inl ⟨by simp [Region.wanted], .inl hr⟩) (k h5 G hn _ _ ⟨E, _, rfl, hi.g5 (hn ▸ hd) hx⟩)
theorem AQ.skip {l0 rest : List Nat} {t i : Nat} {l : List Nat} {ag : Array Bool} {st : St} {K : Array Bool → St → Prop} {op : Op} {j dj : Nat} {want : Bool} {u : Value} (ho : ops[i]? = some ⟨some d, op, ty, pos, af, some (j, want)⟩)
  (hB : (Region.noSelect ops && Region.free .any ops ag i && (Region.ready .any ops ag).contains i) = true)
  (hj : (ops[j]?).bind (·.dst) = some dj) (rZ : dj < N.n) (hd : d < N.n) (hx : look st.aD dj = some (.v u)) (ew : rT want u = true)
  (k : AQ P N ops l0 rest t l (ag.setIfInBounds i true) (st.put d (.v undef)) K) : AQ P N ops l0 rest t (i :: l) ag st K := by
 intro h4 G hn a w hh
 obtain ⟨E, RR, rfl, hi⟩ := hh
 simp only [Bool.and_eq_true] at hB
 obtain ⟨⟨h1, h2⟩, h3⟩ := hB
 have h5 := h4.step (j := i) (by simpa using h3) (by simp)
 rw [List.erase_cons_head] at h5
 have hw := ly (all := ops) (dst := some d) (op := op) (ty := ty) (pos := pos) (af := af) hi hj (hn ▸ rZ) hx ew
 exact m8.first ho h1 l.length l ag a rfl h4 (Region.free_spec ho h2) (by simpa using h3) (v := undef) (.inr ⟨hw, rfl⟩) (k h5 G hn _ _ ⟨E, _, rfl, hi.g5 (hn ▸ hd) (by simp [RX])⟩)
theorem AQ.run {l0 rest : List Nat} {t i : Nat} {l : List Nat} {ag : Array Bool} {st : St} {K : Array Bool → St → Prop} {op : Op} {x : X} {j dj : Nat} {want : Bool} (ho : ops[i]? = some ⟨some d, op, ty, pos, af, some (j, want)⟩)
  (hB : (Region.noSelect ops && Region.free .any ops ag i && (Region.ready .any ops ag).contains i) = true)
  (hj : (ops[j]?).bind (·.dst) = some dj) (rZ : dj < N.n) (hx : look st.aD dj = some (.v (.bool want))) (hy : Yields P N st ⟨some d, op, ty, pos, af, some (j, want)⟩ x) (hd : d < N.n)
  (k : AQ P N ops l0 rest t l (ag.setIfInBounds i true) (st.put d x) K) : AQ P N ops l0 rest t (i :: l) ag st K := by
 intro h4 G hn a w hh
 obtain ⟨E, RR, rfl, hi⟩ := hh
 obtain ⟨u, hr, iw⟩ := hy G E RR a hn hi
 simp only [Bool.and_eq_true] at hB
 obtain ⟨⟨h1, h2⟩, h3⟩ := hB
 have h5 := h4.step (j := i) (by simpa using h3) (by simp)
 rw [List.erase_cons_head] at h5
 have hs := hi.aD dj _ hx
 simp only [RX] at hs
 have fu : dj < a.tmps.size := by rw [hi.tmps, hn]; exact rZ
 have hv : a.tmps[dj]? = some (.bool want) := by
  have := hs.1
  simp only [Array.getD, fu, dif_pos] at this
  rw [Array.getElem?_eq_getElem fu]
  exact congrArg some this
 have hw : Region.wanted ⟨some d, op, ty, pos, af, some (j, want)⟩ (yielded ops a.tmps) = true := by
  simp [Region.wanted, yielded, hj, hv]
 exact m8.first ho h1 l.length l ag a rfl h4 (Region.free_spec ho h2) (by simpa using h3) (v := u) (.inl ⟨hw, .inl hr⟩) (k h5 G hn _ _ ⟨E, _, rfl, hi.g5 (hn ▸ hd) iw⟩)
theorem eN.bT (l rest : List Nat) (t : Nat) {m n : Nat} (hm : m = l.length + n) {ag : Array Bool} {st : St} {K : St → Prop} (hB : GS ops l rest t ag = true)
  (h : AQ P N ops l rest t l ag st (fun rE aT => eN P N ops n rE aT K)) : eN P N ops m ag st K := by
 subst hm
 intro G hn a w hh
 refine m8.any (fun rE a' ⟨aT, hk, gL⟩ => ?_) l.length ag a (h (DV hB) G hn a w hh)
 exact hk G hn a' w gL
end
end Go.AW
namespace Go.AW
open Go
section
variable {P : Program} {N : eL} {st : St} {Q : Exit → St → Prop} {all : Array Oper} {rest : List Oper} {d : Nat} {ty : TypeId} {pos : String} {af : Array Edge}
theorem Inv.jK {G : Ctx} {E : Env} {RR : Own → List Nat} {a : Act} (hi : Inv G E RR st a) {tv : Nat} {x : X} (hy : look st.aD tv = some x) (hd : d < G.fn.n) :
  ∃ fg, Inv G E fg ((st.put tv .no).put d x) (a.put (some d) (a.eval (.tmp tv))) := by
 have hv := hi.aD tv _ hy
 have lL := hi.no tv
 refine ⟨_, lL.put (R := RR (.slot tv)) hd hv (hi.nodup _) (fun b hb => ⟨(hi.own _ _ hb).1, (hi.own _ _ hb).2, fun p _ hp => ?_⟩)⟩
 unfold fH at hp
 split at hp
 ·cases hp
 ·rename_i h; exact hi.apart _ _ h b hp hb
theorem aO.dy {tv : Nat} {x : X} (hy : look st.aD tv = some x) (hd : d < N.n) (k : aO P N all rest ((st.put tv .no).put d x) Q) :
  aO P N all (⟨some d, .assign (.tmp tv), ty, pos, af, none⟩ :: rest) st Q :=
 aO.AZ (fun G E RR a hn hi => let ⟨fg, h⟩ := hi.jK hy (by rw [hn]; exact hd); ⟨a.eval (.tmp tv), E, fg, rfl, h⟩) k
theorem aO.jK {tv : Nat} {x : X} (hy : look st.aD tv = some x) (hd : d < N.n) (k : aO P N all rest ((st.put tv .no).put d x) Q) :
  aO P N all (⟨some d, .move (.tmp tv), ty, pos, af, none⟩ :: rest) st Q :=
 aO.AZ (fun G E RR a hn hi => let ⟨fg, h⟩ := hi.jK hy (by rw [hn]; exact hd); ⟨a.eval (.tmp tv), E, fg, rfl, h⟩) k
theorem ej.yx {E : Env} : ∀ {xs : List X} {cs : List Value} {R : List Nat} {k : Nat} {x : X}, ej E xs cs R → xs[k]? = some x →
  ∃ u Ra Rk Rb, cs[k]? = some u ∧ RX E x u Rk ∧ R = Ra ++ (Rk ++ Rb) ∧ ej E (xs.set k .no) cs (Ra ++ Rb)
 | [], _, _, _, _, _, h => by simp at h
 | y :: r, cs, R, 0, x, h, hx => by
  simp only [ej] at h
  simp only [List.getElem?_cons_zero, Option.some.injEq] at hx
  subst hx
  obtain ⟨c, di, R₁, R₂, rfl, h1, h2, rfl⟩ := h
  refine ⟨c, [], R₁, R₂, rfl, h1, rfl, ?_⟩
  simp only [List.set_cons_zero, ej, List.nil_append]
  exact ⟨c, di, [], R₂, rfl, by simp [RX], h2, rfl⟩
 | y :: r, cs, R, k + 1, x, h, hx => by
  simp only [ej] at h
  obtain ⟨c, di, R₁, R₂, rfl, h1, h2, rfl⟩ := h
  obtain ⟨u, Ra, Rk, Rb, hu, h3, rfl, h4⟩ := ej.yx (k := k) h2 (by simpa using hx)
  refine ⟨u, R₁ ++ Ra, Rk, Rb, by simpa using hu, h3, by simp, ?_⟩
  simp only [List.set_cons_succ, ej]
  exact ⟨c, di, R₁, Ra ++ Rb, rfl, h1, h4, by simp⟩
theorem aO.e6 {tv : Nat} {xs : List X} {y : X} {k : Nat} (hx : look st.aD tv = some (.tup xs)) (hy : xs[k]? = some y) (hd : d < N.n)
  (kk : aO P N all rest ((st.put tv (.tup (xs.set k .no))).put d y) Q) : aO P N all (⟨some d, .extract (.tmp tv) k, ty, pos, af, none⟩ :: rest) st Q := by
 refine aO.AZ (fun G E RR a hn hi => ?_) kk
 have hp := hi.aD tv _ hx
 have iV := hi.nodup (.slot tv)
 simp only [RX] at hp
 obtain ⟨cs, hc, fx⟩ := hp
 obtain ⟨u, Ra, Rk, Rb, hu, h1, hR, h2⟩ := ej.yx fx hy
 have dz : ∀ b ∈ Ra ++ Rb, b ∈ RR (.slot tv) := by
  intro b hb
  rw [hR]
  rcases List.mem_append.1 hb with h | h
  ·exact cJ h
  ·exact cA (cA h)
 have Bv : ∀ b ∈ Rk, b ∈ RR (.slot tv) := fun b hb => by rw [hR]; exact cA (cJ hb)
 rw [hR, List.nodup_append, List.nodup_append] at iV
 obtain ⟨sa, ⟨RL, GP, No⟩, Gw⟩ := iV
 have JM : (Ra ++ Rb).Nodup := List.nodup_append.2 ⟨sa, GP, fun x hx y hy => Gw x hx y (cA hy)⟩
 have lL := hi.relabel (d := tv) (x := .tup (xs.set k .no)) (R := Ra ++ Rb) (by simp only [RX]; exact ⟨cs, hc, h2⟩) JM
  (fun b hb => ⟨(hi.own _ _ (dz b hb)).1, (hi.own _ _ (dz b hb)).2, fun p hp yY => hi.apart p (.slot tv) hp b yY (dz b hb)⟩)
 refine ⟨u, E, _, ?_, lL.put (R := Rk) (by rw [hn]; exact hd) h1 RL (fun b hb => ⟨(hi.own _ _ (Bv b hb)).1, (hi.own _ _ (Bv b hb)).2, fun p _ yY => ?_⟩)⟩
 ·show (do let z ← Instr.extract (a.eval (.tmp tv)) k; pure (Next.value z) : Sem Next).run P E.w = _
  have oz : a.eval (.tmp tv) = .tuple cs := hc
  rw [oz]
  refine dJ ?_
  have yT : cs[k]? = some u := by simpa using hu
  simp only [Instr.extract, yT]; rfl
 ·unfold fH at yY
  split at yY
  ·rcases List.mem_append.1 yY with h | h
   ·exact Gw b h b (cJ hb) rfl
   ·exact No b hb b h rfl
  ·rename_i h; exact hi.apart _ _ h b yY (Bv b hb)
end
end Go.AW
namespace Go.AW
open Go
section
variable {P : Program} {N : eL} {st : St} {Q : Exit → St → Prop} {all : Array Oper} {rest : List Oper} {d : Nat} {ty : TypeId} {pos : String} {af : Array Edge}
theorem aO.u6 {f : FuncId} {cB : Array Operand} {mT : Array TypeId} {xs args : List X} {Q' : X → List Obj → Prop} (L : List Nat) (j9 : aP P f = true) (fi : au P f args [] [] Q')
  (fx : kg st cB.toList = some xs) (dO : dK st L (bQ []) xs args) (h0 : ∀ o ∈ L, ∃ ob, look st.aG o = some ob ∧ iC ob) (hd : d < N.n)
  (k : ∀ r, Q' r [] → r.lt 0 = true ∧ r.plain ∧ aO P N all rest (st.put d (r.fQ (bQ []))) Q) :
  aO P N all (⟨some d, .call ⟨.value (.func f), cB, mT⟩, ty, pos, af, none⟩ :: rest) st Q := by
 refine aO.call [] L j9 fi fx dO (fun j ob h => by simp at h) rfl List.nodup_nil (fun _ _ h => by cases h) h0 (fun _ h => by cases h) hd ?_
 intro r bn hq hl
 have : bn = [] := List.eq_nil_of_length_eq_zero hl
 subst this
 obtain ⟨h1, h2, h3⟩ := k r hq
 refine ⟨⟨h1, fun _ h => (by cases h), .inr ⟨h2, fun _ h => (by cases h)⟩⟩, ?_⟩
 rw [lT]; exact h3
end
end Go.AW
namespace Go.AW
open Go
mutual
def X.oT (o : Nat) (row : List X) : X → X
 | .ptr p s i k => bif Nat.beq p o && Nat.beq (i * s) 0 then .fp row k else .ptr p s i k
 | .agg xs => .agg (X.lV o row xs)
 | .tup xs => .tup (X.lV o row xs)
 | .gB f a b => .gB f (X.lV o row a) (X.lV o row b)
 | .v u => .v u
 | .no => .no
 | .fz s rs => .fz s rs
 | .ei s rs => .ei s rs
 | .ba p s l n => .ba p s l n
 | .mref p => .mref p
 | .fp r k => .fp r k
def X.lV (o : Nat) (row : List X) : List X → List X
 | [] => []
 | x :: r => X.oT o row x :: X.lV o row r
end
def Obj.oT (o : Nat) (row : List X) : Obj → Obj
 | .cells xs => .cells (X.lV o row xs)
 | ob => ob
mutual
theorem X.Bw {o : Nat} {row : List X} : ∀ {x : X}, x.free = true → (x.oT o row).free = true
 | .ptr p s i k, _ => by
  simp only [X.oT]
  cases Nat.beq p o && Nat.beq (i * s) 0 <;> rfl
 | .agg xs, h => X.lW (xs := xs) h
 | .tup xs, h => X.lW (xs := xs) h
 | .gB f a b, _ => rfl
 | .v u, _ | .no, _ | .fz s rs, _ | .ba p s l n, _ | .mref p, _ | .fp r k, _ => rfl
theorem X.lW {o : Nat} {row : List X} : ∀ {xs : List X}, X.b9 xs = true → X.b9 (X.lV o row xs) = true
 | [], _ => rfl
 | x :: r, h => by
  simp only [X.b9, Bool.and_eq_true] at h
  simp only [X.lV, X.b9, X.Bw h.1, X.lW h.2, Bool.and_self]
end
theorem X.vG {o : Nat} {row : List X} : ∀ {xs : List X}, (X.lV o row xs).length = xs.length
 | [] => rfl
 | x :: r => by simp [X.lV, X.vG (xs := r)]
mutual
theorem RX.oT {E E' : Env} {o : Nat} {row : List X} {B : AF} (hB : E.β o = some B) (hF : RF E' row B.b B.off) (hβ : E'.β = E.β) : ∀ (x : X) (c : Value) (R : List Nat), E.On E' R → RX E x c R → RX E' (x.oT o row) c R
 | .ptr p s i k, c, R, hE, h => by
  simp only [X.oT]
  cases hc : Nat.beq p o && Nat.beq (i * s) 0 with
  | false => simp only [cond_false]; exact RX.mono _ c R hE (fun q _ => by rw [hβ]) h
  | true =>
   simp only [Bool.and_eq_true] at hc
   have h1 := Nat.eq_of_beq_eq_true hc.1
   have h2 := Nat.eq_of_beq_eq_true hc.2
   subst h1
   simp only [cond_true, RX] at h ⊢
   obtain ⟨hR, B', iz, rfl⟩ := h
   rw [hB] at iz
   obtain rfl := Option.some.inj iz
   exact ⟨hR, B.b, B.off, by rw [h2, Nat.zero_add], hF⟩
 | .agg xs, c, R, hE, h => by
  simp only [RX, X.oT] at h ⊢
  obtain ⟨cs, hc, hs⟩ := h
  exact ⟨cs, hc, bz.oT hB hF hβ xs _ R hE hs⟩
 | .tup xs, c, R, hE, h => by
  simp only [RX, X.oT] at h ⊢
  obtain ⟨cs, hc, hs⟩ := h
  exact ⟨cs, hc, ej.oT hB hF hβ xs _ R hE hs⟩
 | .gB fn a b, c, R, hE, h => by
  simp only [RX, X.oT] at h ⊢
  obtain ⟨hR, f, cc, hc, h1, h2⟩ := h
  exact ⟨hR, f, cc, hc, ej.oT hB hF hβ a _ [] (hE.sub (by simp)) h1, ej.oT hB hF hβ b _ [] (hE.sub (by simp)) h2⟩
 | .v u, c, R, hE, h => RX.mono (.v u) c R hE (fun q _ => by rw [hβ]) h
 | .no, c, R, hE, h => RX.mono .no c R hE (fun q _ => by rw [hβ]) h
 | .fz s rs, c, R, hE, h => RX.mono (.fz s rs) c R hE (fun q _ => by rw [hβ]) h
 | .ei s rs, c, R, hE, h => RX.mono (.ei s rs) c R hE (fun q _ => by rw [hβ]) h
 | .ba p s l n, c, R, hE, h => RX.mono (.ba p s l n) c R hE (fun q _ => by rw [hβ]) h
 | .mref p, c, R, hE, h => RX.mono (.mref p) c R hE (fun q _ => by rw [hβ]) h
 | .fp r k, c, R, hE, h => RX.mono (.fp r k) c R hE (fun q _ => by rw [hβ]) h
theorem bz.oT {E E' : Env} {o : Nat} {row : List X} {B : AF} (hB : E.β o = some B) (hF : RF E' row B.b B.off) (hβ : E'.β = E.β) : ∀ (xs : List X) (cs : List Value) (R : List Nat), E.On E' R → bz E xs cs R → bz E' (X.lV o row xs) cs R
 | [], _, _, _, h => by simpa [bz, X.lV] using h
 | x :: r, cs, R, hE, h => by
  simp only [bz, X.lV] at h ⊢
  obtain ⟨c, di, R₁, R₂, hc, hs, h1, h2, hR⟩ := h
  subst hR
  exact ⟨c, di, R₁, R₂, hc, hs, RX.oT hB hF hβ x c R₁ (hE.sub (fun _ h => cJ h)) h1, bz.oT hB hF hβ r di R₂ (hE.sub (fun _ h => cA h)) h2, rfl⟩
theorem ej.oT {E E' : Env} {o : Nat} {row : List X} {B : AF} (hB : E.β o = some B) (hF : RF E' row B.b B.off) (hβ : E'.β = E.β) : ∀ (xs : List X) (cs : List Value) (R : List Nat), E.On E' R → ej E xs cs R → ej E' (X.lV o row xs) cs R
 | [], _, _, _, h => by simpa [ej, X.lV] using h
 | x :: r, cs, R, hE, h => by
  simp only [ej, X.lV] at h ⊢
  obtain ⟨c, di, R₁, R₂, hc, h1, h2, hR⟩ := h
  subst hR
  exact ⟨c, di, R₁, R₂, hc, RX.oT hB hF hβ x c R₁ (hE.sub (fun _ h => cJ h)) h1, ej.oT hB hF hβ r di R₂ (hE.sub (fun _ h => cA h)) h2, rfl⟩
theorem RO.oT {E E' : Env} {o : Nat} {row : List X} {B : AF} (hB : E.β o = some B) (hF : RF E' row B.b B.off) (hβ : E'.β = E.β) : ∀ (xs : List X) (cs : Array Value) (off : Nat) (R : List Nat), E.On E' R → RO E xs cs off R → RO E' (X.lV o row xs) cs off R
 | [], _, _, _, _, h => by simpa [RO, X.lV] using h
 | x :: r, cs, off, R, hE, h => by
  simp only [RO, X.lV] at h ⊢
  obtain ⟨u, R₁, R₂, hu, hs, h1, h2, hR⟩ := h
  subst hR
  exact ⟨u, R₁, R₂, hu, hs, RX.oT hB hF hβ x u R₁ (hE.sub (fun _ h => cJ h)) h1, RO.oT hB hF hβ r cs (off + 1) R₂ (hE.sub (fun _ h => cA h)) h2, rfl⟩
end
def Np (o : Nat) (row : List X) (l : List (Nat × X)) : List (Nat × X) := l.map fun p => (p.1, p.2.oT o row)
def Nq (o : Nat) (row : List X) (l : List (Nat × Obj)) : List (Nat × Obj) := l.map fun p => (p.1, p.2.oT o row)
theorem pR {α β : Type} {f : α → β} : ∀ {l : List (Nat × α)} {s : Nat} {y : β}, look (l.map fun p => (p.1, f p.2)) s = some y → ∃ x, look l s = some x ∧ y = f x
 | [], _, _, h => by cases h
 | (t, x) :: r, s, y, h => by
  simp only [List.map_cons, look] at h ⊢
  cases hb : Nat.beq t s with
  | true => rw [hb] at h; simp only [cond_true, Option.some.injEq] at h ⊢; exact ⟨x, rfl, h.symm⟩
  | false => rw [hb] at h; simp only [cond_false] at h ⊢; exact pR h
section
variable {N : eL} {st : St}
theorem Sh.cW (o : Nat) {xs : List X} (ho : look st.aG o = some (.cells xs)) (hn : X.gA xs = true) : Sh N st ⟨Np o xs st.aD, (o, .gone) :: Nq o xs st.aG⟩ := by
 intro G _ a w hh
 obtain ⟨E, RR, rfl, hi⟩ := hh
 have dm := hi.aG o _ ho
 simp only [dG] at dm
 obtain ⟨rC, B, cs, ty, hB, hw, hφ, hlen, jB, ir⟩ := dm
 have fW : ∀ i v, cs[i]? = some v → (E.cw (fun b => b = B.b)).φ B.b i = some v := by
  intro i v h
  rw [jQ E (LB := fun b => b = B.b) rfl]
  unfold World.cell?
  simp [hw, h]
 have hle : ∀ c i v, E.φ c i = some v → (E.cw (fun b => b = B.b)).φ c i = some v := by
  intro c i v h
  by_cases hc : c = B.b
  ·subst hc; rw [hφ i] at h; cases h
  ·rw [fh E (LB := fun b => b = B.b) hc]; exact h
 have hF : RF (E.cw (fun b => b = B.b)) xs B.b B.off := by
  have h1 := RO.lU (E := E) (E' := E.cw (fun b => b = B.b)) xs cs B.b B.off [] fW ⟨rfl, rfl, hle, fun _ h => by cases h⟩ hn jB
  rw [X.kj rC] at h1
  exact h1
 have mK : ∀ p, p ≠ .obj o → B.b ∉ RR p := fun p hp hb => hi.apart p (.obj o) hp _ hb (by rw [ir]; simp)
 have gx : ∀ p, p ≠ .obj o → E.On (E.cw (fun b => b = B.b)) (RR p) := by
  intro p hp
  refine ⟨hle, fun c hc => ⟨rfl, fun h i => ?_⟩⟩
  rw [fh E (LB := fun b => b = B.b) (fun e => mK p hp (e ▸ hc))]; exact h i
 have qR : B.b ∈ RR (.obj o) := by rw [ir]; simp
 have m9 : ∀ p, p ≠ .obj o → fH RR (.obj o) [] p = RR p := fun p hp => by simp [fH, hp]
 have dz : ∀ p, ∀ b ∈ fH RR (.obj o) [] p, b ∈ RR p := by
  intro p b hb
  unfold fH at hb
  split at hb
  ·cases hb
  ·exact hb
 refine ⟨E.cw (fun b => b = B.b), fH RR (.obj o) [], rfl, { hi with kR := ?_, aD := ?_, aG := ?_, nodup := ?_, apart := ?_, own := ?_, φ0 := ?_, grow := ?_ }⟩
 ·intro c i v h
  by_cases hc : c = B.b
  ·rw [jQ E (LB := fun b => b = B.b) hc] at h; exact h
  ·rw [fh E (LB := fun b => b = B.b) hc] at h; exact hi.kR c i v h
 ·intro s x hx
  obtain ⟨y, hy, rfl⟩ := pR (f := X.oT o xs) hx
  rw [m9 _ (by simp)]
  exact RX.oT hB hF rfl y _ _ (gx _ (by simp)) (hi.aD s y hy)
 ·intro q ob dm
  simp only [look] at dm
  cases hq : Nat.beq o q with
  | true =>
   rw [hq] at dm
   simp only [cond_true, Option.some.injEq] at dm
   obtain rfl := Nat.eq_of_beq_eq_true hq
   subst dm
   simp [dG, fH]
  | false =>
   rw [hq] at dm
   simp only [cond_false] at dm
   have ew : q ≠ o := fun e => by subst e; simp at hq
   obtain ⟨wB, DQ, rfl⟩ := pR (f := Obj.oT o xs) dm
   rw [m9 _ (by simp [ew])]
   have h1 := hi.aG q wB DQ
   have ti := gx (.obj q) (by simp [ew])
   cases wB with
   | cells ys =>
    simp only [dG, Obj.oT] at h1 ⊢
    obtain ⟨h1, B', di, Qu, h2, h3, h4, h5, h6, h7⟩ := h1
    exact ⟨X.lW h1, B', di, Qu, h2, h3, (ti.2 B'.b (by rw [h7]; simp)).2 h4, by rw [X.vG]; exact h5, RO.oT hB hF rfl ys di _ [] (ti.sub (fun _ h => by cases h)) h6, h7⟩
   | rows s rs => exact dG.mono ti rfl (fun _ _ _ _ => rfl) h1
   | wA es => exact dG.mono ti rfl (fun _ _ _ _ => rfl) h1
   | gone => exact dG.mono ti rfl (fun _ _ _ _ => rfl) h1
 ·intro p
  unfold fH
  split
  ·exact List.nodup_nil
  ·exact hi.nodup p
 ·intro p q lr b hb gq
  exact hi.apart p q lr b (dz p b hb) (dz q b gq)
 ·intro p b hb
  exact hi.own p b (dz p b hb)
 ·intro c i v h
  exact hle c i v (hi.φ0 c i v h)
 ·intro c i v h
  by_cases hc : c = B.b
  ·subst hc; exact .inr (hi.own _ _ qR).2
  ·rw [fh E (LB := fun b => b = B.b) hc] at h; exact hi.grow c i v h
end
section
variable {P : Program} {N : eL} {st : St} {Q : Exit → St → Prop} {all : Array Oper} {rest : List Oper} {dst : Option Nat} {d : Nat} {ty : TypeId} {pos : String} {af : Array Edge} {g : Option (Nat × Bool)}
theorem sb {G : Ctx} {E : Env} {RR : Own → List Nat} {a : Act} (hi : Inv G E RR st a) : ∀ {l : List Operand} {xs : List X}, kg st l = some xs → X.b9 xs = true → ej E xs (l.map a.eval) []
 | [], xs, h, _ => by simp only [kg, Option.some.injEq] at h; subst h; simp [ej]
 | o :: r, xs, h, hf => by
  simp only [kg] at h
  cases h1 : bS st o with
  | none => simp [h1] at h
  | some y =>
   cases h2 : kg st r with
   | none => simp [h1, h2] at h
   | some ys =>
    rw [h1, h2] at h
    simp only [Option.some.injEq] at h
    subst h
    simp only [X.b9, Bool.and_eq_true] at hf
    obtain ⟨R, hR⟩ := hi.eval h1
    have h0 := RX.free hf.1 hR
    subst h0
    simp only [List.map_cons, ej]
    exact ⟨_, _, [], [], rfl, hR, sb hi h2 hf.2, rfl⟩
theorem Y.zd {fn : Fn} {first kW : Array Operand} {xs ys : List X} (hx : kg st first.toList = some xs) (hy : kg st kW.toList = some ys) (DD : X.b9 xs = true) (RM : X.b9 ys = true) :
  Yields P N st ⟨dst, .makeFunc fn first kW, ty, pos, af, g⟩ (.gB fn xs ys) := by
 intro G E RR a _ hi
 refine ⟨.func fn (first.map a.eval) (kW.map a.eval), rfl, ?_⟩
 simp only [RX]
 refine ⟨trivial, _, _, rfl, ?_, ?_⟩
 ·rw [Array.toList_map]; exact sb hi hx DD
 ·rw [Array.toList_map]; exact sb hi hy RM
theorem aO.GU {f : FuncId} {x : Operand} {cB : Array Operand} {mT : Array TypeId} {kW xs args : List X} {aG : List Obj} {F : List Nat} {Q' : X → List Obj → Prop} (ν L : List Nat) (hx : bS st x = some (.gB (.func f) [] kW)) (j9 : aP P f = true) (fi : au P f args aG F Q')
  (fx : kg st cB.toList = some xs) (dO : dK st L (bQ ν) (xs ++ kW) args) (oZ : oA st (bQ ν) 0 aG) (hlen : ν.length = aG.length) (Bj : ν.Nodup) (DM : ∀ o ∈ L, o ∉ ν)
  (h0 : ∀ o ∈ L, ∃ ob, look st.aG o = some ob ∧ iC ob) (DN : ∀ o ∈ loose ν F, N.F.elem o = false) (hd : d < N.n)
  (k : ∀ r bn, Q' r bn → bn.length = aG.length → (r.lt aG.length = true ∧ (∀ ob ∈ bn, ob.lt aG.length = true) ∧ (L = [] ∨ (r.plain ∧ ∀ ob ∈ bn, ob.plain))) ∧ aO P N all rest ((nf st ν F bn).put d (r.fQ (bQ ν))) Q) :
  aO P N all (⟨some d, .call ⟨.value x, cB, mT⟩, ty, pos, af, none⟩ :: rest) st Q := by
 intro G hn a w hh
 obtain ⟨E, RR, rfl, hi⟩ := hh
 obtain ⟨Rx, DD⟩ := hi.eval hx
 simp only [RX] at DD
 obtain ⟨_, ff, cc, Nr, Fx, I7⟩ := DD
 simp only [ej] at Fx
 have Bx : ff = #[] := by
  have := Fx.1
  cases ff; simp_all
 subst Bx
 obtain ⟨xd, Fs⟩ := oY hi fx
 have DC : kW.length = cc.toList.length := by
  have : ∀ {l : List X} {c : List Value} {R : List Nat}, ej E l c R → l.length = c.length := by
   intro l
   induction l with
   | nil => intro c R h; simp only [ej] at h; rw [h.1]; rfl
   | cons y r ih =>
    intro c R h
    simp only [ej] at h
    obtain ⟨_, c', _, _, rfl, _, h2, _⟩ := h
    simp [ih h2]
  exact this I7
 have hc := hi.Fq (vs := cB.toList.map a.eval ++ cc.toList) fi (by simp only [List.length_append, List.length_map]; omega) (fun j y hy => by
  rcases Nat.lt_or_ge j xs.length with hj | hj
  ·rw [List.getElem?_append_left hj] at hy
   obtain ⟨o, ho, R, hR⟩ := Fs j y hy
   exact ⟨a.eval o, by rw [List.getElem?_append_left (by rw [List.length_map]; omega)]; simp [ho], R, hR⟩
  ·rw [List.getElem?_append_right hj] at hy
   obtain ⟨u, R, hu, hR⟩ := ej.get I7 hy
   exact ⟨u, by rw [List.getElem?_append_right (by rw [List.length_map]; omega), List.length_map, ← xd]; exact hu, R, hR⟩) dO
  (fun j ob h => by have := oZ.get j ob h; rwa [Nat.zero_add] at this) hlen Bj DM h0 (fun o ho => by rw [hn]; exact DN o ho) (d := d) (by rw [hn]; exact hd)
 have gQ : (execOp a.eval ⟨some d, .call ⟨.value x, cB, mT⟩, ty, pos, af, none⟩).run P E.w = .ok (.enter f (cB.toList.map a.eval ++ cc.toList).toArray) E.w := by
  have e : (execOp a.eval ⟨some d, .call ⟨.value x, cB, mT⟩, ty, pos, af, none⟩).run P E.w = (do let d ← Deferred.ofValue (a.eval x) (cB.map a.eval); invoke d.target d.args : Sem Next).run P E.w := rfl
  rw [e, Nr]
  have e2 : (do let d ← Deferred.ofValue (.func (.func f) #[] cc) (cB.map a.eval); invoke d.target d.args : Sem Next).run P E.w = (callFunc f ((#[] ++ cB.map a.eval) ++ cc)).run P E.w := rfl
  rw [e2, lS j9]
  congr 2
  apply Array.ext'
  simp
 refine wpList_plain rfl fun K hK => ?_
 simp only [Oper.wp, gQ, Oper.upon_enter]
 refine hc.mono ?_
 rintro e w' ⟨v, r, bn, rfl, JE, Dn, Bm⟩
 obtain ⟨⟨h1, h2, h3⟩, hk⟩ := k r bn JE Dn
 obtain ⟨kT, rR, hw, hI⟩ := Bm h1 h2 h3
 exact hK _ _ (hk G hn _ _ ⟨kT, rR, hw, hI⟩)
theorem aO.lX {f : FuncId} {x : Operand} {cB : Array Operand} {mT : Array TypeId} {kW xs args : List X} {R : X} (hx : bS st x = some (.gB (.func f) [] kW)) (j9 : aP P f = true) (fi : au P f args [] [] (fun r o => r = R ∧ o = []))
  (fx : kg st cB.toList = some xs) (dO : dK st [] (bQ []) (xs ++ kW) args) (hd : d < N.n) (iU : R.lt 0 = true)
  (k : aO P N all rest (st.put d R) Q) : aO P N all (⟨some d, .call ⟨.value x, cB, mT⟩, ty, pos, af, none⟩ :: rest) st Q := by
 refine aO.GU [] [] hx j9 fi fx dO trivial rfl List.nodup_nil (fun _ h => by cases h) (fun _ h => by cases h) (fun _ h => by cases h) hd ?_
 rintro r bn ⟨rfl, rfl⟩ _
 refine ⟨⟨iU, fun _ h => (by cases h), .inl rfl⟩, ?_⟩
 rw [lT, X.rD iU]; exact k
end
section
variable {P : Program} {N : eL} {ops : Array Oper} {st : St} {d : Nat} {ag : Array Bool} {n : Nat} {K : St → Prop} {KK : Array Bool → St → Prop} {l0 rest l : List Nat} {t : Nat}
theorem eN.le {aT : St} (hl : Le st aT) (h : eN P N ops n ag aT K) : eN P N ops n ag st K := fun G hn a w hh => h G hn a w (hl.holds hh)
theorem eN.split {b : Bool} (hx : look st.aD d = some (.v (.bool b))) (ht : b = true → eN P N ops n ag (st.put d (.v (.bool true))) K) (hf : b = false → eN P N ops n ag (st.put d (.v (.bool false))) K) : eN P N ops n ag st K := by
 have : Le st (st.put d (.v (.bool b))) := ⟨eM.cons hx (fun _ _ h => h), fun _ _ h => h⟩
 cases b
 ·exact (hf rfl).le this
 ·exact (ht rfl).le this
theorem eN.ax {p : Prop} {inst : Decidable p} (hx : look st.aD d = some (.v (.bool (decide p)))) (ht : p → eN P N ops n ag (st.put d (.v (.bool true))) K) (hf : ¬ p → eN P N ops n ag (st.put d (.v (.bool false))) K) : eN P N ops n ag st K :=
 eN.split hx (fun h => ht (of_decide_eq_true h)) (fun h => hf (of_decide_eq_false h))
theorem AQ.le {aT : St} (hl : Le st aT) (h : AQ P N ops l0 rest t l ag aT KK) : AQ P N ops l0 rest t l ag st KK := fun ho G hn a w hh => h ho G hn a w (hl.holds hh)
theorem AQ.split {b : Bool} (hx : look st.aD d = some (.v (.bool b))) (ht : b = true → AQ P N ops l0 rest t l ag (st.put d (.v (.bool true))) KK) (hf : b = false → AQ P N ops l0 rest t l ag (st.put d (.v (.bool false))) KK) : AQ P N ops l0 rest t l ag st KK := by
 have : Le st (st.put d (.v (.bool b))) := ⟨eM.cons hx (fun _ _ h => h), fun _ _ h => h⟩
 cases b
 ·exact (hf rfl).le this
 ·exact (ht rfl).le this
theorem AQ.ax {p : Prop} {inst : Decidable p} (hx : look st.aD d = some (.v (.bool (decide p)))) (ht : p → AQ P N ops l0 rest t l ag (st.put d (.v (.bool true))) KK) (hf : ¬ p → AQ P N ops l0 rest t l ag (st.put d (.v (.bool false))) KK) : AQ P N ops l0 rest t l ag st KK :=
 AQ.split hx (fun h => ht (of_decide_eq_true h)) (fun h => hf (of_decide_eq_false h))
end
def aK (b : ByteArray) (m : Nat) : Nat := (b.data.toList.getD m 0).toNat
theorem Y.qw {P : Program} {N : eL} {st : St} {dst : Option Nat} {ty : TypeId} {pos : String} {af : Array Edge} {g : Option (Nat × Bool)} {t : TypeId} {x ix : Operand} {b : ByteArray} {k : IntKind} {n : Int} {m : Nat} (ht : P.underlying t = some .string) (hx : bS st x = some (.v (.string b)))
  (wO : bS st ix = some (.v (.int k n))) (hn : n = (m : Int)) (hm : m < b.size) : Yields P N st ⟨dst, .index t x ix, ty, pos, af, g⟩ (.v (.int .u8 ((aK b m : Nat) : Int))) := by
 have h := Y.qv (P := P) (N := N) (st := st) (dst := dst) (ty := ty) (pos := pos) (af := af) (g := g) ht hx wO hn hm
 have e : b[m].toNat = aK b m := by
  unfold aK
  have : b.data.toList.getD m 0 = b[m] := by
   rw [List.getD_eq_getElem?_getD, List.getElem?_eq_getElem (by simpa using hm)]
   rfl
  rw [this]
 rw [e] at h
 exact h
theorem By (b : ByteArray) (m : Nat) : aK b m ≤ 255 := by
 unfold aK
 have := (b.data.toList.getD m 0).toNat_lt
 omega
end Go.AW
namespace Go.AW
open Go
theorem pS (n : Nat) : IntKind.u64.wrap (n : Int) = ((n % 18446744073709551616 : Nat) : Int) := by
 simp [IntKind.wrap, IntKind.bits, IntKind.signed]
theorem vH (n : Nat) (h : n < 18446744073709551616) : IntKind.u64.wrap (n : Int) = (n : Int) := by rw [pS, Nat.mod_eq_of_lt h]
theorem tO (n : Int) (h : 0 ≤ n ∧ n ≤ 18446744073709551615) : IntKind.u64.wrap n = ((n.toNat : Nat) : Int) := by rw [IntWalk.u64_in n h]; omega
theorem vI (n w : Nat) : BitVec.ofInt w (n : Int) = BitVec.ofNat w n := by
 apply BitVec.eq_of_toNat_eq
 simp [BitVec.toNat_ofInt, BitVec.toNat_ofNat]
section
variable {P : Program} {N : eL} {st : St} {dst : Option Nat} {ty : TypeId} {pos : String} {af : Array Edge} {g : Option (Nat × Bool)} {t t' : TypeId} {x y : Operand} {a b : Nat}
theorem Y.qc (hx : bS st x = some (.v (.int .u64 (a : Int)))) (hy : bS st y = some (.v (.int .u64 (b : Int)))) : Yields P N st ⟨dst, .binOp .add t x y t', ty, pos, af, g⟩ (.v (.int .u64 (((a + b) % 18446744073709551616 : Nat) : Int))) :=
 Y.qa hx hy (by rw [← pS]; congr 1)
theorem Y.zj (hx : bS st x = some (.v (.int .u64 (a : Int)))) (hy : bS st y = some (.v (.int .u64 (b : Int)))) : Yields P N st ⟨dst, .binOp .mul t x y t', ty, pos, af, g⟩ (.v (.int .u64 (((a * b) % 18446744073709551616 : Nat) : Int))) :=
 Y.zh hx hy (by rw [← pS]; congr 1)
theorem Y.zq (hx : bS st x = some (.v (.int .u64 (a : Int)))) (hy : bS st y = some (.v (.int .u64 (b : Int)))) (hr : a < 18446744073709551616 ∧ 1 ≤ b) : Yields P N st ⟨dst, .binOp .quo t x y t', ty, pos, af, g⟩ (.v (.int .u64 ((a / b : Nat) : Int))) :=
 Y.zo hx hy om (by
  rw [Int.tdiv_eq_ediv_of_nonneg om, ← Int.natCast_ediv]
  exact vH _ (Nat.lt_of_le_of_lt (Nat.div_le_self a b) hr.1))
theorem Y.zt {k : IntKind} (hx : bS st x = some (.v (.int k (a : Int)))) (hy : bS st y = some (.v (.int k (b : Int)))) (hr : 1 ≤ b) : Yields P N st ⟨dst, .binOp .rem t x y t', ty, pos, af, g⟩ (.v (.int k ((a % b : Nat) : Int))) :=
 Y.zr hx hy om (by rw [Int.tmod_eq_emod_of_nonneg om]; exact (Int.natCast_emod a b).symm)
theorem Y.qe (hx : bS st x = some (.v (.int .u64 (a : Int)))) (hy : bS st y = some (.v (.int .u64 (b : Int)))) (hr : a < 18446744073709551616 ∧ b < 18446744073709551616) : Yields P N st ⟨dst, .binOp .and t x y t', ty, pos, af, g⟩ (.v (.int .u64 ((a &&& b : Nat) : Int))) :=
 Y.qd hx hy (by
  rw [vI, vI, BitVec.toNat_and, BitVec.toNat_ofNat, BitVec.toNat_ofNat, show 2 ^ IntKind.u64.bits = 18446744073709551616 from rfl, Nat.mod_eq_of_lt hr.1, Nat.mod_eq_of_lt hr.2]
  exact vH _ (Nat.lt_of_le_of_lt Nat.and_le_left hr.1))
theorem z7 (a b : Nat) (h : a < 18446744073709551616) : a / 2 ^ (min b 64) = a / 2 ^ b := by
 rcases Nat.le_total b 64 with hb | hb
 ·rw [Nat.min_eq_left hb]
 ·rw [Nat.min_eq_right hb, Nat.div_eq_of_lt h]
  exact (Nat.div_eq_of_lt (Nat.lt_of_lt_of_le h (Nat.pow_le_pow_right (show 0 < 2 by decide) hb))).symm
theorem Y.zv {k' : IntKind} {i : Int} (b : Nat) (hx : bS st x = some (.v (.int .u64 (a : Int)))) (hy : bS st y = some (.v (.int k' i))) (hi : i = (b : Int)) (hr : a < 18446744073709551616) : Yields P N st ⟨dst, .binOp .shr t x y t', ty, pos, af, g⟩ (.v (.int .u64 ((a / 2 ^ b : Nat) : Int))) :=
 Y.zu hx hy om (by
  subst hi
  show (a : Int).fdiv (2 ^ (Min.min b 64)) = _
  have h2 : (0 : Int) ≤ 2 ^ (Min.min b 64) := Int.le_of_lt (Int.pow_pos (show (0 : Int) < 2 by decide))
  rw [← z7 a b hr, Int.fdiv_eq_ediv_of_nonneg _ h2]
  norm_cast)
end
end Go.AW
namespace Go.AW
open Go
section
variable {P : Program} {N : eL} {ops : Array Oper} {st : St} {d : Nat} {ty : TypeId} {pos : String} {af : Array Edge} {K : St → Prop}
theorem eN.aZ {n : Nat} {ag : Array Bool} (i : Nat) {op : Op} {j dj : Nat} {want : Bool} {u : Value} (ho : ops[i]? = some ⟨some d, op, ty, pos, af, some (j, want)⟩)
  (hB : (Region.noSelect ops && Region.free .any ops ag i && (Region.ready .any ops ag).contains i) = true)
  (hj : (ops[j]?).bind (·.dst) = some dj) (rZ : dj < N.n) (hd : d < N.n) (hx : look st.aD dj = some (.v u)) (ew : rT want u = true)
  (k : eN P N ops n (ag.setIfInBounds i true) (st.put d (.v undef)) K) : eN P N ops (n + 1) ag st K := by
 intro G hn a w hh
 obtain ⟨E, RR, rfl, hi⟩ := hh
 simp only [Bool.and_eq_true] at hB
 have hw := ly (all := ops) (dst := some d) (op := op) (ty := ty) (pos := pos) (af := af) hi hj (hn ▸ rZ) hx ew
 refine wpAny_take (v := undef) ho hB.1.1 hB.1.2 hB.2 ?_ (.inr ⟨hw, rfl⟩) (k G hn _ _ ⟨E, _, rfl, hi.g5 (hn ▸ hd) (by simp [RX])⟩)
 intro c a w h
 cases h.1
theorem eN.dQ {n : Nat} {ag : Array Bool} (i : Nat) {op : Op} {x : X} {j dj : Nat} {want : Bool} (ho : ops[i]? = some ⟨some d, op, ty, pos, af, some (j, want)⟩)
  (hB : (Region.noSelect ops && Region.free .any ops ag i && (Region.ready .any ops ag).contains i) = true)
  (hj : (ops[j]?).bind (·.dst) = some dj) (rZ : dj < N.n) (hx : look st.aD dj = some (.v (.bool want))) (hy : aw P N st ⟨some d, op, ty, pos, af, some (j, want)⟩ x) (hd : d < N.n)
  (k : eN P N ops n (ag.setIfInBounds i true) (st.put d x) K) : eN P N ops (n + 1) ag st K := by
 intro G hn a w hh
 obtain ⟨E, RR, rfl, hi⟩ := hh
 obtain ⟨u, hr, iw⟩ := hy G E RR a hn hi
 simp only [Bool.and_eq_true] at hB
 have hs := hi.aD dj _ hx
 simp only [RX] at hs
 have fu : dj < a.tmps.size := by rw [hi.tmps, hn]; exact rZ
 have hv : a.tmps[dj]? = some (.bool want) := by
  have := hs.1
  simp only [Array.getD, fu, dif_pos] at this
  rw [Array.getElem?_eq_getElem fu]
  exact congrArg some this
 have hw : Region.wanted ⟨some d, op, ty, pos, af, some (j, want)⟩ (yielded ops a.tmps) = true := by
  simp [Region.wanted, yielded, hj, hv]
 refine wpAny_take (v := u) ho hB.1.1 hB.1.2 hB.2 ?_ (.inl ⟨hw, hr⟩) (k G hn _ _ ⟨E, _, rfl, hi.g5 (hn ▸ hd) iw⟩)
 intro c a w h
 cases h.1
end
end Go.AW
