/- Part of the abstract walk: contracts, and how the body of a call proves one. -/
import Derived.Test.YtligpghohcfpnaaAWx0
import Derived.StillTail
import Derived.Orders
import Derived.Below
import Derived.Carry
import Derived.Deep.Slices
import Derived.Deep.Fields
import Derived.ChangeSame
import Derived.ChangeSlices
import Derived.SizedLaws
import Derived.Deep.Grids
import Derived.Maps.Keyed
import Derived.DeepKeys4
import Derived.OpenShut
import Derived.Lib.AppendZeros
set_option linter.unusedSimpArgs false
set_option linter.unusedVariables false
set_option linter.unusedSectionVars false
namespace Go.AW
open Go

def dp {α : Type} : Nat → List α → List (Nat × α)
 | _, [] => []
 | i, x :: r => (i, x) :: dp (i + 1) r

theorem q8 {α : Type} : ∀ (l : List α) (i s : Nat), look (dp i l) s = if i ≤ s then l[s - i]? else none
 | [], i, s => by simp [dp, look]
 | x :: r, i, s => by
  simp only [dp, look]
  cases hb : Nat.beq i s with
  | true => have := Nat.eq_of_beq_eq_true hb; subst this; simp
  | false =>
   have e7 := Nat.ne_of_beq_eq_false hb
   simp only [cond_false]
   rw [q8 r (i + 1) s]
   by_cases h : i ≤ s
   ·rw [if_pos h, if_pos om, show s - i = (s - (i + 1)) + 1 by omega]; simp
   ·rw [if_neg h, if_neg om]

theorem fW {α : Type} (l : List α) (s : Nat) : look (dp 0 l) s = l[s]? := by
 rw [q8]; simp

def mJ (K : Nat → Prop) (E : Env) (fn : eC) : Ctx := ⟨K, E.w, E.φ, E.β, fn, []⟩

def az (P : Program) (f : FuncId) (args : List X) (aA : List Obj) (F : List Nat) (Q : X → List Obj → Prop) : Prop :=
 ∀ (K : Nat → Prop) (E : Env) (RR : Own → List Nat) (cF : Array Value), Inv (mJ K E ⟨args.length, F⟩) E RR ⟨dp 0 args, dp 0 aA⟩ ⟨cF, []⟩ →
  Calls P f cF E.w fun e w' => ∃ v r bg, e = .returned v ∧ Q r bg ∧ bg.length = aA.length ∧ ∃ E' eU, E'.w = w' ∧ Inv (mJ K E ⟨1, F⟩) E' eU ⟨[(0, r)], dp 0 bg⟩ ⟨#[v], []⟩

theorem az.mono {P : Program} {f : FuncId} {args : List X} {aA : List Obj} {F : List Nat} {Q Q' : X → List Obj → Prop} (h : az P f args aA F Q) (hq : ∀ r o, Q r o → Q' r o) : az P f args aA F Q' :=
 fun K E RR cF hi => Calls.mono (h K E RR cF hi) fun _ _ ⟨v, r, bg, he, hQ, hl, hx⟩ => ⟨v, r, bg, he, hq _ _ hQ, hl, hx⟩

def sL (P : Program) (st : St) : ResultVar → Option X
 | .tmp t => look st.a9 t
 | .cell a t => match look st.a9 a with
  | some p => match rowAt st p with
   | some row => match TY.shape P t with
    | some none => match row[ko p]? with
     | some y => bif y.free then some y else none
     | none => none
    | some (some m) => bif Nat.ble (ko p + m) row.length && X.bC ((row.drop (ko p)).take m) then some (.agg ((row.drop (ko p)).take m)) else none
    | none => none
   | none => none
  | none => none
def jk (P : Program) (st : St) : List ResultVar → Option (List X)
 | [] => some []
 | r :: rs => match sL P st r, jk P st rs with
  | some x, some xs => some (x :: xs)
  | _, _ => none

def gm : List ResultVar → List Nat
 | [] => []
 | .tmp t :: r => t :: gm r
 | .cell _ _ :: r => gm r

def nR : List X → X
 | [x] => x
 | xs => .tup xs

section
variable {P : Program} {N : eC} {G : Ctx} {E : Env} {RR : Own → List Nat} {st : St} {a : Act}

def nS (tmps : Array Value) (rv : ResultVar) : Sem Value :=
 match rv with
 | .tmp t => pure (tmps.getD t undef)
 | .cell a t => do loadVar t (← asAddr (tmps.getD a undef))

theorem Bt (hi : Inv G E RR st a) {rv : ResultVar} {x : X} (h : sL P st rv = some x) :
  ∃ c R, (nS a.tmps rv).run P E.w = .ok c E.w ∧ RX E x c R ∧ ((∃ t, rv = .tmp t ∧ R = RR (.slot t)) ∨ R = []) := by
 cases rv with
 | tmp t => exact ⟨_, _, rfl, hi.a9 t x h, .inl ⟨t, rfl, rfl⟩⟩
 | cell ad t =>
  simp only [sL] at h
  cases hp : look st.a9 ad with
  | none => simp [hp] at h
  | some p =>
   rw [hp] at h
   simp only at h
   cases pd : rowAt st p with
   | none => simp [pd] at h
   | some row =>
    rw [pd] at h
    simp only at h
    obtain ⟨b, off, hc, gf⟩ := hi.behind (hi.a9 ad p hp) pd
    cases hs : TY.shape P t with
    | none => simp [hs] at h
    | some sh =>
     rw [hs] at h
     cases sh with
     | none =>
      simp only at h
      cases hk : row[ko p]? with
      | none => simp [hk] at h
      | some y =>
       rw [hk] at h
       simp only at h
       cases hf : y.free with
       | false => simp [hf] at h
       | true =>
        rw [hf] at h
        simp only [cond_true, Option.some.injEq] at h
        subst h
        have Bu : ko p < row.length := by
         rcases Nat.lt_or_ge (ko p) row.length with h' | h'
         ·exact h'
         ·simp [List.getElem?_eq_none h'] at hk
        obtain ⟨vs, R', hl, hv, fh⟩ := gf (ko p) 1 om
        rw [getElem?_drop_take_one hk] at fh
        simp only [bz] at fh
        obtain ⟨c, dg, R₁, R₂, Bl, _, h1, ⟨rfl, rfl⟩, rfl⟩ := fh
        subst Bl
        have h0 := RX.free hf h1
        subst h0
        refine ⟨c, [], ?_, h1, .inr rfl⟩
        have fE := hv 0 c rfl
        simp only [Nat.add_zero] at fE
        simp [nS, hc, asAddr, loadVar, (TY.g5 hs E.w).1, fE]
     | some m =>
      simp only at h
      cases hb : Nat.ble (ko p + m) row.length && X.bC ((row.drop (ko p)).take m) with
      | false => simp [hb] at h
      | true =>
       rw [hb] at h
       simp only [cond_true, Option.some.injEq] at h
       subst h
       simp only [Bool.and_eq_true] at hb
       obtain ⟨vs, R', hl, hv, fh⟩ := gf (ko p) m (Nat.le_of_ble_eq_true hb.1)
       have h0 := bz.free hb.2 fh
       subst h0
       refine ⟨.agg vs.toArray, [], ?_, by simp only [RX]; exact ⟨_, rfl, fh⟩, .inr rfl⟩
       obtain ⟨h1, h2⟩ := TY.l6 hs E.w
       have h3 : (loadCells ⟨b, off + ko p, none⟩ m).run P E.w = .ok vs.toArray E.w := by
        rw [← hl]
        exact run_loadCells_list (w := E.w) _ vs fun j v hj => by rw [gS, Nat.add_assoc]; exact hv j v hj
       simp [nS, hc, asAddr, loadVar, h1, h2, h3]

theorem sM (hi : Inv G E RR st a) : ∀ {mr : List ResultVar} {xs : List X}, jk P st mr = some xs → (gm mr).Nodup →
  ∃ cs R, (mr.mapM (nS a.tmps)).run P E.w = .ok cs E.w ∧ dZ E xs cs R ∧ R.Nodup ∧ (∀ b ∈ R, ∃ t ∈ gm mr, b ∈ RR (.slot t))
 | [], xs, h, _ => by
  simp only [jk, Option.some.injEq] at h
  subst h
  exact ⟨[], [], rfl, by simp [dZ], List.nodup_nil, fun _ h => by cases h⟩
 | rv :: mr, xs, h, hn => by
  simp only [jk] at h
  cases h1 : sL P st rv with
  | none => simp [h1] at h
  | some x =>
   cases h2 : jk P st mr with
   | none => simp [h1, h2] at h
   | some ys =>
    rw [h1, h2] at h
    simp only [Option.some.injEq] at h
    subst h
    have pN : (gm mr).Nodup := by
     cases rv with
     | tmp t => exact (List.nodup_cons.1 hn).2
     | cell _ _ => exact hn
    obtain ⟨c, R1, Pz, Oh, ph⟩ := Bt hi h1
    obtain ⟨cs, R2, Gc, KE, tV, tS⟩ := sM hi h2 pN
    refine ⟨c :: cs, R1 ++ R2, ?_, ?_, ?_, ?_⟩
    ·rw [List.mapM_cons]
     refine iR Pz ?_
     refine iR Gc rfl
    ·simp only [dZ]; exact ⟨c, cs, R1, R2, rfl, Oh, KE, rfl⟩
    ·rcases ph with ⟨t, rfl, rfl⟩ | rfl
     ·rw [List.nodup_append]
      refine ⟨hi.nodup _, tV, fun b hb b' fV e => ?_⟩
      subst e
      obtain ⟨t', KF, rL⟩ := tS b fV
      have e7 : t ≠ t' := fun e => by subst e; exact (List.nodup_cons.1 hn).1 KF
      exact hi.apart (.slot t) (.slot t') (by simpa using e7) b hb rL
     ·simpa using tV
    ·intro b hb
     rcases List.mem_append.1 hb with hb | hb
     ·rcases ph with ⟨t, rfl, rfl⟩ | rfl
      ·exact ⟨t, by simp [gm], hb⟩
      ·cases hb
     ·obtain ⟨t, ht, fV⟩ := tS b hb
      refine ⟨t, ?_, fV⟩
      cases rv with
      | tmp t' => exact List.mem_cons.2 (.inr ht)
      | cell _ _ => exact ht

def iK (l : List (Nat × Obj)) : Nat → Nat → Option (List Obj)
 | _, 0 => some []
 | i, k + 1 => match look l i, iK l (i + 1) k with
  | some ob, some r => some (ob :: r)
  | _, _ => none

theorem l9 : ∀ {l : List (Nat × Obj)} {k i : Nat} {r : List Obj}, iK l i k = some r → r.length = k ∧ ∀ j, j < k → look l (i + j) = r[j]?
 | _, 0, _, r, h => by simp only [iK, Option.some.injEq] at h; subst h; exact ⟨rfl, fun j hj => by omega⟩
 | l, k + 1, i, r, h => by
  simp only [iK] at h
  cases h1 : look l i with
  | none => simp [h1] at h
  | some ob =>
   cases h2 : iK l (i + 1) k with
   | none => simp [h1, h2] at h
   | some r' =>
    rw [h1, h2] at h
    simp only [Option.some.injEq] at h
    subst h
    obtain ⟨hl, hg⟩ := l9 h2
    refine ⟨by simp [hl], fun j hj => ?_⟩
    cases j with
    | zero => simpa using h1
    | succ j =>
     have := hg j om
     rw [show i + (j + 1) = i + 1 + j by omega, this]; simp

def Ends (P : Program) (mr : List ResultVar) (k : Nat) (Q : X → List Obj → Prop) : Exit → St → Prop
 | .normal, st | .ret, st => ∃ xs bg, jk P st mr = some xs ∧ iK st.aA 0 k = some bg ∧ Q (nR xs) bg
 | _, _ => False

theorem Inv.enter {fn : Func} {args : List X} {aA : List Obj} {F : List Nat} {n : Nat} {K : Nat → Prop} {E : Env} {RR : Own → List Nat} {cF : Array Value} (hn : fn.ntmps = n) (hle : args.length ≤ n) (hi : Inv (mJ K E ⟨args.length, F⟩) E RR ⟨dp 0 args, dp 0 aA⟩ ⟨cF, []⟩) :
  Inv (mJ K E ⟨n, F⟩) E RR ⟨dp 0 args, dp 0 aA⟩ ⟨cF ++ Array.replicate (fn.ntmps - cF.size) undef, []⟩ := by
 have rI : cF.size = args.length := hi.tmps
 refine { hi with a9 := ?_, tmps := ?_, defers := rfl }
 ·intro s x hx
  have h0 := hi.a9 s x hx
  have hs : s < cF.size := by
   rw [rI]
   have gR : look (dp 0 args) s = some x := hx
   rw [fW] at gR
   rcases Nat.lt_or_ge s args.length with h' | h'
   ·exact h'
   ·simp [List.getElem?_eq_none h'] at gR
  have : (cF ++ Array.replicate (fn.ntmps - cF.size) undef).getD s undef = cF.getD s undef := by
   simp only [Array.getD_eq_getD_getElem?, Array.getElem?_append_left hs]
  show RX E x ((cF ++ Array.replicate (fn.ntmps - cF.size) undef).getD s undef) (RR (.slot s))
  rw [this]; exact h0
 ·show (cF ++ Array.replicate (fn.ntmps - cF.size) undef).size = n
  simp; omega
theorem tW {fn : Func} {aA : List Obj} {F : List Nat} {Q : X → List Obj → Prop} {n : Nat} {mr : List ResultVar} {K : Nat → Prop} {E E' : Env} {eU : Own → List Nat} {st : St} {a : Act} (hr : fn.results.toList = mr) (iw : (gm mr).Nodup) (h1 : Inv (mJ K E ⟨n, F⟩) E' eU st a) :
  (∃ xs bg, jk P st mr = some xs ∧ iK st.aA 0 aA.length = some bg ∧ Q (nR xs) bg) → a.defers = [] ∧ ∃ v, (results fn a.tmps).run P E'.w = .ok v E'.w ∧
   ∃ v' r bg, Ending.returned v = .returned v' ∧ Q r bg ∧ bg.length = aA.length ∧ ∃ kx q9, kx.w = E'.w ∧ Inv (mJ K E ⟨1, F⟩) kx q9 ⟨[(0, r)], dp 0 bg⟩ ⟨#[v'], []⟩ := by
 rintro ⟨xs, bg, vm, mu, hQ⟩
 obtain ⟨hlen, za⟩ := l9 mu
 have kS : ∀ j, j < aA.length → look st.aA j = bg[j]? := fun j hj => by have := za j hj; rwa [Nat.zero_add] at this
 refine ⟨h1.defers, ?_⟩
 obtain ⟨cs, R, g7, hx, Hq, KG⟩ := sM h1 vm iw
 have qA : (results fn a.tmps).run P E'.w = .ok (if h : cs.toArray.size = 1 then cs.toArray[0] else .tuple cs.toArray) E'.w := by
  have e : results fn a.tmps = (do let vs ← fn.results.mapM (nS a.tmps); Pure.pure (if h : vs.size = 1 then vs[0] else .tuple vs) : Sem Value) := rfl
  rw [e, show fn.results = mr.toArray by rw [← hr]]
  refine iR (u := cs.toArray) ?_ rfl
  rw [List.mapM_toArray]
  simp only [Sem.run_map, g7]
  rfl
 refine ⟨_, qA, _, nR xs, bg, rfl, hQ, hlen, ?_⟩
 have KH : RX E' (nR xs) (if h : cs.toArray.size = 1 then cs.toArray[0] else .tuple cs.toArray) R := by
  cases xs with
  | nil =>
   simp only [dZ] at hx
   obtain ⟨rfl, rfl⟩ := hx
   simp only [nR, RX]
   exact ⟨#[], by simp, by simp [dZ]⟩
  | cons x xs =>
   cases xs with
   | nil =>
    simp only [dZ] at hx
    obtain ⟨c, dg, R₁, R₂, rfl, h1, ⟨rfl, rfl⟩, rfl⟩ := hx
    simpa [nR] using h1
   | cons y ys =>
    have gR := hx
    simp only [dZ] at hx
    obtain ⟨c, dg, R₁, R₂, rfl, _, ⟨c', DX, R₃, R₄, rfl, _⟩, _⟩ := hx
    simp only [nR, RX]
    exact ⟨(c :: c' :: DX).toArray, by simp, by simpa using gR⟩
 let n9 : Own → List Nat := fun p => match p with
  | .slot s => if s = 0 then R else []
  | .obj o => if o < aA.length then eU (.obj o) else []
 have pQ : ∀ p b, b ∈ n9 p → ∃ q, b ∈ eU q ∧ ((∃ o, p = .obj o ∧ q = .obj o) ∨ (p = .slot 0 ∧ ∃ t, q = .slot t)) := by
  intro p b hb
  cases p with
  | slot s =>
   by_cases hs : s = 0
   ·subst hs
    simp only [n9, if_true] at hb
    obtain ⟨t, _, ht⟩ := KG b hb
    exact ⟨.slot t, ht, .inr ⟨rfl, t, rfl⟩⟩
   ·simp [n9, hs] at hb
  | obj o =>
   by_cases ho : o < aA.length
   ·simp only [n9, ho, if_true] at hb
    exact ⟨.obj o, hb, .inl ⟨o, rfl, rfl⟩⟩
   ·simp [n9, ho] at hb
 refine ⟨E', n9, rfl, { h1 with a9 := ?_, aA := ?_, nodup := ?_, apart := ?_, own := ?_, tmps := ?_, defers := rfl }⟩
 ·intro s x gR
  simp only [look] at gR
  cases tR : Nat.beq 0 s with
  | false => simp [tR] at gR
  | true =>
   have := Nat.eq_of_beq_eq_true tR
   subst this
   simp only [tR, cond_true, Option.some.injEq] at gR
   subst gR
   simpa [n9] using KH
 ·intro o ob ho
  have kO : look (dp 0 bg) o = some ob := ho
  rw [fW] at kO
  have iv : o < aA.length := by
   rcases Nat.lt_or_ge o aA.length with h' | h'
   ·exact h'
   ·rw [List.getElem?_eq_none om] at kO; cases kO
  have := h1.aA o ob (by rw [kS o iv]; exact kO)
  simpa [n9, iv] using this
 ·intro p
  cases p with
  | slot s => by_cases hs : s = 0 <;> simp [n9, hs, Hq]
  | obj o => by_cases ho : o < aA.length <;> simp [n9, ho, h1.nodup]
 ·intro p q kQ b hb fV
  obtain ⟨p', CP, KL⟩ := pQ p b hb
  obtain ⟨q', xw, Hr⟩ := pQ q b fV
  have e7 : p' ≠ q' := by
   rcases KL with ⟨o, rfl, rfl⟩ | ⟨rfl, t, rfl⟩
   ·rcases Hr with ⟨o', rfl, rfl⟩ | ⟨rfl, t', rfl⟩
    ·exact kQ
    ·simp
   ·rcases Hr with ⟨o', rfl, rfl⟩ | ⟨rfl, t', rfl⟩
    ·simp
    ·exact absurd rfl kQ
  exact h1.apart p' q' e7 b CP xw
 ·intro p b hb
  obtain ⟨q, xw, _⟩ := pQ p b hb
  exact h1.own q b xw
 ·rfl

theorem az.of {f : FuncId} {fn : Func} {c : Code} {args : List X} {aA : List Obj} {F : List Nat} {Q : X → List Obj → Prop} {n : Nat} {mr : List ResultVar} (hf : P.funcs[f]? = some fn) (hb : fn.body = some c) (hn : fn.ntmps = n) (hr : fn.results.toList = mr)
  (iw : (gm mr).Nodup) (hle : args.length ≤ n) (h : dn P ⟨n, F⟩ c ⟨dp 0 args, dp 0 aA⟩ (Ends P mr aA.length Q)) : az P f args aA F Q := by
 intro K E RR cF hi
 refine calls_of_wp hf hb ?_
 refine wp_mono (h (mJ K E ⟨n, F⟩) rfl _ _ ⟨E, RR, rfl, hi.enter hn hle⟩) ?_
 rintro e a w ⟨st, ⟨E', eU, rfl, h1⟩, hq⟩
 have key := tW (P := P) (aA := aA) (Q := Q) hr iw h1
 cases e with
 | normal => exact key hq
 | ret => exact key hq
 | _ => exact hq.elim

end
end Go.AW
/- Part of the abstract walk: names of objects in a callee and in its caller; values that cY no frozen memory. -/
namespace Go.AW
open Go

mutual
def X.fy (ν : Nat → Nat) : X → X
 | .ptr o s i k => .ptr (ν o) s i k
 | .aY o s lo n => .aY (ν o) s lo n
 | .mref o => .mref (ν o)
 | .agg xs => .agg (X.kD ν xs)
 | .tup xs => .tup (X.kD ν xs)
 | .gl f a b => .gl f (X.kD ν a) (X.kD ν b)
 | .v u => .v u
 | .no => .no
 | .fz s rows => .fz s rows
 | .ep s rows => .ep s rows
 | .fp row k => .fp row k
def X.kD (ν : Nat → Nat) : List X → List X
 | [] => []
 | x :: r => x.fy ν :: X.kD ν r
end

def Env.names (E : Env) (ν : Nat → Nat) : Env := { E with β := fun o => E.β (ν o) }

theorem fF (E : Env) (ν : Nat → Nat) (R : List Nat) : (E.names ν).On E R ∧ E.On (E.names ν) R := ⟨⟨fun _ _ _ h => h, fun _ _ => ⟨rfl, fun h => h⟩⟩, ⟨fun _ _ _ h => h, fun _ _ => ⟨rfl, fun h => h⟩⟩⟩

mutual
theorem RX.fy {E : Env} {ν : Nat → Nat} : ∀ (x : X) (c : Value) (R : List Nat), RX (E.names ν) x c R ↔ RX E (x.fy ν) c R
 | .ptr .., _, _ => by simp only [X.fy, RX]; exact Iff.rfl
 | .aY .., _, _ => by simp only [X.fy, RX]; exact Iff.rfl
 | .mref _, _, _ => by simp only [X.fy, RX]; exact Iff.rfl
 | .v _, _, _ => by simp only [X.fy, RX]
 | .no, _, _ => by simp only [X.fy, RX]
 | .fz s rows, c, R => ⟨RX.mono _ c R (fF E ν R).1 (fun o h => by simp [X.dL] at h), RX.mono _ c R (fF E ν R).2 (fun o h => by simp [X.fy, X.dL] at h)⟩
 | .ep s rows, c, R => ⟨RX.mono _ c R (fF E ν R).1 (fun o h => by simp [X.dL] at h), RX.mono _ c R (fF E ν R).2 (fun o h => by simp [X.fy, X.dL] at h)⟩
 | .fp row k, c, R => ⟨RX.mono _ c R (fF E ν R).1 (fun o h => by simp [X.dL] at h), RX.mono _ c R (fF E ν R).2 (fun o h => by simp [X.fy, X.dL] at h)⟩
 | .agg xs, c, R => by
  simp only [X.fy, RX]
  exact ⟨fun ⟨cs, h1, h2⟩ => ⟨cs, h1, (bz.fy xs _ R).1 h2⟩, fun ⟨cs, h1, h2⟩ => ⟨cs, h1, (bz.fy xs _ R).2 h2⟩⟩
 | .tup xs, c, R => by
  simp only [X.fy, RX]
  exact ⟨fun ⟨cs, h1, h2⟩ => ⟨cs, h1, (dZ.fy xs _ R).1 h2⟩, fun ⟨cs, h1, h2⟩ => ⟨cs, h1, (dZ.fy xs _ R).2 h2⟩⟩
 | .gl f xs ys, c, R => by
  simp only [X.fy, RX]
  exact ⟨fun ⟨h0, f, cc, h1, h2, h3⟩ => ⟨h0, f, cc, h1, (dZ.fy xs _ []).1 h2, (dZ.fy ys _ []).1 h3⟩, fun ⟨h0, f, cc, h1, h2, h3⟩ => ⟨h0, f, cc, h1, (dZ.fy xs _ []).2 h2, (dZ.fy ys _ []).2 h3⟩⟩
theorem bz.fy {E : Env} {ν : Nat → Nat} : ∀ (xs : List X) (cs : List Value) (R : List Nat), bz (E.names ν) xs cs R ↔ bz E (X.kD ν xs) cs R
 | [], _, _ => by simp only [X.kD, bz]
 | x :: r, cs, R => by
  simp only [X.kD, bz]
  exact ⟨fun ⟨c, dg, R₁, R₂, h1, h2, h3, h4, h5⟩ => ⟨c, dg, R₁, R₂, h1, h2, (RX.fy x c R₁).1 h3, (bz.fy r dg R₂).1 h4, h5⟩,
   fun ⟨c, dg, R₁, R₂, h1, h2, h3, h4, h5⟩ => ⟨c, dg, R₁, R₂, h1, h2, (RX.fy x c R₁).2 h3, (bz.fy r dg R₂).2 h4, h5⟩⟩
theorem dZ.fy {E : Env} {ν : Nat → Nat} : ∀ (xs : List X) (cs : List Value) (R : List Nat), dZ (E.names ν) xs cs R ↔ dZ E (X.kD ν xs) cs R
 | [], _, _ => by simp only [X.kD, dZ]
 | x :: r, cs, R => by
  simp only [X.kD, dZ]
  exact ⟨fun ⟨c, dg, R₁, R₂, h1, h3, h4, h5⟩ => ⟨c, dg, R₁, R₂, h1, (RX.fy x c R₁).1 h3, (dZ.fy r dg R₂).1 h4, h5⟩,
   fun ⟨c, dg, R₁, R₂, h1, h3, h4, h5⟩ => ⟨c, dg, R₁, R₂, h1, (RX.fy x c R₁).2 h3, (dZ.fy r dg R₂).2 h4, h5⟩⟩
end

theorem RO.fy {E : Env} {ν : Nat → Nat} : ∀ (xs : List X) (cs : Array Value) (off : Nat) (R : List Nat), RO (E.names ν) xs cs off R ↔ RO E (X.kD ν xs) cs off R
 | [], _, _, _ => by simp only [X.kD, RO]
 | x :: r, cs, off, R => by
  simp only [X.kD, RO]
  exact ⟨fun ⟨u, R₁, R₂, h1, h2, h3, h4, h5⟩ => ⟨u, R₁, R₂, h1, h2, (RX.fy x u R₁).1 h3, (RO.fy r cs _ R₂).1 h4, h5⟩,
   fun ⟨u, R₁, R₂, h1, h2, h3, h4, h5⟩ => ⟨u, R₁, R₂, h1, h2, (RX.fy x u R₁).2 h3, (RO.fy r cs _ R₂).2 h4, h5⟩⟩

theorem pR (ν : Nat → Nat) : ∀ xs : List X, (X.kD ν xs).length = xs.length
 | [] => rfl
 | _ :: r => by simp [X.kD, pR ν r]

mutual
theorem X.tX (ν : Nat → Nat) : ∀ x : X, (x.fy ν).free = x.free
 | .ptr .. | .aY .. | .mref _ | .v _ | .no | .fz .. | .ep .. | .fp .. | .gl .. => rfl
 | .agg xs => X.nv ν xs
 | .tup xs => X.nv ν xs
theorem X.nv (ν : Nat → Nat) : ∀ xs : List X, X.bC (X.kD ν xs) = X.bC xs
 | [] => rfl
 | x :: r => by simp only [X.kD, X.bC, X.tX ν x, X.nv ν r]
end

def Obj.fy (ν : Nat → Nat) : Obj → Obj
 | .cells xs => .cells (X.kD ν xs)
 | .rows s rs => .rows s rs
 | .uQ es => .uQ es
 | .gone => .gone

theorem dA.fy {E : Env} {ν : Nat → Nat} {j : Nat} {ob : Obj} {R : List Nat} : dA (E.names ν) j ob R ↔ dA E (ν j) (ob.fy ν) R := by
 cases ob with
 | cells xs =>
  simp only [Obj.fy, dA, X.nv, pR]
  exact ⟨fun ⟨h0, B, cs, ty, h1, h2, h3, h4, h5, h6⟩ => ⟨h0, B, cs, ty, h1, h2, h3, h4, (RO.fy xs cs _ []).1 h5, h6⟩,
   fun ⟨h0, B, cs, ty, h1, h2, h3, h4, h5, h6⟩ => ⟨h0, B, cs, ty, h1, h2, h3, h4, (RO.fy xs cs _ []).2 h5, h6⟩⟩
 | rows s rs =>
  simp only [Obj.fy, dA]
  refine ⟨fun ⟨hu, h⟩ => ⟨hu, h.imp (fun h => h) ?_⟩, fun ⟨hu, h⟩ => ⟨hu, h.imp (fun h => h) ?_⟩⟩
  ·exact fun ⟨B, cs, ty, R', h1, h2, h3, h4, h5, h6, h7⟩ => ⟨B, cs, ty, R', h1, h2, h3, h4, h5, cD.mono rs cs _ R' (fF E ν R').1 h6, h7⟩
  ·exact fun ⟨B, cs, ty, R', h1, h2, h3, h4, h5, h6, h7⟩ => ⟨B, cs, ty, R', h1, h2, h3, h4, h5, cD.mono rs cs _ R' (fF E ν R').2 h6, h7⟩
 | uQ es => exact Iff.rfl
 | gone => simp only [Obj.fy, dA]

mutual
def X.plain : X → Prop
 | .v _ | .no | .ptr .. | .aY .. | .mref _ => True
 | .fz _ _ | .fp _ _ | .gl .. => False
 | .ep _ rows => X.lA rows
 | .agg xs => X.gV xs
 | .tup xs => X.gV xs
def X.gV : List X → Prop
 | [] => True
 | x :: r => x.plain ∧ X.gV r
def X.lA : List (List X) → Prop
 | [] => True
 | x :: r => X.gV x ∧ X.lA r
end

def Env.Bv (E E' : Env) (R : List Nat) : Prop := ∀ b ∈ R, E'.w.heap[b]? = E.w.heap[b]? ∧ ((∀ i, E.φ b i = none) → ∀ i, E'.φ b i = none)
theorem Env.Bv.sub {E E' : Env} {R R' : List Nat} (h : E.Bv E' R) (hs : ∀ b ∈ R', b ∈ R) : E.Bv E' R' := fun b hb => h b (hs b hb)

mutual
theorem RX.off {E E' : Env} : ∀ (x : X) (c : Value) (R : List Nat), x.plain → E.Bv E' R → (∀ o, E'.β o = E.β o) → RX E x c R → RX E' x c R
 | .v _, _, _, _, _, _, h => by simpa [RX] using h
 | .no, _, _, _, _, _, h => by simpa [RX] using h
 | .fz .., _, _, hp, _, _, _ => hp.elim
 | .fp .., _, _, hp, _, _, _ => hp.elim
 | .gl .., _, _, hp, _, _, _ => hp.elim
 | .ptr o .., _, _, _, _, hβ, h => by simp only [RX] at h ⊢; rw [hβ]; exact h
 | .aY o .., _, _, _, _, hβ, h => by simp only [RX] at h ⊢; rw [hβ]; exact h
 | .mref o, _, _, _, _, hβ, h => by simp only [RX] at h ⊢; rw [hβ]; exact h
 | .ep s rows, c, R, hp, hE, hβ, h => by
  simp only [RX] at h ⊢
  obtain ⟨hu, base, cap, hc, hh⟩ := h
  refine ⟨hu, base, cap, hc, ?_⟩
  rcases hh with hh | ⟨b, off, cs, ty, R', hb, hw, hl, ho, hf, hr, hR⟩
  ·exact .inl hh
  ·subst hR
   have h2 := hE b (by simp)
   exact .inr ⟨b, off, cs, ty, R', hb, h2.1.trans hw, hl, ho, h2.2 hf, cD.off rows cs off R' hp (hE.sub (fun _ h => by simp [h])) hβ hr, rfl⟩
 | .agg xs, c, R, hp, hE, hβ, h => by
  simp only [RX] at h ⊢
  obtain ⟨cs, hc, hs⟩ := h
  exact ⟨cs, hc, bz.off xs _ R hp hE hβ hs⟩
 | .tup xs, c, R, hp, hE, hβ, h => by
  simp only [RX] at h ⊢
  obtain ⟨cs, hc, hs⟩ := h
  exact ⟨cs, hc, dZ.off xs _ R hp hE hβ hs⟩
theorem bz.off {E E' : Env} : ∀ (xs : List X) (cs : List Value) (R : List Nat), X.gV xs → E.Bv E' R → (∀ o, E'.β o = E.β o) → bz E xs cs R → bz E' xs cs R
 | [], _, _, _, _, _, h => by simpa [bz] using h
 | x :: r, cs, R, hp, hE, hβ, h => by
  simp only [bz] at h ⊢
  simp only [X.gV] at hp
  obtain ⟨c, dg, R₁, R₂, hc, hs, h1, h2, hR⟩ := h
  subst hR
  exact ⟨c, dg, R₁, R₂, hc, hs, RX.off x c R₁ hp.1 (hE.sub (fun _ h => cG h)) hβ h1, bz.off r dg R₂ hp.2 (hE.sub (fun _ h => cw h)) hβ h2, rfl⟩
theorem dZ.off {E E' : Env} : ∀ (xs : List X) (cs : List Value) (R : List Nat), X.gV xs → E.Bv E' R → (∀ o, E'.β o = E.β o) → dZ E xs cs R → dZ E' xs cs R
 | [], _, _, _, _, _, h => by simpa [dZ] using h
 | x :: r, cs, R, hp, hE, hβ, h => by
  simp only [dZ] at h ⊢
  simp only [X.gV] at hp
  obtain ⟨c, dg, R₁, R₂, hc, h1, h2, hR⟩ := h
  subst hR
  exact ⟨c, dg, R₁, R₂, hc, RX.off x c R₁ hp.1 (hE.sub (fun _ h => cG h)) hβ h1, dZ.off r dg R₂ hp.2 (hE.sub (fun _ h => cw h)) hβ h2, rfl⟩
theorem RO.off {E E' : Env} : ∀ (xs : List X) (cs : Array Value) (off : Nat) (R : List Nat), X.gV xs → E.Bv E' R → (∀ o, E'.β o = E.β o) → RO E xs cs off R → RO E' xs cs off R
 | [], _, _, _, _, _, _, h => by simpa [RO] using h
 | x :: r, cs, off, R, hp, hE, hβ, h => by
  simp only [RO] at h ⊢
  simp only [X.gV] at hp
  obtain ⟨u, R₁, R₂, hu, hs, h1, h2, hR⟩ := h
  subst hR
  exact ⟨u, R₁, R₂, hu, hs, RX.off x u R₁ hp.1 (hE.sub (fun _ h => cG h)) hβ h1, RO.off r cs (off + 1) R₂ hp.2 (hE.sub (fun _ h => cw h)) hβ h2, rfl⟩
theorem cD.off {E E' : Env} : ∀ (rs : List (List X)) (cs : Array Value) (off : Nat) (R : List Nat), X.lA rs → E.Bv E' R → (∀ o, E'.β o = E.β o) → cD E rs cs off R → cD E' rs cs off R
 | [], _, _, _, _, _, _, h => by simpa [cD] using h
 | r :: rs, cs, off, R, hp, hE, hβ, h => by
  simp only [cD] at h ⊢
  simp only [X.lA] at hp
  obtain ⟨R₁, R₂, hn, h1, h2, hR⟩ := h
  subst hR
  exact ⟨R₁, R₂, hn, RO.off r cs off R₁ hp.1 (hE.sub (fun _ h => cG h)) hβ h1, cD.off rs cs _ R₂ hp.2 (hE.sub (fun _ h => cw h)) hβ h2, rfl⟩
end

def Obj.plain : Obj → Prop
 | .cells xs => X.gV xs
 | .rows _ rs => X.lA rs
 | .uQ _ => True
 | .gone => True

theorem dA.off {E E' : Env} {o : Nat} {ob : Obj} {R : List Nat} (hp : ob.plain) (hE : E.Bv E' R) (hβ : ∀ o, E'.β o = E.β o) (h : dA E o ob R) : dA E' o ob R := by
 cases ob with
 | cells xs =>
  simp only [dA] at h ⊢
  obtain ⟨qo, B, cs, ty, hB, hw, hf, hl, hR, rfl⟩ := h
  have h2 := hE B.b (by simp)
  exact ⟨qo, B, cs, ty, (hβ o).trans hB, h2.1.trans hw, h2.2 hf, hl, RO.off xs cs _ [] hp (hE.sub (fun _ h => by cases h)) hβ hR, rfl⟩
 | rows s rs =>
  simp only [dA] at h ⊢
  obtain ⟨hu, h⟩ := h
  refine ⟨hu, ?_⟩
  rcases h with ⟨h1, h2, h3⟩ | ⟨B, cs, ty, R', hB, hw, hf, hl, hc, hR, rfl⟩
  ·exact .inl ⟨(hβ o).trans h1, h2, h3⟩
  ·have h2 := hE B.b (by simp)
   exact .inr ⟨B, cs, ty, R', (hβ o).trans hB, h2.1.trans hw, h2.2 hf, hl, hc, cD.off rs cs _ R' hp (hE.sub (fun _ h => by simp [h])) hβ hR, rfl⟩
 | uQ es =>
  simp only [dA] at h ⊢
  obtain ⟨B, pc, clock, hB, hw, hf, he, rfl⟩ := h
  have h2 := hE B.b (by simp)
  exact ⟨B, pc, clock, (hβ o).trans hB, h2.1.trans hw, h2.2 hf, he, rfl⟩
 | gone => simpa [dA] using h

mutual
def X.lt (k : Nat) : X → Bool
 | .v _ | .no | .fz .. | .ep .. | .fp .. => true
 | .ptr o .. => Nat.blt o k
 | .aY o .. => Nat.blt o k
 | .mref o => Nat.blt o k
 | .agg xs => X.AV k xs
 | .tup xs => X.AV k xs
 | .gl _ a b => X.AV k a && X.AV k b
def X.AV (k : Nat) : List X → Bool
 | [] => true
 | x :: r => x.lt k && X.AV k r
end

theorem vo {o k : Nat} (h : Nat.blt o k = true) : o < k := Nat.le_of_ble_eq_true h

mutual
theorem X.wK {k o : Nat} : ∀ {x : X}, x.lt k = true → x.dL o = true → o < k
 | .v _, _, h | .no, _, h | .fz .., _, h | .ep .., _, h | .fp .., _, h => by simp [X.dL] at h
 | .ptr p .., h, hm => by simp only [X.dL] at hm; rw [← Nat.eq_of_beq_eq_true hm]; exact vo h
 | .aY p .., h, hm => by simp only [X.dL] at hm; rw [← Nat.eq_of_beq_eq_true hm]; exact vo h
 | .mref p, h, hm => by simp only [X.dL] at hm; rw [← Nat.eq_of_beq_eq_true hm]; exact vo h
 | .agg xs, h, hm => X.j7 (xs := xs) h hm
 | .tup xs, h, hm => X.j7 (xs := xs) h hm
 | .gl _ a b, h, hm => by
  simp only [X.lt, Bool.and_eq_true] at h
  simp only [X.dL, Bool.or_eq_true] at hm
  exact hm.elim (X.j7 h.1) (X.j7 h.2)
theorem X.j7 {k o : Nat} : ∀ {xs : List X}, X.AV k xs = true → X.cC o xs = true → o < k
 | [], _, h => by simp [X.cC] at h
 | x :: r, h, hm => by
  simp only [X.AV, Bool.and_eq_true] at h
  simp only [X.cC, Bool.or_eq_true] at hm
  exact hm.elim (X.wK h.1) (X.j7 h.2)
end

def Obj.lt (k : Nat) : Obj → Bool
 | .cells xs => X.AV k xs
 | _ => true

def dS (l : List Nat) (x : X) : X := bif l.any (fun o => x.dL o) then .no else x
def Obj.dS (l : List Nat) : Obj → Obj
 | .cells xs => .cells (xs.map (AW.dS l))
 | ob => ob
def St.dS (st : St) (l : List Nat) : St := ⟨st.a9.map fun p => (p.1, AW.dS l p.2), st.aA.map fun p => (p.1, p.2.dS l)⟩

theorem vq {l : List Nat} {x : X} {q : Nat} (h : (dS l x).dL q = true) : q ∉ l ∧ dS l x = x ∧ x.dL q = true := by
 unfold dS at h ⊢
 cases hk : l.any (fun o => x.dL o) with
 | true => simp [hk, X.dL] at h
 | false =>
  rw [hk] at h
  simp only [cond_false] at h ⊢
  refine ⟨fun hq => ?_, trivial, h⟩
  have : l.any (fun o => x.dL o) = true := List.any_eq_true.2 ⟨q, hq, h⟩
  rw [hk] at this; cases this

theorem pS (l : List Nat) : ∀ {xs : List X}, X.bC xs = true → X.bC (xs.map (dS l)) = true
 | [], _ => rfl
 | x :: r, h => by
  simp only [X.bC, Bool.and_eq_true] at h
  have h1 : (dS l x).free = true := by
   unfold dS
   cases l.any (fun o => x.dL o) with
   | true => rfl
   | false => exact h.1
  simp only [List.map_cons, X.bC, h1, pS l h.2, Bool.and_self]

theorem RO.dS {E : Env} {l : List Nat} : ∀ {xs : List X} {cs : Array Value} {off : Nat}, X.bC xs = true → RO E xs cs off [] → RO E (xs.map (AW.dS l)) cs off []
 | [], _, _, _, h => h
 | x :: r, _, _, hf, h => by
  simp only [RO] at h
  obtain ⟨u, R₁, R₂, hu, hs, h1, h2, hR⟩ := h
  simp only [X.bC, Bool.and_eq_true] at hf
  have Kw := RX.free hf.1 h1
  have Kx := RO.free hf.2 h2
  subst Kw; subst Kx
  have h3 := RO.dS (l := l) hf.2 h2
  simp only [List.map_cons, RO]
  refine ⟨u, [], [], hu, hs, ?_, h3, rfl⟩
  unfold AW.dS
  cases l.any (fun o => x.dL o) with
  | true => simp [RX]
  | false => exact h1

theorem pT {l : List Nat} : ∀ {xs : List X} {q : Nat}, X.cC q (xs.map (dS l)) = true → q ∉ l
 | [], _, h => by simp [X.cC] at h
 | x :: r, q, h => by
  simp only [List.map_cons, X.cC, Bool.or_eq_true] at h
  rcases h with h | h
  ·exact (vq h).1
  ·exact pT h

end Go.AW
/- Part of the abstract walk: the rule for a call. -/
namespace Go.AW
open Go

inductive tY (st : St) (L : List Nat) (ν : Nat → Nat) : X → X → Prop where
 | same {x : X} (h : x.free = true) : tY st L ν (x.fy ν) x
 | view {o s lo n : Nat} {rs : List (List X)} (ho : look st.aA o = some (.rows s rs)) (hL : o ∈ L) (qq : lo + n ≤ rs.length) : tY st L ν (.aY o s lo n) (.fz s ((rs.drop lo).take n))
 | deref {o s i k : Nat} {row : List X} (ho : rowAt st (.ptr o s i k) = some row) (hL : o ∈ L) (rE : X.gk row = true) : tY st L ν (.ptr o s i k) (.fp row k)

inductive dJ (st : St) (L : List Nat) (ν : Nat → Nat) : List X → List X → Prop where
 | nil : dJ st L ν [] []
 | cons {x y : X} {xs ys : List X} (h : tY st L ν x y) (hs : dJ st L ν xs ys) : dJ st L ν (x :: xs) (y :: ys)
 | agg {us vs xs ys : List X} (h : dJ st L ν us vs) (h1 : X.rH vs = true) (hs : dJ st L ν xs ys) : dJ st L ν (.agg us :: xs) (.agg vs :: ys)

def gn : List Nat → Nat → Option Nat
 | [], _ => none
 | o :: r, q => bif Nat.beq o q then some 0 else (gn r q).map (· + 1)

theorem nT : ∀ {l : List Nat} {q j : Nat}, gn l q = some j → l[j]? = some q
 | [], _, _, h => by cases h
 | o :: r, q, j, h => by
  simp only [gn] at h
  cases hb : Nat.beq o q with
  | true => rw [hb] at h; simp at h; subst h; simp [Nat.eq_of_beq_eq_true hb]
  | false =>
   rw [hb] at h
   simp only [cond_false, Option.map_eq_some_iff] at h
   obtain ⟨j', h1, rfl⟩ := h
   simpa using nT h1

theorem o3 : ∀ {l : List Nat} {q j : Nat}, l.Nodup → l[j]? = some q → gn l q = some j
 | [], _, _, _, h => by simp at h
 | o :: r, q, j, hn, h => by
  simp only [gn]
  have pN := List.nodup_cons.1 hn
  cases j with
  | zero =>
   simp at h; subst h
   simp
  | succ j =>
   have h' : r[j]? = some q := by simpa using h
   have e7 : o ≠ q := fun e => pN.1 (by rw [e]; exact List.mem_of_getElem? h')
   have : Nat.beq o q = false := by
    cases hb : Nat.beq o q with
    | false => rfl
    | true => exact absurd (Nat.eq_of_beq_eq_true hb) e7
   rw [this]
   simp [o3 pN.2 h']

theorem nU : ∀ {l : List Nat} {q : Nat}, gn l q = none → q ∉ l
 | [], _, _ => by simp
 | o :: r, q, h => by
  simp only [gn] at h
  cases hb : Nat.beq o q with
  | true => simp [hb] at h
  | false =>
   rw [hb] at h
   simp only [cond_false, Option.map_eq_none_iff] at h
   have := nU h
   have e7 := Nat.ne_of_beq_eq_false hb
   simp [this, Ne.symm e7]

def jG (st : St) : List Operand → Option (List X)
 | [] => some []
 | x :: r => match bR st x, jG st r with
  | some y, some l => some (y :: l)
  | _, _ => none

def aU (P : Program) (f : FuncId) : Bool :=
 match P.funcs[f]? with
 | some fn => fn.body.isSome && fn.name != "runtime.NumGoroutine"
 | none => false

theorem lB {P : Program} {f : FuncId} (h : aU P f = true) (args : Array Value) (w : World) : (callFunc f args).run P w = .ok (.enter f args) w := by
 unfold aU at h
 cases hf : P.funcs[f]? with
 | none => simp [hf] at h
 | some fn =>
  rw [hf] at h
  simp only [Bool.and_eq_true] at h
  have h1 : fn.name ≠ "runtime.NumGoroutine" := by
   have := h.2
   simpa [bne] using this
  have h2 : fn.body ≠ none := fun e => by rw [e] at h; simp at h
  simp [callFunc, hf, h1, h2]

def loose (ν F : List Nat) : List Nat := ((dp 0 ν).filter fun p => !F.elem p.1).map (·.2)

theorem x5 {ν F : List Nat} {o : Nat} (h : o ∉ loose ν F) {j : Nat} (hj : ν[j]? = some o) : F.elem j = true := by
 cases hF : F.elem j with
 | true => rfl
 | false =>
  refine absurd ?_ h
  unfold loose
  refine List.mem_map.2 ⟨(j, o), List.mem_filter.2 ⟨?_, by simpa using hF⟩, rfl⟩
  have : ∀ (l : List Nat) (i : Nat), l[j]? = some o → (i + j, o) ∈ dp i l := by
   clear h hj hF
   induction j with
   | zero =>
    intro l i h
    cases l with
    | nil => simp at h
    | cons x r => simp at h; subst h; simp [dp]
   | succ j ih =>
    intro l i h
    cases l with
    | nil => simp at h
    | cons x r =>
     simp only [dp, List.mem_cons]
     right
     have := ih r (i + 1) (by simpa using h)
     rw [show i + (j + 1) = i + 1 + j by omega]; exact this
  simpa using this ν 0 hj

def bQ (ν : List Nat) (j : Nat) : Nat := ν.getD j 0

def mK (st : St) (ν F : List Nat) (bg : List Obj) : St :=
 ⟨(st.dS (loose ν F)).a9, ν.zip (bg.map (Obj.fy (bQ ν))) ++ (st.dS (loose ν F)).aA⟩

theorem tZ : ∀ {ν : List Nat} {l : List Obj} {r : List (Nat × Obj)} {o : Nat}, ν.length = l.length → look (ν.zip l ++ r) o = match gn ν o with | some j => l[j]? | none => look r o
 | [], [], _, _, _ => rfl
 | [], _ :: _, _, _, h => by simp at h
 | _ :: _, [], _, _, h => by simp at h
 | q :: ν, x :: l, r, o, h => by
  simp only [List.zip_cons_cons, List.cons_append, look, gn]
  cases hb : Nat.beq q o with
  | true => simp
  | false =>
   simp only [cond_false]
   rw [tZ (by simpa using h)]
   cases hp : gn ν o with
   | none => simp
   | some j => simp

section
variable {P : Program} {N : eC} {st : St} {Q : Exit → St → Prop} {all : Array Oper} {rest : List Oper} {d : Nat} {ty : TypeId} {pos : String} {af : Array Edge}

theorem RO.freeze {E E1 : Env} {b : Nat} : ∀ {xs : List X} {cs : Array Value} {off : Nat} , (∀ i v, cs[i]? = some v → E1.φ b i = some v) → (∀ c i v, E.φ c i = some v → E1.φ c i = some v) → X.gk xs = true →
  RO E xs cs off [] → RF E1 xs b off
 | [], _, _, _, _, _, _ => by simp [RF]
 | x :: r, cs, off, h1, h2, hn, h => by
  simp only [RO] at h
  obtain ⟨u, R₁, R₂, hu, hs, hx, hr, hR⟩ := h
  obtain ⟨rfl, rfl⟩ := List.append_eq_nil_iff.1 hR.symm
  simp only [X.gk, Bool.and_eq_true] at hn
  simp only [RF]
  refine ⟨⟨u, h1 _ _ hu, hs, hn.1, RX.mono x u [] ⟨h2, fun _ h => by cases h⟩ (fun o ho => by rw [X.nM hn.1] at ho; cases ho) hx⟩, RO.freeze h1 h2 hn.2 hr⟩

theorem cD.freeze {E E1 : Env} {b : Nat} : ∀ {rs : List (List X)} {cs : Array Value} {off : Nat}, (∀ i v, cs[i]? = some v → E1.φ b i = some v) → (∀ c i v, E.φ c i = some v → E1.φ c i = some v) →
  cD E rs cs off [] → jE E1 rs b off
 | [], _, _, _, _, _ => by simp [jE]
 | r :: rs, cs, off, h1, h2, h => by
  simp only [cD] at h
  obtain ⟨R₁, R₂, hn, hx, hr, hR⟩ := h
  obtain ⟨rfl, rfl⟩ := List.append_eq_nil_iff.1 hR.symm
  simp only [jE]
  exact ⟨RO.freeze h1 h2 hn hx, cD.freeze h1 h2 hr⟩

def gW : Obj → Prop
 | .rows _ rs => ∀ r ∈ rs, X.bC r = true
 | .cells _ => True
 | .uQ _ => True
 | .gone => True

theorem cD.free {E : Env} : ∀ {rs : List (List X)} {cs : Array Value} {off : Nat} {R : List Nat}, (∀ r ∈ rs, X.bC r = true) → cD E rs cs off R → R = []
 | [], _, _, _, _, h => by simpa [cD] using h
 | r :: rs, _, _, _, hf, h => by
  simp only [cD] at h
  obtain ⟨R₁, R₂, _, h1, h2, hR⟩ := h
  rw [hR, RO.free (hf r (by simp)) h1, cD.free (fun q hq => hf q (by simp [hq])) h2]; rfl

noncomputable def Env.cB (E : Env) (LB : Nat → Prop) : Env := by
 classical
 exact { E with φ := fun b i => if LB b then E.w.cell? ⟨b, i, none⟩ else E.φ b i }

theorem jx (E : Env) {LB : Nat → Prop} {b : Nat} (h : LB b) (i : Nat) : (E.cB LB).φ b i = E.w.cell? ⟨b, i, none⟩ := by simp [Env.cB, h]
theorem eV (E : Env) {LB : Nat → Prop} {b : Nat} (h : ¬ LB b) (i : Nat) : (E.cB LB).φ b i = E.φ b i := by simp [Env.cB, h]

theorem tY.rx {G : Ctx} {E : Env} {RR : Own → List Nat} {a : Act} {L : List Nat} {ν : Nat → Nat} {LB : Nat → Prop} (hi : Inv G E RR st a) (Bw : ∀ o ∈ L, ∀ b ∈ RR (.obj o), LB b) (hle : ∀ c i v, E.φ c i = some v → (E.cB LB).φ c i = some v)
  (h0 : ∀ o ∈ L, ∀ ob, look st.aA o = some ob → gW ob) {x y : X} {c : Value} {R : List Nat} (h : tY st L ν x y) (hx : RX E x c R) : RX ((E.cB LB).names ν) y c [] := by
 have ga : E.On (E.cB LB) [] := ⟨hle, fun _ h => by cases h⟩
 cases h with
 | same hf =>
  have : R = [] := RX.free (by rw [X.tX]; exact hf) hx
  subst this
  exact (RX.fy y c []).2 (RX.mono _ c [] ga (fun _ _ => rfl) hx)
 | view ho hL qq =>
  rename_i o s lo n rs
  have cA := hi.aA o _ ho
  have kT : ∀ r ∈ rs, X.bC r = true := h0 o hL _ ho
  simp only [RX] at hx ⊢
  obtain ⟨_, base, cap, rfl, dw⟩ := hx
  simp only [dA] at cA
  obtain ⟨hu, cA⟩ := cA
  have wJ : ((rs.drop lo).take n).length = n := by simp; omega
  refine ⟨trivial, (hu.drop lo).take n, base, cap, by rw [wJ], ?_⟩
  by_cases mI : cap = 0
  ·refine .inl ⟨?_, mI⟩
   have uT : n = 0 := by rcases dw with ⟨_, _, h, _⟩ | ⟨_, _, _, h, _⟩ <;> omega
   subst uT; simp
  ·rcases dw with ⟨_, _, _, h⟩ | ⟨B, hB, GQ, pN, hb⟩
   ·exact absurd h mI
   have fV := hb.resolve_left mI
   rcases cA with ⟨h1, _⟩ | ⟨B', cs, tb, R', gT, hw, hφ, m9, fe, jh, gN⟩
   ·rw [hB] at h1; cases h1
   rw [hB] at gT
   obtain rfl := Option.some.inj gT
   have Bx := cD.free kT jh
   subst Bx
   obtain ⟨R1, x4, dv, _⟩ := cD.vj hu jh qq
   have ph : R1 = [] := by
    cases R1 with
    | nil => rfl
    | cons b r => have := dv b (by simp); cases this
   subst ph
   have Hs : LB B.b := Bw o hL _ (by rw [gN]; simp)
   refine .inr ⟨B.b, B.off + lo * s, fV, om, ?_⟩
   have qo : jE (E.cB LB) ((rs.drop lo).take n) B.b (B.off + lo * s) := cD.freeze (fun i v hv => by rw [jx E Hs, dk hw]; exact hv) hle x4
   exact jE.mono _ _ _ (fF (E.cB LB) ν []).2 qo
 | deref ho hL rE =>
  rename_i o s i k row
  simp only [RX] at hx ⊢
  obtain ⟨_, B, hB, rfl⟩ := hx
  simp only [rowAt] at ho
  split at ho
  ·rename_i xs kS
   have cA := hi.aA o _ kS
   simp only [dA] at cA
   obtain ⟨_, B', cs, tb, gT, hw, _, _, jh, gN⟩ := cA
   rw [hB] at gT
   obtain rfl := Option.some.inj gT
   cases oy : Nat.beq i 0 with
   | false => simp [oy] at ho
   | true =>
    have := Nat.eq_of_beq_eq_true oy
    subst this
    simp only [oy, cond_true, Option.some.injEq] at ho
    subst ho
    have Hs : LB B.b := Bw o hL _ (by rw [gN]; simp)
    refine ⟨trivial, B.b, B.off, by simp, ?_⟩
    exact RF.mono _ _ _ (fF (E.cB LB) ν []).2 (RO.freeze (fun i v hv => by rw [jx E Hs, dk hw]; exact hv) hle rE jh)
  ·rename_i s' rs kS
   have cA := hi.aA o _ kS
   have kT : ∀ r ∈ rs, X.bC r = true := h0 o hL _ kS
   simp only [dA] at cA
   obtain ⟨hu, cA⟩ := cA
   cases DE : Nat.beq s s' with
   | false => simp [DE] at ho
   | true =>
    have := Nat.eq_of_beq_eq_true DE
    subst this
    simp only [DE, cond_true] at ho
    rcases cA with ⟨_, h1, _⟩ | ⟨B', cs, tb, R', gT, hw, _, _, _, jh, gN⟩
    ·subst h1; simp at ho
    rw [hB] at gT
    obtain rfl := Option.some.inj gT
    have Bx := cD.free kT jh
    subst Bx
    obtain ⟨R1, _, pd, dv⟩ := cD.get hu jh ho
    have ph : R1 = [] := by
     cases R1 with
     | nil => rfl
     | cons b r => have := dv b (by simp); cases this
    subst ph
    have Hs : LB B.b := Bw o hL _ (by rw [gN]; simp)
    refine ⟨trivial, B.b, B.off + i * s, by rw [Nat.add_assoc], ?_⟩
    exact RF.mono _ _ _ (fF (E.cB LB) ν []).2 (RO.freeze (fun i v hv => by rw [jx E Hs, dk hw]; exact hv) hle rE pd)
  ·cases ho

theorem dJ.get {L : List Nat} {ν : Nat → Nat} : ∀ {xs ys : List X} {j : Nat} {y : X}, dJ st L ν xs ys → ys[j]? = some y → ∃ x, xs[j]? = some x ∧ (tY st L ν x y ∨ ∃ us vs, x = .agg us ∧ y = .agg vs ∧ dJ st L ν us vs ∧ X.rH vs = true)
 | _, _, j, y, .nil, h => by simp at h
 | _, _, 0, y, .cons h _, hy => by simp at hy; subst hy; exact ⟨_, rfl, .inl h⟩
 | _, _, j + 1, y, .cons _ hs, hy => by simpa using dJ.get hs (by simpa using hy)
 | _, _, 0, y, .agg h h1 _, hy => by simp at hy; subst hy; exact ⟨_, rfl, .inr ⟨_, _, rfl, rfl, h, h1⟩⟩
 | _, _, j + 1, y, .agg _ _ hs, hy => by simpa using dJ.get hs (by simpa using hy)

theorem dJ.length {L : List Nat} {ν : Nat → Nat} : ∀ {xs ys : List X}, dJ st L ν xs ys → xs.length = ys.length
 | _, _, .nil => rfl
 | _, _, .cons _ hs => by simp [hs.length]
 | _, _, .agg _ _ hs => by simp [hs.length]

theorem dJ.Oi {G : Ctx} {E : Env} {RR : Own → List Nat} {a : Act} {L : List Nat} {ν : Nat → Nat} {LB : Nat → Prop} (hi : Inv G E RR st a) (Bw : ∀ o ∈ L, ∀ b ∈ RR (.obj o), LB b) (hle : ∀ c i v, E.φ c i = some v → (E.cB LB).φ c i = some v)
  (h0 : ∀ o ∈ L, ∀ ob, look st.aA o = some ob → gW ob) : ∀ {xs ys : List X} {cs : List Value} {R : List Nat}, dJ st L ν xs ys → bz E xs cs R → bz ((E.cB LB).names ν) ys cs []
 | _, _, cs, R, .nil, h => by simp only [bz] at h ⊢; exact ⟨h.1, trivial⟩
 | _, _, cs, R, .cons hl hs, h => by
  simp only [bz] at h ⊢
  obtain ⟨c, dg, R₁, R₂, rfl, h1, h2, h3, _⟩ := h
  exact ⟨c, dg, [], [], rfl, h1, hl.rx hi Bw hle h0 h2, hs.Oi hi Bw hle h0 h3, rfl⟩
 | _, _, cs, R, .agg hl _ hs, h => by
  simp only [bz] at h ⊢
  obtain ⟨c, dg, R₁, R₂, rfl, h1, h2, h3, _⟩ := h
  simp only [RX] at h2
  obtain ⟨ds, rfl, h4⟩ := h2
  exact h1.elim

end
end Go.AW
/- Part of the abstract walk: the rule for a call, proved. -/
namespace Go.AW
open Go

section
variable {P : Program} {N : eC} {st : St} {Q : Exit → St → Prop} {all : Array Oper} {rest : List Oper} {d : Nat} {ty : TypeId} {pos : String} {af : Array Edge}

theorem o4 {G : Ctx} {E : Env} {RR : Own → List Nat} {a : Act} (hi : Inv G E RR st a) : ∀ {l : List Operand} {xs : List X}, jG st l = some xs → xs.length = l.length ∧ ∀ (j : Nat) (x : X), xs[j]? = some x → ∃ o : Operand, l[j]? = some o ∧ ∃ R, RX E x (a.eval o) R
 | [], xs, h => by simp only [jG, Option.some.injEq] at h; subst h; exact ⟨rfl, by simp⟩
 | o :: r, xs, h => by
  simp only [jG] at h
  cases h1 : bR st o with
  | none => simp [h1] at h
  | some y =>
   cases h2 : jG st r with
   | none => simp [h1, h2] at h
   | some ys =>
    rw [h1, h2] at h
    simp only [Option.some.injEq] at h
    subst h
    obtain ⟨hl, hg⟩ := o4 hi h2
    refine ⟨by simp [hl], fun j x hx => ?_⟩
    cases j with
    | zero => simp at hx; subst hx; exact ⟨o, rfl, hi.eval h1⟩
    | succ j => simpa using hg j x (by simpa using hx)

theorem Inv.CQ {G : Ctx} {E : Env} {RR : Own → List Nat} {a : Act} {f : FuncId} {vs : List Value} {xs args : List X} {aA : List Obj} {F ν L : List Nat} {Q' : X → List Obj → Prop} (hi : Inv G E RR st a) (eW : az P f args aA F Q')
  (vr : xs.length = vs.length) (CR : ∀ (j : Nat) (x : X), xs[j]? = some x → ∃ v : Value, vs[j]? = some v ∧ ∃ R, RX E x v R) (dM : dJ st L (bQ ν) xs args) (o5 : ∀ j ob, aA[j]? = some ob → look st.aA (bQ ν j) = some (ob.fy (bQ ν))) (hlen : ν.length = aA.length) (zb : ν.Nodup) (By : ∀ o ∈ L, o ∉ ν)
  (h0 : ∀ o ∈ L, ∃ ob, look st.aA o = some ob ∧ gW ob) (Bz : ∀ o ∈ loose ν F, G.fn.F.elem o = false) (hd : d < G.fn.n) :
  Calls P f vs.toArray E.w fun e w' => ∃ v r bg, e = .returned v ∧ Q' r bg ∧ bg.length = aA.length ∧
   (r.lt aA.length = true → (∀ ob ∈ bg, ob.lt aA.length = true) → (L = [] ∨ (r.plain ∧ ∀ ob ∈ bg, ob.plain)) → ∃ kx q9, kx.w = w' ∧ Inv G kx q9 ((mK st ν F bg).put d (r.fy (bQ ν))) (a.put (some d) v)) := by
 classical
 -- the blocks that are lent, and those that are handed sN
 let LB : Nat → Prop := fun b => ∃ o ∈ L, b ∈ RR (.obj o)
 let PB : Nat → Prop := fun b => ∃ j, j < aA.length ∧ b ∈ RR (.obj (bQ ν j))
 have Gd : ∀ j, j < aA.length → ν[j]? = some (bQ ν j) := by
  intro j hj
  have : j < ν.length := by omega
  simp [bQ, List.getD, List.getElem?_eq_getElem this]
 have Oj : ∀ b, LB b → ∀ i, E.φ b i = none := by
  rintro b ⟨o, Ge, hb⟩
  obtain ⟨ob, cA, l8⟩ := h0 o Ge
  have h := hi.aA o ob cA
  cases ob with
  | cells ys =>
   simp only [dA] at h
   obtain ⟨_, B, cs, tb, _, _, hφ, _, _, gN⟩ := h
   rw [gN] at hb
   simp only [List.mem_singleton] at hb
   rw [hb]; exact hφ
  | rows s rs =>
   simp only [dA] at h
   obtain ⟨_, h⟩ := h
   rcases h with ⟨_, _, h3⟩ | ⟨B, cs, tb, R', _, _, hφ, _, _, jh, gN⟩
   ·rw [h3] at hb; cases hb
   ·have Bx := cD.free l8 jh
    subst Bx
    rw [gN] at hb
    simp only [List.mem_singleton] at hb
    rw [hb]; exact hφ
  | uQ es =>
   simp only [dA] at h
   obtain ⟨B, pc, clock, _, _, hφ, _, gN⟩ := h
   rw [gN] at hb
   simp only [List.mem_singleton] at hb
   rw [hb]; exact hφ
  | gone =>
   simp only [dA] at h
   rw [h] at hb; cases hb
 have P0 : ∀ b, LB b → ¬ PB b := by
  rintro b ⟨o, Ge, hb⟩ ⟨j, hj, fV⟩
  have e7 : o ≠ bQ ν j := fun e => By o Ge (by rw [e]; exact List.mem_of_getElem? (Gd j hj))
  exact hi.apart (.obj o) (.obj (bQ ν j)) (by simpa using e7) b hb fV
 have hle : ∀ c i v, E.φ c i = some v → (E.cB LB).φ c i = some v := by
  intro c i v h
  have : ¬ LB c := fun hL => by rw [Oj c hL i] at h; cases h
  rw [eV E this]; exact h
 let E1 : Env := (E.cB LB).names (bQ ν)
 have P1 : E1.w = E.w := rfl
 have P2 : ∀ o, E1.β o = E.β (bQ ν o) := fun _ => rfl
 have KM : ∀ b i, E1.φ b i = (E.cB LB).φ b i := fun _ _ => rfl
 let K1 : Nat → Prop := fun b => b < E.w.heap.size ∧ ¬ PB b
 let AX : Own → List Nat := fun p => match p with
  | .obj j => if j < aA.length then RR (.obj (bQ ν j)) else []
  | .slot _ => []
 have KN : ∀ i j, i < aA.length → j < aA.length → bQ ν i = bQ ν j → i = j := by
  intro i j gQ o6 h
  have h1 := o3 zb (Gd i gQ)
  have h2 := o3 zb (Gd j o6)
  rw [h] at h1
  rw [h1] at h2
  exact Option.some.inj h2
 have Ht : Inv (mJ K1 E1 ⟨args.length, F⟩) E1 AX ⟨dp 0 args, dp 0 aA⟩ ⟨vs.toArray, []⟩ := by
  constructor
  ·intro b i v h
   rw [KM] at h
   by_cases hL : LB b
   ·rw [jx E hL] at h; exact h
   ·rw [eV E hL] at h; exact hi.ku b i v h
  ·intro s y hy
   have AP : look (dp 0 args) s = some y := hy
   rw [fW] at AP
   obtain ⟨x, hx, dw⟩ := dM.get AP
   obtain ⟨o, ho, R, hR⟩ := CR s x hx
   have zc : vs.toArray.getD s undef = o := by
    simp [Array.getD_eq_getD_getElem?, ho]
   show RX E1 y (vs.toArray.getD s undef) []
   rw [zc]
   have Bw : ∀ o ∈ L, ∀ b ∈ RR (.obj o), LB b := fun o ho b hb => ⟨o, ho, hb⟩
   have Ol : ∀ o ∈ L, ∀ ob, look st.aA o = some ob → gW ob := fun o ho ob cA => by
    obtain ⟨uR, h1, h2⟩ := h0 o ho
    rw [h1] at cA
    obtain rfl := Option.some.inj cA
    exact h2
   rcases dw with hl | ⟨us, vs, rfl, rfl, hl, _⟩
   ·exact hl.rx hi Bw hle Ol hR
   ·simp only [RX] at hR ⊢
    obtain ⟨cs, hc, h2⟩ := hR
    exact ⟨cs, hc, hl.Oi hi Bw hle Ol h2⟩
  ·intro j ob ho
   have kO : look (dp 0 aA) j = some ob := ho
   rw [fW] at kO
   have hj : j < aA.length := by
    rcases Nat.lt_or_ge j aA.length with h' | h'
    ·exact h'
    ·simp [List.getElem?_eq_none h'] at kO
   have h1 := hi.aA _ _ (o5 j ob kO)
   have ph : AX (.obj j) = RR (.obj (bQ ν j)) := by simp [AX, hj]
   rw [ph]
   have h2 : dA (E.names (bQ ν)) j ob (RR (.obj (bQ ν j))) := dA.fy.2 h1
   refine dA.mono (E := E.names (bQ ν)) ⟨hle, fun b hb => ⟨rfl, fun hφ i => ?_⟩⟩ rfl (fun _ _ _ _ => rfl) h2
   have : ¬ LB b := fun hL => P0 b hL ⟨j, hj, hb⟩
   show (E.cB LB).φ b i = none
   rw [eV E this]; exact hφ i
  ·intro p
   cases p with
   | slot s => exact List.nodup_nil
   | obj j => by_cases hj : j < aA.length <;> simp [AX, hj, hi.nodup]
  ·intro p q kQ b hb fV
   cases p with
   | slot s => cases hb
   | obj i =>
    cases q with
    | slot s => cases fV
    | obj j =>
     by_cases xx : i < aA.length
     ·by_cases pO : j < aA.length
      ·simp only [AX, xx, pO, if_true] at hb fV
       have e7 : bQ ν i ≠ bQ ν j := fun e => kQ (by rw [KN i j xx pO e])
       exact hi.apart (.obj (bQ ν i)) (.obj (bQ ν j)) (by simpa using e7) b hb fV
      ·simp [AX, pO] at fV
     ·simp [AX, xx] at hb
  ·intro p b hb
   cases p with
   | slot s => cases hb
   | obj j =>
    by_cases hj : j < aA.length
    ·simp only [AX, hj, if_true] at hb
     exact ⟨(hi.own _ _ hb).1, fun h => h.2 ⟨j, hj, hb⟩⟩
    ·simp [AX, hj] at hb
  ·intro b _; rfl
  ·exact Nat.le_refl _
  ·intro b hb; exact hb.1
  ·rfl
  ·rfl
  ·rfl
  ·intro b i v h; exact h
  ·intro b i v h; exact .inl h
  ·intro o _; rfl
  ·show vs.toArray.size = args.length
   have := dM.length
   simp; omega
  ·rfl
 refine (eW K1 E1 AX _ Ht).mono ?_
 rintro e w' ⟨v, r, bg, he, Hu, AT, E', eU, rfl, ua⟩
 refine ⟨v, r, bg, he, Hu, AT, fun KO KP zd => ?_⟩
 -- what the callee leaves
 have CS : ∀ b, b < E.w.heap.size → ¬ PB b → E'.w.heap[b]? = E.w.heap[b]? := fun b h1 h2 => ua.ai b ⟨h1, h2⟩
 have fe : E.w.heap.size ≤ E'.w.heap.size := ua.size
 let kx : Env := { φ := fun b i => if LB b then none else E'.φ b i, β := fun o => match gn ν o with | some j => E'.β j | none => E.β o, w := E'.w }
 have BA : ∀ b i, LB b → kx.φ b i = none := fun b i h => by simp [kx, h]
 have sb : ∀ b i, ¬ LB b → kx.φ b i = E'.φ b i := fun b i h => by simp [kx, h]
 have Hv : ∀ b i v, E.φ b i = some v → kx.φ b i = some v := by
  intro b i v h
  have hn : ¬ LB b := fun hL => by rw [Oj b hL i] at h; cases h
  rw [sb b i hn]
  refine ua.φ0 b i v ?_
  show (E.cB LB).φ b i = some v
  exact hle b i v h
 have DY : ∀ b, b < E.w.heap.size → ¬ PB b → (∀ i, E.φ b i = none) → ∀ i, kx.φ b i = none := by
  intro b hb hP hφ i
  by_cases hL : LB b
  ·exact BA b i hL
  ·rw [sb b i hL]
   cases h : E'.φ b i with
   | none => rfl
   | some v =>
    rcases ua.grow b i v h with h1 | h1
    ·have Hw : (E.cB LB).φ b i = some v := h1
     rw [eV E hL, hφ i] at Hw; cases Hw
    ·exact absurd ⟨hb, hP⟩ h1
 have ga : ∀ R, (∀ b ∈ R, b < E.w.heap.size ∧ ¬ PB b) → E.On kx R := fun R h => ⟨Hv, fun b hb => ⟨CS b (h b hb).1 (h b hb).2, DY b (h b hb).1 (h b hb).2⟩⟩
 have hβ : ∀ o, o ∉ loose ν F → kx.β o = E.β o := by
  intro o ho
  show (match gn ν o with | some j => E'.β j | none => E.β o) = E.β o
  cases hp : gn ν o with
  | none => rfl
  | some j =>
   have h1 := nT hp
   have hF := x5 ho h1
   have h2 := ua.fixed j hF
   have h3 : (mJ K1 E1 ⟨1, F⟩).β0 j = E.β (bQ ν j) := rfl
   rw [h3] at h2
   have h4 : bQ ν j = o := by simp [bQ, List.getD, h1]
   rw [h4] at h2
   exact h2
 have KQ : ∀ j, j < aA.length → kx.β (bQ ν j) = E'.β j := by
  intro j hj
  show (match gn ν (bQ ν j) with | some j => E'.β j | none => E.β (bQ ν j)) = E'.β j
  rw [o3 zb (Gd j hj)]
 -- who owns what then
 let n9 : Own → List Nat := fun p => match p with
  | .slot s => match look st.a9 s with
   | some x => bif (loose ν F).any (fun o => x.dL o) then [] else RR (.slot s)
   | none => []
  | .obj o => match gn ν o with
   | some j => eU (.obj j)
   | none => RR (.obj o)
 have BB : ∀ s b, b ∈ n9 (.slot s) → b ∈ RR (.slot s) := by
  intro s b hb
  simp only [n9] at hb
  cases hs : look st.a9 s with
  | none => simp [hs] at hb
  | some x =>
   rw [hs] at hb
   simp only at hb
   cases hk : (loose ν F).any (fun o => x.dL o) with
   | true => simp [hk] at hb
   | false => simpa [hk] using hb
 have vu : ∀ p b, b ∈ RR p → (∀ j, j < aA.length → p ≠ .obj (bQ ν j)) → b < E.w.heap.size ∧ ¬ PB b := by
  intro p b hb hp
  refine ⟨(hi.own p b hb).1, ?_⟩
  rintro ⟨j, hj, fV⟩
  exact hi.apart p _ (hp j hj) b hb fV
 have sO : ∀ q b, b ∈ eU q → b < E'.w.heap.size ∧ (E.w.heap.size ≤ b ∨ PB b) := by
  intro q b hb
  have h := ua.own q b hb
  refine ⟨h.1, ?_⟩
  by_cases rL : b < E.w.heap.size
  ·right
   by_cases hP : PB b
   ·exact hP
   ·exact absurd ⟨rL, hP⟩ h.2
  ·left; omega
 have vv : ∀ p b, b ∈ RR p → (∀ j, j < aA.length → p ≠ .obj (bQ ν j)) → ∀ q, b ∉ eU q := by
  intro p b hb hp q hq
  have h1 := vu p b hb hp
  rcases (sO q b hq).2 with h | h
  ·omega
  ·exact h1.2 h
 have CT : ∀ q b, b ∈ eU q → ¬ G.K b := by
  intro q b hb hK
  rcases (sO q b hb).2 with h | ⟨j, hj, h⟩
  ·have := hi.small b hK; have := hi.size; omega
  ·exact (hi.own _ _ h).2 hK
 have DZ : ∀ o j, gn ν o = some j → j < aA.length ∧ bQ ν j = o := by
  intro o j h
  have h1 := nT h
  have hj : j < ν.length := by
   rcases Nat.lt_or_ge j ν.length with h' | h'
   ·exact h'
   ·simp [List.getElem?_eq_none h'] at h1
  exact ⟨om, by simp [bQ, List.getD, h1]⟩
 have wL : L = [] → ∀ b i, kx.φ b i = E'.φ b i := by
  intro hL b i
  refine sb b i ?_
  rintro ⟨o, ho, _⟩
  rw [hL] at ho; cases ho
 have ze : ∀ b, (∀ i, E'.φ b i = none) → ∀ i, kx.φ b i = none := by
  intro b h i
  by_cases hL : LB b
  ·exact BA b i hL
  ·rw [sb b i hL]; exact h i
 have ub : ∀ p b, b ∈ n9 p → (b ∈ RR p ∧ ∀ j, j < aA.length → p ≠ .obj (bQ ν j)) ∨ (∃ o j, p = .obj o ∧ gn ν o = some j ∧ b ∈ eU (.obj j)) := by
  intro p b hb
  cases p with
  | slot s => exact .inl ⟨BB s b hb, fun j hj => by simp⟩
  | obj o =>
   simp only [n9] at hb
   cases hp : gn ν o with
   | some j => rw [hp] at hb; exact .inr ⟨o, j, rfl, hp, hb⟩
   | none =>
    rw [hp] at hb
    refine .inl ⟨hb, fun j hj e => nU hp ?_⟩
    have : o = bQ ν j := by simpa using e
    rw [this]; exact List.mem_of_getElem? (Gd j hj)
 have x6 : Inv G kx n9 (mK st ν F bg) a := by
  refine { hi with ku := ?_, a9 := ?_, aA := ?_, nodup := ?_, apart := ?_, own := ?_, ai := ?_, size := ?_, os := ?_, tape := ?_, output := ?_, φ0 := ?_, grow := ?_, fixed := ?_ }
  ·intro b i v h
   by_cases hL : LB b
   ·rw [BA b i hL] at h; cases h
   ·rw [sb b i hL] at h; exact ua.ku b i v h
  ·intro s y hy
   have AP : look ((st.a9).map fun p => (p.1, AW.dS (loose ν F) p.2)) s = some y := hy
   rw [mC (AW.dS (loose ν F))] at AP
   cases hs : look st.a9 s with
   | none => simp [hs] at AP
   | some x =>
    rw [hs] at AP
    simp only [Option.map_some, Option.some.injEq] at AP
    subst AP
    cases hk : (loose ν F).any (fun o => x.dL o) with
    | true =>
     have : n9 (.slot s) = [] := by simp [n9, hs, hk]
     rw [this]
     simp [AW.dS, hk, RX]
    | false =>
     have : n9 (.slot s) = RR (.slot s) := by simp [n9, hs, hk]
     rw [this]
     simp only [AW.dS, hk, cond_false]
     refine RX.mono x _ _ (ga _ (fun b hb => vu _ b hb (fun j hj => by simp))) (fun o ho => hβ o (fun wH => ?_)) (hi.a9 s x hs)
     have : (loose ν F).any (fun o => x.dL o) = true := List.any_eq_true.2 ⟨o, wH, ho⟩
     rw [hk] at this; cases this
  ·intro o ob ho
   have kO : look (ν.zip (bg.map (Obj.fy (bQ ν))) ++ (st.aA.map fun p => (p.1, p.2.dS (loose ν F)))) o = some ob := ho
   rw [tZ (by simp [AT, hlen])] at kO
   cases hp : gn ν o with
   | some j =>
    rw [hp] at kO
    simp only [List.getElem?_map, Option.map_eq_some_iff] at kO
    obtain ⟨uR, BC, rfl⟩ := kO
    obtain ⟨hj, P3⟩ := DZ o j hp
    have tS : n9 (.obj o) = eU (.obj j) := by simp [n9, hp]
    rw [tS, ← P3]
    have h1 : dA E' j uR (eU (.obj j)) := ua.aA j uR (by rw [fW]; exact BC)
    have qg : uR ∈ bg := List.mem_of_getElem? BC
    refine dA.fy.1 (?_ : dA (kx.names (bQ ν)) j uR (eU (.obj j)))
    have h3 : dA { E' with φ := kx.φ } j uR (eU (.obj j)) := by
     rcases zd with hL | AR
     ·exact dA.mono (E := E') ⟨fun b i v h => by show kx.φ b i = _; rw [wL hL b i]; exact h, fun b _ => ⟨rfl, fun h i => by show kx.φ b i = _; rw [wL hL b i]; exact h i⟩⟩ rfl (fun _ _ _ _ => rfl) h1
     ·exact dA.off (E := E') (AR.2 uR qg) (fun b _ => ⟨rfl, ze b⟩) (fun _ => rfl) h1
    refine dA.mono (E := { E' with φ := kx.φ }) ⟨fun _ _ _ h => h, fun b _ => ⟨rfl, fun h => h⟩⟩ (KQ j hj) (fun ys tM q hq => ?_) h3
    subst tM
    exact KQ q (X.j7 (KP _ qg) hq)
   | none =>
    rw [hp] at kO
    simp only at kO
    rw [mC (Obj.dS (loose ν F))] at kO
    cases hs : look st.aA o with
    | none => simp [hs] at kO
    | some GR =>
     rw [hs] at kO
     simp only [Option.map_some, Option.some.injEq] at kO
     subst kO
     have tS : n9 (.obj o) = RR (.obj o) := by simp [n9, hp]
     rw [tS]
     have BD : ∀ j, j < aA.length → Own.obj o ≠ .obj (bQ ν j) := fun j hj e => nU hp (by
      have : o = bQ ν j := by simpa using e
      rw [this]; exact List.mem_of_getElem? (Gd j hj))
     have rM := ga _ (fun b hb => vu _ b hb BD)
     have kS := hi.aA o GR hs
     have KR : kx.β o = E.β o := by
      show (match gn ν o with | some j => E'.β j | none => E.β o) = E.β o
      rw [hp]
     cases GR with
     | cells ys =>
      simp only [Obj.dS, dA] at kS ⊢
      obtain ⟨qo, B, cs, tb, hB, hw, hf, Hx, jh, gN⟩ := kS
      have h2 := rM.2 B.b (by rw [gN]; simp)
      exact ⟨pS _ qo, B, cs, tb, KR.trans hB, h2.1.trans hw, h2.2 hf, by simpa using Hx,
       RO.mono _ cs _ [] (rM.sub (fun _ h => by cases h)) (fun q hq => hβ q (pT hq)) (RO.dS qo jh), gN⟩
     | rows s rs => exact dA.mono rM KR (fun ys h => by cases h) kS
     | uQ es => exact dA.mono rM KR (fun ys h => by cases h) kS
     | gone => simpa [Obj.dS, dA] using kS
  ·intro p
   cases p with
   | slot s =>
    simp only [n9]
    cases hs : look st.a9 s with
    | none => exact List.nodup_nil
    | some x =>
     simp only
     cases (loose ν F).any (fun o => x.dL o) with
     | true => exact List.nodup_nil
     | false => exact hi.nodup _
   | obj o =>
    simp only [n9]
    cases gn ν o with
    | some j => exact ua.nodup _
    | none => exact hi.nodup _
  ·intro p q kQ b hb fV
   rcases ub p b hb with ⟨h1, h2⟩ | ⟨o, j, rfl, hp, h1⟩
   ·rcases ub q b fV with ⟨h3, h4⟩ | ⟨o', j', rfl, CP, h3⟩
    ·exact hi.apart p q kQ b h1 h3
    ·exact vv p b h1 h2 _ h3
   ·rcases ub q b fV with ⟨h3, h4⟩ | ⟨o', j', rfl, CP, h3⟩
    ·exact vv q b h3 h4 _ h1
    ·have P4 : j ≠ j' := fun e => by
      subst e
      have := (DZ o j hp).2.symm.trans (DZ o' j CP).2
      exact kQ (by rw [this])
     exact ua.apart (.obj j) (.obj j') (by simpa using P4) b h1 h3
  ·intro p b hb
   rcases ub p b hb with ⟨h1, h2⟩ | ⟨o, j, rfl, hp, h1⟩
   ·have h4 := hi.own p b h1
    exact ⟨Nat.lt_of_lt_of_le h4.1 fe, h4.2⟩
   ·exact ⟨(sO _ b h1).1, CT _ b h1⟩
  ·intro b hK
   have h1 : b < E.w.heap.size := Nat.lt_of_lt_of_le (hi.small b hK) hi.size
   have h2 : ¬ PB b := fun ⟨j, hj, h⟩ => (hi.own _ _ h).2 hK
   have := CS b h1 h2
   exact this.trans (hi.ai b hK)
  ·exact Nat.le_trans hi.size fe
  ·exact ua.os.trans hi.os
  ·exact ua.tape.trans hi.tape
  ·exact ua.output.trans hi.output
  ·exact fun b i v h => Hv b i v (hi.φ0 b i v h)
  ·intro b i v h
   by_cases hL : LB b
   ·rw [BA b i hL] at h; cases h
   ·rw [sb b i hL] at h
    rcases ua.grow b i v h with h1 | h1
    ·have Hw : (E.cB LB).φ b i = some v := h1
     rw [eV E hL] at Hw
     exact hi.grow b i v Hw
    ·right
     intro hK
     exact h1 ⟨Nat.lt_of_lt_of_le (hi.small b hK) hi.size, fun ⟨j, hj, h⟩ => (hi.own _ _ h).2 hK⟩
  ·intro o ho
   rw [hβ o (fun wH => by rw [Bz o wH] at ho; cases ho)]
   exact hi.fixed o ho
 have hr : RX kx (r.fy (bQ ν)) v (eU (.slot 0)) := by
  have h1 : RX E' r v (eU (.slot 0)) := ua.a9 0 r rfl
  have h3 : RX { E' with φ := kx.φ } r v (eU (.slot 0)) := by
   rcases zd with hL | AR
   ·exact RX.mono (E := E') r _ _ ⟨fun b i v h => by show kx.φ b i = _; rw [wL hL b i]; exact h, fun b _ => ⟨rfl, fun h i => by show kx.φ b i = _; rw [wL hL b i]; exact h i⟩⟩ (fun _ _ => rfl) h1
   ·exact RX.off (E := E') r _ _ AR.1 (fun b _ => ⟨rfl, ze b⟩) (fun _ => rfl) h1
  refine (RX.fy r v _).1 (?_ : RX (kx.names (bQ ν)) r v (eU (.slot 0)))
  exact RX.mono (E := { E' with φ := kx.φ }) r _ _ ⟨fun _ _ _ h => h, fun b _ => ⟨rfl, fun h => h⟩⟩ (fun q hq => KQ q (X.wK KO hq)) h3
 refine ⟨kx, _, rfl, x6.put hd hr (ua.nodup _) (fun b hb => ⟨(sO _ b hb).1, CT _ b hb, fun p _ xz => ?_⟩)⟩
 rcases ub p b xz with ⟨h1, h2⟩ | ⟨o, j, rfl, hp, h1⟩
 ·exact vv p b h1 h2 _ hb
 ·exact ua.apart (.slot 0) (.obj j) (by simp) b hb h1

theorem Inv.call {G : Ctx} {E : Env} {RR : Own → List Nat} {a : Act} {f : FuncId} {cx : List Operand} {xs args : List X} {aA : List Obj} {F ν L : List Nat} {Q' : X → List Obj → Prop} (hi : Inv G E RR st a) (eW : az P f args aA F Q')
  (fh : jG st cx = some xs) (dM : dJ st L (bQ ν) xs args) (o5 : ∀ j ob, aA[j]? = some ob → look st.aA (bQ ν j) = some (ob.fy (bQ ν))) (hlen : ν.length = aA.length) (zb : ν.Nodup) (By : ∀ o ∈ L, o ∉ ν)
  (h0 : ∀ o ∈ L, ∃ ob, look st.aA o = some ob ∧ gW ob) (Bz : ∀ o ∈ loose ν F, G.fn.F.elem o = false) (hd : d < G.fn.n) :
  Calls P f (cx.map a.eval).toArray E.w fun e w' => ∃ v r bg, e = .returned v ∧ Q' r bg ∧ bg.length = aA.length ∧
   (r.lt aA.length = true → (∀ ob ∈ bg, ob.lt aA.length = true) → (L = [] ∨ (r.plain ∧ ∀ ob ∈ bg, ob.plain)) → ∃ kx q9, kx.w = w' ∧ Inv G kx q9 ((mK st ν F bg).put d (r.fy (bQ ν))) (a.put (some d) v)) := by
 obtain ⟨vr, CR⟩ := o4 hi fh
 exact hi.CQ eW (by simpa using vr) (fun j x hx => by
  obtain ⟨o, ho, R, hR⟩ := CR j x hx
  exact ⟨a.eval o, by simp [ho], R, hR⟩) dM o5 hlen zb By h0 Bz hd

theorem aL.call {f : FuncId} {cx : Array Operand} {mA : Array TypeId} {xs args : List X} {aA : List Obj} {F : List Nat} {Q' : X → List Obj → Prop} (ν L : List Nat) (jf : aU P f = true) (eW : az P f args aA F Q')
  (fh : jG st cx.toList = some xs) (dM : dJ st L (bQ ν) xs args) (o5 : ∀ j ob, aA[j]? = some ob → look st.aA (bQ ν j) = some (ob.fy (bQ ν))) (hlen : ν.length = aA.length) (zb : ν.Nodup) (By : ∀ o ∈ L, o ∉ ν)
  (h0 : ∀ o ∈ L, ∃ ob, look st.aA o = some ob ∧ gW ob) (Bz : ∀ o ∈ loose ν F, N.F.elem o = false) (hd : d < N.n)
  (k : ∀ r bg, Q' r bg → bg.length = aA.length → (r.lt aA.length = true ∧ (∀ ob ∈ bg, ob.lt aA.length = true) ∧ (L = [] ∨ (r.plain ∧ ∀ ob ∈ bg, ob.plain))) ∧ aL P N all rest ((mK st ν F bg).put d (r.fy (bQ ν))) Q) :
  aL P N all (⟨some d, .call ⟨.value (.func f), cx, mA⟩, ty, pos, af, none⟩ :: rest) st Q := by
 intro G hn a w hh
 obtain ⟨E, RR, rfl, hi⟩ := hh
 have hc := hi.call eW fh dM o5 hlen zb By h0 (fun o ho => by rw [hn]; exact Bz o ho) (d := d) (by rw [hn]; exact hd)
 have g7 : (execOp a.eval ⟨some d, .call ⟨.value (.func f), cx, mA⟩, ty, pos, af, none⟩).run P E.w = .ok (.enter f (cx.toList.map a.eval).toArray) E.w := by
  have e : (execOp a.eval ⟨some d, .call ⟨.value (.func f), cx, mA⟩, ty, pos, af, none⟩).run P E.w = (callFunc f ((#[] ++ cx.map a.eval) ++ #[])).run P E.w := rfl
  rw [e, lB jf]
  congr 2
  apply Array.ext'
  simp
 refine wpList_plain rfl fun K hK => ?_
 simp only [Oper.wp, g7, Oper.upon_enter]
 refine hc.mono ?_
 rintro e w' ⟨v, r, bg, rfl, Hu, AT, zf⟩
 obtain ⟨⟨h1, h2, h3⟩, hk⟩ := k r bg Hu AT
 obtain ⟨kx, q9, hw, hI⟩ := zf h1 h2 h3
 exact hK _ _ (hk G hn _ _ ⟨kx, q9, hw, hI⟩)

end
end Go.AW
/- Part of the abstract walk: the rules in the forms that proofs use. -/
namespace Go.AW
open Go

section
variable {P : Program} {N : eC} {st : St} {Q : Exit → St → Prop} {all : Array Oper} {rest : List Oper} {d : Nat} {ty : TypeId} {pos : String} {af : Array Edge}

theorem dn.aV {c : Operand} {x y : Code} (hc : bR st c = some (.v (.bool true))) (h : dn P N x st Q) : dn P N (.cond c x y) st Q := dn.cond hc (fun _ => h) (fun h => by cases h)
theorem dn.cX {c : Operand} {x y : Code} (hc : bR st c = some (.v (.bool false))) (h : dn P N y st Q) : dn P N (.cond c x y) st Q := dn.cond hc (fun h => by cases h) (fun _ => h)

section ints
variable {dst : Option Nat} {g : Option (Nat × Bool)} {t t' : TypeId} {x y : Operand} {a b : Int}
theorem Y.aT (hx : bR st x = some (.v (.int .i64 a))) (hy : bR st y = some (.v (.int .i64 b))) (hr : -9223372036854775808 ≤ a + b ∧ a + b ≤ 9223372036854775807) : Yields P N st ⟨dst, .binOp .add t x y t', ty, pos, af, g⟩ (.v (.int .i64 (a + b))) :=
 Y.add hx hy (IntWalk.i64_in _ hr)
theorem Y.iy (hx : bR st x = some (.v (.int .i64 a))) (hy : bR st y = some (.v (.int .i64 b))) (hr : -9223372036854775808 ≤ a - b ∧ a - b ≤ 9223372036854775807) : Yields P N st ⟨dst, .binOp .sub t x y t', ty, pos, af, g⟩ (.v (.int .i64 (a - b))) :=
 Y.sub hx hy (IntWalk.i64_in _ hr)
theorem Y.bJ (hx : bR st x = some (.v (.int .i64 a))) (hy : bR st y = some (.v (.int .i64 b))) (hr : -9223372036854775808 ≤ a * b ∧ a * b ≤ 9223372036854775807) : Yields P N st ⟨dst, .binOp .mul t x y t', ty, pos, af, g⟩ (.v (.int .i64 (a * b))) :=
 Y.mul hx hy (IntWalk.i64_in _ hr)
theorem Y.kU (hx : bR st x = some (.v (.int .i64 a))) (hy : bR st y = some (.v (.int .i64 b))) (hr : 0 ≤ a ∧ a ≤ 9223372036854775807 ∧ 1 ≤ b) : Yields P N st ⟨dst, .binOp .quo t x y t', ty, pos, af, g⟩ (.v (.int .i64 (a / b))) :=
 Y.quo hx hy om (IntWalk.i64_quo a b hr)
theorem Y.jH {k : IntKind} (hx : bR st x = some (.v (.int k a))) (hy : bR st y = some (.v (.int k b))) (hr : 0 ≤ a ∧ 1 ≤ b) : Yields P N st ⟨dst, .binOp .rem t x y t', ty, pos, af, g⟩ (.v (.int k (a % b))) :=
 Y.rem hx hy om (IntWalk.rem_in a b hr.1)
end ints

theorem sc (x : X) : dS [] x = x := rfl
theorem lC (st : St) : mK st [] [] [] = st := by
 have h1 : ∀ (l : List (Nat × X)), l.map (fun p => (p.1, AW.dS [] p.2)) = l := by
  intro l
  induction l with
  | nil => rfl
  | cons p r ih => simp [sc]
 have h2 : ∀ ob : Obj, ob.dS [] = ob := by
  intro ob
  cases ob with
  | cells xs =>
   have : xs.map (AW.dS []) = xs := by
    induction xs with
    | nil => rfl
    | cons x r ih => simp [ih, sc]
   simp [Obj.dS, this]
  | rows => rfl
  | uQ => rfl
  | gone => rfl
 have h3 : ∀ (l : List (Nat × Obj)), l.map (fun p => (p.1, p.2.dS [])) = l := by
  intro l
  induction l with
  | nil => rfl
  | cons p r ih => simp [h2]
 cases st
 simp [mK, St.dS, loose, dp, h1, h3]

def nV (st : St) (ν : Nat → Nat) : Nat → List Obj → Prop
 | _, [] => True
 | j, ob :: r => look st.aA (ν j) = some (ob.fy ν) ∧ nV st ν (j + 1) r

theorem nV.get {ν : Nat → Nat} : ∀ {aA : List Obj} {i : Nat}, nV st ν i aA → ∀ j ob, aA[j]? = some ob → look st.aA (ν (i + j)) = some (ob.fy ν)
 | [], _, _, _, _, h => by simp at h
 | o :: r, i, h, j, ob, hj => by
  simp only [nV] at h
  cases j with
  | zero => simp at hj; subst hj; simpa using h.1
  | succ j =>
   have := nV.get h.2 j ob (by simpa using hj)
   rw [show i + (j + 1) = i + 1 + j by omega]; exact this

theorem aL.kz {f : FuncId} {cx : Array Operand} {mA : Array TypeId} {xs args : List X} {Q' : X → List Obj → Prop} (jf : aU P f = true) (eW : az P f args [] [] Q')
  (fh : jG st cx.toList = some xs) (dM : dJ st [] (bQ []) xs args) (hd : d < N.n)
  (k : ∀ r, Q' r [] → r.lt 0 = true ∧ aL P N all rest (st.put d (r.fy (bQ []))) Q) :
  aL P N all (⟨some d, .call ⟨.value (.func f), cx, mA⟩, ty, pos, af, none⟩ :: rest) st Q := by
 refine aL.call [] [] jf eW fh dM (fun j ob h => by simp at h) rfl List.nodup_nil (fun _ h => by cases h) (fun _ h => by cases h) (fun _ h => by cases h) hd ?_
 intro r bg hq hl
 have : bg = [] := List.eq_nil_of_length_eq_zero hl
 subst this
 obtain ⟨h1, h2⟩ := k r hq
 refine ⟨⟨h1, fun _ h => (by cases h), .inl rfl⟩, ?_⟩
 rw [lC]; exact h2

theorem aL.Hy {f : FuncId} {cx : Array Operand} {mA : Array TypeId} {xs args : List X} {R R' : X} (jf : aU P f = true) (eW : az P f args [] [] (fun r o => r = R ∧ o = []))
  (fh : jG st cx.toList = some xs) (dM : dJ st [] (bQ []) xs args) (hd : d < N.n) (iv : R.lt 0 = true) (hR : R.fy (bQ []) = R')
  (k : aL P N all rest (st.put d R') Q) : aL P N all (⟨some d, .call ⟨.value (.func f), cx, mA⟩, ty, pos, af, none⟩ :: rest) st Q := by
 refine aL.kz jf eW fh dM hd ?_
 rintro r ⟨rfl, _⟩
 rw [hR]; exact ⟨iv, k⟩

theorem aL.Hz {f : FuncId} {cx : Array Operand} {mA : Array TypeId} {xs args : List X} {R R' : X} (L : List Nat) (jf : aU P f = true) (eW : az P f args [] [] (fun r o => r = R ∧ o = []))
  (fh : jG st cx.toList = some xs) (dM : dJ st L (bQ []) xs args) (h0 : ∀ o ∈ L, ∃ ob, look st.aA o = some ob ∧ gW ob) (hd : d < N.n) (iv : R.lt 0 = true) (hR : R.fy (bQ []) = R') (hp : R.plain)
  (k : aL P N all rest (st.put d R') Q) : aL P N all (⟨some d, .call ⟨.value (.func f), cx, mA⟩, ty, pos, af, none⟩ :: rest) st Q := by
 refine aL.call [] L jf eW fh dM (fun j ob h => by simp at h) rfl List.nodup_nil (fun _ _ h => by cases h) h0 (fun _ h => by cases h) hd ?_
 rintro r bg ⟨rfl, rfl⟩ hl
 refine ⟨⟨iv, fun _ h => (by cases h), .inr ⟨hp, fun _ h => (by cases h)⟩⟩, ?_⟩
 rw [lC, hR]; exact k

theorem aL.mL {f : FuncId} {cx : Array Operand} {mA : Array TypeId} {xs args : List X} {aA : List Obj} {F : List Nat} {Q' : X → List Obj → Prop} (ν L : List Nat) (jf : aU P f = true) (eW : az P f args aA F Q')
  (fh : jG st cx.toList = some xs) (dM : dJ st L (bQ ν) xs args) (o5 : nV st (bQ ν) 0 aA) (hlen : ν.length = aA.length) (zb : ν.Nodup) (By : ∀ o ∈ L, o ∉ ν)
  (h0 : ∀ o ∈ L, ∃ ob, look st.aA o = some ob ∧ gW ob) (Bz : ∀ o ∈ loose ν F, N.F.elem o = false) (hd : d < N.n)
  (k : ∀ r bg, Q' r bg → bg.length = aA.length → (r.lt aA.length = true ∧ (∀ ob ∈ bg, ob.lt aA.length = true) ∧ (L = [] ∨ (r.plain ∧ ∀ ob ∈ bg, ob.plain))) ∧ aL P N all rest ((mK st ν F bg).put d (r.fy (bQ ν))) Q) :
  aL P N all (⟨some d, .call ⟨.value (.func f), cx, mA⟩, ty, pos, af, none⟩ :: rest) st Q :=
 aL.call ν L jf eW fh dM (fun j ob h => by have := o5.get j ob h; rwa [Nat.zero_add] at this) hlen zb By h0 Bz hd k

theorem bl {α : Type} {s : Nat} {f : α → List X} {l : List α} (h : ∀ a, X.bC (f a) = true) : gW (.rows s (l.map f)) := by
 intro r hr
 obtain ⟨a, _, rfl⟩ := List.mem_map.1 hr
 exact h a

end
end Go.AW
/- Part of the abstract walk: regions whose order is open. -/
namespace Go.AW
open Go

section
variable {P : Program} {N : eC} {st : St} {Q : Exit → St → Prop} {K : St → Prop} {all : Array Oper} {rest : List Oper} {d : Nat} {ty : TypeId} {pos : String} {af : Array Edge}

def gb (P : Program) (N : eC) (all : Array Oper) (l : List Oper) (st : St) (K : St → Prop) : Prop :=
 ∀ G : Ctx, G.fn = N → ∀ a w, ct G st a w → wpStill P all w (fun a' => ∃ aR, K aR ∧ ct G aR a' w) l a

theorem ct.drew {G : Ctx} {a : Act} {w : World} (h : ct G st a w) : ct G st a { w with drawn := w.drawn + 1 } := by
 obtain ⟨E, RR, rfl, hi⟩ := h
 exact ⟨{ E with w := E.w.drew }, RR, rfl, hi.wD (cW.drew G E) rfl⟩

theorem gb.nil (h : K st) : gb P N all [] st K := fun _ _ _ _ hh => ⟨st, h, hh⟩

theorem gb.val {op : Op} {x : X} (hy : Yields P N st ⟨some d, op, ty, pos, af, none⟩ x) (hd : d < N.n) (k : gb P N all rest (st.put d x) K) : gb P N all (⟨some d, op, ty, pos, af, none⟩ :: rest) st K := by
 intro G hn a w hh
 obtain ⟨E, RR, rfl, hi⟩ := hh
 obtain ⟨u, hr, hx⟩ := hy G E RR a hn hi
 unfold wpStill
 rw [if_pos (by simp [Region.wanted])]
 simp only [Oper.still, hr, Oper.stillUpon_value]
 exact k G hn _ _ ⟨E, _, rfl, hi.gd (hn ▸ hd) hx⟩

theorem gb.split {b : Bool} (hx : look st.a9 d = some (.v (.bool b))) (ht : b = true → gb P N all rest (st.put d (.v (.bool true))) K) (hf : b = false → gb P N all rest (st.put d (.v (.bool false))) K) : gb P N all rest st K := by
 have : Le st (st.put d (.v (.bool b))) := ⟨eD.cons hx (fun _ _ h => h), fun _ _ h => h⟩
 intro G hn a w hh
 cases b
 ·exact hf rfl G hn a w (this.holds hh)
 ·exact ht rfl G hn a w (this.holds hh)

theorem x7 {G : Ctx} {E : Env} {RR : Own → List Nat} {a : Act} (hi : Inv G E RR st a) {b : Bool} (hd : d < G.fn.n) (hx : look st.a9 d = some (.v (.bool b))) : a.tmps[d]? = some (.bool b) := by
 have hs := hi.a9 d _ hx
 simp only [RX] at hs
 have fe : d < a.tmps.size := by rw [hi.tmps]; exact hd
 have := hs.1
 simp only [Array.getD, fe, dif_pos] at this
 rw [Array.getElem?_eq_getElem fe]
 exact congrArg some this

theorem gb.aO {dst : Option Nat} {op : Op} {j : Nat} {want : Bool} (hj : (all[j]?).bind (·.dst) = some d) (hd : d < N.n) (hx : look st.a9 d = some (.v (.bool want)))
  (k : gb P N all (⟨dst, op, ty, pos, af, none⟩ :: rest) st K) : gb P N all (⟨dst, op, ty, pos, af, some (j, want)⟩ :: rest) st K := by
 intro G hn a w hh
 have hk := k G hn a w hh
 obtain ⟨E, RR, rfl, hi⟩ := hh
 have hv := x7 hi (by rw [hn]; exact hd) hx
 have hw : Region.wanted ⟨dst, op, ty, pos, af, some (j, want)⟩ (yielded all a.tmps) = true := by
  simp [Region.wanted, yielded, hj, hv]
 unfold wpStill at hk ⊢
 rw [if_pos hw]
 rw [if_pos (by simp [Region.wanted])] at hk
 exact hk

theorem dn.BE {id : Nat} {l : List Oper} (n : Nat) (hm : P.follows .mixedOrders = true) (hB : Region.lexTailB .any l.toArray n = true)
  (h : gb P N l.toArray (l.take n) st (fun aR => aL P N l.toArray (l.drop n) aR Q)) : dn P N (.region id l.toArray true) st Q := by
 intro G hn a w hh
 refine wp_region_still_tail n hm hB ?_
 have h1 := h G hn a _ hh.drew
 have mono : ∀ (l' : List Oper) (a : Act) {w : World} {K1 K2 : Act → Prop}, (∀ a, K1 a → K2 a) → wpStill P l.toArray w K1 l' a → wpStill P l.toArray w K2 l' a := by
  intro l'
  induction l' with
  | nil => intro a w K1 K2 hk h; exact hk _ h
  | cons o r ih =>
   intro a w K1 K2 hk h
   unfold wpStill at h ⊢
   split
   ·rename_i hw; rw [if_pos hw] at h; exact Oper.still_mono (fun a' h' => ih a' hk h') h
   ·rename_i hw; rw [if_neg hw] at h; exact ih _ hk h
 exact mono _ _ (fun a' ⟨aR, hk, gy⟩ => hk G hn a' _ gy) h1

theorem dn.gX {id : Nat} {l : List Oper} (hm : P.follows .mixedOrders = true) (hB : Region.lexB .any l.toArray = true)
  (h : gb P N l.toArray l st (fun aR => Q .normal aR)) : dn P N (.region id l.toArray true) st Q := by
 intro G hn a w hh
 refine wp_region_still_lit hm hB ?_
 have h1 := h G hn a _ hh.drew
 have mono : ∀ (l' : List Oper) (a : Act) {w : World} {K1 K2 : Act → Prop}, (∀ a, K1 a → K2 a) → wpStill P l.toArray w K1 l' a → wpStill P l.toArray w K2 l' a := by
  intro l'
  induction l' with
  | nil => intro a w K1 K2 hk h; exact hk _ h
  | cons o r ih =>
   intro a w K1 K2 hk h
   unfold wpStill at h ⊢
   split
   ·rename_i hw; rw [if_pos hw] at h; exact Oper.still_mono (fun a' h' => ih a' hk h') h
   ·rename_i hw; rw [if_neg hw] at h; exact ih _ hk h
 exact mono _ _ (fun a' ⟨aR, hk, gy⟩ => ⟨aR, gy, hk⟩) h1

end
end Go.AW
/- Part of the abstract walk: decided tests, meeting points, and slices that are written no more. -/
namespace Go.AW
open Go

section
variable {P : Program} {N : eC} {st aR : St} {Q : Exit → St → Prop} {K : St → Prop} {all : Array Oper} {rest : List Oper} {d : Nat} {ty : TypeId} {pos : String} {af : Array Edge}

theorem dn.aB {c : Operand} {x y : Code} {p : Prop} {inst : Decidable p} (hc : bR st c = some (.v (.bool (decide p)))) (ht : p → dn P N x st Q) (hf : ¬ p → dn P N y st Q) :
  dn P N (.cond c x y) st Q := dn.cond hc (fun h => ht (of_decide_eq_true h)) (fun h => hf (of_decide_eq_false h))

theorem Le.test {b : Bool} (hx : look st.a9 d = some (.v (.bool b))) : Le st (st.put d (.v (.bool b))) := ⟨eD.cons hx (fun _ _ h => h), fun _ _ h => h⟩

theorem dn.wM {x y : Code} {b : Bool} (hc : look st.a9 d = some (.v (.bool b))) (ht : b = true → dn P N x (st.put d (.v (.bool true))) Q) (hf : b = false → dn P N y (st.put d (.v (.bool false))) Q) :
  dn P N (.cond (.tmp d) x y) st Q := by
 refine dn.cond (b := b) hc (fun h => ?_) (fun h => ?_)
 ·subst h; exact (ht rfl).le (Le.test hc)
 ·subst h; exact (hf rfl).le (Le.test hc)
theorem dn.bD {x y : Code} {p : Prop} {inst : Decidable p} (hc : look st.a9 d = some (.v (.bool (decide p)))) (ht : p → dn P N x (st.put d (.v (.bool true))) Q) (hf : ¬ p → dn P N y (st.put d (.v (.bool false))) Q) :
  dn P N (.cond (.tmp d) x y) st Q := dn.wM hc (fun h => ht (of_decide_eq_true h)) (fun h => hf (of_decide_eq_false h))

theorem aL.aE {p : Prop} {inst : Decidable p} (hx : look st.a9 d = some (.v (.bool (decide p))))
  (ht : p → aL P N all rest (st.put d (.v (.bool true))) Q) (hf : ¬ p → aL P N all rest (st.put d (.v (.bool false))) Q) : aL P N all rest st Q :=
 aL.split hx (fun h => ht (of_decide_eq_true h)) (fun h => hf (of_decide_eq_false h))
theorem gb.aE {p : Prop} {inst : Decidable p} (hx : look st.a9 d = some (.v (.bool (decide p))))
  (ht : p → gb P N all rest (st.put d (.v (.bool true))) K) (hf : ¬ p → gb P N all rest (st.put d (.v (.bool false))) K) : gb P N all rest st K :=
 gb.split hx (fun h => ht (of_decide_eq_true h)) (fun h => hf (of_decide_eq_false h))

theorem dn.join {x y : Code} {ι : Type} (J : ι → St) (I : ι → Prop) (hx : dn P N x st (g0 (fun aR => ∃ i, I i ∧ Le aR (J i)) Q)) (hy : ∀ i, I i → dn P N y (J i) Q) : dn P N (.seq x y) st Q := by
 refine dn.seq (hx.mono ?_)
 intro e x8 h
 cases e with
 | normal => obtain ⟨i, hI, hle⟩ := h; exact (hy i hI).le hle
 | _ => exact h

theorem dJ.ai {L : List Nat} {ν : Nat → Nat} {x : X} {xs ys : List X} (h : x.free = true) (he : x.fy ν = x) (hs : dJ st L ν xs ys) : dJ st L ν (x :: xs) (x :: ys) := by
 have := tY.same (st := st) (L := L) (ν := ν) h
 rw [he] at this
 exact .cons this hs

def da (rs : List (List X)) : Prop := ∀ r ∈ rs, X.bC r = true
theorem da.map {α : Type} {f : α → List X} {l : List α} (h : ∀ a, X.bC (f a) = true) : da (l.map f) := by
 intro r hr
 obtain ⟨a, _, rfl⟩ := List.mem_map.1 hr
 exact h a
theorem jI {α : Type} {f : α → List X} (h : ∀ a, X.gV (f a)) : ∀ l : List α, X.lA (l.map f)
 | [] => by simp [X.lA]
 | a :: r => by simp only [List.map_cons, X.lA]; exact ⟨h a, jI h r⟩

theorem Sh.freeze {s : Nat} {rows : List (List X)} (hx : look st.a9 d = some (.ep s rows)) (hf : da rows) : Sh N st (st.put d (.fz s rows)) := by
 intro G hn a w hh
 obtain ⟨E, RR, rfl, hi⟩ := hh
 have hv := hi.a9 d _ hx
 have iw := hi.nodup (.slot d)
 simp only [RX] at hv
 obtain ⟨hu, base, cap, hc, dw⟩ := hv
 rcases dw with ⟨h1, h2, h3⟩ | ⟨b, off, cs, ty, R', hb, hw, hl, ho, hφ, jh, gN⟩
 ·refine ⟨E, _, rfl, hi.relabel (d := d) (R := []) ?_ List.nodup_nil (fun _ h => by cases h)⟩
  simp only [RX]
  exact ⟨trivial, hu, base, cap, hc, .inl ⟨h1, h2⟩⟩
 ·have Bx := cD.free hf jh
  subst Bx
  have mH : b ∈ RR (.slot d) := by rw [gN]; simp
  have l3 := hi.no d
  have hle : ∀ c i v, E.φ c i = some v → (if c = b then cs[i]? else E.φ c i) = some v := by
   intro c i v h
   by_cases fT : c = b
   ·subst fT; rw [hφ i] at h; cases h
   ·rw [if_neg fT]; exact h
  have ga : ∀ R : List Nat, b ∉ R → E.On { E with φ := fun c i => if c = b then cs[i]? else E.φ c i } R := by
   intro R DG
   refine ⟨hle, fun c nN => ⟨rfl, fun h i => ?_⟩⟩
   have : c ≠ b := fun e => DG (e ▸ nN)
   show (if c = b then cs[i]? else E.φ c i) = none
   rw [if_neg this]; exact h i
  have Ea : ∀ p, b ∉ fm RR (.slot d) [] p := by
   intro p hp
   unfold fm at hp
   split at hp
   ·cases hp
   ·rename_i h; exact hi.apart _ _ h b hp mH
  have KS : Inv G { E with φ := fun c i => if c = b then cs[i]? else E.φ c i } (fm RR (.slot d) []) (st.put d .no) a :=
   {l3 with
    ku := by
     intro c i v h
     change (if c = b then cs[i]? else E.φ c i) = some v at h
     by_cases fT : c = b
     ·subst fT; rw [if_pos rfl] at h
      show E.w.cell? _ = _
      rw [dk hw]; exact h
     ·rw [if_neg fT] at h; exact hi.ku c i v h
    a9 := fun q x hx => RX.mono x _ _ (ga _ (Ea _)) (fun _ _ => rfl) (l3.a9 q x hx)
    aA := fun o ob cA => dA.mono (ga _ (Ea _)) rfl (fun _ _ _ _ => rfl) (l3.aA o ob cA)
    φ0 := fun c i v h => hle c i v (hi.φ0 c i v h)
    grow := by
     intro c i v h
     change (if c = b then cs[i]? else E.φ c i) = some v at h
     by_cases fT : c = b
     ·subst fT; exact .inr (hi.own _ _ mH).2
     ·rw [if_neg fT] at h; exact hi.grow c i v h }
  have h4 := KS.relabel (d := d) (x := .fz s rows) (R := []) (by
   simp only [RX]
   refine ⟨trivial, hu, base, cap, hc, .inr ⟨b, off, hb, hl, ?_⟩⟩
   refine cD.freeze (E := E) (fun i v h => ?_) hle jh
   show (if b = b then cs[i]? else E.φ b i) = some v
   rw [if_pos rfl]; exact h) List.nodup_nil (fun _ h => by cases h)
  refine ⟨{ E with φ := fun c i => if c = b then cs[i]? else E.φ c i }, fm (fm RR (.slot d) []) (.slot d) [], rfl, { h4 with a9 := fun q x hx => ?_, aA := h4.aA }⟩
  refine h4.a9 q x ?_
  simp only [St.put, look] at hx ⊢
  cases hq : Nat.beq d q with
  | true => rw [hq] at hx; simpa using hx
  | false => rw [hq] at hx; simpa using hx

end
end Go.AW
/- Part of the abstract walk: whatever a slot owns is written no more. -/
namespace Go.AW
open Go

mutual
def X.lD : X → X
 | .ep s rows => .fz s (X.mM rows)
 | .agg xs => .agg (X.iS xs)
 | .tup xs => .tup (X.iS xs)
 | .v u => .v u
 | .no => .no
 | .fz s rows => .fz s rows
 | .ptr o s i k => .ptr o s i k
 | .aY o s lo n => .aY o s lo n
 | .mref o => .mref o
 | .fp row k => .fp row k
 | .gl f a b => .gl f a b
def X.iS : List X → List X
 | [] => []
 | x :: r => x.lD :: X.iS r
def X.mM : List (List X) → List (List X)
 | [] => []
 | r :: rs => X.iS r :: X.mM rs
end

theorem X.mN : ∀ xs : List X, (X.iS xs).length = xs.length
 | [] => rfl
 | _ :: r => by simp [X.iS, X.mN r]
theorem X.mO : ∀ rs : List (List X), (X.mM rs).length = rs.length
 | [] => rfl
 | _ :: r => by simp [X.mM, X.mO r]
theorem cu.mM {s : Nat} : ∀ {rs : List (List X)}, cu s rs → cu s (X.mM rs)
 | [], _ => fun _ h => by cases h
 | r :: rs, h => by
  intro q hq
  simp only [X.mM, List.mem_cons] at hq
  rcases hq with rfl | hq
  ·rw [X.mN]; exact h r (by simp)
  ·exact cu.mM (fun q hq => h q (by simp [hq])) q hq

mutual
theorem X.zg : ∀ {x : X}, x.free = true → x.lD = x
 | .v _, _ | .no, _ | .fz .., _ | .ptr .., _ | .aY .., _ | .mref _, _ | .fp .., _ | .gl .., _ => rfl
 | .ep .., h => by cases h
 | .agg xs, h => by simp only [X.lD]; rw [X.jJ (xs := xs) h]
 | .tup xs, h => by simp only [X.lD]; rw [X.jJ (xs := xs) h]
theorem X.jJ : ∀ {xs : List X}, X.bC xs = true → X.iS xs = xs
 | [], _ => rfl
 | x :: r, h => by
  simp only [X.bC, Bool.and_eq_true] at h
  simp only [X.iS]
  rw [X.zg h.1, X.jJ h.2]
end
theorem X.jK : ∀ {rs : List (List X)}, da rs → X.mM rs = rs
 | [], _ => rfl
 | r :: rs, h => by
  simp only [X.mM]
  rw [X.jJ (h r (by simp)), X.jK (fun q hq => h q (by simp [hq]))]

mutual
theorem X.zh : ∀ {x : X}, x.nr = true → x.lD.nr = true
 | .v _, _ | .no, _ | .fz .., _ | .fp .., _ => rfl
 | .ep .., _ => rfl
 | .agg xs, h => X.sP (xs := xs) h
 | .tup xs, h => X.sP (xs := xs) h
 | .gl .., h => h
 | .ptr .., h => h
 | .aY .., h => h
 | .mref _, h => h
theorem X.sP : ∀ {xs : List X}, X.gk xs = true → X.gk (X.iS xs) = true
 | [], _ => rfl
 | x :: r, h => by
  simp only [X.gk, Bool.and_eq_true] at h
  simp only [X.iS, X.gk, Bool.and_eq_true]
  exact ⟨X.zh h.1, X.sP h.2⟩
end

def Env.zi (E E' : Env) (R : List Nat) : Prop :=
 E'.w = E.w ∧ E'.β = E.β ∧ (∀ c i v, E.φ c i = some v → E'.φ c i = some v) ∧ ∀ b ∈ R, ∀ i v, E.w.cell? ⟨b, i, none⟩ = some v → E'.φ b i = some v
theorem Env.zi.sub {E E' : Env} {R R' : List Nat} (h : E.zi E' R) (hs : ∀ b ∈ R', b ∈ R) : E.zi E' R' := ⟨h.1, h.2.1, h.2.2.1, fun b hb => h.2.2.2 b (hs b hb)⟩
theorem Env.zi.on {E E' : Env} {R : List Nat} (h : E.zi E' R) : E.On E' [] := ⟨h.2.2.1, fun _ h => by cases h⟩

mutual
theorem RX.lD {E E' : Env} : ∀ (x : X) (c : Value) (R : List Nat), E.zi E' R → RX E x c R → RX E' x.lD c []
 | .v u, c, R, hE, h => by simp only [RX, X.lD] at h ⊢; exact ⟨h.1, trivial⟩
 | .no, c, R, hE, h => by simp only [RX, X.lD]
 | .fz s rows, c, R, hE, h => by
  have h0 : R = [] := by simp only [RX] at h; exact h.1
  subst h0; exact RX.mono _ _ _ hE.on (fun _ _ => by rw [hE.2.1]) h
 | .ptr o s i k, c, R, hE, h => by
  have h0 : R = [] := by simp only [RX] at h; exact h.1
  subst h0; exact RX.mono _ _ _ hE.on (fun _ _ => by rw [hE.2.1]) h
 | .aY o s lo n, c, R, hE, h => by
  have h0 : R = [] := by simp only [RX] at h; exact h.1
  subst h0; exact RX.mono _ _ _ hE.on (fun _ _ => by rw [hE.2.1]) h
 | .mref o, c, R, hE, h => by
  have h0 : R = [] := by simp only [RX] at h; exact h.1
  subst h0; exact RX.mono _ _ _ hE.on (fun _ _ => by rw [hE.2.1]) h
 | .fp row k, c, R, hE, h => by
  have h0 : R = [] := by simp only [RX] at h; exact h.1
  subst h0; exact RX.mono _ _ _ hE.on (fun _ _ => by rw [hE.2.1]) h
 | .gl fn a b, c, R, hE, h => by
  have h0 : R = [] := by simp only [RX] at h; exact h.1
  subst h0; exact RX.mono _ _ _ hE.on (fun _ _ => by rw [hE.2.1]) h
 | .ep s rows, c, R, hE, h => by
  simp only [RX, X.lD] at h ⊢
  obtain ⟨hu, base, cap, hc, hh⟩ := h
  refine ⟨trivial, hu.mM, base, cap, by rw [X.mO]; exact hc, ?_⟩
  rcases hh with ⟨h1, h2, h3⟩ | ⟨b, off, cs, ty, R', hb, hw, hl, ho, hφ, hr, hR⟩
  ·subst h1; exact .inl ⟨rfl, h2⟩
  ·subst hR
   refine .inr ⟨b, off, hb, by rw [X.mO]; exact hl, ?_⟩
   exact cD.lD rows cs b off R' (fun i v hi => hE.2.2.2 b (by simp) i v (by rw [dk hw]; exact hi)) (hE.sub (fun _ h => by simp [h])) hr
 | .agg xs, c, R, hE, h => by
  simp only [RX, X.lD] at h ⊢
  obtain ⟨cs, hc, hs⟩ := h
  exact ⟨cs, hc, bz.lD xs _ R hE hs⟩
 | .tup xs, c, R, hE, h => by
  simp only [RX, X.lD] at h ⊢
  obtain ⟨cs, hc, hs⟩ := h
  exact ⟨cs, hc, dZ.lD xs _ R hE hs⟩
theorem bz.lD {E E' : Env} : ∀ (xs : List X) (cs : List Value) (R : List Nat), E.zi E' R → bz E xs cs R → bz E' (X.iS xs) cs []
 | [], cs, R, _, h => by simp only [bz, X.iS] at h ⊢; exact ⟨h.1, trivial⟩
 | x :: r, cs, R, hE, h => by
  simp only [bz, X.iS] at h ⊢
  obtain ⟨c, dg, R₁, R₂, hc, hs, h1, h2, hR⟩ := h
  subst hR
  exact ⟨c, dg, [], [], hc, hs, RX.lD x c R₁ (hE.sub (fun _ h => cG h)) h1, bz.lD r dg R₂ (hE.sub (fun _ h => cw h)) h2, rfl⟩
theorem dZ.lD {E E' : Env} : ∀ (xs : List X) (cs : List Value) (R : List Nat), E.zi E' R → dZ E xs cs R → dZ E' (X.iS xs) cs []
 | [], cs, R, _, h => by simp only [dZ, X.iS] at h ⊢; exact ⟨h.1, trivial⟩
 | x :: r, cs, R, hE, h => by
  simp only [dZ, X.iS] at h ⊢
  obtain ⟨c, dg, R₁, R₂, hc, h1, h2, hR⟩ := h
  subst hR
  exact ⟨c, dg, [], [], hc, RX.lD x c R₁ (hE.sub (fun _ h => cG h)) h1, dZ.lD r dg R₂ (hE.sub (fun _ h => cw h)) h2, rfl⟩
theorem RO.lD {E E' : Env} : ∀ (xs : List X) (cs : Array Value) (b off : Nat) (R : List Nat), (∀ i v, cs[i]? = some v → E'.φ b i = some v) → E.zi E' R → X.gk xs = true → RO E xs cs off R → RF E' (X.iS xs) b off
 | [], _, _, _, _, _, _, _, _ => by simp [RF, X.iS]
 | x :: r, cs, b, off, R, hb, hE, hn, h => by
  simp only [RO] at h
  obtain ⟨u, R₁, R₂, hu, hs, hx, hr, hR⟩ := h
  subst hR
  simp only [X.gk, Bool.and_eq_true] at hn
  simp only [X.iS, RF]
  exact ⟨⟨u, hb _ _ hu, hs, X.zh hn.1, RX.lD x u R₁ (hE.sub (fun _ h => cG h)) hx⟩, RO.lD r cs b (off + 1) R₂ hb (hE.sub (fun _ h => cw h)) hn.2 hr⟩
theorem cD.lD {E E' : Env} : ∀ (rs : List (List X)) (cs : Array Value) (b off : Nat) (R : List Nat), (∀ i v, cs[i]? = some v → E'.φ b i = some v) → E.zi E' R → cD E rs cs off R → jE E' (X.mM rs) b off
 | [], _, _, _, _, _, _, _ => by simp [jE, X.mM]
 | r :: rs, cs, b, off, R, hb, hE, h => by
  simp only [cD] at h
  obtain ⟨R₁, R₂, hn, hx, hr, hR⟩ := h
  subst hR
  simp only [X.mM, jE]
  refine ⟨RO.lD r cs b off R₁ hb (hE.sub (fun _ h => cG h)) hn hx, ?_⟩
  rw [X.mN]
  exact cD.lD rs cs b _ R₂ hb (hE.sub (fun _ h => cw h)) hr
end

section
variable {N : eC} {st : St} {d : Nat}
theorem Sh.o7 {x y : X} (hx : look st.a9 d = some x) (he : x.lD = y) : Sh N st (st.put d y) := by
 intro G hn a w hh
 obtain ⟨E, RR, rfl, hi⟩ := hh
 have hv := hi.a9 d _ hx
 have l3 := hi.no d
 have Hq : ∀ p, ∀ b ∈ fm RR (.slot d) [] p, b ∉ RR (.slot d) := by
  intro p b hp hb
  unfold fm at hp
  split at hp
  ·cases hp
  ·rename_i h; exact hi.apart _ _ h b hp hb
 -- what is frozen already is in no owned block
 have hle : ∀ c i v, E.φ c i = some v → (E.cB (fun b => b ∈ RR (.slot d))).φ c i = some v := by
  intro c i v h
  by_cases hc : c ∈ RR (.slot d)
  ·rw [jx E (LB := fun b => b ∈ RR (.slot d)) hc]; exact hi.ku c i v h
  ·rw [eV E (LB := fun b => b ∈ RR (.slot d)) hc]; exact h
 have ga : ∀ p, E.On (E.cB (fun b => b ∈ RR (.slot d))) (fm RR (.slot d) [] p) := by
  intro p
  refine ⟨hle, fun c hc => ⟨rfl, fun h i => ?_⟩⟩
  rw [eV E (LB := fun b => b ∈ RR (.slot d)) (Hq p c hc)]; exact h i
 have hf : E.zi (E.cB (fun b => b ∈ RR (.slot d))) (RR (.slot d)) :=
  ⟨rfl, rfl, hle, fun b hb i v h => by rw [jx E (LB := fun b => b ∈ RR (.slot d)) hb]; exact h⟩
 have KS : Inv G (E.cB (fun b => b ∈ RR (.slot d))) (fm RR (.slot d) []) (st.put d .no) a :=
  {l3 with
   ku := by
    intro c i v h
    by_cases hc : c ∈ RR (.slot d)
    ·rw [jx E (LB := fun b => b ∈ RR (.slot d)) hc] at h; exact h
    ·rw [eV E (LB := fun b => b ∈ RR (.slot d)) hc] at h; exact hi.ku c i v h
   a9 := fun q x hx => RX.mono x _ _ (ga _) (fun _ _ => rfl) (l3.a9 q x hx)
   aA := fun o ob cA => dA.mono (ga _) rfl (fun _ _ _ _ => rfl) (l3.aA o ob cA)
   φ0 := fun c i v h => hle c i v (hi.φ0 c i v h)
   grow := by
    intro c i v h
    by_cases hc : c ∈ RR (.slot d)
    ·exact .inr (hi.own _ _ hc).2
    ·rw [eV E (LB := fun b => b ∈ RR (.slot d)) hc] at h; exact hi.grow c i v h }
 have h4 := KS.relabel (d := d) (x := y) (R := []) (he ▸ RX.lD x _ _ hf hv) List.nodup_nil (fun _ h => by cases h)
 refine ⟨E.cB (fun b => b ∈ RR (.slot d)), fm (fm RR (.slot d) []) (.slot d) [], rfl, { h4 with a9 := fun q x hx => ?_, aA := h4.aA }⟩
 refine h4.a9 q x ?_
 simp only [St.put, look] at hx ⊢
 cases hq : Nat.beq d q with
 | true => rw [hq] at hx; simpa using hx
 | false => rw [hq] at hx; simpa using hx
end
end Go.AW
/- Part of the abstract walk: stores and lists, in the forms that proofs use. -/
namespace Go.AW
open Go

section
variable {P : Program} {N : eC} {st : St} {Q : Exit → St → Prop} {all : Array Oper} {rest : List Oper} {d : Nat} {ty : TypeId} {pos : String} {af : Array Edge}

theorem aL.dB {t : TypeId} {x y : Operand} {o s i k m : Nat} {v : X} {ys row : List X} {rs : List (List X)} (sd : List (List X)) (ht : TY.size P t = some m) (hx : bR st x = some (.ptr o s i k)) (hy : bR st y = some v) (sJ : v.flat = some ys) (hf : X.bC ys = true)
  (hn : X.gk ys = true) (hm : ys.length = m) (ho : look st.aA o = some (.rows s rs)) (hr : rs[i]? = some row) (hk : k + m ≤ row.length) (he : rs.set i (jw row k ys) = sd) (kk : aL P N all rest (st.ea o (.rows s sd)) Q) :
  aL P N all (⟨none, .store t x y, ty, pos, af, none⟩ :: rest) st Q := by
 subst he
 exact aL.DR ht hx hy sJ hf hn hm ho hr hk kk

theorem Sh.Eb {s n : Nat} {rows : List (List X)} (o : Nat) (hx : look st.a9 d = some (.ep s rows)) (hn : n = rows.length) (hF : N.F.elem o = false) : Sh N st (((st.kill o).ea o (.rows s rows)).put d (.aY o s 0 n)) := by
 subst hn; exact Sh.Ha o hx hF

theorem aL.bs {t e s cZ tv : Nat} {z : List Value} {x : Operand} {o lo n : Nat} {rs new : List (List X)} (sd : List (List X)) (n' : Nat) (ht : TY.slice P t = some (e, s, cZ)) (hz : TY.zero P e = some z) (qp : Nat.beq z.length s = true)
  (hy : look st.a9 tv = some (.ep s new)) (hx : bR (st.put tv .no) x = some (.aY o s lo n)) (ho : look st.aA o = some (.rows s rs)) (qq : lo + n ≤ rs.length)
  (he : ((rs.drop lo).take n) ++ new = sd) (pN : n + new.length = n') (q6 : n' * cZ ≤ 140737488355328) (AU : n' ≤ 4611686018427387904) (hF : N.F.elem o = false) (hd : d < N.n)
  (k : aL P N all rest (((((st.put tv .no).kill o).ea o (.rows s sd))).put d (.aY o s 0 n')) Q) :
  aL P N all (⟨some d, .call ⟨.builtin .append, #[x, .tmp tv], #[t, t]⟩, ty, pos, af, none⟩ :: rest) st Q := by
 subst he pN
 exact aL.append ht hz qp hy hx ho qq q6 AU hF hd k
end

mutual
theorem X.qs {ν : Nat → Nat} : ∀ {x : X}, x.lt 0 = true → x.fy ν = x
 | .v _, _ | .no, _ | .fz .., _ | .ep .., _ | .fp .., _ => rfl
 | .ptr o .., h => by simp [X.lt, Nat.blt] at h
 | .aY o .., h => by simp [X.lt, Nat.blt] at h
 | .mref o, h => by simp [X.lt, Nat.blt] at h
 | .agg xs, h => by simp only [X.fy]; rw [X.mP (xs := xs) h]
 | .tup xs, h => by simp only [X.fy]; rw [X.mP (xs := xs) h]
 | .gl f a b, h => by
  simp only [X.lt, Bool.and_eq_true] at h
  simp only [X.fy]; rw [X.mP h.1, X.mP h.2]
theorem X.mP {ν : Nat → Nat} : ∀ {xs : List X}, X.AV 0 xs = true → X.kD ν xs = xs
 | [], _ => rfl
 | x :: r, h => by
  simp only [X.AV, Bool.and_eq_true] at h
  simp only [X.kD]; rw [X.qs h.1, X.mP h.2]
end

section
variable {P : Program} {N : eC} {st : St} {Q : Exit → St → Prop} {all : Array Oper} {rest : List Oper} {d : Nat} {ty : TypeId} {pos : String} {af : Array Edge}
theorem aL.aP {f : FuncId} {cx : Array Operand} {mA : Array TypeId} {xs args : List X} {R : X} (jf : aU P f = true) (eW : az P f args [] [] (fun r o => r = R ∧ o = []))
  (fh : jG st cx.toList = some xs) (dM : dJ st [] (bQ []) xs args) (hd : d < N.n) (iv : R.lt 0 = true)
  (k : aL P N all rest (st.put d R) Q) : aL P N all (⟨some d, .call ⟨.value (.func f), cx, mA⟩, ty, pos, af, none⟩ :: rest) st Q :=
 aL.Hy jf eW fh dM hd iv (X.qs iv) k
end

end Go.AW
/- Part of the abstract walk: regions in which a store may stand before operations that do not look at memory. -/
namespace Go.AW
open Go

section
variable {P : Program} {N : eC} {st : St} {Q : Exit → St → Prop} {ops : Array Oper} {d : Nat} {ty : TypeId} {pos : String} {af : Array Edge}

def ao (P : Program) (N : eC) (st : St) (o : Oper) (x : X) : Prop :=
 ∀ (G : Ctx) (E : Env) (RR : Own → List Nat) (a : Act), G.fn = N → Inv G E RR st a → ∃ u, (∀ w, (execOp a.eval o).run P w = .ok (.value u) w) ∧ RX E x u []

section
variable {dst : Option Nat} {g : Option (Nat × Bool)}
theorem ao.move {x : Operand} {y : X} (hx : bR st x = some y) (hf : y.free = true) : ao P N st ⟨dst, .move x, ty, pos, af, g⟩ y := by
 intro G E RR a _ hi
 obtain ⟨R, hv⟩ := hi.eval hx
 have := RX.free hf hv
 subst this
 exact ⟨_, fun w => rfl, hv⟩
theorem ao.assign {x : Operand} {y : X} (hx : bR st x = some y) (hf : y.free = true) : ao P N st ⟨dst, .assign x, ty, pos, af, g⟩ y := by
 intro G E RR a _ hi
 obtain ⟨R, hv⟩ := hi.eval hx
 have := RX.free hf hv
 subst this
 exact ⟨_, fun w => rfl, hv⟩

end

def eE (P : Program) (N : eC) (ops : Array Oper) (n : Nat) (ag : Array Bool) (st : St) (K : St → Prop) : Prop :=
 ∀ G : Ctx, G.fn = N → ∀ a w, ct G st a w → wpAny P .any ops (fun e a w => e = .normal ∧ ∃ aR, K aR ∧ ct G aR a w) n ag a w

variable {K : St → Prop}

theorem eE.blind {n : Nat} {ag : Array Bool} (i : Nat) {op : Op} {x : X} (ho : ops[i]? = some ⟨some d, op, ty, pos, af, none⟩)
  (hB : (Region.noSelect ops && Region.free .any ops ag i && (Region.ready .any ops ag).contains i) = true) (hy : ao P N st ⟨some d, op, ty, pos, af, none⟩ x) (hd : d < N.n)
  (k : eE P N ops n (ag.setIfInBounds i true) (st.put d x) K) : eE P N ops (n + 1) ag st K := by
 intro G hn a w hh
 obtain ⟨E, RR, rfl, hi⟩ := hh
 obtain ⟨u, hr, hx⟩ := hy G E RR a hn hi
 simp only [Bool.and_eq_true] at hB
 refine wpAny_take (v := u) ho hB.1.1 hB.1.2 hB.2 ?_ (.inl ⟨by simp [Region.wanted], hr⟩) (k G hn _ _ ⟨E, _, rfl, hi.gd (hn ▸ hd) hx⟩)
 intro c a w h
 cases h.1

theorem eE.step {n : Nat} {ag : Array Bool} (j : Nat) {o : Oper} (ho : ops[j]? = some o)
  (k : aL P N ops [o] st (fun e aR => e = .normal ∧ eE P N ops n (ag.setIfInBounds j true) aR K)) (G : Ctx) (hn : G.fn = N) (a : Act) (w : World) (hh : ct G st a w) :
  wpOp P ops (fun e a w => e = .normal ∧ ∃ aR, K aR ∧ ct G aR a w) j (wpAny P .any ops (fun e a w => e = .normal ∧ ∃ aR, K aR ∧ ct G aR a w) n (ag.setIfInBounds j true)) a w := by
 have hk := k G hn a w hh
 have key : wpOp P ops (fun e a w => mq G (fun e aR => e = .normal ∧ eE P N ops n (ag.setIfInBounds j true) aR K) e a w) j
   (fun a w => mq G (fun e aR => e = .normal ∧ eE P N ops n (ag.setIfInBounds j true) aR K) .normal a w) a w := by
  unfold wpOp; simp only [ho]; exact hk
 have mono : ∀ {Q1 Q2 : Exit → Act → World → Prop} {K1 K2 : Act → World → Prop}, (∀ e a w, e ≠ .normal → Q1 e a w → False) → (∀ a w, K1 a w → K2 a w) → wpOp P ops Q1 j K1 a w → wpOp P ops Q2 j K2 a w := by
  intro Q1 Q2 K1 K2 hQ hK h
  unfold wpOp at *
  simp only [ho] at *
  split
  ·rename_i hw
   simp only [hw, if_true] at h
   rcases h with h | ⟨_, hl⟩
   ·refine .inl ?_
    unfold Oper.wp at *
    generalize (execOp a.eval o).run P w = r at *
    cases r with
    | ok nx w' =>
     cases nx <;> simp only [Oper.upon] at h ⊢ <;> first
      | exact hK _ _ h
      | exact Calls.mono h (fun e Om he => by
        cases e with
        | returned u => exact hK _ _ he
        | panicked c => exact (hQ _ _ _ (by simp) he).elim
        | outgrown => exact (let ⟨_, _, h'⟩ := he; hQ _ _ _ (by simp) h').elim)
      | exact Rows.mono h (fun _ _ he => hK _ _ he)
    | halt x w' => cases x <;> simp only [Oper.upon] at h ⊢ <;> first | exact (hQ _ _ _ (by simp) h).elim | exact (let ⟨_, _, h'⟩ := h; hQ _ _ _ (by simp) h').elim | exact h
   ·obtain ⟨_, _, h'⟩ := hl
    exact (hQ _ _ _ (by simp) h').elim
  ·rename_i hw
   simp only [hw] at h
   exact hK _ _ h
 refine mono ?_ ?_ key
 ·rintro e a w he ⟨aR, _, h, _⟩
  exact he h
 ·rintro a w ⟨aR, gy, _, yE⟩
  exact yE G hn a w gy

theorem eE.one {n : Nat} {ag : Array Bool} (i : Nat) {o : Oper} (ho : ops[i]? = some o) (hr : (Region.ready .any ops ag == [i]) = true)
  (k : aL P N ops [o] st (fun e aR => e = .normal ∧ eE P N ops n (ag.setIfInBounds i true) aR K)) : eE P N ops (n + 1) ag st K := by
 intro G hn a w hh
 refine wpAny_all (rs := [i]) (by simpa using hr) (by simp) ?_
 intro j hj
 have : j = i := by simpa using hj
 subst this
 exact eE.step j ho k G hn a w hh

theorem eE.two {n : Nat} {ag : Array Bool} (i i' : Nat) {o o' : Oper} (ho : ops[i]? = some o) (kO : ops[i']? = some o') (hr : (Region.ready .any ops ag == [i, i']) = true)
  (k : aL P N ops [o] st (fun e aR => e = .normal ∧ eE P N ops n (ag.setIfInBounds i true) aR K))
  (k' : aL P N ops [o'] st (fun e aR => e = .normal ∧ eE P N ops n (ag.setIfInBounds i' true) aR K)) : eE P N ops (n + 1) ag st K := by
 intro G hn a w hh
 refine wpAny_all (rs := [i, i']) (by simpa using hr) (by simp) ?_
 intro j hj
 simp only [List.mem_cons, List.not_mem_nil, or_false] at hj
 rcases hj with rfl | rfl
 ·exact eE.step j ho k G hn a w hh
 ·exact eE.step j kO k' G hn a w hh

theorem eE.done {n : Nat} {ag : Array Bool} (hr : (Region.ready .any ops ag).isEmpty = true) (h : K st) : eE P N ops n ag st K :=
 fun _ _ _ _ hh => wpAny_done (by simpa using hr) ⟨rfl, st, h, hh⟩ n

theorem dn.j8 {id : Nat} (hm : P.follows .mixedOrders = true) (h : eE P N ops ops.size (Array.replicate ops.size false) st (fun aR => Q .normal aR)) : dn P N (.region id ops true) st Q := by
 intro G hn a w hh
 refine wp_mono (wp_region_any hm (h G hn a _ hh.drew)) ?_
 rintro e a w ⟨rfl, aR, hk, gy⟩
 exact ⟨aR, gy, hk⟩

end
end Go.AW
/- Part of the abstract walk: operations that are not wanted leave a word that is no test. -/
namespace Go.AW
open Go

def qB (want : Bool) : Value → Bool
 | .bool b => !(b == want)
 | _ => true

section
variable {P : Program} {N : eC} {st : St} {Q : Exit → St → Prop} {K : St → Prop} {all : Array Oper} {rest : List Oper} {d dd : Nat} {ty : TypeId} {pos : String} {af : Array Edge} {dst : Option Nat} {op : Op} {j : Nat} {want : Bool} {u : Value}

theorem kV {G : Ctx} {E : Env} {RR : Own → List Nat} {a : Act} (hi : Inv G E RR st a) (hj : (all[j]?).bind (·.dst) = some d) (hd : d < G.fn.n) (hx : look st.a9 d = some (.v u)) (e7 : qB want u = true) :
  Region.wanted ⟨dst, op, ty, pos, af, some (j, want)⟩ (yielded all a.tmps) = false := by
 have hs := hi.a9 d _ hx
 simp only [RX] at hs
 have fe : d < a.tmps.size := by rw [hi.tmps]; exact hd
 have hv : a.tmps[d]? = some u := by
  have := hs.1
  simp only [Array.getD, fe, dif_pos] at this
  rw [Array.getElem?_eq_getElem fe]
  exact congrArg some this
 have hy : yielded all a.tmps j ≠ some want := by
  unfold yielded
  rw [hj, Option.bind_some, hv]
  intro h
  cases u <;> simp [qB] at e7 h
  exact e7 h
 simp only [Region.wanted]
 cases h : yielded all a.tmps j with
 | none => rfl
 | some b => rw [h] at hy; simpa using hy

theorem aL.aG (hj : (all[j]?).bind (·.dst) = some d) (hd : d < N.n) (BF : dd < N.n) (hx : look st.a9 d = some (.v u)) (e7 : qB want u = true)
  (k : aL P N all rest (st.put dd (.v undef)) Q) : aL P N all (⟨some dd, op, ty, pos, af, some (j, want)⟩ :: rest) st Q := by
 intro G hn a w hh
 obtain ⟨E, RR, rfl, hi⟩ := hh
 unfold wpList
 rw [if_neg (by rw [kV hi hj (hn ▸ hd) hx e7]; simp)]
 exact k G hn _ _ ⟨E, _, rfl, hi.gd (hn ▸ BF) (by simp [RX])⟩

theorem gb.aG (hj : (all[j]?).bind (·.dst) = some d) (hd : d < N.n) (BF : dd < N.n) (hx : look st.a9 d = some (.v u)) (e7 : qB want u = true)
  (k : gb P N all rest (st.put dd (.v undef)) K) : gb P N all (⟨some dd, op, ty, pos, af, some (j, want)⟩ :: rest) st K := by
 intro G hn a w hh
 obtain ⟨E, RR, rfl, hi⟩ := hh
 unfold wpStill
 rw [if_neg (by rw [kV hi hj (hn ▸ hd) hx e7]; simp)]
 exact k G hn _ _ ⟨E, _, rfl, hi.gd (hn ▸ BF) (by simp [RX])⟩

end
end Go.AW
/- Part of the abstract walk: from a call's arguments, as a row reads them, to the walk, and back. -/
namespace Go.AW
open Go Go.ChangeShapes Go.WideShapes Go.Deep Go.RowKit

def E0 (W : World) : Env := ⟨fun b i => W.cell? ⟨b, i, none⟩, fun _ => none, W⟩

theorem az.row {P : Program} {f : FuncId} {args : List X} {u : Value} (h : az P f args [] [] (fun r o => r = .v u ∧ o = [])) {W : World} {cF : Array Value} (hn : cF.size = args.length)
  (hx : ∀ (i : Nat) x, args[i]? = some x → RX (E0 W) x (cF.getD i undef) []) : Calls P f cF W (fun e W' => e = .returned u ∧ Below W.heap.size W W') := by
 have hi : Inv (mJ (fun b => b < W.heap.size) (E0 W) ⟨args.length, []⟩) (E0 W) (fun _ => []) ⟨dp 0 args, dp 0 []⟩ ⟨cF, []⟩ :=
  {ku := fun _ _ _ h => h
   a9 := fun s x hs => by
    rw [fW] at hs
    exact hx s x hs
   aA := fun o ob ho => by simp [dp, look] at ho
   nodup := fun _ => List.nodup_nil
   apart := fun _ _ _ _ h => by cases h
   own := fun _ _ h => by cases h
   ai := fun _ _ => rfl
   size := Nat.le_refl _
   small := fun _ h => h
   os := rfl
   tape := rfl
   output := rfl
   φ0 := fun _ _ _ h => h
   grow := fun _ _ _ h => .inl h
   fixed := fun _ _ => rfl
   tmps := hn
   defers := rfl }
 refine Calls.mono (h _ _ _ _ hi) ?_
 rintro e W' ⟨v, r, bg, rfl, ⟨rfl, _⟩, _, E', eU, rfl, gQ⟩
 have hs := gQ.a9 0 (.v u) rfl
 simp only [RX] at hs
 have hv : v = u := hs.1
 exact ⟨by rw [hv], gQ.os, gQ.tape, gQ.output, gQ.size, fun k hk => gQ.ai k hk⟩

theorem RF.of {E : Env} {b : Nat} : ∀ {row : List X} {off : Nat}, (∀ (j : Nat) x, row[j]? = some x → ∃ u, x = .v u ∧ jg u ∧ E.φ b (off + j) = some u) → RF E row b off
 | [], _, _ => by simp [RF]
 | x :: r, off, h => by
  obtain ⟨u, rfl, hs, hu⟩ := h 0 x rfl
  simp only [RF]
  refine ⟨⟨u, by simpa using hu, hs, rfl, by simp [RX]⟩, RF.of fun j y hj => ?_⟩
  obtain ⟨u', h1, h2, h3⟩ := h (j + 1) y (by simpa using hj)
  exact ⟨u', h1, h2, by rw [show off + 1 + j = off + (j + 1) by omega]; exact h3⟩
theorem jE.of {E : Env} {b s : Nat} : ∀ {rows : List (List X)} {off : Nat}, cu s rows → (∀ (i : Nat) row, rows[i]? = some row → RF E row b (off + i * s)) → jE E rows b off
 | [], _, _, _ => by simp [jE]
 | r :: rs, off, hu, h => by
  simp only [jE]
  refine ⟨by simpa using h 0 r rfl, jE.of (fun q hq => hu q (by simp [hq])) fun i row hi => ?_⟩
  have := h (i + 1) row (by simpa using hi)
  rw [hu r (by simp)]
  rw [Nat.add_mul, Nat.one_mul] at this
  rw [show off + s + i * s = off + (i * s + s) by omega]; exact this

section
variable {H : Type} {enc : TypeId × Value → H} {P : Program} {W : World} {base : Nat} {spare : Nat → Bool} {held : Bool} {n : Nat} {e : TypeId} {cs : List Value} {y : DataW H × List MemPlace}
end
end Go.AW
/- Part of the abstract walk: the greater and the less of two numbers; more of what does not look at memory; calls in the form that gives a fact on the result. -/
namespace Go.AW
open Go

section
variable {P : Program} {N : eC} {st : St} {Q : Exit → St → Prop} {all : Array Oper} {rest : List Oper} {dst : Option Nat} {d : Nat} {ty : TypeId} {pos : String} {af : Array Edge} {g : Option (Nat × Bool)}

theorem Y.max {t t' : TypeId} {x y : Operand} {k : IntKind} {a b r : Int} (hx : bR st x = some (.v (.int k a))) (hy : bR st y = some (.v (.int k b))) (hr : r = if b > a then b else a) :
  Yields P N st ⟨dst, .call ⟨.builtin .max, #[x, y], #[t, t']⟩, ty, pos, af, g⟩ (.v (.int k r)) := by
 subst hr
 intro G E RR ac _ hi
 refine ⟨.int k (if b > a then b else a), gG ?_, by simp [RX]⟩
 have h1 := hi.val hx
 have h2 := hi.val hy
 simp [builtin, Builtin.max_, h1, h2, Builtin.max2]
theorem Y.min {t t' : TypeId} {x y : Operand} {k : IntKind} {a b r : Int} (hx : bR st x = some (.v (.int k a))) (hy : bR st y = some (.v (.int k b))) (hr : r = if b < a then b else a) :
  Yields P N st ⟨dst, .call ⟨.builtin .min, #[x, y], #[t, t']⟩, ty, pos, af, g⟩ (.v (.int k r)) := by
 subst hr
 intro G E RR ac _ hi
 refine ⟨.int k (if b < a then b else a), gG ?_, by simp [RX]⟩
 have h1 := hi.val hx
 have h2 := hi.val hy
 simp [builtin, Builtin.min_, h1, h2, Builtin.min2]

theorem ao.extract {x : Operand} {xs : List X} {y : X} {k : Nat} (hx : bR st x = some (.tup xs)) (hy : xs[k]? = some y) (hf : y.free = true) : ao P N st ⟨dst, .extract x k, ty, pos, af, g⟩ y := by
 intro G E RR a _ hi
 obtain ⟨R, hp⟩ := hi.eval hx
 simp only [RX] at hp
 obtain ⟨cs, hc, fh⟩ := hp
 obtain ⟨u, R₁, hu, h1⟩ := dZ.get fh hy
 have h0 := RX.free hf h1
 subst h0
 refine ⟨u, fun w => ?_, h1⟩
 show (do let z ← Instr.extract (a.eval x) k; pure (Next.value z) : Sem Next).run P w = _
 rw [hc]
 refine dI ?_
 have xu : cs[k]? = some u := by simpa using hu
 simp only [Instr.extract, xu]; rfl

theorem aL.zj {t e s cZ : Nat} {z : List Value} {x y : Operand} {o lo n : Nat} {rs new : List (List X)} (sd : List (List X)) (n' : Nat) (ht : TY.slice P t = some (e, s, cZ)) (hz : TY.zero P e = some z) (qp : Nat.beq z.length s = true)
  (hy : bR st y = some (.fz s new)) (hx : bR st x = some (.aY o s lo n)) (ho : look st.aA o = some (.rows s rs)) (qq : lo + n ≤ rs.length)
  (he : ((rs.drop lo).take n) ++ new = sd) (pN : n + new.length = n') (q6 : n' * cZ ≤ 140737488355328) (AU : n' ≤ 4611686018427387904) (hF : N.F.elem o = false) (hd : d < N.n)
  (k : aL P N all rest ((((st.kill o).ea o (.rows s sd))).put d (.aY o s 0 n')) Q) :
  aL P N all (⟨some d, .call ⟨.builtin .append, #[x, y], #[t, t]⟩, ty, pos, af, none⟩ :: rest) st Q := by
 subst he pN
 exact aL.Bs ht hz qp hy hx ho qq q6 AU hF hd k
end
end Go.AW
/- Part of the abstract walk: calls that see slices of the caller's, in the form that proofs use. -/
namespace Go.AW
open Go

section
variable {P : Program} {N : eC} {st : St} {Q : Exit → St → Prop} {all : Array Oper} {rest : List Oper} {d : Nat} {ty : TypeId} {pos : String} {af : Array Edge}
theorem dJ.cB {L : List Nat} {ν : Nat → Nat} {o s lo n : Nat} {rs sd : List (List X)} {xs ys : List X} (ho : look st.aA o = some (.rows s rs)) (hL : L.elem o = true) (qq : lo + n ≤ rs.length) (he : (rs.drop lo).take n = sd)
  (hs : dJ st L ν xs ys) : dJ st L ν (.aY o s lo n :: xs) (.fz s sd :: ys) := by
 subst he
 exact .cons (.view ho (List.elem_iff.1 hL) qq) hs
theorem jL {o : Nat} {ob : Obj} (h : look st.aA o = some ob) (h' : gW ob) : ∀ q ∈ [o], ∃ ob, look st.aA q = some ob ∧ gW ob := by
 intro q hq
 simp only [List.mem_singleton] at hq
 subst hq
 exact ⟨ob, h, h'⟩
theorem er {o : Nat} {ob : Obj} {L : List Nat} (h : look st.aA o = some ob) (h' : gW ob) (hs : ∀ q ∈ L, ∃ ob, look st.aA q = some ob ∧ gW ob) : ∀ q ∈ o :: L, ∃ ob, look st.aA q = some ob ∧ gW ob := by
 intro q hq
 rcases List.mem_cons.1 hq with rfl | hq
 ·exact ⟨ob, h, h'⟩
 ·exact hs q hq
theorem aL.iz {f : FuncId} {cx : Array Operand} {mA : Array TypeId} {xs args : List X} {R : X} (L : List Nat) (jf : aU P f = true) (eW : az P f args [] [] (fun r o => r = R ∧ o = []))
  (fh : jG st cx.toList = some xs) (dM : dJ st L (bQ []) xs args) (h0 : ∀ o ∈ L, ∃ ob, look st.aA o = some ob ∧ gW ob) (hd : d < N.n) (iv : R.lt 0 = true) (hp : R.plain)
  (k : aL P N all rest (st.put d R) Q) : aL P N all (⟨some d, .call ⟨.value (.func f), cx, mA⟩, ty, pos, af, none⟩ :: rest) st Q :=
 aL.Hz L jf eW fh dM h0 hd iv (X.qs iv) hp k
end
end Go.AW
/- Part of the abstract walk: maps whose keys and elements are words. -/
namespace Go.AW
open Go Go.Maps

section
variable {P : Program} {N : eC} {st : St} {Q : Exit → St → Prop} {all : Array Oper} {rest : List Oper} {dst : Option Nat} {d : Nat} {ty : TypeId} {pos : String} {af : Array Edge} {g : Option (Nat × Bool)}

theorem Inv.uQ {G : Ctx} {E : Env} {RR : Own → List Nat} {a : Act} (hi : Inv G E RR st a) {m : Operand} {o : Nat} {es : List (Value × Value)} (hm : bR st m = some (.mref o)) (ho : look st.aA o = some (.uQ es)) :
  ∃ B pc clock, E.β o = some B ∧ a.eval m = .map (some B.b) ∧ E.w.heap[B.b]? = some (.map pc clock) ∧ (∀ i, E.φ B.b i = none) ∧ pc.toList.map (fun e => (e.key, e.val)) = es ∧ RR (.obj o) = [B.b] := by
 have cA := hi.aA o _ ho
 simp only [dA] at cA
 obtain ⟨B, pc, clock, hB, hw, hf, he, hR⟩ := cA
 obtain ⟨R, hx⟩ := hi.eval hm
 simp only [RX] at hx
 obtain ⟨_, B', gT, hc⟩ := hx
 rw [hB] at gT
 obtain rfl := Option.some.inj gT
 exact ⟨B, pc, clock, hB, hc, hw, hf, he, hR⟩

end
end Go.AW
/- Part of the abstract walk: more of what does not look at memory. -/
namespace Go.AW
open Go

section
variable {P : Program} {N : eC} {st : St} {ty : TypeId} {pos : String} {af : Array Edge} {dst : Option Nat} {g : Option (Nat × Bool)}
theorem ao.nilCheck {x : Operand} {p q : X} (hx : bR st x = some p) (hq : p.on 0 = some q) : ao P N st ⟨dst, .nilCheck x, ty, pos, af, g⟩ q := by
 intro G E RR a _ hi
 obtain ⟨R, hp⟩ := hi.eval hx
 obtain ⟨b, off, hc, h⟩ := hp.on hq
 refine ⟨_, fun w => ?_, h⟩
 simp only [execOp, hc]; rfl
theorem ao.fieldAddr {t : TypeId} {x : Operand} {p q : X} {f off : Nat} {ft : TypeId} (ht : TY.jq P t f = some (off, ft)) (hx : bR st x = some p) (hq : p.on off = some q) :
  ao P N st ⟨dst, .fieldAddr t x f, ty, pos, af, g⟩ q := by
 intro G E RR a _ hi
 obtain ⟨R, hp⟩ := hi.eval hx
 obtain ⟨b, o, hc, h⟩ := hp.on hq
 refine ⟨_, fun w => ?_, h⟩
 show (do let z ← Instr.fieldAt t (a.eval x) f; pure (Next.value z) : Sem Next).run P w = _
 rw [hc]
 exact dI (TY.wC ht b o w)
end
end Go.AW
/- Part of the abstract walk: nil slices inside structs; lent pointers under other names. -/
namespace Go.AW
open Go

section
variable {P : Program} {N : eC} {st : St} {d : Nat}

theorem dJ.named {L : List Nat} {ν : Nat → Nat} {x y : X} {xs ys : List X} (h : x.free = true) (he : x.fy ν = y) (hs : dJ st L ν xs ys) : dJ st L ν (y :: xs) (x :: ys) := by
 subst he
 exact .cons (.same h) hs
end
end Go.AW
/- Part of the abstract walk: loops and joins sN several variables; lists in the forms that the second generator uses. -/
namespace Go.AW
open Go

section
variable {P : Program} {N : eC} {st : St} {Q : Exit → St → Prop}
theorem dn.qC {x y : Code} (J : St) (I : Prop) (hx : dn P N x st (g0 (fun aR => I ∧ Le aR J) Q)) (hy : I → dn P N y J Q) : dn P N (.seq x y) st Q :=
 dn.join (fun _ : Unit => J) (fun _ => I) (hx.mono fun e _ h => by cases e <;> first | exact ⟨(), h⟩ | exact h) (fun _ h => hy h)
theorem dn.lZ {α0 : Type} {c : Code} (S : α0 → St) (I : α0 → Prop) (μ : α0 → Nat) (i0 : α0) (hi : I i0) (hs : Le st (S i0))
  (round : ∀ a0, I a0 → dn P N c (S a0) (g0 (fun aR => ∃ b0, I b0 ∧ μ b0 < μ a0 ∧ Le aR (S b0)) Q)) : dn P N (.loop c) st Q :=
 dn.loop (ι := α0) (fun u => S u) (fun u => I u) (fun u => μ u) i0 hi hs (fun u h => (round u h).mono fun e _ h => by
  cases e <;> first | exact h | (obtain ⟨b0, h⟩ := h; exact ⟨b0, h⟩))
theorem dn.eP {α0 : Type} {x y : Code} (J : α0 → St) (I : α0 → Prop) (hx : dn P N x st (g0 (fun aR => ∃ b0, I b0 ∧ Le aR (J b0)) Q)) (hy : ∀ a0, I a0 → dn P N y (J a0) Q) : dn P N (.seq x y) st Q :=
 dn.join (ι := α0) (fun u => J u) (fun u => I u) (hx.mono fun e _ h => by cases e <;> first | exact h | (obtain ⟨b0, h⟩ := h; exact ⟨b0, h⟩)) (fun u h => hy u h)
theorem dn.dT {α0 α1 : Type} {c : Code} (S : α0 → α1 → St) (I : α0 → α1 → Prop) (μ : α0 → α1 → Nat) (i0 : α0) (i1 : α1) (hi : I i0 i1) (hs : Le st (S i0 i1))
  (round : ∀ a0 a1, I a0 a1 → dn P N c (S a0 a1) (g0 (fun aR => ∃ b0 b1, I b0 b1 ∧ μ b0 b1 < μ a0 a1 ∧ Le aR (S b0 b1)) Q)) : dn P N (.loop c) st Q :=
 dn.loop (ι := α0 × α1) (fun u => S u.1 u.2) (fun u => I u.1 u.2) (fun u => μ u.1 u.2) (i0, i1) hi hs (fun u h => (round u.1 u.2 h).mono fun e _ h => by
  cases e <;> first | exact h | (obtain ⟨b0, b1, h⟩ := h; exact ⟨(b0, b1), h⟩))
theorem dn.mQ {α0 α1 : Type} {x y : Code} (J : α0 → α1 → St) (I : α0 → α1 → Prop) (hx : dn P N x st (g0 (fun aR => ∃ b0 b1, I b0 b1 ∧ Le aR (J b0 b1)) Q)) (hy : ∀ a0 a1, I a0 a1 → dn P N y (J a0 a1) Q) : dn P N (.seq x y) st Q :=
 dn.join (ι := α0 × α1) (fun u => J u.1 u.2) (fun u => I u.1 u.2) (hx.mono fun e _ h => by cases e <;> first | exact h | (obtain ⟨b0, b1, h⟩ := h; exact ⟨(b0, b1), h⟩)) (fun u h => hy u.1 u.2 h)
theorem dn.iT {α0 α1 α2 : Type} {c : Code} (S : α0 → α1 → α2 → St) (I : α0 → α1 → α2 → Prop) (μ : α0 → α1 → α2 → Nat) (i0 : α0) (i1 : α1) (i2 : α2) (hi : I i0 i1 i2) (hs : Le st (S i0 i1 i2))
  (round : ∀ a0 a1 a2, I a0 a1 a2 → dn P N c (S a0 a1 a2) (g0 (fun aR => ∃ b0 b1 b2, I b0 b1 b2 ∧ μ b0 b1 b2 < μ a0 a1 a2 ∧ Le aR (S b0 b1 b2)) Q)) : dn P N (.loop c) st Q :=
 dn.loop (ι := α0 × α1 × α2) (fun u => S u.1 u.2.1 u.2.2) (fun u => I u.1 u.2.1 u.2.2) (fun u => μ u.1 u.2.1 u.2.2) (i0, i1, i2) hi hs (fun u h => (round u.1 u.2.1 u.2.2 h).mono fun e _ h => by
  cases e <;> first | exact h | (obtain ⟨b0, b1, b2, h⟩ := h; exact ⟨(b0, b1, b2), h⟩))
theorem dn.wN {α0 α1 α2 : Type} {x y : Code} (J : α0 → α1 → α2 → St) (I : α0 → α1 → α2 → Prop) (hx : dn P N x st (g0 (fun aR => ∃ b0 b1 b2, I b0 b1 b2 ∧ Le aR (J b0 b1 b2)) Q)) (hy : ∀ a0 a1 a2, I a0 a1 a2 → dn P N y (J a0 a1 a2) Q) : dn P N (.seq x y) st Q :=
 dn.join (ι := α0 × α1 × α2) (fun u => J u.1 u.2.1 u.2.2) (fun u => I u.1 u.2.1 u.2.2) (hx.mono fun e _ h => by cases e <;> first | exact h | (obtain ⟨b0, b1, b2, h⟩ := h; exact ⟨(b0, b1, b2), h⟩)) (fun u h => hy u.1 u.2.1 u.2.2 h)
theorem dn.wO {α0 α1 α2 α3 : Type} {c : Code} (S : α0 → α1 → α2 → α3 → St) (I : α0 → α1 → α2 → α3 → Prop) (μ : α0 → α1 → α2 → α3 → Nat) (i0 : α0) (i1 : α1) (i2 : α2) (i3 : α3) (hi : I i0 i1 i2 i3) (hs : Le st (S i0 i1 i2 i3))
  (round : ∀ a0 a1 a2 a3, I a0 a1 a2 a3 → dn P N c (S a0 a1 a2 a3) (g0 (fun aR => ∃ b0 b1 b2 b3, I b0 b1 b2 b3 ∧ μ b0 b1 b2 b3 < μ a0 a1 a2 a3 ∧ Le aR (S b0 b1 b2 b3)) Q)) : dn P N (.loop c) st Q :=
 dn.loop (ι := α0 × α1 × α2 × α3) (fun u => S u.1 u.2.1 u.2.2.1 u.2.2.2) (fun u => I u.1 u.2.1 u.2.2.1 u.2.2.2) (fun u => μ u.1 u.2.1 u.2.2.1 u.2.2.2) (i0, i1, i2, i3) hi hs (fun u h => (round u.1 u.2.1 u.2.2.1 u.2.2.2 h).mono fun e _ h => by
  cases e <;> first | exact h | (obtain ⟨b0, b1, b2, b3, h⟩ := h; exact ⟨(b0, b1, b2, b3), h⟩))
theorem dn.zk {α0 α1 α2 α3 : Type} {x y : Code} (J : α0 → α1 → α2 → α3 → St) (I : α0 → α1 → α2 → α3 → Prop) (hx : dn P N x st (g0 (fun aR => ∃ b0 b1 b2 b3, I b0 b1 b2 b3 ∧ Le aR (J b0 b1 b2 b3)) Q)) (hy : ∀ a0 a1 a2 a3, I a0 a1 a2 a3 → dn P N y (J a0 a1 a2 a3) Q) : dn P N (.seq x y) st Q :=
 dn.join (ι := α0 × α1 × α2 × α3) (fun u => J u.1 u.2.1 u.2.2.1 u.2.2.2) (fun u => I u.1 u.2.1 u.2.2.1 u.2.2.2) (hx.mono fun e _ h => by cases e <;> first | exact h | (obtain ⟨b0, b1, b2, b3, h⟩ := h; exact ⟨(b0, b1, b2, b3), h⟩)) (fun u h => hy u.1 u.2.1 u.2.2.1 u.2.2.2 h)
end

section
variable {α : Type} {f : α → List X} {l m : List α} {i n : Nat} {d a b : α}
theorem ax (h : i < l.length) : (l.map f)[i]? = some (f (l.getD i d)) := by
 rw [List.getElem?_map, List.getElem?_eq_getElem h, List.getD_eq_getElem?_getD, List.getElem?_eq_getElem h]; rfl
theorem a8 (h : i < l.length) : (l.map f)[0 + i]? = some (f (l.getD i d)) := by rw [Nat.zero_add]; exact ax h
theorem cp {k : Nat} {ys : List X} (h : jw (f a) k ys = f b) : (l.map f).set (0 + i) (jw (f a) k ys) = (l.set i b).map f := by
 rw [h, Nat.zero_add, List.map_set]
theorem bq (h : n = l.length) : (((l.map f).drop 0).take n) ++ m.map f = (l ++ m).map f := by
 rw [List.drop_zero, List.take_of_length_le (by rw [List.length_map]; omega), List.map_append]
theorem bL (h : n = l.length) : 0 + n ≤ (l.map f).length := by rw [List.length_map]; omega
theorem cE (h : n = l.length) : n + (m.map f).length = (l ++ m).length := by rw [List.length_map, List.length_append]; omega
theorem b8 (h : n = l.length) : 0 + n ≤ (l.map f).length := by rw [List.length_map]; omega
theorem b9 (h : n = l.length) : ((l.map f).drop 0).take n = l.map f := by
 rw [List.drop_zero, List.take_of_length_le (by rw [List.length_map]; omega)]
theorem BG {f : α → List X} {z : List X} (h : z = f a) : List.replicate n z = (List.replicate n a).map f := by rw [List.map_replicate, h]
theorem kq {p : Prop} (h : p := by first | rfl | exact BG rfl) : p := h
theorem bu (h : n = l.length) : n = (l.map f).length := by rw [List.length_map]; exact h
theorem rF {p : Prop} (h : p := by first | rfl | exact bu rfl | exact bu (by omega)) : p := h
end

section
variable {N : eC} {st : St} {d : Nat}
theorem Sh.ed {s n : Nat} {rows : List (List X)} (o : Nat) (qD : List (List X)) (hx : look st.a9 d = some (.ep s rows)) (he : rows = qD) (hn : n = qD.length) (hF : N.F.elem o = false) : Sh N st (((st.kill o).ea o (.rows s qD)).put d (.aY o s 0 n)) := by
 subst he; exact Sh.Eb o hx hn hF
theorem Sh.dF {s : Nat} {rows : List (List X)} (qD : List (List X)) (hx : look st.a9 d = some (.ep s rows)) (he : rows = qD) (hf : da qD) : Sh N st (st.put d (.fz s qD)) := by
 subst he; exact Sh.freeze hx hf
end

section
variable {P : Program} {N : eC} {st : St} {dst : Option Nat} {ty : TypeId} {pos : String} {af : Array Edge} {g : Option (Nat × Bool)}
theorem Y.fo {s d : TypeId} {x : Operand} {k k' : IntKind} {n : Int} (hs : TY.isInt P s = some k') (hd : TY.isInt P d = some k) (hx : bR st x = some (.v (.int k' n))) (hr : k.wrap n = n) :
  Yields P N st ⟨dst, .convert s d x, ty, pos, af, g⟩ (.v (.int k n)) := Y.conv hs hd hx hr
end
theorem cf {l : List (Nat × X)} {i o s lo n n' : Nat} (h : look l i = some (.aY o s lo n)) (e : n = n') : look l i = some (.aY o s lo n') := e ▸ h
theorem ak {l : List (Nat × X)} {i : Nat} {k : IntKind} {a b : Int} (h : look l i = some (.v (.int k a))) (e : a = b) : look l i = some (.v (.int k b)) := e ▸ h
theorem aI {l : List (Nat × X)} {i : Nat} {a b : Bool} (h : look l i = some (.v (.bool a))) (e : a = b) : look l i = some (.v (.bool b)) := e ▸ h
theorem aS {l : List (Nat × Obj)} {i : Nat} {a b : List X} (h : look l i = some (.cells a)) (e : a = b) : look l i = some (.cells b) := e ▸ h
theorem ay {α : Type} {s : Nat} {f : α → List X} (h : ∀ a, (f a).length = s) {l : List α} : cu s (l.map f) := by
 intro r hr
 obtain ⟨a, _, rfl⟩ := List.mem_map.1 hr
 exact h a
theorem JP {α0 γ : Type} (f : α0 → γ) {a0 b0 : α0} (h0 : a0 = b0) : f a0 = f b0 := by subst h0; rfl
end Go.AW
/- Plain lemmas on lists with getD. -/
namespace Go.AW

section
variable {α : Type} {l m : List α} {i j n : Nat} {d a x : α}
theorem kW (h : i < n) : (List.replicate n a).getD i d = a := by
 rw [List.getD_eq_getElem?_getD, List.getElem?_replicate, if_pos h]; rfl
theorem vw {p : Nat → Prop} (h : ∀ j, j < i → p j) (hp : p i) : ∀ j, j < i + 1 → p j := by
 intro j hj
 rcases Nat.lt_or_ge j i with h1 | h1
 ·exact h j h1
 ·obtain rfl : j = i := by omega
  exact hp
end
end Go.AW
/- Part of the abstract walk: what a row reads, whatever its type, as the walk sees it. -/
namespace Go.AW
open Go Go.ChangeShapes Go.WideShapes Go.Deep Go.RowKit

theorem bz.zl {E : Env} : ∀ {xs ys : List X} {cs ds : List Value}, bz E xs cs [] → bz E ys ds [] → bz E (xs ++ ys) (cs ++ ds) []
 | [], _, _, _, h, h' => by simp only [bz] at h; rw [h.1]; exact h'
 | x :: r, ys, cs, ds, h, h' => by
  simp only [bz] at h
  obtain ⟨c, dg, R₁, R₂, rfl, hs, h1, h2, hR⟩ := h
  obtain ⟨rfl, rfl⟩ := List.append_eq_nil_iff.1 hR.symm
  simp only [List.cons_append, bz]
  exact ⟨c, dg ++ ds, [], [], rfl, hs, h1, bz.zl h2 h', rfl⟩
theorem bz.v1 {E : Env} {u : Value} (h : jg u) : bz E [.v u] [u] [] := by
 simp only [bz]
 exact ⟨u, [], [], [], rfl, h, by simp [RX], ⟨rfl, rfl⟩, rfl⟩
theorem bz.len {E : Env} : ∀ {xs : List X} {cs : List Value} {R : List Nat}, bz E xs cs R → xs.length = cs.length
 | [], _, _, h => by simp only [bz] at h; rw [h.1]; rfl
 | x :: r, cs, R, h => by
  simp only [bz] at h
  obtain ⟨c, dg, R₁, R₂, rfl, _, _, h2, _⟩ := h
  simp [bz.len h2]
theorem RF.Oo {E : Env} {b : Nat} : ∀ {row : List X} {cs : List Value} {off : Nat}, bz E row cs [] → X.gk row = true → (∀ (j : Nat) c, cs[j]? = some c → E.φ b (off + j) = some c) → RF E row b off
 | [], _, _, _, _, _ => by simp [RF]
 | x :: r, cs, off, h, hn, hc => by
  simp only [bz] at h
  obtain ⟨c, dg, R₁, R₂, rfl, hs, h1, h2, hR⟩ := h
  obtain ⟨rfl, rfl⟩ := List.append_eq_nil_iff.1 hR.symm
  simp only [X.gk, Bool.and_eq_true] at hn
  simp only [RF]
  refine ⟨⟨c, by simpa using hc 0 c rfl, hs, hn.1, h1⟩, RF.Oo h2 hn.2 fun j c' hj => ?_⟩
  rw [show off + 1 + j = off + (j + 1) by omega]
  exact hc (j + 1) c' (by simpa using hj)

mutual
def rK {H : Type} : DataW H → Nat
 | .lit (.string bytes) => bytes.length + 1
 | .lit _ => 1
 | .nil => 1
 | .ptr d => rK d + 1
 | .slice elems spare => jM elems + jM spare + 1
 | .agg parts => jM parts + 1
 | .iface _ d => rK d + 1
 | .map entries => qE entries + 1
 | .held _ => 1
def jM {H : Type} : List (DataW H) → Nat
 | [] => 0
 | d :: r => rK d + jM r
def qE {H : Type} : List (Lit × DataW H) → Nat
 | [] => 0
 | x :: r => zm x + qE r
def zm {H : Type} : Lit × DataW H → Nat
 | (.string bytes, d) => bytes.length + rK d + 1
 | (_, d) => rK d + 1
end
theorem nG {H α : Type} {m : α → Nat} : ∀ {l : List α} {ds : List (DataW H)}, l.length = ds.length → (∀ (i : Nat) a d, l[i]? = some a → ds[i]? = some d → m a ≤ rK d) → (l.map m).sum ≤ jM ds
 | [], _, _, _ => by simp
 | a :: l, [], h, _ => by simp at h
 | a :: l, d :: ds, h, hm => by
  have h1 := hm 0 a d rfl rfl
  have h2 := nG (l := l) (ds := ds) (by simpa using h) (fun i a' d' ha hd => hm (i + 1) a' d' (by simpa using ha) (by simpa using hd))
  simp only [List.map_cons, List.sum_cons, jM]; omega
section
variable {H : Type} (enc : TypeId × Value → H) (P : Program) (W : World) (base : Nat)
def Sz {H : Type} (P : Program) (t : TypeId) (d : DataW H) : Prop := ∀ n ∈ d.weights P t, n ≤ 140737488351232
def Reads (t : TypeId) {α : Type} (f : α → List X) (p : α → Prop) (m : α → Nat) : Prop :=
 ∀ (n : Nat) (cs : List Value) (y : DataW H × List MemPlace), DataW.trod enc P W base (fun _ => true) true n t cs = some y → Sz P t y.1 →
  ∃ a : α, p a ∧ bz (E0 W) (f a) cs [] ∧ X.bC (f a) = true ∧ X.gk (f a) = true ∧ m a ≤ rK y.1
def fx (fl : List Field) (off m : Nat) {α : Type} (f : α → List X) (p : α → Prop) (mm : α → Nat) : Prop :=
 ∀ (n : Nat) (cs : List Value) (xs : List (DataW H × List MemPlace)), off + m ≤ cs.length → xs.length = fl.length →
  (∀ (i : Nat) (fd : Field), fl[i]? = some fd → DataW.trod enc P W base (fun _ => true) true n fd.type ((cs.drop fd.offset).take (P.cellsOf fd.type)) = xs[i]?) →
  (∀ (i : Nat) (fd : Field) (x : DataW H × List MemPlace), fl[i]? = some fd → xs[i]? = some x → Sz P fd.type x.1) →
  ∃ a : α, p a ∧ bz (E0 W) (f a) ((cs.drop off).take m) [] ∧ X.bC (f a) = true ∧ X.gk (f a) = true ∧ mm a ≤ jM (xs.map (·.1))
end

section
variable {H : Type} {enc : TypeId × Value → H} {P : Program} {W : World} {base : Nat} {t e : TypeId} {α β : Type} {f : α → List X} {p : α → Prop} {g : β → List X} {q : β → Prop} {mf : α → Nat} {mg : β → Nat}

theorem kX : ∀ {a b : List X}, X.bC a = true → X.bC b = true → X.bC (a ++ b) = true
 | [], _, _, h => h
 | x :: r, b, h, h' => by
  simp only [X.bC, Bool.and_eq_true, List.cons_append] at h ⊢
  exact ⟨h.1, kX h.2 h'⟩
theorem o8 : ∀ {a b : List X}, X.gk a = true → X.gk b = true → X.gk (a ++ b) = true
 | [], _, _, h => h
 | x :: r, b, h, h' => by
  simp only [X.gk, Bool.and_eq_true, List.cons_append] at h ⊢
  exact ⟨h.1, o8 h.2 h'⟩

theorem Reads.map (φ : α → β) (h : Reads enc P W base t f p mf) (hf : ∀ a, g (φ a) = f a) (hp : ∀ a, p a → q (φ a)) (hm : ∀ a, mg (φ a) ≤ mf a) : Reads enc P W base t g q mg := by
 intro n cs y hy hs
 obtain ⟨a, h1, h2, h3, h4, h5⟩ := h n cs y hy hs
 exact ⟨φ a, hp a h1, by rw [hf]; exact h2, by rw [hf]; exact h3, by rw [hf]; exact h4, Nat.le_trans (hm a) h5⟩
theorem Reads.int {k : IntKind} (he : P.underlying t = some (.int k)) : Reads enc P W base t (fun z : Int => [.v (.int k z)]) (fun z => (Lit.int k z).wf = true) (fun _ => 1) := by
 intro n cs y hy _
 obtain ⟨z, rfl, hd, hw⟩ := DataW.trod_int he hy
 exact ⟨z, hw, bz.v1 trivial, rfl, rfl, by rw [hd]; exact Nat.le_refl _⟩
theorem Reads.bool (he : P.underlying t = some .bool) : Reads enc P W base t (fun z : Bool => [.v (.bool z)]) (fun _ => True) (fun _ => 1) := by
 intro n cs y hy _
 obtain ⟨z, rfl, hd⟩ := DataW.trod_bool he hy
 exact ⟨z, trivial, bz.v1 trivial, rfl, rfl, by rw [hd]; exact Nat.le_refl _⟩
theorem Reads.HA (he : P.underlying t = some (.int .u64)) : Reads enc P W base t (fun z : Nat => [.v (.int .u64 (z : Int))]) (fun z => z < 18446744073709551616) (fun _ => 1) := by
 intro n cs y hy _
 obtain ⟨z, rfl, hd, hw⟩ := DataW.trod_int he hy
 simp only [Lit.wf, IntKind.min, IntKind.max, IntKind.signed, IntKind.bits] at hw
 simp at hw
 obtain ⟨m, rfl⟩ := Int.eq_ofNat_of_zero_le (show 0 ≤ z by omega)
 exact ⟨m, om, bz.v1 trivial, rfl, rfl, by rw [hd]; exact Nat.le_refl _⟩
theorem Reads.KT (he : P.underlying t = some (.int .u8)) : Reads enc P W base t (fun z : Nat => [.v (.int .u8 (z : Int))]) (fun z => z < 256) (fun _ => 1) := by
 intro n cs y hy _
 obtain ⟨z, rfl, hd, hw⟩ := DataW.trod_int he hy
 simp only [Lit.wf, IntKind.min, IntKind.max, IntKind.signed, IntKind.bits] at hw
 simp at hw
 obtain ⟨m, rfl⟩ := Int.eq_ofNat_of_zero_le (show 0 ≤ z by omega)
 exact ⟨m, om, bz.v1 trivial, rfl, rfl, by rw [hd]; exact Nat.le_refl _⟩
theorem Reads.str (he : P.underlying t = some .string) : Reads enc P W base t (fun z : ByteArray => [.v (.string z)]) (fun z => z.size ≤ 140737488351232) (fun _ => 0) := by
 intro n cs y hy hs
 obtain ⟨z, rfl, rfl, _⟩ := DataW.trod_string he hy
 refine ⟨z, ?_, bz.v1 trivial, rfl, rfl, Nat.zero_le _⟩
 have := hs z.data.toList.length (by simp [DataW.weights])
 simpa using this

theorem fG {H : Type} {P : Program} {e : TypeId} : ∀ {ds : List (DataW H)} {d : DataW H}, d ∈ ds → ∀ n ∈ d.weights P e, n ∈ DataW.weightsAll P e ds
 | d' :: r, d, h, n, hn => by
  simp only [DataW.weightsAll, List.mem_append]
  rcases List.mem_cons.1 h with rfl | h
  ·exact .inl hn
  ·exact .inr (fG h n hn)

theorem Reads.slice [Inhabited α] {s B : Nat} (ht : P.underlying t = some (.slice e)) (hC : P.cellsOf e = s) (hs : 0 < s) (hB : P.bytesOf e = B) (he : Reads enc P W base e f p mf) :
  Reads enc P W base t (fun l : List α => [.fz s (l.map f)]) (fun l => l.length * B ≤ 140737488351232 ∧ ∀ a ∈ l, p a) (fun l => (l.map mf).sum) := by
 intro fuel cs y hy fe
 rcases open_slice ht hy with ⟨rfl, rfl⟩ | ⟨a, len, cap, m, n, D, Pl, rfl, _, hl, _, hm, rfl, hi⟩
 ·refine ⟨[], ⟨by simp, fun _ h => by cases h⟩, ?_, rfl, rfl, by simp⟩
  simp only [bz, List.map_nil]
  refine ⟨.slice none 0 0, [], [], [], rfl, trivial, ?_, ⟨rfl, by trivial⟩, rfl⟩
  simp only [RX]
  exact ⟨trivial, (fun _ h => by cases h), none, 0, rfl, .inl ⟨by trivial, rfl⟩⟩
 ·simp only [if_true] at hm
  subst hm
  rw [hC] at hi
  have hD : ∀ i, i < m → Sz P e (D i) := by
   intro i R5 k hk
   refine fe k ?_
   simp only [DataW.weights, ht, List.mem_cons, List.mem_append]
   right
   by_cases xx : i < len
   ·exact .inl (fG (List.mem_map.2 ⟨i, List.mem_range.2 xx, rfl⟩) k hk)
   ·refine .inr (fG (List.mem_map.2 ⟨i - len, List.mem_range.2 om, ?_⟩) k hk)
    congr 1; omega
  have P5 : ∀ i, ∃ x : α, i < len → ∃ cs, W.cells? base (a.add (i * s)) s = some cs ∧ p x ∧ bz (E0 W) (f x) cs [] ∧ X.bC (f x) = true ∧ X.gk (f x) = true ∧ mf x ≤ rK (D i) := by
   intro i
   by_cases xx : i < len
   ·obtain ⟨cs, hc, KF⟩ := hi i om
    obtain ⟨x, h0, h1, h2, h3, h4⟩ := he n cs _ KF (hD i om)
    exact ⟨x, fun _ => ⟨cs, hc, h0, h1, h2, h3, h4⟩⟩
   ·exact ⟨default, fun h => absurd h xx⟩
  obtain ⟨g, hg⟩ := Classical.axiomOfChoice P5
  refine ⟨(List.range len).map g, ⟨?_, ?_⟩, ?_, rfl, rfl, ?_⟩
  rotate_right
  ·refine Nat.le_trans (nG (m := mf) (ds := (List.range len).map D) (by simp) ?_) (by show _ ≤ jM _ + jM _ + 1; omega)
   intro i a' d' ha hd
   simp only [List.getElem?_map, Option.map_eq_some_iff] at ha hd
   obtain ⟨k, hk, rfl⟩ := ha
   obtain ⟨k', yE, rfl⟩ := hd
   rw [hk] at yE
   obtain rfl := Option.some.inj yE
   have Bu : i < len := by have := (List.getElem?_eq_some_iff.1 hk).1; simpa using this
   have uU : k = i := by rw [List.getElem?_range Bu] at hk; exact (Option.some.inj hk).symm
   subst uU
   obtain ⟨_, _, _, _, _, _, h5⟩ := hg k Bu
   exact h5
  ·have z := fe ((((List.range len).map D).length + ((List.range (m - len)).map fun j => D (len + j)).length) * P.bytesOf e) (by simp [DataW.weights, ht])
   rw [hB] at z
   simp only [List.length_map, List.length_range] at z ⊢
   exact Nat.le_trans (Nat.mul_le_mul_right _ om) z
  ·intro x hx
   simp only [List.mem_map, List.mem_range] at hx
   obtain ⟨i, gQ, rfl⟩ := hx
   obtain ⟨_, _, h0, _⟩ := hg i gQ
   exact h0
  ·have hu : cu s (((List.range len).map g).map f) := by
    intro r hr
    simp only [List.map_map, List.mem_map, List.mem_range, Function.comp] at hr
    obtain ⟨i, gQ, rfl⟩ := hr
    obtain ⟨cs, hc, _, h1, _⟩ := hg i gQ
    rw [bz.len h1]
    exact (World.cells?_some hc).2.1
   simp only [bz]
   refine ⟨_, [], [], [], rfl, trivial, ?_, ⟨rfl, rfl⟩, rfl⟩
   simp only [RX]
   refine ⟨trivial, hu, some a, m, by simp, ?_⟩
   by_cases Oq : m = 0
   ·exact .inl ⟨by simp [show len = 0 by omega], Oq⟩
   ·have CU : a = ⟨a.block, a.off, none⟩ := by
     obtain ⟨cs, hc, _⟩ := hi 0 om
     have h1 := (World.cells?_some hc).2.2 0 hs
     have hlen := (World.cells?_some hc).2.1
     simp only [Nat.zero_mul, Addr.add, if_true] at h1
     rw [List.getElem?_eq_getElem (show 0 < cs.length by omega)] at h1
     unfold World.cell? at h1
     obtain ⟨b, o, sp⟩ := a
     cases sp with
     | none => rfl
     | some q => split at h1 <;> simp at h1
    refine .inr ⟨a.block, a.off, by rw [← CU], by simp; omega, jE.of hu ?_⟩
    intro i row pd
    simp only [List.map_map, List.getElem?_map, Option.map_eq_some_iff, Function.comp] at pd
    obtain ⟨k, hk, rfl⟩ := pd
    have Bu : i < len := by have := (List.getElem?_eq_some_iff.1 hk).1; simpa using this
    have uU : k = i := by rw [List.getElem?_range Bu] at hk; exact (Option.some.inj hk).symm
    subst uU
    obtain ⟨cs, hc, _, h1, _, h2, _⟩ := hg k Bu
    refine RF.Oo h1 h2 fun j c Ot => ?_
    have pO : j < s := by have := (List.getElem?_eq_some_iff.1 Ot).1; rw [(World.cells?_some hc).2.1] at this; exact this
    have h3 := (World.cells?_some hc).2.2 j pO
    rw [Ot, add_add, CU, gS] at h3
    show W.cell? _ = _
    rw [← h3]
    congr 2
    omega

theorem fx.nil {off : Nat} : fx enc P W base [] off 0 (fun _ : Unit => []) (fun _ => True) (fun _ => 0) := by
 intro n cs xs _ _ _ _
 exact ⟨(), trivial, by simp [bz], rfl, rfl, Nat.zero_le _⟩
theorem fx.cons {fd : Field} {fl : List Field} {off s m : Nat} (ho : fd.offset = off) (hC : P.cellsOf fd.type = s) (h : Reads enc P W base fd.type f p mf) (hr : fx enc P W base fl (off + s) m g q mg) :
  fx enc P W base (fd :: fl) off (s + m) (fun x : α × β => f x.1 ++ g x.2) (fun x => p x.1 ∧ q x.2) (fun x => mf x.1 + mg x.2) := by
 intro n cs xs hlen vr hx fe
 cases xs with
 | nil => simp at vr
 | cons x xs =>
  have h0 := hx 0 fd rfl
  rw [ho, hC] at h0
  obtain ⟨a, ha, h1, h2, h3, h4⟩ := h n _ x h0 (fe 0 fd x rfl rfl)
  obtain ⟨b, hb, g1, g2, g3, g4⟩ := hr n cs xs om (by simpa using vr) (fun i KU hi => by simpa using hx (i + 1) KU (by simpa using hi)) (fun i KU x' hi gR => fe (i + 1) KU x' (by simpa using hi) (by simpa using gR))
  refine ⟨(a, b), ⟨ha, hb⟩, ?_, kX h2 g2, o8 h3 g3, by simp only [List.map_cons, jM]; omega⟩
  have qF : (cs.drop off).take (s + m) = (cs.drop off).take s ++ (cs.drop (off + s)).take m := by
   rw [List.take_add, List.drop_drop]
  rw [qF]
  exact bz.zl h1 g1

theorem ma {H : Type} {P : Program} : ∀ {fl : List Field} {xs : List (DataW H × List MemPlace)} {i : Nat} {fd : Field} {x : DataW H × List MemPlace}, fl[i]? = some fd → xs[i]? = some x →
  ∀ n ∈ x.1.weights P fd.type, n ∈ DataW.weightsEach P (fl.map (·.type)) (xs.map (·.1))
 | f :: fl, y :: xs, 0, fd, x, h, h', n, hn => by
  simp only [List.getElem?_cons_zero, Option.some.injEq] at h h'
  subst h h'
  simp only [List.map_cons, DataW.weightsEach, List.mem_append]
  exact .inl hn
 | f :: fl, y :: xs, i + 1, fd, x, h, h', n, hn => by
  simp only [List.map_cons, DataW.weightsEach, List.mem_append]
  exact .inr (ma (i := i) (by simpa using h) (by simpa using h') n hn)
theorem Reads.struct {fs : Array Field} {m : Nat} (ht : P.underlying t = some (.struct fs)) (hC : P.cellsOf t = m) (h : fx enc P W base fs.toList 0 m f p mf) : Reads enc P W base t f p mf := by
 intro fuel cs y hy fe
 obtain ⟨xs, n, _, rfl, hlen, vr, hx⟩ := DataW.trod_struct ht hy
 obtain ⟨a, ha, h1, h2, h3, h4⟩ := h n cs xs om (by simpa using vr) (fun i fd hi => hx i fd (by simpa using hi)) (fun i fd x hi gR k hk => by
  refine fe k ?_
  simp only [DataW.weights, ht]
  exact ma hi gR k hk)
 refine ⟨a, ha, ?_, h2, h3, by show _ ≤ jM _ + 1; omega⟩
 rw [List.drop_zero, List.take_of_length_le om] at h1
 exact h1
theorem Reads.KV {s : Nat} (ht : P.underlying t = some (.array 2 e)) (hC : P.cellsOf e = s) (hT : P.cellsOf t = 2 * s) (h : Reads enc P W base e f p mf) :
  Reads enc P W base t (fun x : α × α => f x.1 ++ f x.2) (fun x => p x.1 ∧ p x.2) (fun _ => 0) := by
 intro fuel cs y hy fe
 obtain ⟨xs, n, _, rfl, hlen, vr, hx⟩ := DataW.trod_array ht hy
 match xs, vr with
 | [x0, x1], _ =>
  have w0 : ∀ x ∈ [x0, x1], Sz P e x.1 := fun x hx k hk => fe k (by
   simp only [DataW.weights, ht]
   exact fG (List.mem_map.2 ⟨x, hx, rfl⟩) k hk)
  obtain ⟨a, ha, a1, a2, a3, _⟩ := h n _ x0 (hx 0 om) (w0 x0 (by simp))
  obtain ⟨b, hb, b1, b2, b3, _⟩ := h n _ x1 (hx 1 om) (w0 x1 (by simp))
  refine ⟨(a, b), ⟨ha, hb⟩, ?_, kX a2 b2, o8 a3 b3, Nat.zero_le _⟩
  have qF : cs = (cs.drop (0 * P.cellsOf e)).take (P.cellsOf e) ++ (cs.drop (1 * P.cellsOf e)).take (P.cellsOf e) := by
   rw [Nat.zero_mul, Nat.one_mul, List.drop_zero, hC, List.take_of_length_le (l := cs.drop s) (by rw [List.length_drop]; omega), List.take_append_drop]
  rw [qF]
  exact bz.zl a1 b1
theorem Reads.KW {s : Nat} (ht : P.underlying t = some (.array 3 e)) (hC : P.cellsOf e = s) (hT : P.cellsOf t = 3 * s) (h : Reads enc P W base e f p mf) :
  Reads enc P W base t (fun x : α × α × α => f x.1 ++ (f x.2.1 ++ f x.2.2)) (fun x => p x.1 ∧ p x.2.1 ∧ p x.2.2) (fun _ => 0) := by
 intro fuel cs y hy fe
 obtain ⟨xs, n, _, rfl, hlen, vr, hx⟩ := DataW.trod_array ht hy
 match xs, vr with
 | [x0, x1, x2], _ =>
  have w0 : ∀ x ∈ [x0, x1, x2], Sz P e x.1 := fun x hx k hk => fe k (by
   simp only [DataW.weights, ht]
   exact fG (List.mem_map.2 ⟨x, hx, rfl⟩) k hk)
  obtain ⟨a, ha, a1, a2, a3, _⟩ := h n _ x0 (hx 0 om) (w0 x0 (by simp))
  obtain ⟨b, hb, b1, b2, b3, _⟩ := h n _ x1 (hx 1 om) (w0 x1 (by simp))
  obtain ⟨c, hc, c1, c2, c3, _⟩ := h n _ x2 (hx 2 om) (w0 x2 (by simp))
  refine ⟨(a, b, c), ⟨ha, hb, hc⟩, ?_, kX a2 (kX b2 c2), o8 a3 (o8 b3 c3), Nat.zero_le _⟩
  have qF : cs = (cs.drop (0 * P.cellsOf e)).take (P.cellsOf e) ++ ((cs.drop (1 * P.cellsOf e)).take (P.cellsOf e) ++ (cs.drop (2 * P.cellsOf e)).take (P.cellsOf e)) := by
   rw [Nat.zero_mul, Nat.one_mul, List.drop_zero, hC, List.take_of_length_le (l := cs.drop (2 * s)) (by rw [List.length_drop]; omega), show 2 * s = s + s by omega, ← List.drop_drop, List.take_append_drop, List.take_append_drop]
  rw [qF]
  exact bz.zl a1 (bz.zl b1 c1)

theorem Reads.one {x : α → X} {v : Value} {d : DataW H} {ps : List MemPlace} (h : Reads enc P W base t (fun a => [x a]) p mf) (hs : Sz P t d) (hv : v.cells.toList = [v]) (ht : DataW.Trod enc P W base (fun _ => true) true t v d ps) :
  ∃ a, p a ∧ RX (E0 W) (x a) v [] ∧ mf a ≤ rK d := by
 obtain ⟨fuel, hf⟩ := ht
 rw [hv] at hf
 obtain ⟨a, ha, h1, _, _, h5⟩ := h fuel _ _ hf hs
 simp only [bz] at h1
 obtain ⟨c, dg, R₁, R₂, hc, _, h2, _, hR⟩ := h1
 obtain ⟨rfl, rfl⟩ := List.append_eq_nil_iff.1 hR.symm
 simp only [List.cons.injEq] at hc
 exact ⟨a, ha, by rw [hc.1]; exact h2, h5⟩
theorem Reads.agg {cs : Array Value} {d : DataW H} {ps : List MemPlace} (h : Reads enc P W base t f p mf) (hs : Sz P t d) (ht : DataW.Trod enc P W base (fun _ => true) true t (.agg cs) d ps) :
  ∃ a, p a ∧ RX (E0 W) (.agg (f a)) (.agg cs) [] ∧ mf a ≤ rK d := by
 obtain ⟨fuel, hf⟩ := ht
 obtain ⟨a, ha, h1, _, _, h5⟩ := h fuel _ _ hf hs
 exact ⟨a, ha, by simp only [RX]; exact ⟨cs, rfl, h1⟩, h5⟩
theorem Sz.of {ts : List TypeId} {ds : List (DataW H)} (h : (DataW.weightsEach P ts ds).all (· ≤ reachBytes) = true) {j : Nat} {d : DataW H} (Ec : ts[j]? = some t) (KX : ds[j]? = some d) : Sz P t d := by
 intro n hn
 have := List.all_eq_true.1 h _ (DataW.weights_mem_each Ec KX n hn)
 have h2 := of_decide_eq_true this
 exact h2
end
end Go.AW
/- Part of the abstract walk: in an open order, operations that leave memory as it is may be taken in a row, if nothing else can come up before them. -/
namespace Go.AW
open Go

def nW (ops : Array Oper) (j i : Nat) : Bool := match ops[j]? with
 | some o => o.after.any fun e => Region.binds .any e && e.on == i
 | none => false
def Ed (ops : Array Oper) (l rest : List Nat) (t : Nat) (ag : Array Bool) : Bool :=
 ag.size == ops.size && ((List.range ops.size).all fun j => !ag.getD j false || match ops[j]? with
  | some o => o.after.all fun e => !Region.binds .any e || ag.getD e.on false
  | none => true) && ((List.range ops.size).all fun j => ag.getD j true || l.contains j || rest.contains j) && (rest.all fun j => !ag.getD j true && !l.contains j) && (l.all fun j => !ag.getD j true) &&
  (rest.isEmpty || l.all fun i => (t :: l).any fun j => decide (i < j) && nW ops j i) && (rest.all fun j => j == t || rest.any fun k => nW ops j k) && decide l.Nodup

structure On (ops : Array Oper) (l0 rest : List Nat) (t : Nat) (l : List Nat) (ag : Array Bool) : Prop where
 size : ag.size = ops.size
 closed : ∀ j o, ops[j]? = some o → ag.getD j false = true → ∀ e ∈ o.after, Region.binds .any e = true → ag.getD e.on false = true
 part : ∀ j, ag.getD j true = false → j ∈ l ∨ j ∈ rest
 out : ∀ j ∈ rest, ag.getD j true = false ∧ j ∉ l0
 open_ : ∀ j ∈ l, ag.getD j true = false
 sub : ∀ j ∈ l, j ∈ l0
 sink : rest ≠ [] → ∀ i ∈ l0, ∃ j, (j = t ∨ j ∈ l0) ∧ i < j ∧ nW ops j i = true
 wait : ∀ j ∈ rest, j = t ∨ ∃ k ∈ rest, nW ops j k = true
 nodup : l.Nodup

theorem se {ag : Array Bool} {i : Nat} (h : ag.getD i true = false) : ag.getD i false = false := by
 rcases Nat.lt_or_ge i ag.size with h' | h'
 ·simp [h'] at h ⊢; exact h
 ·simp [Array.getElem?_eq_none h'] at h
theorem vx {ag : Array Bool} {i : Nat} (hi : i < ag.size) (h : ag.getD i false = false) : ag.getD i true = false := by
 simp [hi] at h ⊢; exact h
theorem pU {ops : Array Oper} {j i : Nat} (h : nW ops j i = true) : ∃ o, ops[j]? = some o ∧ ∃ e ∈ o.after, Region.binds .any e = true ∧ e.on = i := by
 unfold nW at h
 split at h
 ·rename_i o ho
  obtain ⟨e, he, hb⟩ := Array.any_eq_true'.1 h
  simp only [Bool.and_eq_true, beq_iff_eq] at hb
  exact ⟨o, ho, e, he, hb.1, hb.2⟩
 ·cases h
theorem BH {ops : Array Oper} {l rest : List Nat} {t : Nat} {ag : Array Bool} (h : Ed ops l rest t ag = true) : On ops l rest t l ag := by
 simp only [Ed, Bool.and_eq_true, beq_iff_eq, List.all_eq_true, decide_eq_true_eq, List.mem_range, Bool.or_eq_true, Bool.not_eq_true', List.any_eq_true, List.contains_iff_mem] at h
 obtain ⟨⟨⟨⟨⟨⟨⟨h1, h2⟩, h3⟩, h4⟩, h5⟩, h6⟩, h7⟩, h8⟩ := h
 refine ⟨h1, ?_, ?_, ?_, h5, fun _ h => h, ?_, ?_, h8⟩
 ·intro j o ho hl e he hb
  have := h2 j (Array.getElem?_eq_some_iff.1 ho).1
  rw [hl, ho] at this
  simp only [Bool.true_eq_false, false_or] at this
  have h9 := Array.all_eq_true_iff_forall_mem.1 this e he
  simpa [hb] using h9
 ·intro j hj
  have FZ : j < ops.size := by
   rcases Nat.lt_or_ge j ag.size with h' | h'
   ·omega
   ·simp [Array.getElem?_eq_none h'] at hj
  have := h3 j FZ
  rw [hj] at this
  simpa using this
 ·intro j hj
  have := h4 j hj
  exact ⟨this.1, by simpa using this.2⟩
 ·intro e7 i hi
  obtain ⟨j, hj, iv, hw⟩ := (h6.resolve_left (by simpa using e7)) i hi
  exact ⟨j, by simpa using hj, iv, hw⟩
 ·intro j hj
  exact h7 j hj
theorem sf {ops : Array Oper} {ag : Array Bool} {j k : Nat} (hw : nW ops j k = true) (hk : ag.getD k true = false) : j ∉ Region.ready .any ops ag := by
 intro hj
 obtain ⟨_, o, ho, rJ⟩ := mem_ready.1 hj
 obtain ⟨o', kO, e, he, hb, ga⟩ := pU hw
 rw [ho] at kO
 cases kO
 have := rJ e he hb
 rw [ga, se hk] at this
 cases this
theorem qG : ∀ {l : List Nat}, l ≠ [] → ∃ m ∈ l, ∀ x ∈ l, x ≤ m
 | [], h => absurd rfl h
 | [a], _ => ⟨a, by simp, by simp⟩
 | a :: b :: r, _ => by
  obtain ⟨m, hm, hx⟩ := qG (l := b :: r) (by simp)
  rcases Nat.le_total a m with h | h
  ·exact ⟨m, List.mem_cons_of_mem _ hm, fun x gR => by rcases List.mem_cons.1 gR with rfl | gR; exact h; exact hx x gR⟩
  ·exact ⟨a, by simp, fun x gR => by rcases List.mem_cons.1 gR with rfl | gR; exact Nat.le_refl _; exact Nat.le_trans (hx x gR) h⟩
theorem On.ready {ops : Array Oper} {l0 rest l : List Nat} {t : Nat} {ag : Array Bool} (h : On ops l0 rest t l ag) (e7 : l ≠ []) : ∀ j ∈ Region.ready .any ops ag, j ∈ l := by
 intro j hj
 have y8 := (mem_ready.1 hj).1
 rcases h.part j y8 with hl | hr
 ·exact hl
 ·exfalso
  rcases h.wait j hr with rfl | ⟨k, hk, hw⟩
  ·obtain ⟨m, hm, KY⟩ := qG e7
   obtain ⟨j', o6, iv, hw⟩ := h.sink (fun e => by rw [e] at hr; cases hr) m (h.sub m hm)
   rcases o6 with rfl | o6
   ·exact sf hw (h.open_ m hm) hj
   ·obtain ⟨o, ho, e, he, hb, ga⟩ := pU hw
    cases hl : ag.getD j' false with
    | true =>
     have := h.closed j' o ho hl e he hb
     rw [ga, se (h.open_ m hm)] at this
     cases this
    | false =>
     have hs : j' < ag.size := by rw [h.size]; exact (Array.getElem?_eq_some_iff.1 ho).1
     rcases h.part j' (vx hs hl) with h1 | h1
     ·have := KY j' h1; omega
     ·exact (h.out j' h1).2 o6
  ·exact sf hw (h.out k hk).1 hj
theorem On.step {ops : Array Oper} {l0 rest l : List Nat} {t j : Nat} {ag : Array Bool} (h : On ops l0 rest t l ag) (hj : j ∈ Region.ready .any ops ag) (hl : j ∈ l) : On ops l0 rest t (l.erase j) (ag.setIfInBounds j true) := by
 obtain ⟨_, oj, yF, rJ⟩ := mem_ready.1 hj
 have other : ∀ k (d : Bool), j ≠ k → (ag.setIfInBounds j true).getD k d = ag.getD k d := fun k d rZ => by
  simp only [Array.getD_eq_getD_getElem?, Array.getElem?_setIfInBounds_ne rZ]
 refine ⟨by simp [h.size], ?_, ?_, ?_, ?_, fun k hk => h.sub k (List.mem_of_mem_erase hk), h.sink, h.wait, h.nodup.erase j⟩
 ·intro k o ho hk e he hb
  by_cases rZ : j = k
  ·subst rZ
   rw [yF] at ho
   cases ho
   exact getD_set_true (rJ e he hb)
  ·rw [other k false rZ] at hk
   exact getD_set_true (h.closed k o ho hk e he hb)
 ·intro k hk
  by_cases rZ : j = k
  ·subst rZ
   rw [Array.getD_eq_getD_getElem?] at hk
   rcases Nat.lt_or_ge j ag.size with h' | h'
   ·simp [h'] at hk
   ·simp at hk
  ·rw [other k true rZ] at hk
   rcases h.part k hk with h1 | h1
   ·exact .inl ((List.mem_erase_of_ne (fun e => rZ e.symm)).2 h1)
   ·exact .inr h1
 ·intro k hk
  have h1 := h.out k hk
  have rZ : j ≠ k := fun e => h1.2 (e ▸ h.sub j hl)
  exact ⟨by rw [other k true rZ]; exact h1.1, h1.2⟩
 ·intro k hk
  have rZ : j ≠ k := fun e => by subst e; exact (List.Nodup.not_mem_erase h.nodup) hk
  rw [other k true rZ]; exact h.open_ k (List.mem_of_mem_erase hk)

section
variable {P : Program} {N : eC} {ops : Array Oper} {d : Nat} {ty : TypeId} {pos : String} {af : Array Edge}
def mb (P : Program) (ops : Array Oper) (w : World) (L : Array Bool → Act → Prop) : Nat → Array Bool → Act → Prop
 | 0, ag, a => L ag a
 | n + 1, ag, a => Region.ready .any ops ag ≠ [] ∧ ∀ j ∈ Region.ready .any ops ag, stOp P ops w j (mb P ops w L n (ag.setIfInBounds j true)) a

theorem mb.any {w : World} {L : Array Bool → Act → Prop} {Q' : Exit → Act → World → Prop} {k : Nat} (hL : ∀ ag a, L ag a → wpAny P .any ops Q' k ag a w) :
  ∀ (n : Nat) (ag : Array Bool) (a : Act), mb P ops w L n ag a → wpAny P .any ops Q' (n + k) ag a w
 | 0, ag, a, h => by rw [Nat.zero_add]; exact hL _ _ h
 | n + 1, ag, a, h => by
  rw [Nat.add_right_comm]
  exact ⟨fun e => absurd e h.1, fun j hj => wpOp_of_stOp (fun a' => mb.any hL n _ a') (h.2 j hj)⟩

theorem mb.first {l0 rest : List Nat} {t : Nat} {w : World} {L : Array Bool → Act → Prop} {i : Nat} {oi : Oper} {v : Value} (hi : ops[i]? = some oi) (zn : Region.noSelect ops = true) : ∀ (n : Nat) (l : List Nat) (ag : Array Bool) (a : Act),
  l.length = n → On ops l0 rest t (i :: l) ag → (∀ j oj, ops[j]? = some oj → j ≠ i → ag.getD j true = false → (∀ e ∈ oj.after, Region.binds .any e = true → e.on ≠ i) → oi.apart ops oj = true) →
  i ∈ Region.ready .any ops ag → YieldsAt P ops w oi v a → mb P ops w L n (ag.setIfInBounds i true) (a.put oi.dst v) → mb P ops w L (n + 1) ag a := by
 intro n
 induction n with
 | zero =>
  intro l ag a hl hB _ hr hy H
  refine ⟨fun e => (by rw [e] at hr; cases hr), fun j hj => ?_⟩
  have h1 := hB.ready (by simp) j hj
  have Ou : l = [] := List.length_eq_zero_iff.1 hl
  subst Ou
  obtain rfl : j = i := by simpa using h1
  exact hy.stOp hi H
 | succ n ih =>
  intro l ag a hl hB kT hr hy H
  refine ⟨fun e => (by rw [e] at hr; cases hr), fun j hj => ?_⟩
  by_cases uV : j = i
  ·subst uV; exact hy.stOp hi H
  ·have h1 := hB.ready (by simp) j hj
   have h2 := hB.step hj h1
   have pO : j ∈ l := by simpa [uV] using h1
   have e7 : (i == j) = false := by simpa using fun h => uV h.symm
   rw [List.erase_cons, e7] at h2
   obtain ⟨y8, oj, yF, rJ⟩ := mem_ready.1 hj
   have BK : ∀ e ∈ oj.after, Region.binds .any e = true → e.on ≠ i := by
    intro e he hb heq
    have h3 := rJ e he hb
    have h4 := (mem_ready.1 hr).1
    rw [heq] at h3
    rcases Nat.lt_or_ge i ag.size with h' | h'
    ·simp [h'] at h3 h4; rw [h3] at h4; cases h4
    ·simp [Array.getElem?_eq_none h'] at h3
   have h5 := stOp_put yF (kT j oj yF uV y8 BK) (fun cs b => Region.noSelect_spec zn i oi cs b hi) (fun cs b => Region.noSelect_spec zn j oj cs b yF) hy (H.2 j (ready_mono hj uV))
   refine stOp_mono (fun a' h6 => ih (l.erase j) _ a' (by rw [List.length_erase_of_mem pO, hl]; rfl) h2 ?_ (ready_mono hr (fun h => uV h.symm)) h6.1 ?_) h5
   ·intro k ok hk uU HB BD
    refine kT k ok hk uU ?_ BD
    by_cases rZ : j = k
    ·subst rZ; exact y8
    ·have : (ag.setIfInBounds j true).getD k true = ag.getD k true := by
      simp only [Array.getD_eq_getD_getElem?, Array.getElem?_setIfInBounds_ne rZ]
     rw [this] at HB; exact HB
   ·have : (ag.setIfInBounds j true).setIfInBounds i true = (ag.setIfInBounds i true).setIfInBounds j true := Array.setIfInBounds_comm _ _ uV
    rw [this]; exact h6.2

def AQ (P : Program) (N : eC) (ops : Array Oper) (l0 rest : List Nat) (t : Nat) (l : List Nat) (ag : Array Bool) (st : St) (K : Array Bool → St → Prop) : Prop :=
 On ops l0 rest t l ag → ∀ G : Ctx, G.fn = N → ∀ a w, ct G st a w → mb P ops w (fun qt a' => ∃ aR, K qt aR ∧ ct G aR a' w) l.length ag a

theorem AQ.nil {l0 rest : List Nat} {t : Nat} {ag : Array Bool} {st : St} {K : Array Bool → St → Prop} (h : K ag st) : AQ P N ops l0 rest t [] ag st K := fun _ _ _ _ _ hh => ⟨st, h, hh⟩
theorem AQ.cons {l0 rest : List Nat} {t i : Nat} {l : List Nat} {ag : Array Bool} {st : St} {K : Array Bool → St → Prop} {op : Op} {x : X} (ho : ops[i]? = some ⟨some d, op, ty, pos, af, none⟩)
  (hB : (Region.noSelect ops && Region.free .any ops ag i && (Region.ready .any ops ag).contains i) = true) (hy : Yields P N st ⟨some d, op, ty, pos, af, none⟩ x) (hd : d < N.n)
  (k : AQ P N ops l0 rest t l (ag.setIfInBounds i true) (st.put d x) K) : AQ P N ops l0 rest t (i :: l) ag st K := by
 intro h4 G hn a w hh
 obtain ⟨E, RR, rfl, hi⟩ := hh
 obtain ⟨u, hr, hx⟩ := hy G E RR a hn hi
 simp only [Bool.and_eq_true] at hB
 obtain ⟨⟨h1, h2⟩, h3⟩ := hB
 have h5 := h4.step (j := i) (by simpa using h3) (by simp)
 rw [List.erase_cons_head] at h5
 exact mb.first ho h1 l.length l ag a rfl h4 (Region.free_spec ho h2) (by simpa using h3) (v := u) (.inl ⟨by simp [Region.wanted], .inl hr⟩) (k h5 G hn _ _ ⟨E, _, rfl, hi.gd (hn ▸ hd) hx⟩)
theorem AQ.skip {l0 rest : List Nat} {t i : Nat} {l : List Nat} {ag : Array Bool} {st : St} {K : Array Bool → St → Prop} {op : Op} {j dj : Nat} {want : Bool} {u : Value} (ho : ops[i]? = some ⟨some d, op, ty, pos, af, some (j, want)⟩)
  (hB : (Region.noSelect ops && Region.free .any ops ag i && (Region.ready .any ops ag).contains i) = true)
  (hj : (ops[j]?).bind (·.dst) = some dj) (qH : dj < N.n) (hd : d < N.n) (hx : look st.a9 dj = some (.v u)) (e7 : qB want u = true)
  (k : AQ P N ops l0 rest t l (ag.setIfInBounds i true) (st.put d (.v undef)) K) : AQ P N ops l0 rest t (i :: l) ag st K := by
 intro h4 G hn a w hh
 obtain ⟨E, RR, rfl, hi⟩ := hh
 simp only [Bool.and_eq_true] at hB
 obtain ⟨⟨h1, h2⟩, h3⟩ := hB
 have h5 := h4.step (j := i) (by simpa using h3) (by simp)
 rw [List.erase_cons_head] at h5
 have hw := kV (all := ops) (dst := some d) (op := op) (ty := ty) (pos := pos) (af := af) hi hj (hn ▸ qH) hx e7
 exact mb.first ho h1 l.length l ag a rfl h4 (Region.free_spec ho h2) (by simpa using h3) (v := undef) (.inr ⟨hw, rfl⟩) (k h5 G hn _ _ ⟨E, _, rfl, hi.gd (hn ▸ hd) (by simp [RX])⟩)
theorem AQ.run {l0 rest : List Nat} {t i : Nat} {l : List Nat} {ag : Array Bool} {st : St} {K : Array Bool → St → Prop} {op : Op} {x : X} {j dj : Nat} {want : Bool} (ho : ops[i]? = some ⟨some d, op, ty, pos, af, some (j, want)⟩)
  (hB : (Region.noSelect ops && Region.free .any ops ag i && (Region.ready .any ops ag).contains i) = true)
  (hj : (ops[j]?).bind (·.dst) = some dj) (qH : dj < N.n) (hx : look st.a9 dj = some (.v (.bool want))) (hy : Yields P N st ⟨some d, op, ty, pos, af, some (j, want)⟩ x) (hd : d < N.n)
  (k : AQ P N ops l0 rest t l (ag.setIfInBounds i true) (st.put d x) K) : AQ P N ops l0 rest t (i :: l) ag st K := by
 intro h4 G hn a w hh
 obtain ⟨E, RR, rfl, hi⟩ := hh
 obtain ⟨u, hr, gR⟩ := hy G E RR a hn hi
 simp only [Bool.and_eq_true] at hB
 obtain ⟨⟨h1, h2⟩, h3⟩ := hB
 have h5 := h4.step (j := i) (by simpa using h3) (by simp)
 rw [List.erase_cons_head] at h5
 have hs := hi.a9 dj _ hx
 simp only [RX] at hs
 have fe : dj < a.tmps.size := by rw [hi.tmps, hn]; exact qH
 have hv : a.tmps[dj]? = some (.bool want) := by
  have := hs.1
  simp only [Array.getD, fe, dif_pos] at this
  rw [Array.getElem?_eq_getElem fe]
  exact congrArg some this
 have hw : Region.wanted ⟨some d, op, ty, pos, af, some (j, want)⟩ (yielded ops a.tmps) = true := by
  simp [Region.wanted, yielded, hj, hv]
 exact mb.first ho h1 l.length l ag a rfl h4 (Region.free_spec ho h2) (by simpa using h3) (v := u) (.inl ⟨hw, .inl hr⟩) (k h5 G hn _ _ ⟨E, _, rfl, hi.gd (hn ▸ hd) gR⟩)
theorem eE.dC (l rest : List Nat) (t : Nat) {m n : Nat} (hm : m = l.length + n) {ag : Array Bool} {st : St} {K : St → Prop} (hB : Ed ops l rest t ag = true)
  (h : AQ P N ops l rest t l ag st (fun qt aR => eE P N ops n qt aR K)) : eE P N ops m ag st K := by
 subst hm
 intro G hn a w hh
 refine mb.any (fun qt a' ⟨aR, hk, gy⟩ => ?_) l.length ag a (h (BH hB) G hn a w hh)
 exact hk G hn a' w gy
end
end Go.AW
/- Part of the abstract walk: values of one's own that move. -/
namespace Go.AW
open Go

section
variable {P : Program} {N : eC} {st : St} {Q : Exit → St → Prop} {all : Array Oper} {rest : List Oper} {d : Nat} {ty : TypeId} {pos : String} {af : Array Edge}

theorem Inv.mR {G : Ctx} {E : Env} {RR : Own → List Nat} {a : Act} (hi : Inv G E RR st a) {tv : Nat} {x : X} (hy : look st.a9 tv = some x) (hd : d < G.fn.n) :
  ∃ eU, Inv G E eU ((st.put tv .no).put d x) (a.put (some d) (a.eval (.tmp tv))) := by
 have hv := hi.a9 tv _ hy
 have l3 := hi.no tv
 refine ⟨_, l3.put (R := RR (.slot tv)) hd hv (hi.nodup _) (fun b hb => ⟨(hi.own _ _ hb).1, (hi.own _ _ hb).2, fun p _ hp => ?_⟩)⟩
 unfold fm at hp
 split at hp
 ·cases hp
 ·rename_i h; exact hi.apart _ _ h b hp hb
theorem aL.dU {tv : Nat} {x : X} (hy : look st.a9 tv = some x) (hd : d < N.n) (k : aL P N all rest ((st.put tv .no).put d x) Q) :
  aL P N all (⟨some d, .assign (.tmp tv), ty, pos, af, none⟩ :: rest) st Q :=
 aL.yR (fun G E RR a hn hi => let ⟨eU, h⟩ := hi.mR hy (by rw [hn]; exact hd); ⟨a.eval (.tmp tv), E, eU, rfl, h⟩) k
theorem aL.mR {tv : Nat} {x : X} (hy : look st.a9 tv = some x) (hd : d < N.n) (k : aL P N all rest ((st.put tv .no).put d x) Q) :
  aL P N all (⟨some d, .move (.tmp tv), ty, pos, af, none⟩ :: rest) st Q :=
 aL.yR (fun G E RR a hn hi => let ⟨eU, h⟩ := hi.mR hy (by rw [hn]; exact hd); ⟨a.eval (.tmp tv), E, eU, rfl, h⟩) k

theorem dZ.wP {E : Env} : ∀ {xs : List X} {cs : List Value} {R : List Nat} {k : Nat} {x : X}, dZ E xs cs R → xs[k]? = some x →
  ∃ u Ra Rk Rb, cs[k]? = some u ∧ RX E x u Rk ∧ R = Ra ++ (Rk ++ Rb) ∧ dZ E (xs.set k .no) cs (Ra ++ Rb)
 | [], _, _, _, _, _, h => by simp at h
 | y :: r, cs, R, 0, x, h, hx => by
  simp only [dZ] at h
  simp only [List.getElem?_cons_zero, Option.some.injEq] at hx
  subst hx
  obtain ⟨c, dg, R₁, R₂, rfl, h1, h2, rfl⟩ := h
  refine ⟨c, [], R₁, R₂, rfl, h1, rfl, ?_⟩
  simp only [List.set_cons_zero, dZ, List.nil_append]
  exact ⟨c, dg, [], R₂, rfl, by simp [RX], h2, rfl⟩
 | y :: r, cs, R, k + 1, x, h, hx => by
  simp only [dZ] at h
  obtain ⟨c, dg, R₁, R₂, rfl, h1, h2, rfl⟩ := h
  obtain ⟨u, Ra, Rk, Rb, hu, h3, rfl, h4⟩ := dZ.wP (k := k) h2 (by simpa using hx)
  refine ⟨u, R₁ ++ Ra, Rk, Rb, by simpa using hu, h3, by simp, ?_⟩
  simp only [List.set_cons_succ, dZ]
  exact ⟨c, dg, R₁, Ra ++ Rb, rfl, h1, h4, by simp⟩

theorem aL.gp {tv : Nat} {xs : List X} {y : X} {k : Nat} (hx : look st.a9 tv = some (.tup xs)) (hy : xs[k]? = some y) (hd : d < N.n)
  (kk : aL P N all rest ((st.put tv (.tup (xs.set k .no))).put d y) Q) : aL P N all (⟨some d, .extract (.tmp tv) k, ty, pos, af, none⟩ :: rest) st Q := by
 refine aL.yR (fun G E RR a hn hi => ?_) kk
 have hp := hi.a9 tv _ hx
 have iw := hi.nodup (.slot tv)
 simp only [RX] at hp
 obtain ⟨cs, hc, fh⟩ := hp
 obtain ⟨u, Ra, Rk, Rb, hu, h1, hR, h2⟩ := dZ.wP fh hy
 have dv : ∀ b ∈ Ra ++ Rb, b ∈ RR (.slot tv) := by
  intro b hb
  rw [hR]
  rcases List.mem_append.1 hb with h | h
  ·exact cG h
  ·exact cw (cw h)
 have zo : ∀ b ∈ Rk, b ∈ RR (.slot tv) := fun b hb => by rw [hR]; exact cw (cG hb)
 rw [hR, List.nodup_append, List.nodup_append] at iw
 obtain ⟨o9, ⟨P6, Ea, KZ⟩, DI⟩ := iw
 have HC : (Ra ++ Rb).Nodup := List.nodup_append.2 ⟨o9, Ea, fun x hx y hy => DI x hx y (cw hy)⟩
 have l3 := hi.relabel (d := tv) (x := .tup (xs.set k .no)) (R := Ra ++ Rb) (by simp only [RX]; exact ⟨cs, hc, h2⟩) HC
  (fun b hb => ⟨(hi.own _ _ (dv b hb)).1, (hi.own _ _ (dv b hb)).2, fun p hp xz => hi.apart p (.slot tv) hp b xz (dv b hb)⟩)
 refine ⟨u, E, _, ?_, l3.put (R := Rk) (by rw [hn]; exact hd) h1 P6 (fun b hb => ⟨(hi.own _ _ (zo b hb)).1, (hi.own _ _ (zo b hb)).2, fun p _ xz => ?_⟩)⟩
 ·show (do let z ← Instr.extract (a.eval (.tmp tv)) k; pure (Next.value z) : Sem Next).run P E.w = _
  have nN : a.eval (.tmp tv) = .tuple cs := hc
  rw [nN]
  refine dI ?_
  have xu : cs[k]? = some u := by simpa using hu
  simp only [Instr.extract, xu]; rfl
 ·unfold fm at xz
  split at xz
  ·rcases List.mem_append.1 xz with h | h
   ·exact DI b h b (cG hb) rfl
   ·exact KZ b hb b h rfl
  ·rename_i h; exact hi.apart _ _ h b xz (zo b hb)
end
end Go.AW
/- Part of the abstract walk: calls whose result is known by a relation. -/
namespace Go.AW
open Go

section
variable {P : Program} {N : eC} {st : St} {Q : Exit → St → Prop} {all : Array Oper} {rest : List Oper} {d : Nat} {ty : TypeId} {pos : String} {af : Array Edge}
theorem aL.zp {f : FuncId} {cx : Array Operand} {mA : Array TypeId} {xs args : List X} {Q' : X → List Obj → Prop} (L : List Nat) (jf : aU P f = true) (eW : az P f args [] [] Q')
  (fh : jG st cx.toList = some xs) (dM : dJ st L (bQ []) xs args) (h0 : ∀ o ∈ L, ∃ ob, look st.aA o = some ob ∧ gW ob) (hd : d < N.n)
  (k : ∀ r, Q' r [] → r.lt 0 = true ∧ r.plain ∧ aL P N all rest (st.put d (r.fy (bQ []))) Q) :
  aL P N all (⟨some d, .call ⟨.value (.func f), cx, mA⟩, ty, pos, af, none⟩ :: rest) st Q := by
 refine aL.call [] L jf eW fh dM (fun j ob h => by simp at h) rfl List.nodup_nil (fun _ _ h => by cases h) h0 (fun _ h => by cases h) hd ?_
 intro r bg hq hl
 have : bg = [] := List.eq_nil_of_length_eq_zero hl
 subst this
 obtain ⟨h1, h2, h3⟩ := k r hq
 refine ⟨⟨h1, fun _ h => (by cases h), .inr ⟨h2, fun _ h => (by cases h)⟩⟩, ?_⟩
 rw [lC]; exact h3
end
end Go.AW
/- Part of the abstract walk: boxes that are written no more; functions as values; tests in open orders. -/
namespace Go.AW
open Go

mutual
def X.ov (o : Nat) (row : List X) : X → X
 | .ptr p s i k => bif Nat.beq p o && Nat.beq (i * s) 0 then .fp row k else .ptr p s i k
 | .agg xs => .agg (X.lE o row xs)
 | .tup xs => .tup (X.lE o row xs)
 | .gl f a b => .gl f (X.lE o row a) (X.lE o row b)
 | .v u => .v u
 | .no => .no
 | .fz s rs => .fz s rs
 | .ep s rs => .ep s rs
 | .aY p s l n => .aY p s l n
 | .mref p => .mref p
 | .fp r k => .fp r k
def X.lE (o : Nat) (row : List X) : List X → List X
 | [] => []
 | x :: r => X.ov o row x :: X.lE o row r
end
def Obj.ov (o : Nat) (row : List X) : Obj → Obj
 | .cells xs => .cells (X.lE o row xs)
 | ob => ob

mutual
theorem X.zq {o : Nat} {row : List X} : ∀ {x : X}, x.free = true → (x.ov o row).free = true
 | .ptr p s i k, _ => by
  simp only [X.ov]
  cases Nat.beq p o && Nat.beq (i * s) 0 <;> rfl
 | .agg xs, h => X.lF (xs := xs) h
 | .tup xs, h => X.lF (xs := xs) h
 | .gl f a b, _ => rfl
 | .v u, _ | .no, _ | .fz s rs, _ | .aY p s l n, _ | .mref p, _ | .fp r k, _ => rfl
theorem X.lF {o : Nat} {row : List X} : ∀ {xs : List X}, X.bC xs = true → X.bC (X.lE o row xs) = true
 | [], _ => rfl
 | x :: r, h => by
  simp only [X.bC, Bool.and_eq_true] at h
  simp only [X.lE, X.bC, X.zq h.1, X.lF h.2, Bool.and_self]
end
theorem X.uc {o : Nat} {row : List X} : ∀ {xs : List X}, (X.lE o row xs).length = xs.length
 | [] => rfl
 | x :: r => by simp [X.lE, X.uc (xs := r)]

mutual
theorem RX.ov {E E' : Env} {o : Nat} {row : List X} {B : y7} (hB : E.β o = some B) (hF : RF E' row B.b B.off) (hβ : E'.β = E.β) : ∀ (x : X) (c : Value) (R : List Nat), E.On E' R → RX E x c R → RX E' (x.ov o row) c R
 | .ptr p s i k, c, R, hE, h => by
  simp only [X.ov]
  cases hc : Nat.beq p o && Nat.beq (i * s) 0 with
  | false => simp only [cond_false]; exact RX.mono _ c R hE (fun q _ => by rw [hβ]) h
  | true =>
   simp only [Bool.and_eq_true] at hc
   have h1 := Nat.eq_of_beq_eq_true hc.1
   have h2 := Nat.eq_of_beq_eq_true hc.2
   subst h1
   simp only [cond_true, RX] at h ⊢
   obtain ⟨hR, B', gT, rfl⟩ := h
   rw [hB] at gT
   obtain rfl := Option.some.inj gT
   exact ⟨hR, B.b, B.off, by rw [h2, Nat.zero_add], hF⟩
 | .agg xs, c, R, hE, h => by
  simp only [RX, X.ov] at h ⊢
  obtain ⟨cs, hc, hs⟩ := h
  exact ⟨cs, hc, bz.ov hB hF hβ xs _ R hE hs⟩
 | .tup xs, c, R, hE, h => by
  simp only [RX, X.ov] at h ⊢
  obtain ⟨cs, hc, hs⟩ := h
  exact ⟨cs, hc, dZ.ov hB hF hβ xs _ R hE hs⟩
 | .gl fn a b, c, R, hE, h => by
  simp only [RX, X.ov] at h ⊢
  obtain ⟨hR, f, cc, hc, h1, h2⟩ := h
  exact ⟨hR, f, cc, hc, dZ.ov hB hF hβ a _ [] (hE.sub (by simp)) h1, dZ.ov hB hF hβ b _ [] (hE.sub (by simp)) h2⟩
 | .v u, c, R, hE, h => RX.mono (.v u) c R hE (fun q _ => by rw [hβ]) h
 | .no, c, R, hE, h => RX.mono .no c R hE (fun q _ => by rw [hβ]) h
 | .fz s rs, c, R, hE, h => RX.mono (.fz s rs) c R hE (fun q _ => by rw [hβ]) h
 | .ep s rs, c, R, hE, h => RX.mono (.ep s rs) c R hE (fun q _ => by rw [hβ]) h
 | .aY p s l n, c, R, hE, h => RX.mono (.aY p s l n) c R hE (fun q _ => by rw [hβ]) h
 | .mref p, c, R, hE, h => RX.mono (.mref p) c R hE (fun q _ => by rw [hβ]) h
 | .fp r k, c, R, hE, h => RX.mono (.fp r k) c R hE (fun q _ => by rw [hβ]) h
theorem bz.ov {E E' : Env} {o : Nat} {row : List X} {B : y7} (hB : E.β o = some B) (hF : RF E' row B.b B.off) (hβ : E'.β = E.β) : ∀ (xs : List X) (cs : List Value) (R : List Nat), E.On E' R → bz E xs cs R → bz E' (X.lE o row xs) cs R
 | [], _, _, _, h => by simpa [bz, X.lE] using h
 | x :: r, cs, R, hE, h => by
  simp only [bz, X.lE] at h ⊢
  obtain ⟨c, dg, R₁, R₂, hc, hs, h1, h2, hR⟩ := h
  subst hR
  exact ⟨c, dg, R₁, R₂, hc, hs, RX.ov hB hF hβ x c R₁ (hE.sub (fun _ h => cG h)) h1, bz.ov hB hF hβ r dg R₂ (hE.sub (fun _ h => cw h)) h2, rfl⟩
theorem dZ.ov {E E' : Env} {o : Nat} {row : List X} {B : y7} (hB : E.β o = some B) (hF : RF E' row B.b B.off) (hβ : E'.β = E.β) : ∀ (xs : List X) (cs : List Value) (R : List Nat), E.On E' R → dZ E xs cs R → dZ E' (X.lE o row xs) cs R
 | [], _, _, _, h => by simpa [dZ, X.lE] using h
 | x :: r, cs, R, hE, h => by
  simp only [dZ, X.lE] at h ⊢
  obtain ⟨c, dg, R₁, R₂, hc, h1, h2, hR⟩ := h
  subst hR
  exact ⟨c, dg, R₁, R₂, hc, RX.ov hB hF hβ x c R₁ (hE.sub (fun _ h => cG h)) h1, dZ.ov hB hF hβ r dg R₂ (hE.sub (fun _ h => cw h)) h2, rfl⟩
theorem RO.ov {E E' : Env} {o : Nat} {row : List X} {B : y7} (hB : E.β o = some B) (hF : RF E' row B.b B.off) (hβ : E'.β = E.β) : ∀ (xs : List X) (cs : Array Value) (off : Nat) (R : List Nat), E.On E' R → RO E xs cs off R → RO E' (X.lE o row xs) cs off R
 | [], _, _, _, _, h => by simpa [RO, X.lE] using h
 | x :: r, cs, off, R, hE, h => by
  simp only [RO, X.lE] at h ⊢
  obtain ⟨u, R₁, R₂, hu, hs, h1, h2, hR⟩ := h
  subst hR
  exact ⟨u, R₁, R₂, hu, hs, RX.ov hB hF hβ x u R₁ (hE.sub (fun _ h => cG h)) h1, RO.ov hB hF hβ r cs (off + 1) R₂ (hE.sub (fun _ h => cw h)) h2, rfl⟩
end

def La (o : Nat) (row : List X) (l : List (Nat × X)) : List (Nat × X) := l.map fun p => (p.1, p.2.ov o row)
def Lb (o : Nat) (row : List X) (l : List (Nat × Obj)) : List (Nat × Obj) := l.map fun p => (p.1, p.2.ov o row)
theorem pj {α β : Type} {f : α → β} : ∀ {l : List (Nat × α)} {s : Nat} {y : β}, look (l.map fun p => (p.1, f p.2)) s = some y → ∃ x, look l s = some x ∧ y = f x
 | [], _, _, h => by cases h
 | (t, x) :: r, s, y, h => by
  simp only [List.map_cons, look] at h ⊢
  cases hb : Nat.beq t s with
  | true => rw [hb] at h; simp only [cond_true, Option.some.injEq] at h ⊢; exact ⟨x, rfl, h.symm⟩
  | false => rw [hb] at h; simp only [cond_false] at h ⊢; exact pj h

section
variable {N : eC} {st : St}
theorem Sh.dc (o : Nat) {xs : List X} (ho : look st.aA o = some (.cells xs)) (hn : X.gk xs = true) : Sh N st ⟨La o xs st.a9, (o, .gone) :: Lb o xs st.aA⟩ := by
 intro G _ a w hh
 obtain ⟨E, RR, rfl, hi⟩ := hh
 have cA := hi.aA o _ ho
 simp only [dA] at cA
 obtain ⟨qo, B, cs, ty, hB, hw, hφ, hlen, jh, gN⟩ := cA
 have fE : ∀ i v, cs[i]? = some v → (E.cB (fun b => b = B.b)).φ B.b i = some v := by
  intro i v h
  rw [jx E (LB := fun b => b = B.b) rfl]
  unfold World.cell?
  simp [hw, h]
 have hle : ∀ c i v, E.φ c i = some v → (E.cB (fun b => b = B.b)).φ c i = some v := by
  intro c i v h
  by_cases hc : c = B.b
  ·subst hc; rw [hφ i] at h; cases h
  ·rw [eV E (LB := fun b => b = B.b) hc]; exact h
 have hF : RF (E.cB (fun b => b = B.b)) xs B.b B.off := by
  have h1 := RO.lD (E := E) (E' := E.cB (fun b => b = B.b)) xs cs B.b B.off [] fE ⟨rfl, rfl, hle, fun _ h => by cases h⟩ hn jh
  rw [X.jJ qo] at h1
  exact h1
 have mu : ∀ p, p ≠ .obj o → B.b ∉ RR p := fun p hp hb => hi.apart p (.obj o) hp _ hb (by rw [gN]; simp)
 have ga : ∀ p, p ≠ .obj o → E.On (E.cB (fun b => b = B.b)) (RR p) := by
  intro p hp
  refine ⟨hle, fun c hc => ⟨rfl, fun h i => ?_⟩⟩
  rw [eV E (LB := fun b => b = B.b) (fun e => mu p hp (e ▸ hc))]; exact h i
 have pQ : B.b ∈ RR (.obj o) := by rw [gN]; simp
 have mc : ∀ p, p ≠ .obj o → fm RR (.obj o) [] p = RR p := fun p hp => by simp [fm, hp]
 have dv : ∀ p, ∀ b ∈ fm RR (.obj o) [] p, b ∈ RR p := by
  intro p b hb
  unfold fm at hb
  split at hb
  ·cases hb
  ·exact hb
 refine ⟨E.cB (fun b => b = B.b), fm RR (.obj o) [], rfl, { hi with ku := ?_, a9 := ?_, aA := ?_, nodup := ?_, apart := ?_, own := ?_, φ0 := ?_, grow := ?_ }⟩
 ·intro c i v h
  by_cases hc : c = B.b
  ·rw [jx E (LB := fun b => b = B.b) hc] at h; exact h
  ·rw [eV E (LB := fun b => b = B.b) hc] at h; exact hi.ku c i v h
 ·intro s x hx
  obtain ⟨y, hy, rfl⟩ := pj (f := X.ov o xs) hx
  rw [mc _ (by simp)]
  exact RX.ov hB hF rfl y _ _ (ga _ (by simp)) (hi.a9 s y hy)
 ·intro q ob cA
  simp only [look] at cA
  cases hq : Nat.beq o q with
  | true =>
   rw [hq] at cA
   simp only [cond_true, Option.some.injEq] at cA
   obtain rfl := Nat.eq_of_beq_eq_true hq
   subst cA
   simp [dA, fm]
  | false =>
   rw [hq] at cA
   simp only [cond_false] at cA
   have e7 : q ≠ o := fun e => by subst e; simp at hq
   obtain ⟨uR, BC, rfl⟩ := pj (f := Obj.ov o xs) cA
   rw [mc _ (by simp [e7])]
   have h1 := hi.aA q uR BC
   have rM := ga (.obj q) (by simp [e7])
   cases uR with
   | cells ys =>
    simp only [dA, Obj.ov] at h1 ⊢
    obtain ⟨h1, B', dg, Ov, h2, h3, h4, h5, h6, h7⟩ := h1
    exact ⟨X.lF h1, B', dg, Ov, h2, h3, (rM.2 B'.b (by rw [h7]; simp)).2 h4, by rw [X.uc]; exact h5, RO.ov hB hF rfl ys dg _ [] (rM.sub (fun _ h => by cases h)) h6, h7⟩
   | rows s rs => exact dA.mono rM rfl (fun _ _ _ _ => rfl) h1
   | uQ es => exact dA.mono rM rfl (fun _ _ _ _ => rfl) h1
   | gone => exact dA.mono rM rfl (fun _ _ _ _ => rfl) h1
 ·intro p
  unfold fm
  split
  ·exact List.nodup_nil
  ·exact hi.nodup p
 ·intro p q kQ b hb fV
  exact hi.apart p q kQ b (dv p b hb) (dv q b fV)
 ·intro p b hb
  exact hi.own p b (dv p b hb)
 ·intro c i v h
  exact hle c i v (hi.φ0 c i v h)
 ·intro c i v h
  by_cases hc : c = B.b
  ·subst hc; exact .inr (hi.own _ _ pQ).2
  ·rw [eV E (LB := fun b => b = B.b) hc] at h; exact hi.grow c i v h
end

section
variable {P : Program} {N : eC} {st : St} {Q : Exit → St → Prop} {all : Array Oper} {rest : List Oper} {dst : Option Nat} {d : Nat} {ty : TypeId} {pos : String} {af : Array Edge} {g : Option (Nat × Bool)}

theorem qI {G : Ctx} {E : Env} {RR : Own → List Nat} {a : Act} (hi : Inv G E RR st a) : ∀ {l : List Operand} {xs : List X}, jG st l = some xs → X.bC xs = true → dZ E xs (l.map a.eval) []
 | [], xs, h, _ => by simp only [jG, Option.some.injEq] at h; subst h; simp [dZ]
 | o :: r, xs, h, hf => by
  simp only [jG] at h
  cases h1 : bR st o with
  | none => simp [h1] at h
  | some y =>
   cases h2 : jG st r with
   | none => simp [h1, h2] at h
   | some ys =>
    rw [h1, h2] at h
    simp only [Option.some.injEq] at h
    subst h
    simp only [X.bC, Bool.and_eq_true] at hf
    obtain ⟨R, hR⟩ := hi.eval h1
    have h0 := RX.free hf.1 hR
    subst h0
    simp only [List.map_cons, dZ]
    exact ⟨_, _, [], [], rfl, hR, qI hi h2 hf.2, rfl⟩
theorem Y.makeFunc {fn : Fn} {first kC : Array Operand} {xs ys : List X} (hx : jG st first.toList = some xs) (hy : jG st kC.toList = some ys) (Bo : X.bC xs = true) (P7 : X.bC ys = true) :
  Yields P N st ⟨dst, .makeFunc fn first kC, ty, pos, af, g⟩ (.gl fn xs ys) := by
 intro G E RR a _ hi
 refine ⟨.func fn (first.map a.eval) (kC.map a.eval), rfl, ?_⟩
 simp only [RX]
 refine ⟨trivial, _, _, rfl, ?_, ?_⟩
 ·rw [Array.toList_map]; exact qI hi hx Bo
 ·rw [Array.toList_map]; exact qI hi hy P7

theorem aL.Ee {f : FuncId} {x : Operand} {cx : Array Operand} {mA : Array TypeId} {kC xs args : List X} {aA : List Obj} {F : List Nat} {Q' : X → List Obj → Prop} (ν L : List Nat) (hx : bR st x = some (.gl (.func f) [] kC)) (jf : aU P f = true) (eW : az P f args aA F Q')
  (fh : jG st cx.toList = some xs) (dM : dJ st L (bQ ν) (xs ++ kC) args) (o5 : nV st (bQ ν) 0 aA) (hlen : ν.length = aA.length) (zb : ν.Nodup) (By : ∀ o ∈ L, o ∉ ν)
  (h0 : ∀ o ∈ L, ∃ ob, look st.aA o = some ob ∧ gW ob) (Bz : ∀ o ∈ loose ν F, N.F.elem o = false) (hd : d < N.n)
  (k : ∀ r bg, Q' r bg → bg.length = aA.length → (r.lt aA.length = true ∧ (∀ ob ∈ bg, ob.lt aA.length = true) ∧ (L = [] ∨ (r.plain ∧ ∀ ob ∈ bg, ob.plain))) ∧ aL P N all rest ((mK st ν F bg).put d (r.fy (bQ ν))) Q) :
  aL P N all (⟨some d, .call ⟨.value x, cx, mA⟩, ty, pos, af, none⟩ :: rest) st Q := by
 intro G hn a w hh
 obtain ⟨E, RR, rfl, hi⟩ := hh
 obtain ⟨Rx, Bo⟩ := hi.eval hx
 simp only [RX] at Bo
 obtain ⟨_, ff, cc, Lc, CV, Gf⟩ := Bo
 simp only [dZ] at CV
 have zr : ff = #[] := by
  have := CV.1
  cases ff; simp_all
 subst zr
 obtain ⟨vr, CR⟩ := o4 hi fh
 have Bm : kC.length = cc.toList.length := by
  have : ∀ {l : List X} {c : List Value} {R : List Nat}, dZ E l c R → l.length = c.length := by
   intro l
   induction l with
   | nil => intro c R h; simp only [dZ] at h; rw [h.1]; rfl
   | cons y r ih =>
    intro c R h
    simp only [dZ] at h
    obtain ⟨_, c', _, _, rfl, _, h2, _⟩ := h
    simp [ih h2]
  exact this Gf
 have hc := hi.CQ (vs := cx.toList.map a.eval ++ cc.toList) eW (by simp only [List.length_append, List.length_map]; omega) (fun j y hy => by
  rcases Nat.lt_or_ge j xs.length with hj | hj
  ·rw [List.getElem?_append_left hj] at hy
   obtain ⟨o, ho, R, hR⟩ := CR j y hy
   exact ⟨a.eval o, by rw [List.getElem?_append_left (by rw [List.length_map]; omega)]; simp [ho], R, hR⟩
  ·rw [List.getElem?_append_right hj] at hy
   obtain ⟨u, R, hu, hR⟩ := dZ.get Gf hy
   exact ⟨u, by rw [List.getElem?_append_right (by rw [List.length_map]; omega), List.length_map, ← vr]; exact hu, R, hR⟩) dM
  (fun j ob h => by have := o5.get j ob h; rwa [Nat.zero_add] at this) hlen zb By h0 (fun o ho => by rw [hn]; exact Bz o ho) (d := d) (by rw [hn]; exact hd)
 have g7 : (execOp a.eval ⟨some d, .call ⟨.value x, cx, mA⟩, ty, pos, af, none⟩).run P E.w = .ok (.enter f (cx.toList.map a.eval ++ cc.toList).toArray) E.w := by
  have e : (execOp a.eval ⟨some d, .call ⟨.value x, cx, mA⟩, ty, pos, af, none⟩).run P E.w = (do let d ← Deferred.ofValue (a.eval x) (cx.map a.eval); invoke d.target d.args : Sem Next).run P E.w := rfl
  rw [e, Lc]
  have e2 : (do let d ← Deferred.ofValue (.func (.func f) #[] cc) (cx.map a.eval); invoke d.target d.args : Sem Next).run P E.w = (callFunc f ((#[] ++ cx.map a.eval) ++ cc)).run P E.w := rfl
  rw [e2, lB jf]
  congr 2
  apply Array.ext'
  simp
 refine wpList_plain rfl fun K hK => ?_
 simp only [Oper.wp, g7, Oper.upon_enter]
 refine hc.mono ?_
 rintro e w' ⟨v, r, bg, rfl, Hu, AT, zf⟩
 obtain ⟨⟨h1, h2, h3⟩, hk⟩ := k r bg Hu AT
 obtain ⟨kx, q9, hw, hI⟩ := zf h1 h2 h3
 exact hK _ _ (hk G hn _ _ ⟨kx, q9, hw, hI⟩)
theorem aL.lG {f : FuncId} {x : Operand} {cx : Array Operand} {mA : Array TypeId} {kC xs args : List X} {R : X} (hx : bR st x = some (.gl (.func f) [] kC)) (jf : aU P f = true) (eW : az P f args [] [] (fun r o => r = R ∧ o = []))
  (fh : jG st cx.toList = some xs) (dM : dJ st [] (bQ []) (xs ++ kC) args) (hd : d < N.n) (iv : R.lt 0 = true)
  (k : aL P N all rest (st.put d R) Q) : aL P N all (⟨some d, .call ⟨.value x, cx, mA⟩, ty, pos, af, none⟩ :: rest) st Q := by
 refine aL.Ee [] [] hx jf eW fh dM trivial rfl List.nodup_nil (fun _ h => by cases h) (fun _ h => by cases h) (fun _ h => by cases h) hd ?_
 rintro r bg ⟨rfl, rfl⟩ _
 refine ⟨⟨iv, fun _ h => (by cases h), .inl rfl⟩, ?_⟩
 rw [lC, X.qs iv]; exact k
end

section
variable {P : Program} {N : eC} {ops : Array Oper} {st : St} {d : Nat} {ag : Array Bool} {n : Nat} {K : St → Prop} {KK : Array Bool → St → Prop} {l0 rest l : List Nat} {t : Nat}
theorem eE.le {aR : St} (hl : Le st aR) (h : eE P N ops n ag aR K) : eE P N ops n ag st K := fun G hn a w hh => h G hn a w (hl.holds hh)
theorem eE.split {b : Bool} (hx : look st.a9 d = some (.v (.bool b))) (ht : b = true → eE P N ops n ag (st.put d (.v (.bool true))) K) (hf : b = false → eE P N ops n ag (st.put d (.v (.bool false))) K) : eE P N ops n ag st K := by
 have : Le st (st.put d (.v (.bool b))) := ⟨eD.cons hx (fun _ _ h => h), fun _ _ h => h⟩
 cases b
 ·exact (hf rfl).le this
 ·exact (ht rfl).le this
theorem eE.aE {p : Prop} {inst : Decidable p} (hx : look st.a9 d = some (.v (.bool (decide p)))) (ht : p → eE P N ops n ag (st.put d (.v (.bool true))) K) (hf : ¬ p → eE P N ops n ag (st.put d (.v (.bool false))) K) : eE P N ops n ag st K :=
 eE.split hx (fun h => ht (of_decide_eq_true h)) (fun h => hf (of_decide_eq_false h))
theorem AQ.le {aR : St} (hl : Le st aR) (h : AQ P N ops l0 rest t l ag aR KK) : AQ P N ops l0 rest t l ag st KK := fun ho G hn a w hh => h ho G hn a w (hl.holds hh)
theorem AQ.split {b : Bool} (hx : look st.a9 d = some (.v (.bool b))) (ht : b = true → AQ P N ops l0 rest t l ag (st.put d (.v (.bool true))) KK) (hf : b = false → AQ P N ops l0 rest t l ag (st.put d (.v (.bool false))) KK) : AQ P N ops l0 rest t l ag st KK := by
 have : Le st (st.put d (.v (.bool b))) := ⟨eD.cons hx (fun _ _ h => h), fun _ _ h => h⟩
 cases b
 ·exact (hf rfl).le this
 ·exact (ht rfl).le this
theorem AQ.aE {p : Prop} {inst : Decidable p} (hx : look st.a9 d = some (.v (.bool (decide p)))) (ht : p → AQ P N ops l0 rest t l ag (st.put d (.v (.bool true))) KK) (hf : ¬ p → AQ P N ops l0 rest t l ag (st.put d (.v (.bool false))) KK) : AQ P N ops l0 rest t l ag st KK :=
 AQ.split hx (fun h => ht (of_decide_eq_true h)) (fun h => hf (of_decide_eq_false h))
end
def bj (b : ByteArray) (m : Nat) : Nat := (b.data.toList.getD m 0).toNat
theorem Y.wQ {P : Program} {N : eC} {st : St} {dst : Option Nat} {ty : TypeId} {pos : String} {af : Array Edge} {g : Option (Nat × Bool)} {t : TypeId} {x ix : Operand} {b : ByteArray} {k : IntKind} {n : Int} {m : Nat} (ht : P.underlying t = some .string) (hx : bR st x = some (.v (.string b)))
  (va : bR st ix = some (.v (.int k n))) (hn : n = (m : Int)) (hm : m < b.size) : Yields P N st ⟨dst, .index t x ix, ty, pos, af, g⟩ (.v (.int .u8 ((bj b m : Nat) : Int))) := by
 have h := Y.DF (P := P) (N := N) (st := st) (dst := dst) (ty := ty) (pos := pos) (af := af) (g := g) ht hx va hn hm
 have e : b[m].toNat = bj b m := by
  unfold bj
  have : b.data.toList.getD m 0 = b[m] := by
   rw [List.getD_eq_getElem?_getD, List.getElem?_eq_getElem (by simpa using hm)]
   rfl
  rw [this]
 rw [e] at h
 exact h
theorem zt (b : ByteArray) (m : Nat) : bj b m ≤ 255 := by
 unfold bj
 have := (b.data.toList.getD m 0).toNat_lt
 omega
end Go.AW
/- Part of the abstract walk: words of 64 bits as natural numbers. -/
namespace Go.AW
open Go

theorem po (n : Nat) : IntKind.u64.wrap (n : Int) = ((n % 18446744073709551616 : Nat) : Int) := by
 simp [IntKind.wrap, IntKind.bits, IntKind.signed]
theorem ud (n : Nat) (h : n < 18446744073709551616) : IntKind.u64.wrap (n : Int) = (n : Int) := by rw [po, Nat.mod_eq_of_lt h]
theorem si (n : Int) (h : 0 ≤ n ∧ n ≤ 18446744073709551615) : IntKind.u64.wrap n = ((n.toNat : Nat) : Int) := by rw [IntWalk.u64_in n h]; omega
theorem ue (n w : Nat) : BitVec.ofInt w (n : Int) = BitVec.ofNat w n := by
 apply BitVec.eq_of_toNat_eq
 simp [BitVec.toNat_ofInt, BitVec.toNat_ofNat]
section
variable {P : Program} {N : eC} {st : St} {dst : Option Nat} {ty : TypeId} {pos : String} {af : Array Edge} {g : Option (Nat × Bool)} {t t' : TypeId} {x y : Operand} {a b : Nat}
theorem Y.HD (hx : bR st x = some (.v (.int .u64 (a : Int)))) (hy : bR st y = some (.v (.int .u64 (b : Int)))) : Yields P N st ⟨dst, .binOp .add t x y t', ty, pos, af, g⟩ (.v (.int .u64 (((a + b) % 18446744073709551616 : Nat) : Int))) :=
 Y.add hx hy (by rw [← po]; congr 1)
theorem Y.Ld (hx : bR st x = some (.v (.int .u64 (a : Int)))) (hy : bR st y = some (.v (.int .u64 (b : Int)))) : Yields P N st ⟨dst, .binOp .mul t x y t', ty, pos, af, g⟩ (.v (.int .u64 (((a * b) % 18446744073709551616 : Nat) : Int))) :=
 Y.mul hx hy (by rw [← po]; congr 1)
theorem Y.Lf (hx : bR st x = some (.v (.int .u64 (a : Int)))) (hy : bR st y = some (.v (.int .u64 (b : Int)))) (hr : a < 18446744073709551616 ∧ 1 ≤ b) : Yields P N st ⟨dst, .binOp .quo t x y t', ty, pos, af, g⟩ (.v (.int .u64 ((a / b : Nat) : Int))) :=
 Y.quo hx hy om (by
  rw [Int.tdiv_eq_ediv_of_nonneg om, ← Int.natCast_ediv]
  exact ud _ (Nat.lt_of_le_of_lt (Nat.div_le_self a b) hr.1))
theorem Y.Ef {k : IntKind} (hx : bR st x = some (.v (.int k (a : Int)))) (hy : bR st y = some (.v (.int k (b : Int)))) (hr : 1 ≤ b) : Yields P N st ⟨dst, .binOp .rem t x y t', ty, pos, af, g⟩ (.v (.int k ((a % b : Nat) : Int))) :=
 Y.rem hx hy om (by rw [Int.tmod_eq_emod_of_nonneg om]; exact (Int.natCast_emod a b).symm)
theorem Y.Lg (hx : bR st x = some (.v (.int .u64 (a : Int)))) (hy : bR st y = some (.v (.int .u64 (b : Int)))) (hr : a < 18446744073709551616 ∧ b < 18446744073709551616) : Yields P N st ⟨dst, .binOp .and t x y t', ty, pos, af, g⟩ (.v (.int .u64 ((a &&& b : Nat) : Int))) :=
 Y.and hx hy (by
  rw [ue, ue, BitVec.toNat_and, BitVec.toNat_ofNat, BitVec.toNat_ofNat, show 2 ^ IntKind.u64.bits = 18446744073709551616 from rfl, Nat.mod_eq_of_lt hr.1, Nat.mod_eq_of_lt hr.2]
  exact ud _ (Nat.lt_of_le_of_lt Nat.and_le_left hr.1))
theorem x9 (a b : Nat) (h : a < 18446744073709551616) : a / 2 ^ (min b 64) = a / 2 ^ b := by
 rcases Nat.le_total b 64 with hb | hb
 ·rw [Nat.min_eq_left hb]
 ·rw [Nat.min_eq_right hb, Nat.div_eq_of_lt h]
  exact (Nat.div_eq_of_lt (Nat.lt_of_lt_of_le h (Nat.pow_le_pow_right (show 0 < 2 by decide) hb))).symm
theorem Y.Lh {k' : IntKind} {i : Int} (b : Nat) (hx : bR st x = some (.v (.int .u64 (a : Int)))) (hy : bR st y = some (.v (.int k' i))) (hi : i = (b : Int)) (hr : a < 18446744073709551616) : Yields P N st ⟨dst, .binOp .shr t x y t', ty, pos, af, g⟩ (.v (.int .u64 ((a / 2 ^ b : Nat) : Int))) :=
 Y.shr hx hy om (by
  subst hi
  show (a : Int).fdiv (2 ^ (Min.min b 64)) = _
  have h2 : (0 : Int) ≤ 2 ^ (Min.min b 64) := Int.le_of_lt (Int.pow_pos (show (0 : Int) < 2 by decide))
  rw [← x9 a b hr, Int.fdiv_eq_ediv_of_nonneg _ h2]
  norm_cast)
end
end Go.AW
/- Part of the abstract walk: guarded operations that look at no memory, in open orders. -/
namespace Go.AW
open Go

section
variable {P : Program} {N : eC} {ops : Array Oper} {st : St} {d : Nat} {ty : TypeId} {pos : String} {af : Array Edge} {K : St → Prop}
theorem eE.bU {n : Nat} {ag : Array Bool} (i : Nat) {op : Op} {j dj : Nat} {want : Bool} {u : Value} (ho : ops[i]? = some ⟨some d, op, ty, pos, af, some (j, want)⟩)
  (hB : (Region.noSelect ops && Region.free .any ops ag i && (Region.ready .any ops ag).contains i) = true)
  (hj : (ops[j]?).bind (·.dst) = some dj) (qH : dj < N.n) (hd : d < N.n) (hx : look st.a9 dj = some (.v u)) (e7 : qB want u = true)
  (k : eE P N ops n (ag.setIfInBounds i true) (st.put d (.v undef)) K) : eE P N ops (n + 1) ag st K := by
 intro G hn a w hh
 obtain ⟨E, RR, rfl, hi⟩ := hh
 simp only [Bool.and_eq_true] at hB
 have hw := kV (all := ops) (dst := some d) (op := op) (ty := ty) (pos := pos) (af := af) hi hj (hn ▸ qH) hx e7
 refine wpAny_take (v := undef) ho hB.1.1 hB.1.2 hB.2 ?_ (.inr ⟨hw, rfl⟩) (k G hn _ _ ⟨E, _, rfl, hi.gd (hn ▸ hd) (by simp [RX])⟩)
 intro c a w h
 cases h.1
theorem eE.eX {n : Nat} {ag : Array Bool} (i : Nat) {op : Op} {x : X} {j dj : Nat} {want : Bool} (ho : ops[i]? = some ⟨some d, op, ty, pos, af, some (j, want)⟩)
  (hB : (Region.noSelect ops && Region.free .any ops ag i && (Region.ready .any ops ag).contains i) = true)
  (hj : (ops[j]?).bind (·.dst) = some dj) (qH : dj < N.n) (hx : look st.a9 dj = some (.v (.bool want))) (hy : ao P N st ⟨some d, op, ty, pos, af, some (j, want)⟩ x) (hd : d < N.n)
  (k : eE P N ops n (ag.setIfInBounds i true) (st.put d x) K) : eE P N ops (n + 1) ag st K := by
 intro G hn a w hh
 obtain ⟨E, RR, rfl, hi⟩ := hh
 obtain ⟨u, hr, gR⟩ := hy G E RR a hn hi
 simp only [Bool.and_eq_true] at hB
 have hs := hi.a9 dj _ hx
 simp only [RX] at hs
 have fe : dj < a.tmps.size := by rw [hi.tmps, hn]; exact qH
 have hv : a.tmps[dj]? = some (.bool want) := by
  have := hs.1
  simp only [Array.getD, fe, dif_pos] at this
  rw [Array.getElem?_eq_getElem fe]
  exact congrArg some this
 have hw : Region.wanted ⟨some d, op, ty, pos, af, some (j, want)⟩ (yielded ops a.tmps) = true := by
  simp [Region.wanted, yielded, hj, hv]
 refine wpAny_take (v := u) ho hB.1.1 hB.1.2 hB.2 ?_ (.inl ⟨hw, hr⟩) (k G hn _ _ ⟨E, _, rfl, hi.gd (hn ▸ hd) gR⟩)
 intro c a w h
 cases h.1
end
end Go.AW
/- Part of the abstract walk: slices.Grow of no slice. -/
namespace Go.AW
open Go

section
variable {P : Program} {N : eC} {G : Ctx} {E : Env} {RR : Own → List Nat} {st : St} {a : Act} {Q : Exit → St → Prop} {all : Array Oper} {rest : List Oper} {d : Nat} {dst : Option Nat} {ty : TypeId} {pos : String} {af : Array Edge} {g : Option (Nat × Bool)}
theorem Y.zu {t e s cZ : Nat} {x : Operand} (ht : TY.slice P t = some (e, s, cZ)) (hx : bR st x = some (.v (.slice none 0 0))) :
  Yields P N st ⟨dst, .call ⟨.builtin .cap, #[x], #[t]⟩, ty, pos, af, g⟩ (.v (.int .i64 0)) := by
 intro G E RR a _ hi
 refine ⟨.int .i64 0, gG ?_, by simp [RX]⟩
 obtain ⟨hu, _⟩ := TY.et ht
 have hc := hi.val hx
 simp [builtin, Builtin.cap_, hc, run_underlying hu, goInt]
theorem Y.zv {t e s cZ : Nat} {x : Operand} {lo gQ : Option Operand} (ht : TY.slice P t = some (e, s, cZ)) (hx : bR st x = some (.v (.slice none 0 0))) (hl : Bd st lo 0 0) (hh : Bd st gQ 0 0) :
  Yields P N st ⟨dst, .slice t x lo gQ none, ty, pos, af, g⟩ (.v (.slice none 0 0)) := by
 intro G E RR a _ hi
 obtain ⟨y8, i, ij, fe, _⟩ := TY.et ht
 have hc := hi.val hx
 refine ⟨.slice none 0 0, ?_, by simp [RX]⟩
 show (do let z ← Instr.sliceAt t (a.eval x) (lo.map a.eval) (gQ.map a.eval) none; pure (Next.value z) : Sem Next).run P E.w = _
 rw [hc]
 refine dI ?_
 simp only [Instr.sliceAt, Sem.run_bind, run_underlying y8, Result.andThen_ok, Instr.slice, lW hi hl hh (Nat.le_refl 0) (Nat.le_refl 0), run_sizeOf ij, fe]
 rfl
theorem aL.vy {t tn e s cZ n : Nat} {x y : Operand} {z : List Value} {k kn : IntKind} (ht : TY.slice P t = some (e, s, cZ)) (hz : TY.zero P e = some z) (qp : z.length = s) (h1 : X.rH (z.map X.v) = true) (Ow : TY.isInt P tn = some kn)
  (hx : bR st x = some (.v (.slice none 0 0))) (hy : bR st y = some (.v (.int k (n : Int)))) (h0 : 0 < n) (JM : 0 < s) (hb : n * cZ ≤ 281474976710656) (Pq : n ≤ 9223372036854775807) (hd : d < N.n)
  (kk : aL P N all rest (st.put d (.ep s (List.replicate n (z.map X.v)))) Q) : aL P N all (⟨some d, .call ⟨.builtin .append, #[x, y], #[t, tn]⟩, ty, pos, af, none⟩ :: rest) st Q := by
 refine aL.yR (fun G E RR a hn hi => ?_) kk
 obtain ⟨hu, i, ij, hs, CJ⟩ := TY.et ht
 obtain ⟨i', z0, oy, yA, yB⟩ := TY.j6 hz
 rw [ij] at oy
 obtain rfl := Option.some.inj oy
 have tP : z0.cells = z.toArray := by rw [← yB]
 have g7 := Lib.run_append_nil_zeros (P := P) E.w t tn ty e i z0 k kn hu (by unfold TY.isInt at Ow; split at Ow <;> simp_all : P.underlying tn = some (.int kn)) ij yA n h0 (by rw [hs]; exact JM) om (by rw [CJ]; exact hb)
 rw [tP] at g7
 have hU : cu s (List.replicate n (z.map X.v)) := by
  intro r hr
  rw [(List.mem_replicate.1 hr).2]; simpa using qp
 have l3 := hi.wD (cW.drew G E) rfl
 have nO := grownCap_ge E.w n 0 e
 have fe : (Builtin.zeroCells z.toArray n ++ Builtin.zeroCells z.toArray (grownCap E.w n 0 e - n)).size = grownCap E.w n 0 e * s := by
  rw [Array.size_append, size_zeroCells, size_zeroCells, ← Nat.add_mul]
  simp only [List.size_toArray, qp]
  congr 1; omega
 obtain ⟨eU, gQ⟩ := l3.newRow (cs := Builtin.zeroCells z.toArray n ++ Builtin.zeroCells z.toArray (grownCap E.w n 0 e - n)) (e := e) (s := s) (cap := grownCap E.w n 0 e) (d := d) hU (by rw [List.length_replicate]; exact nO) (by rw [fe]; exact Nat.le_refl _) (by
  refine cD.vg hU fun j row hr => ?_
  have hj : j < n := by
   rcases Nat.lt_or_ge j n with h' | h'
   ·exact h'
   ·rw [List.getElem?_eq_none (by rw [List.length_replicate]; exact h')] at hr; cases hr
  have : row = z.map X.v := by
   have := List.mem_of_getElem? hr
   exact (List.mem_replicate.1 this).2
  subst this
  refine ⟨yQ z, bz.DM (rW h1) fun q hq => ?_⟩
  have xw : q < s := by simpa [qp] using hq
  have iv : j * s + q < n * s := by
   have : (j + 1) * s ≤ n * s := Nat.mul_le_mul_right s hj
   rw [Nat.add_mul] at this; omega
  have DN : q < z.length := by omega
  rw [Array.getElem?_append_left (by rw [size_zeroCells]; simp only [List.size_toArray, qp]; omega)]
  simp only [Nat.zero_add, Builtin.zeroCells]
  rw [Array.getElem?_map, Array.getElem?_range, if_pos (by simpa [qp] using iv)]
  simp only [Option.map_some, List.size_toArray, qp, yS xw]
  rw [List.getElem?_eq_getElem DN]
  simp [DN]) (by rw [hn]; exact hd)
 simp only [List.length_replicate] at gQ
 refine ⟨_, _, _, ?_, gQ⟩
 refine gG (g := none) ?_
 have e' : (#[x, y] : Array Operand).map a.eval = #[.slice none 0 0, .int k (n : Int)] := by simp [hi.val hx, hi.val hy]
 rw [e']
 exact dI g7
theorem Sh.CW {d o s lo n : Nat} {rs : List (List X)} (sd : List (List X)) (hx : look st.a9 d = some (.aY o s lo n)) (ho : look st.aA o = some (.rows s rs)) (qq : lo + n ≤ rs.length) (he : (rs.drop lo).take n = sd) (hF : N.F.elem o = false) :
  Sh N st (((st.kill o).ea o (.rows s sd)).put d (.aY o s 0 n)) := by subst he; exact Sh.trim hx ho qq hF
end
end Go.AW
