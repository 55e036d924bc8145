/- Part of the abstract walk: stores and lists, in the forms that proofs use. -/
import Derived.Test.YtiehdnjcapjacaaAWC3
namespace Go.AW
open Go

section
variable {P : Program} {N : Frm} {st : St} {Q : Exit → St → Prop} {all : Array Oper} {rest : List Oper} {d : Nat} {ty : TypeId} {pos : String} {af : Array Edge}

/-- A store into a slice, with a word for what the slice holds then. -/
theorem AOps.storeE {t : TypeId} {x y : Operand} {o s i k m : Nat} {v : X} {ys row : List X} {rs : List (List X)} (rs' : List (List X)) (ht : TY.size P t = some m) (hx : opd st x = some (.ptr o s i k)) (hy : opd st y = some v) (hfl : v.flat = some ys) (hf : X.frees ys = true)
    (hn : X.nrs ys = true) (hm : ys.length = m) (ho : look st.objs o = some (.rows s rs)) (hr : rs[i]? = some row) (hk : k + m ≤ row.length) (he : rs.set i (putL row k ys) = rs') (kk : AOps P N all rest (st.putO o (.rows s rs')) Q) :
    AOps P N all (⟨none, .store t x y, ty, pos, af, none⟩ :: rest) st Q := by
  subst he
  exact AOps.storeR ht hx hy hfl hf hn hm ho hr hk kk

/-- .. into cells. -/
theorem AOps.storeCE {t : TypeId} {x y : Operand} {o s k m : Nat} {v : X} {ys xs : List X} (xs' : List X) (ht : TY.size P t = some m) (hx : opd st x = some (.ptr o s 0 k)) (hy : opd st y = some v) (hfl : v.flat = some ys) (hf : X.frees ys = true) (hm : ys.length = m)
    (ho : look st.objs o = some (.cells xs)) (hk : k + m ≤ xs.length) (he : putL xs k ys = xs') (hfx : X.frees xs' = true) (kk : AOps P N all rest (st.putO o (.cells xs')) Q) :
    AOps P N all (⟨none, .store t x y, ty, pos, af, none⟩ :: rest) st Q := by
  subst he
  exact AOps.storeC ht hx hy hfl hf hm ho hk hfx kk

theorem Sh.adoptN {s n : Nat} {rows : List (List X)} (o : Nat) (hx : look st.slots d = some (.uni s rows)) (hn : n = rows.length) (hF : N.F.elem o = false) : Sh N st (((st.kill o).putO o (.rows s rows)).put d (.slc o s 0 n)) := by
  subst hn; exact Sh.adopt o hx hF

/-- An append, with a word for what the slice holds then. -/
theorem AOps.appendE {t e s by_ tv : Nat} {z : List Value} {x : Operand} {o lo n : Nat} {rs new : List (List X)} (rs' : List (List X)) (n' : Nat) (ht : TY.slice P t = some (e, s, by_)) (hz : TY.zero P e = some z) (hzl : Nat.beq z.length s = true)
    (hy : look st.slots tv = some (.uni s new)) (hx : opd (st.put tv .no) x = some (.slc o s lo n)) (ho : look st.objs o = some (.rows s rs)) (hln : lo + n ≤ rs.length)
    (he : ((rs.drop lo).take n) ++ new = rs') (hn' : n + new.length = n') (hb46 : n' * by_ ≤ 70368744177664) (h62 : n' ≤ 4611686018427387904) (hF : N.F.elem o = false) (hd : d < N.n)
    (k : AOps P N all rest (((((st.put tv .no).kill o).putO o (.rows s rs'))).put d (.slc o s 0 n')) Q) :
    AOps P N all (⟨some d, .call ⟨.builtin .append, #[x, .tmp tv], #[t, t]⟩, ty, pos, af, none⟩ :: rest) st Q := by
  subst he hn'
  exact AOps.append ht hz hzl hy hx ho hln hb46 h62 hF hd k
end

mutual
theorem X.ren_lt0 {ν : Nat → Nat} : ∀ {x : X}, x.lt 0 = true → x.ren ν = x
  | .v _, _ | .no, _ | .fz .., _ | .uni .., _ | .fp .., _ => rfl
  | .ptr o .., h => by simp [X.lt, Nat.blt] at h
  | .slc o .., h => by simp [X.lt, Nat.blt] at h
  | .mref o, h => by simp [X.lt, Nat.blt] at h
  | .agg xs, h => by simp only [X.ren]; rw [X.rens_lt0 (xs := xs) h]
  | .tup xs, h => by simp only [X.ren]; rw [X.rens_lt0 (xs := xs) h]
  | .clo f a b, h => by
    simp only [X.lt, Bool.and_eq_true] at h
    simp only [X.ren]; rw [X.rens_lt0 h.1, X.rens_lt0 h.2]
theorem X.rens_lt0 {ν : Nat → Nat} : ∀ {xs : List X}, X.lts 0 xs = true → X.rens ν xs = xs
  | [], _ => rfl
  | x :: r, h => by
    simp only [X.lts, Bool.and_eq_true] at h
    simp only [X.rens]; rw [X.ren_lt0 h.1, X.rens_lt0 h.2]
end

section
variable {P : Program} {N : Frm} {st : St} {Q : Exit → St → Prop} {all : Array Oper} {rest : List Oper} {d : Nat} {ty : TypeId} {pos : String} {af : Array Edge}
/-- A call that gets values alone, and gives R. -/
theorem AOps.callP {f : FuncId} {fargs : Array Operand} {ats : Array TypeId} {xs args : List X} {R : X} (hok : callOK P f = true) (hspec : ACalls P f args [] [] (fun r o => r = R ∧ o = []))
    (hxs : opds st fargs.toList = some xs) (hargs : LentL st [] (nameF []) xs args) (hd : d < N.n) (hlt : R.lt 0 = true)
    (k : AOps P N all rest (st.put d R) Q) : AOps P N all (⟨some d, .call ⟨.value (.func f), fargs, ats⟩, ty, pos, af, none⟩ :: rest) st Q :=
  AOps.callR hok hspec hxs hargs hd hlt (X.ren_lt0 hlt) k
end

theorem frees_range {f : Nat → X} (h : ∀ k, (f k).free = true) : ∀ n : Nat, X.frees ((List.range n).map f) = true := by
  intro n
  have : ∀ l : List Nat, X.frees (l.map f) = true := by
    intro l
    induction l with
    | nil => rfl
    | cons a r ih => simp [X.frees, h a, ih]
  exact this _
theorem putL_range {f : Nat → X} {n k : Nat} {x : X} (h : k < n) : putL ((List.range n).map f) k [x] = (List.range n).map (fun j => if j = k then x else f j) := by
  apply List.ext_getElem?
  intro j
  simp only [putL, List.length_cons, List.length_nil, List.append_assoc]
  rcases Nat.lt_trichotomy j k with hj | hj | hj
  · rw [List.getElem?_append_left (by simp; omega)]
    rw [List.getElem?_take_of_lt hj]
    simp [List.getElem?_map, List.getElem?_range (show j < n by omega), Nat.ne_of_lt hj]
  · subst hj
    rw [List.getElem?_append_right (by simp; omega)]
    simp [List.getElem?_map, List.getElem?_range h, Nat.min_eq_left (Nat.le_of_lt h)]
  · rw [List.getElem?_append_right (by simp; omega)]
    have h1 : (List.take k ((List.range n).map f)).length = k := by simp; omega
    rw [h1, List.getElem?_append_right (by simp; omega)]
    simp only [List.length_cons, List.length_nil, List.getElem?_drop]
    rw [show k + (0 + 1) + (j - k - (0 + 1)) = j by omega]
    rcases Nat.lt_or_ge j n with hn | hn
    · simp [List.getElem?_map, List.getElem?_range hn, Nat.ne_of_gt hj]
    · simp [List.getElem?_map, List.getElem?_eq_none (show (List.range n).length ≤ j by simpa using hn)]

end Go.AW
