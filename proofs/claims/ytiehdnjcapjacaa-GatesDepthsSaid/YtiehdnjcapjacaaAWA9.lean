/- Part of the abstract walk: lists of owned cells, taken apart and joined. -/
import Derived.Test.YtiehdnjcapjacaaAWA8
namespace Go.AW
open Go

section
variable {E : Env}

theorem RO.ext : ∀ {xs : List X} {cs cs' : Array Value} {off : Nat} {R : List Nat}, (∀ j, j < xs.length → cs'[off + j]? = cs[off + j]?) → RO E xs cs off R → RO E xs cs' off R
  | [], _, _, _, _, _, h => by simpa [RO] using h
  | x :: r, cs, cs', off, R, he, h => by
    simp only [RO] at h ⊢
    obtain ⟨u, R₁, R₂, hu, hs, h1, h2, hR⟩ := h
    refine ⟨u, R₁, R₂, ?_, hs, h1, RO.ext (fun j hj => ?_) h2, hR⟩
    · have := he 0 (by simp)
      rw [Nat.add_zero] at this
      rw [this]; exact hu
    · have := he (j + 1) (by simp; omega)
      rw [show off + 1 + j = off + (j + 1) by omega]; exact this

theorem ROr.ext : ∀ {rs : List (List X)} {cs cs' : Array Value} {off : Nat} {R : List Nat}, (∀ j, j < rs.flatten.length → cs'[off + j]? = cs[off + j]?) → ROr E rs cs off R → ROr E rs cs' off R
  | [], _, _, _, _, _, h => by simpa [ROr] using h
  | x :: r, cs, cs', off, R, he, h => by
    simp only [ROr] at h ⊢
    obtain ⟨R₁, R₂, hn, h1, h2, hR⟩ := h
    refine ⟨R₁, R₂, hn, RO.ext (fun j hj => he j (by simp; omega)) h1, ROr.ext (fun j hj => ?_) h2, hR⟩
    have := he (x.length + j) (by simp at hj ⊢; omega)
    rw [Nat.add_assoc]; exact this

theorem RO.app : ∀ {xs ys : List X} {cs : Array Value} {off : Nat} {R₁ R₂ : List Nat}, RO E xs cs off R₁ → RO E ys cs (off + xs.length) R₂ → RO E (xs ++ ys) cs off (R₁ ++ R₂)
  | [], ys, cs, off, R₁, R₂, h, h' => by simp only [RO] at h; subst h; simpa using h'
  | x :: r, ys, cs, off, R₁, R₂, h, h' => by
    simp only [RO] at h
    obtain ⟨u, R₃, R₄, hu, hs, h1, h2, rfl⟩ := h
    simp only [List.cons_append, RO]
    refine ⟨u, R₃, R₄ ++ R₂, hu, hs, h1, RO.app h2 ?_, by simp⟩
    rw [show off + 1 + r.length = off + (x :: r).length by simp; omega]; exact h'

theorem RO.unapp : ∀ {xs ys : List X} {cs : Array Value} {off : Nat} {R : List Nat}, RO E (xs ++ ys) cs off R → ∃ R₁ R₂, RO E xs cs off R₁ ∧ RO E ys cs (off + xs.length) R₂ ∧ R = R₁ ++ R₂
  | [], ys, cs, off, R, h => ⟨[], R, by simp [RO], by simpa using h, rfl⟩
  | x :: r, ys, cs, off, R, h => by
    simp only [List.cons_append, RO] at h
    obtain ⟨u, R₃, R₄, hu, hs, h1, h2, rfl⟩ := h
    obtain ⟨R₁, R₂, h3, h4, rfl⟩ := RO.unapp h2
    refine ⟨R₃ ++ R₁, R₂, ?_, ?_, by simp⟩
    · simp only [RO]; exact ⟨u, R₃, R₁, hu, hs, h1, h3, rfl⟩
    · rw [show off + (x :: r).length = off + 1 + r.length by simp; omega]; exact h4

theorem ROr.app : ∀ {xs ys : List (List X)} {cs : Array Value} {off : Nat} {R₁ R₂ : List Nat}, ROr E xs cs off R₁ → ROr E ys cs (off + xs.flatten.length) R₂ → ROr E (xs ++ ys) cs off (R₁ ++ R₂)
  | [], ys, cs, off, R₁, R₂, h, h' => by simp only [ROr] at h; subst h; simpa using h'
  | x :: r, ys, cs, off, R₁, R₂, h, h' => by
    simp only [ROr] at h
    obtain ⟨R₃, R₄, hn, h1, h2, rfl⟩ := h
    simp only [List.cons_append, ROr]
    refine ⟨R₃, R₄ ++ R₂, hn, h1, ROr.app h2 ?_, by simp⟩
    rw [show off + x.length + r.flatten.length = off + (x :: r).flatten.length by simp; omega]; exact h'

theorem ROr.unapp : ∀ {xs ys : List (List X)} {cs : Array Value} {off : Nat} {R : List Nat}, ROr E (xs ++ ys) cs off R → ∃ R₁ R₂, ROr E xs cs off R₁ ∧ ROr E ys cs (off + xs.flatten.length) R₂ ∧ R = R₁ ++ R₂
  | [], ys, cs, off, R, h => ⟨[], R, by simp [ROr], by simpa using h, rfl⟩
  | x :: r, ys, cs, off, R, h => by
    simp only [List.cons_append, ROr] at h
    obtain ⟨R₃, R₄, hn, h1, h2, rfl⟩ := h
    obtain ⟨R₁, R₂, h3, h4, rfl⟩ := ROr.unapp h2
    refine ⟨R₃ ++ R₁, R₂, ?_, ?_, by simp⟩
    · simp only [ROr]; exact ⟨R₃, R₁, hn, h1, h3, rfl⟩
    · rw [show off + (x :: r).flatten.length = off + x.length + r.flatten.length by simp; omega]; exact h4

theorem RO.of : ∀ {xs : List X} {vs : List Value} {cs : Array Value} {off : Nat} {R : List Nat}, RXs E xs vs R → (∀ j v, vs[j]? = some v → cs[off + j]? = some v) → RO E xs cs off R
  | [], _, _, _, _, h, _ => by simp only [RXs] at h; simp [RO, h.2]
  | x :: r, vs, cs, off, R, h, hv => by
    simp only [RXs] at h
    obtain ⟨c, cs', R₁, R₂, rfl, hs, h1, h2, rfl⟩ := h
    simp only [RO]
    refine ⟨c, R₁, R₂, ?_, hs, h1, RO.of h2 (fun j v hj => ?_), rfl⟩
    · simpa using hv 0 c rfl
    · rw [show off + 1 + j = off + (j + 1) by omega]; exact hv (j + 1) v (by simpa using hj)

theorem length_flatten {s : Nat} : ∀ {rs : List (List X)}, Uniform s rs → rs.flatten.length = rs.length * s
  | [], _ => by simp
  | r :: rs, h => by
    have h1 := h r (by simp)
    have := length_flatten (rs := rs) (fun q hq => h q (by simp [hq]))
    simp only [List.flatten_cons, List.length_append, h1, this, List.length_cons, Nat.add_mul]
    omega

end

/-- Some cells of a list, written. -/
def putL {α : Type} (xs : List α) (k : Nat) (ys : List α) : List α := xs.take k ++ ys ++ xs.drop (k + ys.length)

theorem length_putL {α : Type} {xs ys : List α} {k : Nat} (h : k + ys.length ≤ xs.length) : (putL xs k ys).length = xs.length := by
  simp [putL]; omega

/-- The array with some of its cells written. -/
def putA (cs : Array Value) (k : Nat) (vs : List Value) : Array Value := (cs.toList.take k ++ vs ++ cs.toList.drop (k + vs.length)).toArray

theorem size_putA {cs : Array Value} {k : Nat} {vs : List Value} (h : k + vs.length ≤ cs.size) : (putA cs k vs).size = cs.size := by
  simp [putA]; omega

theorem putA_in {cs : Array Value} {k j : Nat} {vs : List Value} (h : k + vs.length ≤ cs.size) (hj : j < vs.length) : (putA cs k vs)[k + j]? = vs[j]? := by
  have hk : k ≤ cs.toList.length := by simp; omega
  simp only [putA, List.getElem?_toArray, List.append_assoc]
  rw [List.getElem?_append_right (by simp; omega)]
  have : k + j - (List.take k cs.toList).length = j := by simp; omega
  rw [this, List.getElem?_append_left hj]

theorem putA_out {cs : Array Value} {k j : Nat} {vs : List Value} (h : k + vs.length ≤ cs.size) (hj : j < k ∨ k + vs.length ≤ j) : (putA cs k vs)[j]? = cs[j]? := by
  have hk : k ≤ cs.toList.length := by simp; omega
  have hl : (List.take k cs.toList).length = k := by simp; omega
  simp only [putA, List.getElem?_toArray, List.append_assoc]
  rcases hj with hj | hj
  · rw [List.getElem?_append_left (by omega), List.getElem?_take_of_lt hj]; simp
  · rw [List.getElem?_append_right (by omega), List.getElem?_append_right (by omega), hl, List.getElem?_drop]
    have : k + vs.length + (j - k - vs.length) = j := by omega
    rw [this]; simp

section
variable {E : Env}

theorem RO.put {xs ys : List X} {cs : Array Value} {off k : Nat} {R R₂ : List Nat} {vs : List Value} (h : RO E xs cs off R) (hk : k + ys.length ≤ xs.length) (hy : RXs E ys vs R₂) (hc : off + xs.length ≤ cs.size) :
    ∃ R₁, RO E (putL xs k ys) (putA cs (off + k) vs) off R₁ ∧ (∀ b ∈ R₁, b ∈ R ∨ b ∈ R₂) ∧ ((R ++ R₂).Nodup → R₁.Nodup) := by
  have hl := RXs.length hy
  have hfit : off + k + vs.length ≤ cs.size := by omega
  have h0 : xs = xs.take k ++ ((xs.drop k).take ys.length ++ xs.drop (k + ys.length)) := by
    conv => lhs; rw [← List.take_append_drop k xs, ← List.take_append_drop ys.length (xs.drop k), List.drop_drop]
  rw [h0] at h
  obtain ⟨Ra, Rb, h1, h2, rfl⟩ := RO.unapp h
  obtain ⟨Rc, Rd, h3, h4, rfl⟩ := RO.unapp h2
  have hlk : (xs.take k).length = k := by simp; omega
  have hlm : ((xs.drop k).take ys.length).length = ys.length := by simp; omega
  rw [hlk, hlm] at h4
  refine ⟨Ra ++ R₂ ++ Rd, ?_, ?_, ?_⟩
  · unfold putL
    refine RO.app (RO.app (RO.ext (fun j hj => putA_out hfit (.inl (by omega))) h1) ?_) ?_
    · rw [hlk]
      refine RO.of hy fun j v hj => ?_
      have hjl : j < vs.length := by
        rcases Nat.lt_or_ge j vs.length with h' | h'
        · exact h'
        · simp [List.getElem?_eq_none h'] at hj
      rw [putA_in hfit hjl]; exact hj
    · have : off + (List.take k xs ++ ys).length = off + k + ys.length := by simp; omega
      rw [this]
      exact RO.ext (fun j _ => putA_out hfit (.inr (by omega))) h4
  · intro b hb
    simp only [List.mem_append] at hb ⊢
    rcases hb with (hb | hb) | hb
    · exact .inl (.inl hb)
    · exact .inr hb
    · exact .inl (.inr (.inr hb))
  · intro hn
    simp only [List.nodup_append, List.mem_append] at hn ⊢
    obtain ⟨⟨ha, ⟨hc', hd, hcd⟩, hab⟩, h2', hx⟩ := hn
    refine ⟨⟨ha, h2', fun a ha' b hb => hx a (.inl ha') b hb⟩, hd, ?_⟩
    intro a ha' b hb
    rcases ha' with ha' | ha'
    · exact hab a ha' b (.inr hb)
    · intro e; subst e; exact hx a (.inr (.inr hb)) a ha' rfl

theorem ROr.set {rs : List (List X)} {row ys : List X} {cs : Array Value} {off s i k : Nat} {R R₂ : List Nat} {vs : List Value} (hu : Uniform s rs) (h : ROr E rs cs off R) (hr : rs[i]? = some row)
    (hk : k + ys.length ≤ row.length) (hy : RXs E ys vs R₂) (hn : X.nrs ys = true) (hc : off + rs.length * s ≤ cs.size) :
    ∃ R₁, ROr E (rs.set i (putL row k ys)) (putA cs (off + (i * s + k)) vs) off R₁ ∧ (∀ b ∈ R₁, b ∈ R ∨ b ∈ R₂) ∧ ((R ++ R₂).Nodup → R₁.Nodup) := by
  have hi : i < rs.length := by
    rcases Nat.lt_or_ge i rs.length with h' | h'
    · exact h'
    · simp [List.getElem?_eq_none h'] at hr
  have hl := RXs.length hy
  have hrow : row.length = s := hu row (List.mem_of_getElem? hr)
  have hri : rs[i] = row := by rw [List.getElem?_eq_getElem hi] at hr; exact Option.some.inj hr
  have h0 : rs = rs.take i ++ (row :: rs.drop (i + 1)) := by
    conv => lhs; rw [← List.take_append_drop i rs, List.drop_eq_getElem_cons hi, hri]
  have hset : rs.set i (putL row k ys) = rs.take i ++ (putL row k ys :: rs.drop (i + 1)) := by
    rw [List.set_eq_take_append_cons_drop, if_pos hi]
  rw [h0] at h
  obtain ⟨Ra, Rb, h1, h2, rfl⟩ := ROr.unapp h
  have hfl : (rs.take i).flatten.length = i * s := by
    rw [length_flatten (hu.take i), List.length_take, Nat.min_eq_left (Nat.le_of_lt hi)]
  rw [hfl] at h2
  simp only [ROr] at h2
  obtain ⟨Rc, Rd, hnr, h3, h4, rfl⟩ := h2
  have his : i * s + s ≤ rs.length * s := by
    have : (i + 1) * s ≤ rs.length * s := Nat.mul_le_mul_right s hi
    rw [Nat.add_mul] at this; omega
  have hfit : off + (i * s + k) + vs.length ≤ cs.size := by omega
  obtain ⟨Re, h5, hsub, hnd⟩ := RO.put h3 hk hy (by omega)
  rw [hset]
  refine ⟨Ra ++ (Re ++ Rd), ?_, ?_, ?_⟩
  · refine ROr.app (ROr.ext (fun j hj => putA_out hfit (.inl (by omega))) h1) ?_
    rw [hfl]
    simp only [ROr]
    have hlp : (putL row k ys).length = row.length := length_putL hk
    refine ⟨Re, Rd, ?_, ?_, ?_, rfl⟩
    · have h7 : ∀ (xs ys : List X), X.nrs xs = true → X.nrs ys = true → X.nrs (xs ++ ys) = true := by
        intro xs
        induction xs with
        | nil => intro ys _ h; exact h
        | cons x r ih => intro ys hx hy; simp only [X.nrs, Bool.and_eq_true, List.cons_append] at hx ⊢; exact ⟨hx.1, ih ys hx.2 hy⟩
      have h8 : ∀ (xs : List X) (n : Nat), X.nrs xs = true → X.nrs (xs.take n) = true := by
        intro xs
        induction xs with
        | nil => intro n _; simp [X.nrs]
        | cons x r ih =>
          intro n hx
          cases n with
          | zero => simp [X.nrs]
          | succ n => simp only [X.nrs, Bool.and_eq_true, List.take_succ_cons] at hx ⊢; exact ⟨hx.1, ih n hx.2⟩
      have h9 : ∀ (xs : List X) (n : Nat), X.nrs xs = true → X.nrs (xs.drop n) = true := by
        intro xs
        induction xs with
        | nil => intro n _; simp [X.nrs]
        | cons x r ih =>
          intro n hx
          cases n with
          | zero => simpa using hx
          | succ n => simp only [X.nrs, Bool.and_eq_true, List.drop_succ_cons] at hx ⊢; exact ih n hx.2
      exact h7 _ _ (h7 _ _ (h8 _ _ hnr) hn) (h9 _ _ hnr)
    · rw [Nat.add_assoc] at h5; exact h5
    · rw [hlp]
      exact ROr.ext (fun j _ => putA_out hfit (.inr (by omega))) h4
  · intro b hb
    simp only [List.mem_append] at hb ⊢
    rcases hb with hb | hb | hb
    · exact .inl (.inl hb)
    · rcases hsub b hb with h' | h'
      · exact .inl (.inr (.inl h'))
      · exact .inr h'
    · exact .inl (.inr (.inr hb))
  · intro hnd'
    simp only [List.nodup_append, List.mem_append] at hnd' hnd ⊢
    obtain ⟨⟨ha, ⟨hc', hd, hcd⟩, hab⟩, h2', hx⟩ := hnd'
    have hRe := hnd ⟨hc', h2', fun a ha' b hb => hx a (.inr (.inl ha')) b hb⟩
    refine ⟨ha, ⟨hRe, hd, ?_⟩, ?_⟩
    · intro a ha' b hb
      rcases hsub a ha' with h' | h'
      · exact hcd a h' b hb
      · intro e; subst e; exact hx a (.inr (.inr hb)) a h' rfl
    · intro a ha' b hb
      rcases hb with hb | hb
      · rcases hsub b hb with h' | h'
        · exact hab a ha' b (.inl h')
        · exact hx a (.inl ha') b h'
      · exact hab a ha' b (.inr hb)

theorem Uniform.set {s i : Nat} {rs : List (List X)} {row : List X} (hu : Uniform s rs) (h : row.length = s) : Uniform s (rs.set i row) := by
  intro r hr
  rcases List.mem_or_eq_of_mem_set hr with h' | h'
  · exact hu r h'
  · rw [h']; exact h

end
end Go.AW
