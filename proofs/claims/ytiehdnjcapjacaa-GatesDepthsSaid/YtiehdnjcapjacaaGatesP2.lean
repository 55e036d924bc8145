/- The numbers of gates add up; a value depends on the gates before it: in plain Lean. -/
import Derived.Test.YtiehdnjcapjacaaGatesP0
namespace Go.Proofs.Ytiehdnjcapjacaa
open Go Go.AW

def sumF (c : Nat → Nat) : Nat → Nat
  | 0 => 0
  | k + 1 => sumF c k + c k
theorem sumF_le {c : Nat → Nat} {m : Nat} (h : ∀ k, c k ≤ m) : ∀ k, sumF c k ≤ k * m
  | 0 => Nat.zero_le _
  | k + 1 => by
    have := sumF_le h k
    have h1 := h k
    rw [sumF, Nat.add_mul, Nat.one_mul]; omega
theorem cnt_all (l : List Gate) (k : Nat) : cnt l k ≤ l.length := List.countP_le_length
theorem cnt_app (a b : List Gate) (k : Nat) : cnt (a ++ b) k = cnt a k + cnt b k := List.countP_append
theorem cnt_cons (g : Gate) (l : List Gate) (k : Nat) : cnt (g :: l) k = cnt l k + if g.kind = (k : Int) ∧ 1 ≤ g.kind ∧ g.kind ≤ 7 then 1 else 0 := by
  simp [cnt, List.countP_cons]
theorem cnt_sum : ∀ l : List Gate, sumF (cnt l) 8 = l.countP (fun g => decide (1 ≤ g.kind ∧ g.kind ≤ 7))
  | [] => rfl
  | g :: l => by
    have ih := cnt_sum l
    rw [List.countP_cons]
    simp only [sumF, cnt_cons] at ih ⊢
    by_cases h : 1 ≤ g.kind ∧ g.kind ≤ 7
    · have hk : g.kind = 1 ∨ g.kind = 2 ∨ g.kind = 3 ∨ g.kind = 4 ∨ g.kind = 5 ∨ g.kind = 6 ∨ g.kind = 7 := by omega
      rcases hk with hk | hk | hk | hk | hk | hk | hk <;> simp [hk, -Bool.decide_and] <;> omega
    · simp only [h, and_false, if_false, decide_false, Bool.false_eq_true]
      omega
theorem good_count : ∀ {l : List Gate}, (∀ g ∈ l, 1 ≤ g.kind ∧ g.kind ≤ 7) → l.countP (fun g => decide (1 ≤ g.kind ∧ g.kind ≤ 7)) = l.length := by
  intro l h
  rw [List.countP_eq_length]
  intro g hg
  exact decide_eq_true (h g hg)
theorem Good.mem {l : List Gate} (h : Good l) : ∀ g ∈ l, 1 ≤ g.kind ∧ g.kind ≤ 7 := by
  intro g hg
  obtain ⟨i, hi⟩ := List.getElem?_of_mem hg
  exact (h i g hi).1
def more (l : List Gate) : List Gate := l ++ [⟨-3, 0, 0⟩, ⟨8, 0, 0⟩]
theorem more_length (l : List Gate) : (more l).length = l.length + 2 := by simp [more]
theorem more_sum {l : List Gate} (h : Good l) : sumF (cnt (more l)) 8 = l.length := by
  rw [cnt_sum, more, List.countP_append, good_count h.mem]
  rfl
theorem more_seven (l : List Gate) : cnt (more l) 7 = cnt l 7 := by
  rw [more, cnt_app]; rfl
theorem more_none (l : List Gate) : cnt (more l) 0 = 0 := by
  simp only [cnt, List.countP_eq_zero]
  intro g _
  simp only [decide_eq_true_eq]
  omega

theorem Good.take {l : List Gate} (h : Good l) (k : Nat) : Good (l.take k) := by
  intro i g hg
  rw [List.getElem?_take] at hg
  split at hg
  · exact h i g hg
  · cases hg
theorem outs_take {l : List Gate} {ins : List Bool} {k : Nat} (hk : k ≤ l.length) : ∀ {i : Nat}, i ≤ k → outs (l.take k) (ins.take (nin (l.take k))) i = outs l ins i
  | 0, _ => rfl
  | i + 1, hi => by
    have hg : l[i]? = some l[i] := List.getElem?_eq_getElem (show i < l.length by omega)
    have hg' : (l.take k)[i]? = some l[i] := by rw [List.getElem?_take_of_lt (by omega)]; exact hg
    rw [outs_succ hg, outs_succ hg', outs_take hk (by omega)]
    congr 2
    have ht : (l.take k).take i = l.take i := by rw [List.take_take, Nat.min_eq_left (by omega)]
    rw [ht]
    unfold valOf
    by_cases h3 : l[i].kind = 3
    · have hlt : nin (l.take i) < nin (l.take k) := by
        have := nin_lt hg' h3
        rwa [ht] at this
      simp [h3, List.getElem?_take_of_lt hlt]
    · simp [h3]
end Go.Proofs.Ytiehdnjcapjacaa
