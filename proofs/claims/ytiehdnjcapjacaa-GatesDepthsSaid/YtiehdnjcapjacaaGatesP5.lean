/- Times for the inputs; the contracts on times in the forms that the law uses. -/
import Derived.Test.YtiehdnjcapjacaaGatesP4
import Derived.Test.YtiehdnjcapjacaaAWD4
namespace Go.Proofs.Ytiehdnjcapjacaa
open Go Go.AW

def u16row (z : Int) : List X := [.v (.int .u16 z)]
def timeAt (xs : List Int) (i : Nat) : Int := if 0 < xs.length then xs.getD (i % xs.length) 0 else 0
def timed (xs : List Int) (n : Nat) : List Int := (List.range n).map (timeAt xs)
theorem timed_length (xs : List Int) (n : Nat) : (timed xs n).length = n := by simp [timed]
theorem timed_app {xs : List Int} {i : Nat} {t : Int} (ht : t = timeAt xs i) : ((((timed xs i).map irow).drop 0).take i) ++ [[.v (.int .i64 t)]] = (timed xs (i + 1)).map irow := by
  rw [List.drop_zero, List.take_of_length_le (by simp [timed_length]), ht]
  simp [timed, List.range_succ, irow]
theorem small_of {xs : List Int} (h : ∀ z ∈ xs, (Lit.int .u16 z).wf = true) : Small 65535 xs := fun z hz => wf_u16 (h z hz)
theorem timed_small {xs : List Int} (h : Small 65535 xs) (n : Nat) : Small 65535 (timed xs n) := by
  intro z hz
  simp only [timed, List.mem_map] at hz
  obtain ⟨i, _, rfl⟩ := hz
  unfold timeAt
  split
  · exact h.get (by omega) _
  · omega
theorem plains_irow (z : Int) : X.plains (irow z) := by simp [irow, X.plains, X.plain]
theorem retX_plain (out : List Int) (e : Int) : (retX 1 (out.map irow) e).plain := by
  simp only [retX, X.plain, X.plains, and_true]
  exact plainr_map plains_irow out
theorem uni_plain (out : List Int) : (X.uni 1 (out.map irow)).plain := by
  simp only [X.plain]
  exact plainr_map plains_irow out
theorem retXi_ffz (out : List Int) (e : Int) : (retX 1 (out.map irow) e).ffz = .tup [.fz 1 (out.map irow), .v (.int .i64 e)] := by
  simp only [retX, X.ffz, X.ffzs]
  rw [X.ffzr_frees (Frees.map irow_frees)]
theorem depthOk_spec {l : List Gate} {ins : List Int} (hl : l.length ≤ 1073741824) (hins : Small 65535 ins) (hb : Good l) (hin : ins.length = nin l) :
    ACalls Try.prog 19 [.fz 3 (l.map Gate.row), .fz 1 (ins.map irow)] [] [] (fun r o => r = retX 1 ((touts l ins l.length).map irow) 0 ∧ o = []) := by
  have h := depths_spec hl hins
  rw [depthR_ok hb hin] at h
  exact h
theorem depthArg_spec {l : List Gate} {ins : List Int} (hl : l.length ≤ 1073741824) (hins : Small 65535 ins) (hb : Good l) (hin : ins.length ≠ nin l) :
    ACalls Try.prog 19 [.fz 3 (l.map Gate.row), .fz 1 (ins.map irow)] [] [] (fun r o => r = retX 1 (([] : List Int).map irow) 1 ∧ o = []) := by
  have h := depths_spec hl hins
  rw [depthR_arg hb hin] at h
  exact h
theorem depthForm_spec {l : List Gate} (hl : l.length ≤ 1073741824) (hb : ¬ Good l) :
    ACalls Try.prog 19 [.fz 3 (l.map Gate.row), .no] [] [] (fun r o => r = retX 1 (([] : List Int).map irow) 3 ∧ o = []) := depths_form hl hb
def loop (l : List Gate) : List Gate := l ++ [⟨4, l.length, 0⟩]
theorem loop_length (l : List Gate) : (loop l).length = l.length + 1 := by simp [loop]
theorem loop_bad (l : List Gate) : ¬ Good (loop l) := by
  intro h
  have := h l.length ⟨4, l.length, 0⟩ (by simp [loop])
  simp [okGate, okArg, operands] at this
theorem timed_one {xs : List Int} {n : Nat} (h : Small 65535 xs) : Small 65535 (timed xs n ++ [1]) := by
  intro z hz
  rcases List.mem_append.1 hz with hz | hz
  · exact timed_small h n z hz
  · simp only [List.mem_singleton] at hz; omega
end Go.Proofs.Ytiehdnjcapjacaa
