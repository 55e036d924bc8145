/- Part of the abstract walk: from a call's arguments, as a row reads them, to the walk, and back. -/
import Derived.Test.YtiehdnjcapjacaaAWD1
import Derived.Below
import Derived.Carry
import Derived.Deep.Slices
import Derived.Deep.Fields
import Derived.ChangeSame
import Derived.ChangeSlices
import Derived.SizedLaws
import Derived.Deep.Grids
namespace Go.AW
open Go Go.ChangeShapes Go.WideShapes Go.Deep Go.RowKit

/-- All that lies in memory is frozen. -/
def E0 (W : World) : Env := ⟨fun b i => W.cell? ⟨b, i, none⟩, fun _ => none, W⟩

/-- A contract whose result is a word: the function returns it, and what lay in memory lies there still. -/
theorem ACalls.row {P : Program} {f : FuncId} {args : List X} {u : Value} (h : ACalls P f args [] [] (fun r o => r = .v u ∧ o = [])) {W : World} {cargs : Array Value} (hn : cargs.size = args.length)
    (hx : ∀ (i : Nat) x, args[i]? = some x → RX (E0 W) x (cargs.getD i undef) []) : Calls P f cargs W (fun e W' => e = .returned u ∧ Below W.heap.size W W') := by
  have hi : Inv (ctx0 (fun b => b < W.heap.size) (E0 W) ⟨args.length, []⟩) (E0 W) (fun _ => []) ⟨enumF 0 args, enumF 0 []⟩ ⟨cargs, []⟩ :=
    { frz := fun _ _ _ h => h
      slots := fun s x hs => by
        rw [look_enum] at hs
        exact hx s x hs
      objs := fun o ob ho => by simp [enumF, look] at ho
      nodup := fun _ => List.nodup_nil
      apart := fun _ _ _ _ h => by cases h
      own := fun _ _ h => by cases h
      keep := fun _ _ => rfl
      size := Nat.le_refl _
      small := fun _ h => h
      os := rfl
      tape := rfl
      output := rfl
      φ0 := fun _ _ _ h => h
      grow := fun _ _ _ h => .inl h
      fixed := fun _ _ => rfl
      tmps := hn
      defers := rfl }
  refine Calls.mono (h _ _ _ _ hi) ?_
  rintro e W' ⟨v, r, objs', rfl, ⟨rfl, _⟩, _, E', RR', rfl, hi'⟩
  have hs := hi'.slots 0 (.v u) rfl
  simp only [RX] at hs
  have hv : v = u := hs.1
  exact ⟨by rw [hv], hi'.os, hi'.tape, hi'.output, hi'.size, fun k hk => hi'.keep k hk⟩

theorem RF.of {E : Env} {b : Nat} : ∀ {row : List X} {off : Nat}, (∀ (j : Nat) x, row[j]? = some x → ∃ u, x = .v u ∧ Single u ∧ E.φ b (off + j) = some u) → RF E row b off
  | [], _, _ => by simp [RF]
  | x :: r, off, h => by
    obtain ⟨u, rfl, hs, hu⟩ := h 0 x rfl
    simp only [RF]
    refine ⟨⟨u, by simpa using hu, hs, rfl, by simp [RX]⟩, RF.of fun j y hj => ?_⟩
    obtain ⟨u', h1, h2, h3⟩ := h (j + 1) y (by simpa using hj)
    exact ⟨u', h1, h2, by rw [show off + 1 + j = off + (j + 1) by omega]; exact h3⟩
theorem RFr.of {E : Env} {b s : Nat} : ∀ {rows : List (List X)} {off : Nat}, Uniform s rows → (∀ (i : Nat) row, rows[i]? = some row → RF E row b (off + i * s)) → RFr E rows b off
  | [], _, _, _ => by simp [RFr]
  | r :: rs, off, hu, h => by
    simp only [RFr]
    refine ⟨by simpa using h 0 r rfl, RFr.of (fun q hq => hu q (by simp [hq])) fun i row hi => ?_⟩
    have := h (i + 1) row (by simpa using hi)
    rw [hu r (by simp)]
    rw [Nat.add_mul, Nat.one_mul] at this
    rw [show off + s + i * s = off + (i * s + s) by omega]; exact this

/-- A slice, as a row reads it: of each element's cells some α tells. -/
theorem fz_read {H : Type} {enc : TypeId × Value → H} {P : Program} {W : World} {base : Nat} {t e s : Nat} {v : Value} {d : DataW H} {ps : List MemPlace} {α : Type} [Inhabited α] {f : α → List X} {p : α → Prop} {ts : List TypeId} {ds : List (DataW H)} {jj B : Nat}
    (ht : P.underlying t = some (.slice e)) (hC : P.cellsOf e = s) (hs : 0 < s) (hB : P.bytesOf e = B)
    (hsz : (DataW.weightsEach P ts ds).all (· ≤ reachBytes) = true) (hts : ts[jj]? = some t) (hds : ds[jj]? = some d)
    (hf : ∀ (n : Nat) (cs : List Value) y, DataW.trod enc P W base (fun _ => true) true n e cs = some y → ∃ a : α, p a ∧ f a = cs.map X.v ∧ ∀ c ∈ cs, Single c)
    {addr : Option Addr} {len cap : Nat} (hv : v = .slice addr len cap) (h : DataW.Trod enc P W base (fun _ => true) true t v d ps) :
    ∃ l : List α, l.length * B ≤ 140737488351232 ∧ (∀ a ∈ l, p a) ∧ RX (E0 W) (.fz s (l.map f)) v [] := by
  subst hv
  obtain ⟨fuel, hf'⟩ := h
  rcases open_slice ht hf' with ⟨h0, _⟩ | ⟨a, len', cap', m, n, D, Pl, hcs, _, hl, _, hm, hx, hi⟩
  · simp only [Value.cells, List.cons.injEq, Value.slice.injEq, and_true] at h0
    obtain ⟨rfl, rfl, rfl⟩ := h0
    refine ⟨[], by simp, (fun _ h => by cases h), ?_⟩
    simp only [RX]
    exact ⟨trivial, (fun _ h => by cases h), none, 0, rfl, .inl ⟨rfl, rfl⟩⟩
  · simp only [Value.cells, List.cons.injEq, Value.slice.injEq, and_true] at hcs
    obtain ⟨rfl, rfl, rfl⟩ := hcs
    simp only [if_true] at hm
    subst hm
    rw [hC] at hi
    have hch : ∀ i, ∃ x : α, i < len → ∃ cs, W.cells? base (a.add (i * s)) s = some cs ∧ p x ∧ f x = cs.map X.v ∧ ∀ c ∈ cs, Single c := by
      intro i
      by_cases hil : i < len
      · obtain ⟨cs, hc, ht'⟩ := hi i (by omega)
        obtain ⟨x, h0, h1, h2⟩ := hf n cs _ ht'
        exact ⟨x, fun _ => ⟨cs, hc, h0, h1, h2⟩⟩
      · exact ⟨default, fun h => absurd h hil⟩
    obtain ⟨g, hg⟩ := Classical.axiomOfChoice hch
    refine ⟨(List.range len).map g, ?_, ?_, ?_⟩
    · have z := sized_slice hsz hts (hds.trans (congrArg some (congrArg Prod.fst hx))) ht
      rw [hB] at z
      simp only [List.length_map, List.length_range] at z ⊢
      exact Nat.le_trans (Nat.mul_le_mul_right _ (by omega)) z
    · intro x hx
      simp only [List.mem_map, List.mem_range] at hx
      obtain ⟨i, hi', rfl⟩ := hx
      obtain ⟨_, _, h0, _⟩ := hg i hi'
      exact h0
    · simp only [RX]
      have hu : Uniform s (((List.range len).map g).map f) := by
        intro r hr
        simp only [List.map_map, List.mem_map, List.mem_range, Function.comp] at hr
        obtain ⟨i, hi', rfl⟩ := hr
        obtain ⟨cs, hc, _, h1, _⟩ := hg i hi'
        rw [h1, List.length_map]
        exact (World.cells?_some hc).2.1
      refine ⟨trivial, hu, some a, m, by simp, ?_⟩
      by_cases hm0 : m = 0
      · exact .inl ⟨by simp [show len = 0 by omega], hm0⟩
      · have hspot : a = ⟨a.block, a.off, none⟩ := by
          obtain ⟨cs, hc, _⟩ := hi 0 (by omega)
          have h1 := (World.cells?_some hc).2.2 0 hs
          have hlen := (World.cells?_some hc).2.1
          simp only [Nat.zero_mul, Addr.add, if_true] at h1
          rw [List.getElem?_eq_getElem (show 0 < cs.length by omega)] at h1
          unfold World.cell? at h1
          obtain ⟨b, o, sp⟩ := a
          cases sp with
          | none => rfl
          | some q => split at h1 <;> simp at h1
        refine .inr ⟨a.block, a.off, by rw [← hspot], by simp; omega, RFr.of hu ?_⟩
        intro i row hrow
        simp only [List.map_map, List.getElem?_map, Option.map_eq_some_iff, Function.comp] at hrow
        obtain ⟨k, hk, rfl⟩ := hrow
        have hkl : i < len := by have := (List.getElem?_eq_some_iff.1 hk).1; simpa using this
        have hki : k = i := by rw [List.getElem?_range hkl] at hk; exact (Option.some.inj hk).symm
        subst hki
        obtain ⟨cs, hc, _, h1, h2⟩ := hg k hkl
        rw [h1]
        refine RF.of fun j x hj => ?_
        simp only [List.getElem?_map, Option.map_eq_some_iff] at hj
        obtain ⟨c, hcj, rfl⟩ := hj
        have hjl : j < s := by have := (List.getElem?_eq_some_iff.1 hcj).1; rw [(World.cells?_some hc).2.1] at this; exact this
        refine ⟨c, rfl, h2 c (List.mem_of_getElem? hcj), ?_⟩
        have h3 := (World.cells?_some hc).2.2 j hjl
        rw [hcj, add_add, hspot, add_mk] at h3
        show W.cell? _ = _
        rw [← h3]
        congr 2
        omega

section
variable {H : Type} {enc : TypeId × Value → H} {P : Program} {W : World} {base : Nat} {spare : Nat → Bool} {held : Bool} {n : Nat} {e : TypeId} {cs : List Value} {y : DataW H × List MemPlace}
/-- The cells of a struct of one-cell fields. -/
theorem struct_cells {fs : Array Field} (he : P.underlying e = some (.struct fs)) (hone : oneCellFields P fs = true) (hC : P.cellsOf e = fs.size) (h : DataW.trod enc P W base spare held n e cs = some y) :
    cs.length = fs.size ∧ ∀ (j : Nat) (fd : Field), fs[j]? = some fd → ∃ c n' y', cs[j]? = some c ∧ DataW.trod enc P W base spare held n' fd.type [c] = some y' := by
  obtain ⟨ys, n', _, _, hlen, hyl, hf⟩ := DataW.trod_struct he h
  refine ⟨hlen.trans hC, fun j fd hj => ?_⟩
  obtain ⟨ho, hk⟩ := hone_of hone j fd hj
  have hjl : j < fs.size := (Array.getElem?_eq_some_iff.1 hj).1
  have hv : cs[j]? = some (cs[j]'(by omega)) := List.getElem?_eq_getElem (by omega)
  have h1 := hf j fd hj
  rw [ho, hk] at h1
  have hone' : (cs.drop j).take 1 = [cs[j]'(by omega)] := by
    rw [List.drop_eq_getElem_cons (by omega)]
    rfl
  rw [hone'] at h1
  have hys : ys[j]? = some (ys[j]'(by omega)) := List.getElem?_eq_getElem (by omega)
  exact ⟨_, n', _, hv, h1.trans hys⟩
theorem read_int {k : IntKind} (he : P.underlying e = some (.int k)) (h : DataW.trod enc P W base spare held n e cs = some y) :
    ∃ z : Int, (Lit.int k z).wf = true ∧ (fun z : Int => [X.v (.int k z)]) z = cs.map X.v ∧ ∀ c ∈ cs, Single c := by
  obtain ⟨z, rfl, _, hw⟩ := DataW.trod_int he h
  exact ⟨z, hw, rfl, by intro c hc; simp only [List.mem_singleton] at hc; subst hc; exact trivial⟩
theorem read_bool (he : P.underlying e = some .bool) (h : DataW.trod enc P W base spare held n e cs = some y) :
    ∃ b : Bool, True ∧ (fun b : Bool => [X.v (.bool b)]) b = cs.map X.v ∧ ∀ c ∈ cs, Single c := by
  obtain ⟨z, rfl, _⟩ := DataW.trod_bool he h
  exact ⟨z, trivial, rfl, by intro c hc; simp only [List.mem_singleton] at hc; subst hc; exact trivial⟩
/-- A struct of three numbers. -/
theorem read_int3 {f0 f1 f2 : Field} {k : IntKind} (he : P.underlying e = some (.struct #[f0, f1, f2])) (hone : oneCellFields P #[f0, f1, f2] = true) (hC : P.cellsOf e = 3)
    (h0 : P.underlying f0.type = some (.int k)) (h1 : P.underlying f1.type = some (.int k)) (h2 : P.underlying f2.type = some (.int k)) (h : DataW.trod enc P W base spare held n e cs = some y) :
    ∃ a b c : Int, ((Lit.int k a).wf = true ∧ (Lit.int k b).wf = true ∧ (Lit.int k c).wf = true) ∧ [X.v (.int k a), X.v (.int k b), X.v (.int k c)] = cs.map X.v ∧ ∀ c ∈ cs, Single c := by
  obtain ⟨hl, hh⟩ := struct_cells he hone hC h
  obtain ⟨c0, _, _, e0, t0⟩ := hh 0 f0 rfl
  obtain ⟨c1, _, _, e1, t1⟩ := hh 1 f1 rfl
  obtain ⟨c2, _, _, e2, t2⟩ := hh 2 f2 rfl
  obtain ⟨a, ha, _, wa⟩ := DataW.trod_int h0 t0
  obtain ⟨b, hb, _, wb⟩ := DataW.trod_int h1 t1
  obtain ⟨c, hc, _, wc⟩ := DataW.trod_int h2 t2
  simp only [List.cons.injEq, and_true] at ha hb hc
  subst ha hb hc
  match cs, hl with
  | [x0, x1, x2], _ =>
    simp only [List.getElem?_cons_zero, List.getElem?_cons_succ, Option.some.injEq] at e0 e1 e2
    subst e0 e1 e2
    exact ⟨a, b, c, ⟨wa, wb, wc⟩, rfl, by intro c hc; simp only [List.mem_cons, List.not_mem_nil, or_false] at hc; rcases hc with rfl | rfl | rfl <;> exact trivial⟩
end
end Go.AW
