/- Part of the abstract walk: the statement that ranges over a function, by the iterator's contract and one walk of its body. -/
import Derived.Test.YtligpghohcfpnaaAWx2
set_option linter.unusedSimpArgs false
set_option linter.unusedVariables false
set_option linter.unusedSectionVars false
namespace Go.AW
open Go Go.RowKit

def obk (β : Nat → Option Blk) (o : Nat) : List Nat := match β o with
 | some B => [B.b]
 | none => []
structure RObj (ν : List Nat) (ob : Obj) : Prop where
 plain : ob.plain
 own0 : Owns0 ob
 ng : ob ≠ .gone
 ment : ∀ xs, ob = .cells xs → ∀ q, X.ments q xs = true → q ∈ ν
theorem ROb.obk {E : Env} {o : Nat} {ob : Obj} {R : List Nat} (h : ROb E o ob R) (h0 : Owns0 ob) (hg : ob ≠ .gone) : R = obk E.β o ∧ ∀ b ∈ obk E.β o, ∀ i, E.φ b i = none := by
 cases ob with
 | cells xs =>
  simp only [ROb] at h
  obtain ⟨_, B, cs, ty, hB, _, hφ, _, _, rfl⟩ := h
  unfold AW.obk
  rw [hB]
  exact ⟨rfl, fun b hb => by rw [List.mem_singleton.1 hb]; exact hφ⟩
 | rows s rs =>
  simp only [ROb] at h
  obtain ⟨_, ⟨hB, _, rfl⟩ | ⟨B, cs, ty, R', hB, _, hφ, _, _, hR, rfl⟩⟩ := h
  ·unfold AW.obk
   rw [hB]
   exact ⟨rfl, fun b hb => by cases hb⟩
  ·have h1 := ROr.free h0 hR
   subst h1
   unfold AW.obk
   rw [hB]
   exact ⟨rfl, fun b hb => by rw [List.mem_singleton.1 hb]; exact hφ⟩
 | tab es =>
  simp only [ROb] at h
  obtain ⟨B, ents, clock, hB, _, hφ, _, rfl⟩ := h
  unfold AW.obk
  rw [hB]
  exact ⟨rfl, fun b hb => by rw [List.mem_singleton.1 hb]; exact hφ⟩
 | gone => exact absurd rfl hg
theorem look_fst {α : Type} : ∀ {l : List (Nat × α)} {o : Nat}, o ∈ l.map Prod.fst → ∃ x, look l o = some x
 | (t, x) :: r, o, h => by
  simp only [look]
  cases hb : Nat.beq t o with
  | true => exact ⟨x, rfl⟩
  | false =>
   rcases List.mem_cons.1 h with h1 | h1
   ·subst h1; simp at hb
   ·exact look_fst h1
theorem fst_look {α : Type} : ∀ {l : List (Nat × α)} {o : Nat} {x : α}, look l o = some x → o ∈ l.map Prod.fst
 | (t, y) :: r, o, x, h => by
  simp only [look] at h
  cases hb : Nat.beq t o with
  | true => rw [Nat.eq_of_beq_eq_true hb]; exact List.mem_cons_self ..
  | false => rw [hb] at h; exact List.mem_cons_of_mem _ (fst_look h)
theorem look_app {α : Type} : ∀ {l m : List (Nat × α)} {o : Nat} {x : α}, look (l ++ m) o = some x → look l o = some x ∨ (o ∉ l.map Prod.fst ∧ look m o = some x)
 | [], _, _, _, h => .inr ⟨by simp, h⟩
 | (t, y) :: r, m, o, x, h => by
  simp only [List.cons_append, look] at h ⊢
  cases hb : Nat.beq t o with
  | true => rw [hb] at h; exact .inl h
  | false =>
   rw [hb] at h
   rcases look_app (l := r) h with h1 | ⟨h1, h2⟩
   ·exact .inl h1
   ·refine .inr ⟨?_, h2⟩
    rw [List.map_cons, List.mem_cons]
    rintro (h3 | h3)
    ·have h3 : o = t := h3
     subst h3; simp at hb
    ·exact h1 h3
theorem look_free : ∀ {l : List (Nat × X)} {s : Nat} {x : X}, l.all (fun q => q.2.free) = true → look l s = some x → x.free = true
 | (t, y) :: r, s, x, h, hx => by
  simp only [List.all_cons, Bool.and_eq_true] at h
  simp only [look] at hx
  cases hb : Nat.beq t s with
  | true => rw [hb] at hx; simp only [cond_true, Option.some.injEq] at hx; subst hx; exact h.1
  | false => rw [hb] at hx; exact look_free h.2 hx

section
variable {P : Program} {N : Frm} {st : St} {Q : Exit → St → Prop}
set_option maxHeartbeats 1000000 in
theorem AWpM.rangeFunc {g : Operand} {ps : Array Tmp} {p1 p2 : Nat} {assign body : Code} {f : FuncId} {caps : List X} {gen : Idx} (ν : List Nat) (O : Idx → List (Nat × Obj)) (Good : Int × Int → Prop) (slotsR : List (Nat × X))
  (hg : opd st g = some (.clo (.func f) [] caps)) (hok : callOK P f = true) (hspec : ItCalls P f caps gen) (hps : ps = #[p1, p2]) (hp1 : p1 < N.n) (hp2 : p2 < N.n) (hp : p1 ≠ p2)
  (hs : SubL st.slots slotsR) (hfr : slotsR.all (fun q => q.2.free) = true) (hO0 : SubL st.objs (O [])) (hOn : ∀ i, (O i).map Prod.fst = ν) (hOp : ∀ i o ob, look (O i) o = some ob → RObj ν ob)
  (hbody : ∀ l i x, (∀ y ∈ i, Good y) → Good x → AWpR P l ⟨N.n, ν⟩ assign ⟨(p1, .v (.int .i64 x.1)) :: (p2, .v (.int .i64 x.2)) :: slotsR, O i⟩ (Then (fun st' => AWpR P l ⟨N.n, ν⟩ body st' (fun e st' => e = .normal ∧ SubL st'.objs (O (i ++ [x])))) (fun _ _ => False)))
  (hgood : ∀ y ∈ gen, Good y) (k : Q .normal ⟨st.slots, O gen ++ st.objs⟩) : AWpM P N (.rangeFunc g ps assign body) st Q := by
 intro G hn a w hh
 obtain ⟨E0, RR0, rfl, hi⟩ := hh
 obtain ⟨Rg, hgx⟩ := hi.eval hg
 simp only [RX] at hgx
 obtain ⟨_, ff, cc, hgv, hff, hcc⟩ := hgx
 simp only [RXt] at hff
 have hff0 : ff = #[] := by
  have := hff.1
  cases ff; simp_all
 subst hff0
 obtain ⟨n0, hn0⟩ : ∃ n0, n0 = E0.w.heap.size := ⟨_, rfl⟩
 -- the objects
 have hν : ∀ o ∈ ν, ∃ ob, look (O []) o = some ob ∧ ROb E0 o ob (RR0 (.obj o)) := fun o ho => by
  obtain ⟨ob, hob⟩ := look_fst (l := O []) (o := o) (by rw [hOn]; exact ho)
  exact ⟨ob, hob, hi.objs o ob (hO0 o ob hob)⟩
 have hblk : ∀ o ∈ ν, RR0 (.obj o) = obk E0.β o ∧ ∀ b ∈ obk E0.β o, ∀ i, E0.φ b i = none := fun o ho => by
  obtain ⟨ob, hob, hr⟩ := hν o ho
  exact hr.obk (hOp _ _ _ hob).own0 (hOp _ _ _ hob).ng
 have hbl : ∀ o ∈ ν, ∀ b ∈ obk E0.β o, b < n0 ∧ ¬ G.K b := fun o ho b hb => by
  have := hi.own (.obj o) b (by rw [(hblk o ho).1]; exact hb)
  rw [hn0]; exact this
 let S : Nat → Prop := fun b => b = n0 + 1 ∨ ∃ o ∈ ν, b ∈ obk E0.β o
 have hφb : ∀ b i v, E0.φ b i = some v → b < n0 := fun b i v hv => by
  have h1 := hi.frz b i v hv
  rcases Nat.lt_or_ge b n0 with h2 | h2
  ·exact h2
  ·unfold World.cell? at h1
   rw [Array.getElem?_eq_none (show E0.w.heap.size ≤ b by omega)] at h1; cases h1
 have hφS : ∀ b i, S b → E0.φ b i = none := fun b i hb => by
  rcases hb with rfl | ⟨o, ho, hb⟩
  ·cases he : E0.φ (n0 + 1) i with
   | none => rfl
   | some v => have := hφb _ _ _ he; omega
  ·exact (hblk o ho).2 b hb i
 have hSlt : ∀ b, S b → b < n0 + 2 := fun b hb => by
  rcases hb with rfl | ⟨o, ho, hb⟩
  ·omega
  ·have := (hbl o ho b hb).1; omega
 refine wp_wide.1 (wpIn_rangeFunc fun fn _ => ?_)
 obtain ⟨rec, hrec⟩ : ∃ rec : LoopState → Option Code → Loop, rec = fun st pe => { state := st, pending := pe, fn, tmps := a.tmps, params := ps, assign, body, defers := n0 } := ⟨_, rfl⟩
 obtain ⟨W1, hW1⟩ : ∃ W1, (E0.w.alloc (.deferred (some []))).alloc (.loop (rec .ready none)) = W1 := ⟨_, rfl⟩
 have hsz1 : W1.heap.size = n0 + 2 := by rw [← hW1, hn0]; simp
 have hL1 : W1.heap[n0 + 1]? = some (.loop (rec .ready none)) := by
  rw [← hW1, hn0]; have := World.alloc_heap_new (E0.w.alloc (.deferred (some []))) (.loop (rec .ready none)); rwa [World.size_alloc] at this
 have hD1 : W1.heap[n0]? = some (.deferred (some [])) := by
  rw [← hW1, hn0]; exact (Below.heap_alloc _ _ _ (by simp)).trans (World.alloc_heap_new E0.w _)
 have hold1 : ∀ b, b < n0 → W1.heap[b]? = E0.w.heap[b]? := fun b hb => by
  rw [← hW1]; exact (Below.heap_alloc _ _ _ (by simp; omega)).trans (Below.heap_alloc _ _ _ om)
 have hcell1 : ∀ b i v, E0.φ b i = some v → W1.cell? ⟨b, i, none⟩ = some v := fun b i v hv => by
  have h1 := hi.frz b i v hv
  unfold World.cell? at h1 ⊢
  rw [hold1 b (hφb b i v hv)]; exact h1
 have hos1 : W1.os = E0.w.os ∧ W1.tape = E0.w.tape ∧ W1.output = E0.w.output := by rw [← hW1]; exact ⟨rfl, rfl, rfl⟩
 let J : Idx → World → Prop := fun i W => n0 + 2 ≤ W.heap.size ∧ (∀ y ∈ i, Good y) ∧ (∀ b, b < n0 + 2 → ¬ S b → W.heap[b]? = W1.heap[b]?) ∧ W.heap[n0 + 1]? = some (.loop (rec .ready none)) ∧
  ∀ o ob, look (O i) o = some ob → ROb ⟨E0.φ, E0.β, W⟩ o ob (obk E0.β o)
 have hcellJ : ∀ i W, J i W → ∀ b k v, E0.φ b k = some v → W.cell? ⟨b, k, none⟩ = some v := fun i W hJ b k v hv => by
  have h1 := hcell1 b k v hv
  have h2 := hφb b k v hv
  unfold World.cell? at h1 ⊢
  rw [hJ.2.2.1 b om (fun hb => by rw [hφS b k hb] at hv; cases hv)]; exact h1
 have habides : ∀ i W W', J i W → W.heap.size ≤ W'.heap.size → (∀ b, b < n0 + 2 → W'.heap[b]? = W.heap[b]?) → J i W' := fun i W W' hJ hsz hw => by
  obtain ⟨h1, h2, h3, h4, h5⟩ := hJ
  refine ⟨om, h2, fun b hb hs => (hw b hb).trans (h3 b hb hs), (hw _ om).trans h4, fun o ob hob => ?_⟩
  have ho : o ∈ ν := by rw [← hOn i]; exact fst_look hob
  exact ROb.mono (E := ⟨E0.φ, E0.β, W⟩) ⟨fun _ _ _ h => h, fun b hb => ⟨hw b (by have := (hbl o ho b hb).1; omega), fun h i => h i⟩⟩ rfl (fun _ _ _ _ => rfl) (h5 o ob hob)
 have hyield : ∀ i x W, J i W → Good x → n0 + 2 ≤ W.heap.size → YieldAt (FR none) 0 P (n0 + 1) #[.int .i64 x.1, .int .i64 x.2] W (fun e W' => e = .returned (.bool true) ∧ J (i ++ [x]) W' ∧ Kp S W W') := fun i x W hJ hx hsz => by
  obtain ⟨hj1, hj2, hj3, hj4, hj5⟩ := hJ
  have hJ : J i W := ⟨hj1, hj2, hj3, hj4, hj5⟩
  have hy := run_yield (P := P) (args := #[.int .i64 x.1, .int .i64 x.2]) hj4 (by rw [hrec]; simp [hps])
  refine ⟨fn, _, assign, body, by rw [hy, hrec], roundIn_of_wpIn (F := FR none) trivial ?_⟩
  let Gr : Ctx := ⟨fun b => b < W.heap.size ∧ (¬ S b ∨ b = n0 + 1), W, E0.φ, E0.β, ⟨N.n, ν⟩, []⟩
  let Er : Env := ⟨E0.φ, E0.β, W⟩
  let RRr : Own → List Nat := fun p => match p with
   | .slot _ => []
   | .obj o => if o ∈ ν then obk E0.β o else []
  have hRR : ∀ p b, b ∈ RRr p → ∃ o ∈ ν, p = .obj o ∧ b ∈ obk E0.β o := fun p b hb => by
   cases p with
   | slot s => cases hb
   | obj o =>
    by_cases ho : o ∈ ν
    ·simp only [RRr, ho, if_true] at hb; exact ⟨o, ho, rfl, hb⟩
    ·simp [RRr, ho] at hb
  have hH : Holds Gr ⟨(p1, .v (.int .i64 x.1)) :: (p2, .v (.int .i64 x.2)) :: slotsR, O i⟩ ⟨(a.tmps.setIfInBounds p1 (.int .i64 x.1)).setIfInBounds p2 (.int .i64 x.2), []⟩ W := by
   have hts : a.tmps.size = N.n := hi.tmps.trans (by rw [hn])
   refine ⟨Er, RRr, rfl, ?_⟩
   constructor
   case frz => exact hcellJ i W hJ
   case slots =>
    intro s y hy
    simp only [look] at hy
    show RX Er y (((a.tmps.setIfInBounds p1 (.int .i64 x.1)).setIfInBounds p2 (.int .i64 x.2)).getD s undef) []
    cases hb1 : Nat.beq p1 s with
    | true =>
     rw [hb1] at hy
     have e := Nat.eq_of_beq_eq_true hb1
     subst e
     simp only [cond_true, Option.some.injEq] at hy
     subst hy
     simp only [RX, and_true]
     simp [Array.getD_eq_getD_getElem?, Array.getElem?_setIfInBounds, hts, hp1, Ne.symm hp]
    | false =>
     rw [hb1] at hy
     have hne1 := Nat.ne_of_beq_eq_false hb1
     simp only [cond_false] at hy
     cases hb2 : Nat.beq p2 s with
     | true =>
      rw [hb2] at hy
      have e := Nat.eq_of_beq_eq_true hb2
      subst e
      simp only [cond_true, Option.some.injEq] at hy
      subst hy
      simp only [RX, and_true]
      simp [Array.getD_eq_getD_getElem?, Array.getElem?_setIfInBounds, hts, hp2]
     | false =>
      rw [hb2] at hy
      have hne2 := Nat.ne_of_beq_eq_false hb2
      simp only [cond_false] at hy
      have h0 := hi.slots s y (hs s y hy)
      have hf := RX.free (look_free hfr hy) h0
      rw [hf] at h0
      have e : ((a.tmps.setIfInBounds p1 (.int .i64 x.1)).setIfInBounds p2 (.int .i64 x.2)).getD s undef = a.tmps.getD s undef := by
       simp [Array.getD_eq_getD_getElem?, Array.getElem?_setIfInBounds, hne1, hne2]
      rw [e]
      exact RX.mono (E := E0) (E' := Er) y _ _ ⟨fun _ _ _ h => h, fun _ h => by cases h⟩ (fun _ _ => rfl) h0
   case objs =>
    intro o ob hob
    have ho : o ∈ ν := by rw [← hOn i]; exact fst_look hob
    show ROb Er o ob (if o ∈ ν then obk E0.β o else [])
    rw [if_pos ho]
    exact hj5 o ob hob
   case nodup =>
    intro p
    cases p with
    | slot s => exact List.nodup_nil
    | obj o =>
     show (if o ∈ ν then obk E0.β o else []).Nodup
     split
     ·unfold AW.obk; split <;> simp
     ·exact List.nodup_nil
   case apart =>
    intro p q hpq b hb hb'
    obtain ⟨o, ho, rfl, hbo⟩ := hRR p b hb
    obtain ⟨o', ho', rfl, hbo'⟩ := hRR q b hb'
    rw [← (hblk o ho).1] at hbo
    rw [← (hblk o' ho').1] at hbo'
    exact hi.apart _ _ hpq b hbo hbo'
   case own =>
    intro p b hb
    obtain ⟨o, ho, rfl, hbo⟩ := hRR p b hb
    have h1 := (hbl o ho b hbo).1
    refine ⟨by show b < W.heap.size; omega, fun hk => ?_⟩
    rcases hk.2 with h2 | h2
    ·exact h2 (.inr ⟨o, ho, hbo⟩)
    ·omega
   case keep => exact fun _ _ => rfl
   case size => exact Nat.le_refl _
   case small => exact fun _ h => h.1
   case os => rfl
   case tape => rfl
   case output => rfl
   case φ0 => exact fun _ _ _ h => h
   case grow => exact fun _ _ _ h => .inl h
   case fixed => exact fun _ _ => rfl
   case tmps => show Array.size _ = N.n; simp [hts]
   case defers => rfl
  refine (fun (h : ∀ T : Array Value, T = (a.tmps.setIfInBounds p1 (.int .i64 x.1)).setIfInBounds p2 (.int .i64 x.2) → Code.wpIn ((FR none).inRound (n0 + 1)) 0 P assign _ { tmps := T, defers := [] } W) => h _ (by simp [hps])) ?_
  rintro T rfl
  have hKl : Gr.K (n0 + 1) := ⟨om, .inr rfl⟩
  refine wpIn_mono (hbody (n0 + 1) i x hj2 hx Gr rfl _ W hH) ?_
  rintro e a1 w1 ⟨st1, hh1, hq⟩
  cases e with
  | normal =>
   have hk1 : ∀ b, Gr.K b → w1.heap[b]? = W.heap[b]? := by obtain ⟨E, RR, rfl, h⟩ := hh1; exact h.keep
   have hs1 : W.heap.size ≤ w1.heap.size := by obtain ⟨E, RR, rfl, h⟩ := hh1; exact h.size
   have ho1 : w1.os = W.os ∧ w1.tape = W.tape ∧ w1.output = W.output := by obtain ⟨E, RR, rfl, h⟩ := hh1; exact ⟨h.os, h.tape, h.output⟩
   have hl1 : w1.heap[n0 + 1]? = some (.loop (rec .ready none)) := (hk1 _ hKl).trans hj4
   refine ⟨_, run_beginRound hl1 (by rw [hrec]), ?_⟩
   obtain ⟨w2, hw2⟩ : ∃ w2, w1.putObj (n0 + 1) (.loop { rec .ready none with state := .busy }) = w2 := ⟨_, rfl⟩
   rw [hw2]
   have hh2 : Holds (Gr.to w2) st1 a1 w2 := Holds.rebase (S := fun b => b = n0 + 1) hh1 (fun b hb => by
    subst hb; exact ⟨hKl, fun k => hφS _ k (.inl rfl)⟩) (by rw [← hw2]; simp) (fun b _ hb => by rw [← hw2]; exact World.putObj_heap_other hb)
   refine wpIn_mono (hq (Gr.to w2) rfl a1 w2 hh2) ?_
   rintro e a2 w3 ⟨st3, ⟨E3, RR3, rfl, h3⟩, rfl, hsub⟩
   have hk3 : ∀ b, Gr.K b → E3.w.heap[b]? = w2.heap[b]? := h3.keep
   have hl2 : w2.heap[n0 + 1]? = some (.loop { rec .ready none with state := .busy }) := by rw [← hw2]; exact World.putObj_heap_same (Array.getElem?_eq_some_iff.1 hl1).1
   have hl3 : E3.w.heap[n0 + 1]? = some (.loop { rec .ready none with state := .busy }) := (hk3 _ hKl).trans hl2
   refine ⟨_, _, run_endRound none hl3, rfl, ?_, ?_⟩
   ·have hsz3 : W.heap.size ≤ E3.w.heap.size := by
     have h4 : w2.heap.size ≤ E3.w.heap.size := h3.size
     rw [← hw2] at h4; simp at h4; omega
    refine ⟨by simp; omega, fun y hy => ?_, fun b hb hsb => ?_, ?_, fun o ob hob => ?_⟩
    ·rcases List.mem_append.1 hy with h4 | h4
     ·exact hj2 y h4
     ·rw [List.mem_singleton.1 h4]; exact hx
    ·have hne : b ≠ n0 + 1 := fun e => hsb (.inl e)
     have hKb : Gr.K b := ⟨om, .inl hsb⟩
     rw [World.putObj_heap_other hne, hk3 b hKb, ← hw2, World.putObj_heap_other hne, hk1 b hKb]
     exact hj3 b hb hsb
    ·rw [World.putObj_heap_same (Array.getElem?_eq_some_iff.1 hl3).1, hrec]; rfl
    ·have ho : o ∈ ν := by rw [← hOn (i ++ [x])]; exact fst_look hob
     have hok := hOp _ _ _ hob
     have hr := h3.objs o ob (hsub o ob hob)
     have hβ : ∀ q ∈ ν, E3.β q = E0.β q := fun q hq => h3.fixed q (show ν.elem q = true from List.elem_iff.2 hq)
     have hR := (hr.obk hok.own0 hok.ng).1
     have hbe : obk E3.β o = obk E0.β o := by unfold AW.obk; rw [hβ o ho]
     rw [hR, hbe] at hr
     have hr2 : ROb ⟨E0.φ, E3.β, E3.w.putObj (n0 + 1) (.loop { ({ rec .ready none with state := .busy } : Loop) with state := if (none : Option Code).isNone then .ready else .done, pending := none })⟩ o ob (obk E0.β o) := by
      refine ROb.off hok.plain (fun b hb => ⟨World.putObj_heap_other (by have := (hbl o ho b hb).1; omega), fun h i => ?_⟩) (fun _ => rfl) hr
      cases he : E0.φ b i with
      | none => rfl
      | some v => have h5 := h3.φ0 b i v he; rw [h i] at h5; cases h5
     exact ROb.mono (E := ⟨E0.φ, E3.β, _⟩) ⟨fun _ _ _ h => h, fun _ _ => ⟨rfl, fun h i => h i⟩⟩ (hβ o ho).symm (fun xs e q hq => (hβ q (hok.ment xs e q hq)).symm) hr2
   ·have h4 : w2.heap.size ≤ E3.w.heap.size := h3.size
    have h5 : w2.heap.size = w1.heap.size := by rw [← hw2]; simp
    refine ⟨by simp; omega, fun b hb hsb => ?_, ?_, ?_, ?_⟩
    ·have hne : b ≠ n0 + 1 := fun e => hsb (.inl e)
     have hKb : Gr.K b := ⟨hb, .inl hsb⟩
     rw [World.putObj_heap_other hne, hk3 b hKb, ← hw2, World.putObj_heap_other hne, hk1 b hKb]
    ·exact (show E3.w.os = _ from h3.os.trans (by rw [← hw2]; exact ho1.1))
    ·exact (show E3.w.tape = _ from h3.tape.trans (by rw [← hw2]; exact ho1.2.1))
    ·exact (show E3.w.output = _ from h3.output.trans (by rw [← hw2]; exact ho1.2.2))
  | _ => exact hq.elim
 let Y : YCtx P := ⟨n0 + 1, n0 + 2, S, J, Good, habides, hyield, hSlt⟩
 have hRXt : RXt ⟨E0.φ, E0.β, W1⟩ caps cc.toList [] := RXt.mono (E := E0) (E' := ⟨E0.φ, E0.β, W1⟩) caps _ _ ⟨fun _ _ _ h => h, fun _ h => by cases h⟩ (fun _ _ => rfl) hcc
 have hJ0 : J [] W1 := by
  refine ⟨om, fun _ h => (by cases h), fun _ _ _ => rfl, hL1, fun o ob hob => ?_⟩
  have ho : o ∈ ν := by rw [← hOn []]; exact fst_look hob
  have hr := hi.objs o ob (hO0 o ob hob)
  rw [(hblk o ho).1] at hr
  exact ROb.mono (E := E0) ⟨fun _ _ _ h => h, fun b hb => ⟨hold1 b (hbl o ho b hb).1, fun h i => h i⟩⟩ rfl (fun _ _ _ _ => rfl) hr
 obtain ⟨cargs, hcargs⟩ : ∃ cargs, (#[.func (.yield (n0 + 1)) #[] #[]] ++ cc.toList.toArray : Array Value) = cargs := ⟨_, rfl⟩
 have hcall0 := hspec Y [] ⟨E0.φ, E0.β, W1⟩ cc.toList hJ0 (by show n0 + 2 ≤ W1.heap.size; omega) hgood hRXt hcell1 (fun b i hb => hφS b i hb)
 have hcall : Calls P f cargs W1 (fun e W' => ∃ v, e = .returned v ∧ J ([] ++ gen) W' ∧ Kp S W1 W') := by rw [← hcargs]; exact hcall0
 refine ⟨n0 + 1, [{ target := .collected n0, args := #[] }], W1, { target := .fn (.func f) cc, args := #[.func (.yield (n0 + 1)) #[] #[]] }, W1, f, cargs, W1, ?_, ?_, fun _ _ => trivial, ?_, ?_, ?_⟩
 ·rw [← hW1, hrec, hn0]; exact run_enterLoop_outer _ _ _ _ _
 ·simp only [resolve, hgv]
  simp [go_sem]
 ·rw [← hcargs]; simp [invoke, go_sem, callOK_run hok]
 ·intro h; simp [FR, Fence.wide] at h
 ·refine calls_FR (hcall.mono ?_)
  rintro e W3 ⟨v, rfl, ⟨j1, j2, j3, j4, j5⟩, hk⟩
  simp only [List.nil_append] at j2 j5
  refine ⟨none, _, (by have := run_endLoop (P := P) j4 (by rw [hrec]; simp); rw [hrec] at this; exact this), ?_⟩
  obtain ⟨W4, hW4⟩ : ∃ W4, W3.putObj (n0 + 1) (.loop { ({ state := .ready, pending := none, fn, tmps := a.tmps, params := ps, assign, body, defers := n0 } : Loop) with state := .exhausted }) = W4 := ⟨_, rfl⟩
  show PostM G Q .normal { a with defers := [{ target := .collected n0, args := #[] }] ++ a.defers } _
  rw [hW4]
  have hw4 : ∀ b, b < n0 + 2 → ¬ S b → W4.heap[b]? = W1.heap[b]? := fun b hb hsb => by rw [← hW4, World.putObj_heap_other (fun e => hsb (.inl e))]; exact j3 b hb hsb
  have hsz4 : n0 + 2 ≤ W4.heap.size := by rw [← hW4]; simp; exact j1
  have hnS : ∀ b, b < n0 → (∀ o ∈ ν, b ∉ RR0 (.obj o)) → ¬ S b := fun b hb hno hsb => by
   rcases hsb with rfl | ⟨o, ho, hbo⟩
   ·omega
   ·exact hno o ho (by rw [(hblk o ho).1]; exact hbo)
  have hold4 : ∀ b, b < n0 → (∀ o ∈ ν, b ∉ RR0 (.obj o)) → W4.heap[b]? = E0.w.heap[b]? := fun b hb hno => (hw4 b om (hnS b hb hno)).trans (hold1 b hb)
  have hD4 : W4.heap[n0]? = some (.deferred (some [])) := (hw4 n0 om (fun hsb => by
   rcases hsb with h | ⟨o, ho, hbo⟩
   ·omega
   ·have := (hbl o ho n0 hbo).1; omega)).trans hD1
  have hGn0 : ¬ G.K n0 := fun hk => by have h1 := hi.small n0 hk; have h2 := hi.size; omega
  have hKold : ∀ b, G.K b → b < n0 := fun b hb => by have h1 := hi.small b hb; have h2 := hi.size; omega
  let G2 : Ctx := ⟨fun b => G.K b ∨ b = n0, W4, E0.φ, G.β0, G.fn, [{ target := .collected n0, args := #[] }] ++ G.ds⟩
  refine ⟨G2, ?_, ⟨st.slots, O gen ++ st.objs⟩, ⟨⟨E0.φ, E0.β, W4⟩, RR0, rfl, ?_⟩, k⟩
  ·refine ⟨rfl, fun b hb => .inl hb, fun b hb => ?_, ?_, ?_, ?_, ?_, hi.φ0, hi.grow, fun _ _ => rfl, [n0], rfl, by simp, fun D hD => ?_⟩
   ·exact (hold4 b (hKold b hb) (fun o ho hbo => (hi.own _ b hbo).2 hb)).trans (hi.keep b hb)
   ·have := hi.size; show G.w0.heap.size ≤ W4.heap.size; omega
   ·exact (show W4.os = _ by rw [← hW4]; exact (hk.os.trans hos1.1).trans hi.os)
   ·exact (show W4.tape = _ by rw [← hW4]; exact (hk.tape.trans hos1.2.1).trans hi.tape)
   ·exact (show W4.output = _ by rw [← hW4]; exact (hk.output.trans hos1.2.2).trans hi.output)
   ·rw [List.mem_singleton.1 hD]; exact ⟨.inr rfl, hGn0, hD4⟩
  ·have hon : ∀ p, (∀ o ∈ ν, p ≠ .obj o) → E0.On ⟨E0.φ, E0.β, W4⟩ (RR0 p) := fun p hp => ⟨fun _ _ _ h => h, fun b hb => ⟨hold4 b (by rw [hn0]; exact (hi.own p b hb).1) (fun o ho hbo => hi.apart p (.obj o) (hp o ho) b hb hbo), fun h i => h i⟩⟩
   constructor
   case frz =>
    intro b i v hv
    have h1 := hcell1 b i v hv
    have h2 := hφb b i v hv
    unfold World.cell? at h1 ⊢
    show (match W4.heap[b]? with | some (.cells cs _ _) => cs[i]? | _ => none) = _
    rw [hw4 b om (fun hb => by rw [hφS b i hb] at hv; cases hv)]; exact h1
   case slots => exact fun s x hx => RX.mono x _ _ (hon _ (fun o _ => by simp)) (fun _ _ => rfl) (hi.slots s x hx)
   case objs =>
    intro o ob hob
    rcases look_app hob with h1 | ⟨h1, h2⟩
    ·have ho : o ∈ ν := by rw [← hOn gen]; exact fst_look h1
     rw [(hblk o ho).1]
     exact ROb.mono (E := ⟨E0.φ, E0.β, W3⟩) ⟨fun _ _ _ h => h, fun b hb => ⟨by rw [← hW4]; exact World.putObj_heap_other (by have := (hbl o ho b hb).1; omega), fun h i => h i⟩⟩ rfl (fun _ _ _ _ => rfl) (j5 o ob h1)
    ·rw [hOn gen] at h1
     exact ROb.mono (hon _ (fun o' ho' e => by cases e; exact h1 ho')) rfl (fun _ _ _ _ => rfl) (hi.objs o ob h2)
   case nodup => exact hi.nodup
   case apart => exact hi.apart
   case own =>
    intro p b hb
    have h1 := hi.own p b hb
    refine ⟨by show b < W4.heap.size; omega, fun hk => ?_⟩
    rcases hk with h2 | h2
    ·exact h1.2 h2
    ·omega
   case keep => exact fun _ _ => rfl
   case size => exact Nat.le_refl _
   case small =>
    rintro b (hb | hb)
    ·have := hKold b hb; show b < W4.heap.size; omega
    ·show b < W4.heap.size; omega
   case os => rfl
   case tape => rfl
   case output => rfl
   case φ0 => exact fun _ _ _ h => h
   case grow => exact fun _ _ _ h => .inl h
   case fixed => exact hi.fixed
   case tmps => exact hi.tmps
   case defers => show _ ++ a.defers = _ ++ G.ds; rw [hi.defers]
end
end Go.AW
/- Part of the abstract walk: iterators: loops and joins over several variables (printed from D8); objects for rounds. -/
namespace Go.AW
open Go

section
variable {P : Program} {Y : YCtx P} {N : Frm} {s : StI} {Q : Exit → StI → Prop}
theorem AWpI.join0 {x y : Code} (J : StI) (I : Prop) (hx : AWpI P Y N x s (ThenI (fun st' => I ∧ LeI st' J) Q)) (hy : I → AWpI P Y N y J Q) : AWpI P Y N (.seq x y) s Q :=
 AWpI.join (fun _ : Unit => J) (fun _ => I) (hx.mono fun e _ h => by cases e <;> first | exact ⟨(), h⟩ | exact h) (fun _ h => hy h)
theorem AWpI.loop1 {α0 : Type} {c : Code} (S : α0 → StI) (I : α0 → Prop) (μ : α0 → Nat) (i0 : α0) (hi : I i0) (hs : LeI s (S i0))
  (round : ∀ a0, I a0 → AWpI P Y N c (S a0) (ThenI (fun st' => ∃ b0, I b0 ∧ μ b0 < μ a0 ∧ LeI st' (S b0)) Q)) : AWpI P Y N (.loop c) s Q :=
 AWpI.loop (ι := α0) (fun u => S u) (fun u => I u) (fun u => μ u) i0 hi hs (fun u h => (round u h).mono fun e _ h => by
  cases e <;> first | exact h | (obtain ⟨b0, h⟩ := h; exact ⟨b0, h⟩))
theorem AWpI.join1 {α0 : Type} {x y : Code} (J : α0 → StI) (I : α0 → Prop) (hx : AWpI P Y N x s (ThenI (fun st' => ∃ b0, I b0 ∧ LeI st' (J b0)) Q)) (hy : ∀ a0, I a0 → AWpI P Y N y (J a0) Q) : AWpI P Y N (.seq x y) s Q :=
 AWpI.join (ι := α0) (fun u => J u) (fun u => I u) (hx.mono fun e _ h => by cases e <;> first | exact h | (obtain ⟨b0, h⟩ := h; exact ⟨b0, h⟩)) (fun u h => hy u h)
theorem AWpI.loop2 {α0 α1 : Type} {c : Code} (S : α0 → α1 → StI) (I : α0 → α1 → Prop) (μ : α0 → α1 → Nat) (i0 : α0) (i1 : α1) (hi : I i0 i1) (hs : LeI s (S i0 i1))
  (round : ∀ a0 a1, I a0 a1 → AWpI P Y N c (S a0 a1) (ThenI (fun st' => ∃ b0 b1, I b0 b1 ∧ μ b0 b1 < μ a0 a1 ∧ LeI st' (S b0 b1)) Q)) : AWpI P Y N (.loop c) s Q :=
 AWpI.loop (ι := α0 × α1) (fun u => S u.1 u.2) (fun u => I u.1 u.2) (fun u => μ u.1 u.2) (i0, i1) hi hs (fun u h => (round u.1 u.2 h).mono fun e _ h => by
  cases e <;> first | exact h | (obtain ⟨b0, b1, h⟩ := h; exact ⟨(b0, b1), h⟩))
theorem AWpI.join2 {α0 α1 : Type} {x y : Code} (J : α0 → α1 → StI) (I : α0 → α1 → Prop) (hx : AWpI P Y N x s (ThenI (fun st' => ∃ b0 b1, I b0 b1 ∧ LeI st' (J b0 b1)) Q)) (hy : ∀ a0 a1, I a0 a1 → AWpI P Y N y (J a0 a1) Q) : AWpI P Y N (.seq x y) s Q :=
 AWpI.join (ι := α0 × α1) (fun u => J u.1 u.2) (fun u => I u.1 u.2) (hx.mono fun e _ h => by cases e <;> first | exact h | (obtain ⟨b0, b1, h⟩ := h; exact ⟨(b0, b1), h⟩)) (fun u h => hy u.1 u.2 h)
theorem AWpI.loop3 {α0 α1 α2 : Type} {c : Code} (S : α0 → α1 → α2 → StI) (I : α0 → α1 → α2 → Prop) (μ : α0 → α1 → α2 → Nat) (i0 : α0) (i1 : α1) (i2 : α2) (hi : I i0 i1 i2) (hs : LeI s (S i0 i1 i2))
  (round : ∀ a0 a1 a2, I a0 a1 a2 → AWpI P Y N c (S a0 a1 a2) (ThenI (fun st' => ∃ b0 b1 b2, I b0 b1 b2 ∧ μ b0 b1 b2 < μ a0 a1 a2 ∧ LeI st' (S b0 b1 b2)) Q)) : AWpI P Y N (.loop c) s Q :=
 AWpI.loop (ι := α0 × α1 × α2) (fun u => S u.1 u.2.1 u.2.2) (fun u => I u.1 u.2.1 u.2.2) (fun u => μ u.1 u.2.1 u.2.2) (i0, i1, i2) hi hs (fun u h => (round u.1 u.2.1 u.2.2 h).mono fun e _ h => by
  cases e <;> first | exact h | (obtain ⟨b0, b1, b2, h⟩ := h; exact ⟨(b0, b1, b2), h⟩))
theorem AWpI.join3 {α0 α1 α2 : Type} {x y : Code} (J : α0 → α1 → α2 → StI) (I : α0 → α1 → α2 → Prop) (hx : AWpI P Y N x s (ThenI (fun st' => ∃ b0 b1 b2, I b0 b1 b2 ∧ LeI st' (J b0 b1 b2)) Q)) (hy : ∀ a0 a1 a2, I a0 a1 a2 → AWpI P Y N y (J a0 a1 a2) Q) : AWpI P Y N (.seq x y) s Q :=
 AWpI.join (ι := α0 × α1 × α2) (fun u => J u.1 u.2.1 u.2.2) (fun u => I u.1 u.2.1 u.2.2) (hx.mono fun e _ h => by cases e <;> first | exact h | (obtain ⟨b0, b1, b2, h⟩ := h; exact ⟨(b0, b1, b2), h⟩)) (fun u h => hy u.1 u.2.1 u.2.2 h)
theorem AWpI.loop4 {α0 α1 α2 α3 : Type} {c : Code} (S : α0 → α1 → α2 → α3 → StI) (I : α0 → α1 → α2 → α3 → Prop) (μ : α0 → α1 → α2 → α3 → Nat) (i0 : α0) (i1 : α1) (i2 : α2) (i3 : α3) (hi : I i0 i1 i2 i3) (hs : LeI s (S i0 i1 i2 i3))
  (round : ∀ a0 a1 a2 a3, I a0 a1 a2 a3 → AWpI P Y N c (S a0 a1 a2 a3) (ThenI (fun st' => ∃ b0 b1 b2 b3, I b0 b1 b2 b3 ∧ μ b0 b1 b2 b3 < μ a0 a1 a2 a3 ∧ LeI st' (S b0 b1 b2 b3)) Q)) : AWpI P Y N (.loop c) s Q :=
 AWpI.loop (ι := α0 × α1 × α2 × α3) (fun u => S u.1 u.2.1 u.2.2.1 u.2.2.2) (fun u => I u.1 u.2.1 u.2.2.1 u.2.2.2) (fun u => μ u.1 u.2.1 u.2.2.1 u.2.2.2) (i0, i1, i2, i3) hi hs (fun u h => (round u.1 u.2.1 u.2.2.1 u.2.2.2 h).mono fun e _ h => by
  cases e <;> first | exact h | (obtain ⟨b0, b1, b2, b3, h⟩ := h; exact ⟨(b0, b1, b2, b3), h⟩))
theorem AWpI.join4 {α0 α1 α2 α3 : Type} {x y : Code} (J : α0 → α1 → α2 → α3 → StI) (I : α0 → α1 → α2 → α3 → Prop) (hx : AWpI P Y N x s (ThenI (fun st' => ∃ b0 b1 b2 b3, I b0 b1 b2 b3 ∧ LeI st' (J b0 b1 b2 b3)) Q)) (hy : ∀ a0 a1 a2 a3, I a0 a1 a2 a3 → AWpI P Y N y (J a0 a1 a2 a3) Q) : AWpI P Y N (.seq x y) s Q :=
 AWpI.join (ι := α0 × α1 × α2 × α3) (fun u => J u.1 u.2.1 u.2.2.1 u.2.2.2) (fun u => I u.1 u.2.1 u.2.2.1 u.2.2.2) (hx.mono fun e _ h => by cases e <;> first | exact h | (obtain ⟨b0, b1, b2, b3, h⟩ := h; exact ⟨(b0, b1, b2, b3), h⟩)) (fun u h => hy u.1 u.2.1 u.2.2.1 u.2.2.2 h)
end
mutual
theorem nr_ment {q : Nat} : ∀ {x : X}, x.nr = true → x.ment q = false
 | .v _, _ | .no, _ | .fz .., _ | .uni .., _ | .fp .., _ => rfl
 | .ptr .., h => by cases h
 | .slc .., h => by cases h
 | .mref _, h => by cases h
 | .agg xs, h => nrs_ments (xs := xs) h
 | .tup xs, h => nrs_ments (xs := xs) h
 | .clo _ a b, h => by
  simp only [X.nr, Bool.and_eq_true] at h
  simp only [X.ment, nrs_ments h.1, nrs_ments h.2, Bool.or_self]
theorem nrs_ments {q : Nat} : ∀ {xs : List X}, X.nrs xs = true → X.ments q xs = false
 | [], _ => rfl
 | x :: r, h => by
  simp only [X.nrs, Bool.and_eq_true] at h
  simp only [X.ments, nr_ment h.1, nrs_ments h.2, Bool.or_self]
end
theorem RObj.cells {ν : List Nat} {xs : List X} (hp : X.plains xs) (hn : X.nrs xs = true) : RObj ν (.cells xs) :=
 ⟨hp, trivial, by simp, fun ys e q h => by cases e; rw [nrs_ments hn] at h; cases h⟩
theorem RObj.rows {ν : List Nat} {s : Nat} {rs : List (List X)} (hp : X.plainr rs) (h0 : ∀ r ∈ rs, X.frees r = true) : RObj ν (.rows s rs) := ⟨hp, h0, by simp, fun ys e => by cases e⟩
theorem look_all1 {p : Obj → Prop} {m : Nat} {a : Obj} (h : p a) : ∀ {o : Nat} {ob : Obj}, look [(m, a)] o = some ob → p ob := fun {o ob} e => by
 simp only [look] at e
 cases hb : Nat.beq m o <;> rw [hb] at e <;> simp only [cond_true, cond_false, Option.some.injEq, reduceCtorEq] at e
 subst e; exact h
theorem look_all2 {p : Obj → Prop} {m n : Nat} {a b : Obj} (h : p a) (h' : p b) : ∀ {o : Nat} {ob : Obj}, look [(m, a), (n, b)] o = some ob → p ob := fun {o ob} e => by
 rw [look] at e
 cases hb : Nat.beq m o with
 | true => rw [hb] at e; simp only [cond_true, Option.some.injEq] at e; subst e; exact h
 | false => rw [hb] at e; exact look_all1 h' e
end Go.AW
/- Part of the abstract walk: fresh rows with empty slices in them. -/
namespace Go.AW
open Go

def ROle (z z' : List X) : Prop := ∀ (E : Env) (cs : Array Value) (off : Nat) (R : List Nat), RO E z cs off R → RO E z' cs off R
theorem ROle.nil : ROle [] [] := fun _ _ _ _ h => h
theorem ROle.same {x : X} {r r' : List X} (h : ROle r r') : ROle (x :: r) (x :: r') := fun E cs off R hh => by
 simp only [RO] at hh ⊢
 obtain ⟨u, R₁, R₂, h1, h2, h3, h4, h5⟩ := hh
 exact ⟨u, R₁, R₂, h1, h2, h3, h E cs _ _ h4, h5⟩
theorem ROle.nilfz {s : Nat} {r r' : List X} (h : ROle r r') : ROle (.v (.slice none 0 0) :: r) (.fz s [] :: r') := fun E cs off R hh => by
 simp only [RO] at hh ⊢
 obtain ⟨u, R₁, R₂, h1, h2, h3, h4, h5⟩ := hh
 refine ⟨u, R₁, R₂, h1, h2, ?_, h E cs _ _ h4, h5⟩
 simp only [RX] at h3 ⊢
 exact ⟨h3.2, (fun r hr => by cases hr), none, 0, h3.1, Or.inl ⟨trivial, rfl⟩⟩
theorem ROr.repl {E : Env} {z z' : List X} (hl : z.length = z'.length) (hn : X.nrs z' = true) (h : ROle z z') : ∀ (n : Nat) (cs : Array Value) (off : Nat) (R : List Nat), ROr E (List.replicate n z) cs off R → ROr E (List.replicate n z') cs off R
 | 0, _, _, _, hh => hh
 | n + 1, cs, off, R, hh => by
  rw [List.replicate_succ] at hh ⊢
  simp only [ROr] at hh ⊢
  obtain ⟨R₁, R₂, _, h2, h3, h4⟩ := hh
  exact ⟨R₁, R₂, hn, h E cs off R₁ h2, hl ▸ ROr.repl hl hn h n cs _ R₂ h3, h4⟩
theorem Sh.reZ {N : Frm} {st : St} {d s n : Nat} {z z' : List X} (hx : look st.slots d = some (.uni s (List.replicate n z))) (hl : z.length = z'.length) (hn : X.nrs z' = true) (h : ROle z z') : Sh N st (st.put d (.uni s (List.replicate n z'))) := by
 intro G _ a w hh
 obtain ⟨E, RR, rfl, hi⟩ := hh
 refine ⟨E, RR, rfl, { hi with slots := ?_ }⟩
 intro t x ht
 simp only [St.put, look] at ht
 cases hb : Nat.beq d t with
 | false => rw [hb] at ht; exact hi.slots t x ht
 | true =>
  rw [hb] at ht
  have e := Nat.eq_of_beq_eq_true hb
  subst e
  simp only [cond_true, Option.some.injEq] at ht
  subst ht
  have h0 := hi.slots d _ hx
  simp only [RX, List.length_replicate] at h0 ⊢
  obtain ⟨hu, base, cap, hc, h1⟩ := h0
  refine ⟨fun r hr => ?_, base, cap, hc, ?_⟩
  ·rw [(List.mem_replicate.1 hr).2, ← hl]
   exact hu z (List.mem_replicate.2 ⟨(List.mem_replicate.1 hr).1, rfl⟩)
  ·rcases h1 with ⟨h1, h2⟩ | ⟨b, off, cs, ty, R', h1, h2, h3, h4, h5, h6, h7⟩
   ·exact .inl ⟨by simpa using h1, h2⟩
   ·exact .inr ⟨b, off, cs, ty, R', h1, h2, h3, h4, h5, ROr.repl hl hn h n cs off R' h6, h7⟩
end Go.AW
/- Part of the abstract walk: strings are joined. -/
namespace Go.AW
open Go

section
variable {P : Program} {N : Frm} {st : St} {dst : Option Nat} {ty : TypeId} {pos : String} {af : Array Edge} {g : Option (Nat × Bool)}
end
end Go.AW
/- Part of the abstract walk: a slice that a variable holds is written no more. -/
namespace Go.AW
open Go

theorem RO.setAt {E : Env} {cs : Array Value} {x y : X} {u : Value} (hf : x.free = true) : ∀ {xs : List X} {off k : Nat} {R : List Nat}, RO E xs cs off R → xs[k]? = some x → cs[off + k]? = some u → RX E y u [] → RO E (xs.set k y) cs off R
 | [], _, _, _, _, h, _, _ => by simp at h
 | z :: r, off, 0, R, h, hy, hu, hxy => by
  simp only [RO] at h
  obtain ⟨u', R₁, R₂, hu', hs, h1, h2, rfl⟩ := h
  simp only [List.getElem?_cons_zero, Option.some.injEq] at hy
  subst hy
  have h0 := RX.free hf h1
  subst h0
  rw [Nat.add_zero, hu'] at hu
  obtain rfl := Option.some.inj hu
  simp only [List.set, RO]
  exact ⟨u', [], R₂, hu', hs, hxy, h2, rfl⟩
 | z :: r, off, k + 1, R, h, hy, hu, hxy => by
  simp only [RO] at h
  obtain ⟨u', R₁, R₂, hu', hs, h1, h2, rfl⟩ := h
  simp only [List.getElem?_cons_succ] at hy
  simp only [List.set, RO]
  exact ⟨u', R₁, R₂, hu', hs, h1, RO.setAt hf h2 hy (by rw [show off + 1 + k = off + (k + 1) by omega]; exact hu) hxy, rfl⟩
section
variable {N : Frm} {G : Ctx} {E : Env} {RR : Own → List Nat} {st : St} {a : Act}
theorem Inv.fzRows (hi : Inv G E RR st a) {o s : Nat} {rs : List (List X)} (ho : look st.objs o = some (.rows s rs)) (hf : Frees rs) (hF : G.fn.F.elem o = false) :
  ∃ E' RR', E'.w = E.w ∧ E'.β = E.β ∧ Inv G E' RR' ((st.kill o).putO o .gone) a ∧ ∀ u n, n = rs.length → RX E (.slc o s 0 n) u [] → RX E' (.fz s rs) u [] := by
 have hob := hi.objs o _ ho
 simp only [ROb] at hob
 obtain ⟨hu, hob⟩ := hob
 have hβ : Moves G E E (fun _ => False) := ⟨rfl, fun _ h => h.elim, fun _ h => h.elim, fun _ _ _ => rfl, Nat.le_refl _, rfl, rfl, rfl⟩
 have hi2 := hi.reobj hβ (o := o) (ob := .gone) (R := []) (fun _ h => h.elim) (fun q _ => rfl) (fun h => rfl) (by simp only [ROb]) List.nodup_nil (fun _ h => by cases h)
 rcases hob with ⟨h1, h2, h3⟩ | ⟨B, cs, ty, R', hB, hw, hφ, hcap, hsz, hRO, hRR⟩
 ·refine ⟨E, _, rfl, rfl, hi2, fun u n hn hx => ?_⟩
  simp only [RX] at hx ⊢
  obtain ⟨_, base, cap, hc, hcase⟩ := hx
  rcases hcase with ⟨_, _, _, h5⟩ | ⟨B, hB, _⟩
  ·subst hn
   exact ⟨trivial, hu, base, cap, hc, .inl ⟨h2, h5⟩⟩
  ·rw [h1] at hB; cases hB
 ·have hR0 := ROr.free hf hRO
  subst hR0
  have hbm : B.b ∈ RR (.obj o) := by rw [hRR]; simp
  have hle : ∀ c i v, E.φ c i = some v → (if c = B.b then cs[i]? else E.φ c i) = some v := by
   intro c i v h
   by_cases hcb : c = B.b
   ·subst hcb; rw [hφ i] at h; cases h
   ·rw [if_neg hcb]; exact h
  have hon : ∀ R : List Nat, B.b ∉ R → E.On { E with φ := fun c i => if c = B.b then cs[i]? else E.φ c i } R := by
   intro R hbR
   refine ⟨hle, fun c hc' => ⟨rfl, fun h i => ?_⟩⟩
   have : c ≠ B.b := fun e => hbR (e ▸ hc')
   show (if c = B.b then cs[i]? else E.φ c i) = none
   rw [if_neg this]; exact h i
  have hnb : ∀ p, B.b ∉ reown st RR o [] p := by
   intro p hp
   cases p with
   | obj q =>
    by_cases hq : q = o
    ·subst hq; simp [reown] at hp
    ·exact hi.apart (.obj q) (.obj o) (by simpa using hq) _ (by simpa [reown, hq] using hp) hbm
   | slot q =>
    rcases reown_slot st RR o [] q with h | h
    ·rw [h] at hp; cases hp
    ·rw [h] at hp; exact hi.apart (.slot q) (.obj o) (by simp) _ hp hbm
  refine ⟨{ E with φ := fun c i => if c = B.b then cs[i]? else E.φ c i }, _, rfl, rfl,
   {hi2 with
    frz := by
     intro c i v h
     change (if c = B.b then cs[i]? else E.φ c i) = some v at h
     by_cases hcb : c = B.b
     ·subst hcb; rw [if_pos rfl] at h
      show E.w.cell? _ = _
      rw [cell_of_heap hw]; exact h
     ·rw [if_neg hcb] at h; exact hi.frz c i v h
    slots := fun q x hx => RX.mono x _ _ (hon _ (hnb _)) (fun _ _ => rfl) (hi2.slots q x hx)
    objs := fun o ob hob => ROb.mono (hon _ (hnb _)) rfl (fun _ _ _ _ => rfl) (hi2.objs o ob hob)
    φ0 := fun c i v h => hle c i v (hi.φ0 c i v h)
    grow := by
     intro c i v h
     change (if c = B.b then cs[i]? else E.φ c i) = some v at h
     by_cases hcb : c = B.b
     ·subst hcb; exact .inr (hi.own _ _ hbm).2
     ·rw [if_neg hcb] at h; exact hi.grow c i v h }, fun u n hn hx => ?_⟩
  simp only [RX] at hx ⊢
  obtain ⟨_, base, cap, hc, hcase⟩ := hx
  subst hn
  rcases hcase with ⟨h1, _⟩ | ⟨B', hB', hlo, hn', hb⟩
  ·rw [hB] at h1; cases h1
  ·rw [hB] at hB'
   obtain rfl := Option.some.inj hB'
   rcases hb with hb | hb
   ·exact ⟨trivial, hu, base, cap, hc, .inl ⟨List.eq_nil_of_length_eq_zero om, hb⟩⟩
   ·refine ⟨trivial, hu, base, cap, hc, .inr ⟨B.b, B.off, by simpa using hb, hn', ?_⟩⟩
    refine ROr.freeze (E := E) (fun i v h => ?_) hle hRO
    show (if B.b = B.b then cs[i]? else E.φ B.b i) = some v
    rw [if_pos rfl]; exact h
theorem Sh.fzObj (p o k : Nat) {s n : Nat} {xs ys : List X} {rs : List (List X)} (hp : look st.objs p = some (.cells xs)) (hk : xs[k]? = some (.slc o s 0 n)) (ho : look st.objs o = some (.rows s rs)) (hl : n = rs.length) (hf : Frees rs) (hF : N.F.elem o = false)
  (hp' : look ((st.kill o).putO o .gone).objs p = some (.cells ys)) (hk' : ys[k]? = some .no) (hfr : X.frees (ys.set k (.fz s rs)) = true) :
  Sh N st (((st.kill o).putO o .gone).putO p (.cells (ys.set k (.fz s rs)))) := by
 intro G hn a w hh
 obtain ⟨E, RR, rfl, hi⟩ := hh
 have hop := hi.objs p _ hp
 simp only [ROb] at hop
 obtain ⟨_, B, cs, ty, hB, hw, hφ, hsz, hro, hR⟩ := hop
 obtain ⟨u, Ry, R1, hcu, hs, hvy, _, _, _⟩ := RO.pick hro hk
 have h0 := RX.free (x := .slc o s 0 n) rfl hvy
 subst h0
 obtain ⟨E', RR', hw', hβ', hi', hfz⟩ := hi.fzRows ho hf (by rw [hn]; exact hF)
 have hop' := hi'.objs p _ hp'
 have hop2 := hop'
 simp only [ROb] at hop2
 obtain ⟨_, B', cs', ty', hB', hw2, hφ', hsz', hro', hR'⟩ := hop2
 rw [hβ', hB] at hB'
 obtain rfl := Option.some.inj hB'
 rw [hw', hw] at hw2
 simp only [Option.some.injEq, Go.Obj.cells.injEq] at hw2
 obtain ⟨rfl, rfl, _⟩ := hw2
 refine ⟨E', _, hw', hi'.putO (R := RR' (.obj p)) ?_ (hi'.nodup _) (fun b hb => ⟨(hi'.own _ _ hb).1, (hi'.own _ _ hb).2, fun q hq h => hi'.apart _ _ hq b h hb⟩)⟩
 simp only [ROb]
 exact ⟨hfr, B, cs, ty, by rw [hβ']; exact hB, by rw [hw']; exact hw, hφ', by rw [List.length_set]; exact hsz', RO.setAt (x := .no) rfl hro' hk' hcu (hfz u n hl hvy), hR'⟩
end
end Go.AW
