/- Part of the abstract walk: maps whose keys and elements are words. -/
import Derived.Test.YtjnpbojdjipboaaAWx1
import Derived.Maps.Keyed
import Derived.DeepKeys4
import Derived.OpenShut
import Derived.SizedLaws
import Derived.Lib.AppendZeros
import Derived.Lib.SliceRun
import Derived.KernelRfl
set_option linter.unusedSimpArgs false
set_option linter.unusedVariables false
set_option linter.unusedSectionVars false
namespace Go.AW
open Go Go.Maps

mutual
/-- The value that x is, if it holds words alone. -/
def X.word : X → Option Value
  | .v u => some u
  | .agg xs => (X.words xs).map fun vs => .agg vs.toArray
  | _ => none
def X.words : List X → Option (List Value)
  | [] => some []
  | .v u :: r => (X.words r).map (u :: ·)
  | _ :: _ => none
end
theorem RXs.words {E : Env} : ∀ {xs : List X} {cs vs : List Value} {R : List Nat}, X.words xs = some vs → RXs E xs cs R → cs = vs ∧ R = []
  | [], cs, vs, R, hw, h => by
    simp only [X.words, Option.some.injEq] at hw
    simp only [RXs] at h
    exact ⟨by rw [h.1, hw], h.2⟩
  | x :: r, cs, vs, R, hw, h => by
    cases x with
    | v u =>
      simp only [X.words, Option.map_eq_some_iff] at hw
      obtain ⟨vs', h1, rfl⟩ := hw
      simp only [RXs] at h
      obtain ⟨c, cs', R₁, R₂, rfl, _, h2, h3, rfl⟩ := h
      simp only [RX] at h2
      obtain ⟨rfl, rfl⟩ := RXs.words h1 h3
      obtain ⟨rfl, rfl⟩ := h2
      exact ⟨rfl, rfl⟩
    | _ => simp [X.words] at hw
theorem RX.word {E : Env} {x : X} {c kv : Value} {R : List Nat} (hw : x.word = some kv) (h : RX E x c R) : c = kv := by
  cases x with
  | v u =>
    simp only [X.word, Option.some.injEq] at hw
    simp only [RX] at h
    rw [h.1, hw]
  | agg xs =>
    simp only [X.word, Option.map_eq_some_iff] at hw
    obtain ⟨vs, h1, rfl⟩ := hw
    simp only [RX] at h
    obtain ⟨cs, rfl, h2⟩ := h
    obtain ⟨h3, _⟩ := RXs.words h1 h2
    rw [← h3]
  | _ => simp [X.word] at hw

/-- All keys of a map are keys of its type. -/
def KeysOk (P : Program) (k : TypeId) (es : List (Value × Value)) : Prop := ∀ e ∈ es, ∃ l, keyOf P k e.1 = some l

section
variable {P : Program} {N : Frm} {st : St} {Q : Exit → St → Prop} {all : Array Oper} {rest : List Oper} {dst : Option Nat} {d : Nat} {ty : TypeId} {pos : String} {af : Array Edge} {g : Option (Nat × Bool)}

/-- A new map. -/
theorem AOps.makeMap {t : TypeId} (o : Nat) (hF : N.F.elem o = false) (hd : d < N.n)
    (kk : AOps P N all rest (((st.kill o).putO o (.tab [])).put d (.mref o)) Q) : AOps P N all (⟨some d, .makeMap t none, ty, pos, af, none⟩ :: rest) st Q := by
  refine AOps.eff (fun G E RR a hn hi => ?_) kk
  have hFo : G.fn.F.elem o = false := by rw [hn]; exact hF
  have h4 := hi.reobj (E' := { E with w := E.w.alloc (.map #[] 0), β := fun q => if q = o then some ⟨E.w.heap.size, 0, 0⟩ else E.β q }) (T := fun _ => False) (o := o) (ob := .tab []) (R := [E.w.heap.size])
    { Moves.alloc G E (.map #[] 0) with φ := rfl } (fun _ h => h.elim) (fun q hq => by simp [hq]) (fun h => by rw [hFo] at h; cases h)
    (by
      simp only [ROb]
      refine ⟨⟨E.w.heap.size, 0, 0⟩, #[], 0, by simp, heap_alloc _ _, fun i => ?_, rfl, rfl⟩
      cases h : E.φ E.w.heap.size i with
      | none => rfl
      | some v => exact absurd (World.block_lt_of_cell? E.w _ (hi.frz _ _ _ h)) (by simp)) (by simp)
    (by
      intro b hb
      simp only [List.mem_singleton] at hb
      subst hb
      refine ⟨by simp, fun hK => ?_, hi.mine (.inr (Nat.le_refl _))⟩
      have := hi.small _ hK
      have := hi.size
      omega)
  refine ⟨.map (some E.w.heap.size), _, _, ?_, h4.put0 (x := .mref o) (by rw [hn]; exact hd) ?_⟩
  · rfl
  · simp only [RX]
    exact ⟨trivial, ⟨E.w.heap.size, 0, 0⟩, by simp, rfl⟩

/-- What lies in a map, as the machine has it. -/
theorem Inv.tab {G : Ctx} {E : Env} {RR : Own → List Nat} {a : Act} (hi : Inv G E RR st a) {m : Operand} {o : Nat} {es : List (Value × Value)} (hm : opd st m = some (.mref o)) (ho : look st.objs o = some (.tab es)) :
    ∃ B ents clock, E.β o = some B ∧ a.eval m = .map (some B.b) ∧ E.w.heap[B.b]? = some (.map ents clock) ∧ (∀ i, E.φ B.b i = none) ∧ ents.toList.map (fun e => (e.key, e.val)) = es ∧ RR (.obj o) = [B.b] := by
  have hob := hi.objs o _ ho
  simp only [ROb] at hob
  obtain ⟨B, ents, clock, hB, hw, hf, he, hR⟩ := hob
  obtain ⟨R, hx⟩ := hi.eval hm
  simp only [RX] at hx
  obtain ⟨_, B', hB', hc⟩ := hx
  rw [hB] at hB'
  obtain rfl := Option.some.inj hB'
  exact ⟨B, ents, clock, hB, hc, hw, hf, he, hR⟩

theorem run_lookup {t k e : TypeId} {b : Nat} {w : World} {ents : Array MapEntry} {clock : Nat} {kv zv : Value} {l : Lit} (ht : P.underlying t = some (.map k e)) (K : Keyed P k) (hz : (zeroValue e).run P w = .ok zv w)
    (hw : w.heap[b]? = some (.map ents clock)) (hkv : keyOf P k kv = some l) (hks : ∀ x ∈ ents.toList, ∃ l, keyOf P k x.key = some l) :
    ((Instr.lookup t (.map (some b)) kv true).run P w = .ok (.tuple #[zv, .bool false]) w ∧ ∀ x ∈ ents.toList, x.key ≠ kv) ∨
    ∃ (j : Nat) (x : MapEntry), (Instr.lookup t (.map (some b)) kv true).run P w = .ok (.tuple #[x.val, .bool true]) w ∧ ents.toList[j]? = some x ∧ x.key = kv := by
  rcases K.find w hkv ents.toList hks with ⟨h1, h2⟩ | ⟨j, x, h1, h2, h3⟩
  · refine .inl ⟨?_, h2⟩
    simp [Instr.lookup, run_underlying ht, MapKept.run_getObj_map hw, K.check w _ hkv, h1, hz, Result.andThen]
  · refine .inr ⟨j, x, ?_, h2, h3⟩
    simp [Instr.lookup, run_underlying ht, MapKept.run_getObj_map hw, K.check w _ hkv, h1, Result.andThen]

theorem zero_run {e : TypeId} {zv : Value} (h : (P.info? e).bind (·.zero) = some zv) (w : World) : (zeroValue e).run P w = .ok zv w := by
  cases hi : P.info? e with
  | none => simp [hi] at h
  | some i =>
    rw [hi] at h
    simp only [Option.bind_some] at h
    simp [zeroValue, typeInfo, hi, h]

/-- What v, ok := m[k] gives. -/
theorem lookup_core {G : Ctx} {E : Env} {RR : Own → List Nat} {a : Act} (hi : Inv G E RR st a) {t k e : TypeId} {m x : Operand} {o : Nat} {es : List (Value × Value)} {y : X} {kv zv : Value} {l : Lit} (ht : P.underlying t = some (.map k e)) (K : Keyed P k)
    (hz : ∀ w, (zeroValue e).run P w = .ok zv w) (hm : opd st m = some (.mref o)) (ho : look st.objs o = some (.tab es)) (hx : opd st x = some y) (hy : y.word = some kv) (hkv : keyOf P k kv = some l) (hks : KeysOk P k es) :
    ∃ u, (execOp a.eval ⟨some d, .lookup t m x true, ty, pos, af, none⟩).run P E.w = .ok (.value u) E.w ∧
      ((∃ (j : Nat) (v : Value), es[j]? = some (kv, v) ∧ RX E (.tup [.v v, .v (.bool true)]) u []) ∨ ((∀ p ∈ es, p.1 ≠ kv) ∧ RX E (.tup [.v zv, .v (.bool false)]) u [])) := by
  obtain ⟨B, ents, clock, _, hc, hw, _, he, _⟩ := hi.tab hm ho
  obtain ⟨R, hxv⟩ := hi.eval hx
  have hxe := RX.word hy hxv
  have hks' : ∀ x ∈ ents.toList, ∃ l, keyOf P k x.key = some l := fun x hx => by
    subst he
    exact hks (x.key, x.val) (List.mem_map.2 ⟨x, hx, rfl⟩)
  have htup : ∀ v b, RX E (.tup [.v v, .v (.bool b)]) (.tuple #[v, .bool b]) [] := by
    intro v b
    simp only [RX, RXt]
    exact ⟨_, rfl, _, _, [], [], rfl, ⟨rfl, rfl⟩, ⟨_, _, [], [], rfl, ⟨rfl, rfl⟩, ⟨rfl, rfl⟩, rfl⟩, rfl⟩
  have hrun : ∀ {u : Value}, (Instr.lookup t (.map (some B.b)) kv true).run P E.w = .ok u E.w → (execOp a.eval ⟨some d, .lookup t m x true, ty, pos, af, none⟩).run P E.w = .ok (.value u) E.w := by
    intro u h
    show (do let z ← Instr.lookup t (a.eval m) (a.eval x) true; pure (Next.value z) : Sem Next).run P E.w = _
    rw [hc, hxe]
    exact run_v h
  rcases run_lookup ht K (hz E.w) hw hkv hks' with ⟨h1, h2⟩ | ⟨j, x0, h1, h2, h3⟩
  · refine ⟨_, hrun h1, .inr ⟨?_, htup _ _⟩⟩
    subst he
    intro p hp
    obtain ⟨x, hx, rfl⟩ := List.mem_map.1 hp
    exact h2 x hx
  · refine ⟨_, hrun h1, .inl ⟨j, x0.val, ?_, htup _ _⟩⟩
    subst he
    rw [List.getElem?_map, h2]
    simp [h3]

/-- v, ok := m[k]. -/
theorem AOps.lookupOk {t k e : TypeId} {m x : Operand} {o : Nat} {es : List (Value × Value)} {y : X} {kv zv : Value} {l : Lit} (ht : P.underlying t = some (.map k e)) (K : Keyed P k) (hz : ∀ w, (zeroValue e).run P w = .ok zv w)
    (hm : opd st m = some (.mref o)) (ho : look st.objs o = some (.tab es)) (hx : opd st x = some y) (hy : y.word = some kv) (hkv : keyOf P k kv = some l) (hks : KeysOk P k es) (hd : d < N.n)
    (kf : ∀ (j : Nat) (v : Value), es[j]? = some (kv, v) → AOps P N all rest (st.put d (.tup [.v v, .v (.bool true)])) Q)
    (kn : (∀ p ∈ es, p.1 ≠ kv) → AOps P N all rest (st.put d (.tup [.v zv, .v (.bool false)])) Q) :
    AOps P N all (⟨some d, .lookup t m x true, ty, pos, af, none⟩ :: rest) st Q := by
  intro G hn a w hh
  obtain ⟨E, RR, rfl, hi⟩ := hh
  obtain ⟨u, hr, hc⟩ := lookup_core hi (d := d) (ty := ty) (pos := pos) (af := af) ht K hz hm ho hx hy hkv hks
  refine wpList_plain rfl fun K hK => ?_
  simp only [Oper.wp, hr, Oper.upon_value]
  rcases hc with ⟨j, v, h1, h2⟩ | ⟨h1, h2⟩
  · exact hK _ _ (kf j v h1 G hn _ _ ⟨E, _, rfl, hi.put0 (hn ▸ hd) h2⟩)
  · exact hK _ _ (kn h1 G hn _ _ ⟨E, _, rfl, hi.put0 (hn ▸ hd) h2⟩)
theorem AHead.lookupOk {KK : St → Prop} {t k e : TypeId} {m x : Operand} {o : Nat} {es : List (Value × Value)} {y : X} {kv zv : Value} {l : Lit} (ht : P.underlying t = some (.map k e)) (K : Keyed P k) (hz : ∀ w, (zeroValue e).run P w = .ok zv w)
    (hm : opd st m = some (.mref o)) (ho : look st.objs o = some (.tab es)) (hx : opd st x = some y) (hy : y.word = some kv) (hkv : keyOf P k kv = some l) (hks : KeysOk P k es) (hd : d < N.n)
    (kf : ∀ (j : Nat) (v : Value), es[j]? = some (kv, v) → AHead P N all rest (st.put d (.tup [.v v, .v (.bool true)])) KK)
    (kn : (∀ p ∈ es, p.1 ≠ kv) → AHead P N all rest (st.put d (.tup [.v zv, .v (.bool false)])) KK) :
    AHead P N all (⟨some d, .lookup t m x true, ty, pos, af, none⟩ :: rest) st KK := by
  intro G hn a w hh
  obtain ⟨E, RR, rfl, hi⟩ := hh
  obtain ⟨u, hr, hc⟩ := lookup_core hi (d := d) (ty := ty) (pos := pos) (af := af) ht K hz hm ho hx hy hkv hks
  unfold wpStill
  rw [if_pos (by simp [Region.wanted])]
  simp only [Oper.still, hr, Oper.stillUpon_value]
  rcases hc with ⟨j, v, h1, h2⟩ | ⟨h1, h2⟩
  · exact kf j v h1 G hn _ _ ⟨E, _, rfl, hi.put0 (hn ▸ hd) h2⟩
  · exact kn h1 G hn _ _ ⟨E, _, rfl, hi.put0 (hn ▸ hd) h2⟩

theorem Moves.setBlock (G : Ctx) (E : Env) (b : Nat) (o : Go.Obj) (hf : ∀ i, E.φ b i = none) (hK : ¬ G.K b) : Moves G E { E with w := { E.w with heap := E.w.heap.setIfInBounds b o } } (fun c => c = b) where
  φ := rfl
  free := fun c h => by subst h; exact hf
  out := fun c h => by subst h; exact hK
  same := fun c _ h => by
    show (E.w.heap.setIfInBounds b o)[c]? = _
    rw [Array.getElem?_setIfInBounds_ne (Ne.symm h)]
  size := by simp
  os := rfl
  tape := rfl
  output := rfl

/-- m[k] = v. -/
theorem AOps.mapUpdate {t k e : TypeId} {m x z : Operand} {o : Nat} {es : List (Value × Value)} {y yz : X} {kv v : Value} {l : Lit} (ht : P.underlying t = some (.map k e)) (K : Keyed P k)
    (hm : opd st m = some (.mref o)) (ho : look st.objs o = some (.tab es)) (hx : opd st x = some y) (hy : y.word = some kv) (hz : opd st z = some yz) (hyz : yz.word = some v) (hkv : keyOf P k kv = some l) (hks : KeysOk P k es)
    (kf : ∀ (j : Nat) (v0 : Value), es[j]? = some (kv, v0) → AOps P N all rest (st.putO o (.tab (es.set j (kv, v)))) Q)
    (kn : (∀ p ∈ es, p.1 ≠ kv) → AOps P N all rest (st.putO o (.tab (es ++ [(kv, v)]))) Q) :
    AOps P N all (⟨none, .mapUpdate t m x z, ty, pos, af, none⟩ :: rest) st Q := by
  intro G hn a w hh
  obtain ⟨E, RR, rfl, hi⟩ := hh
  obtain ⟨B, ents, clock, hB, hc, hw, hφ, he, hRR⟩ := hi.tab hm ho
  obtain ⟨R, hxv⟩ := hi.eval hx
  obtain ⟨R', hzv⟩ := hi.eval hz
  have hxe := RX.word hy hxv
  have hze := RX.word hyz hzv
  have hks' : ∀ x ∈ ents.toList, ∃ l, keyOf P k x.key = some l := fun x hx => by
    subst he
    exact hks (x.key, x.val) (List.mem_map.2 ⟨x, hx, rfl⟩)
  have hbm : B.b ∈ RR (.obj o) := by rw [hRR]; simp
  have hbs : B.b < E.w.heap.size := (hi.own _ _ hbm).1
  have hrun : ∀ {w' : World}, (Instr.mapUpdate t (.map (some B.b)) kv v).run P E.w = .ok () w' → (execOp a.eval ⟨none, .mapUpdate t m x z, ty, pos, af, none⟩).run P E.w = .ok .skip w' := by
    intro w' h
    show (do Instr.mapUpdate t (a.eval m) (a.eval x) (a.eval z); pure Next.skip : Sem Next).run P E.w = _
    rw [hc, hxe, hze]
    exact run_u h
  have fin : ∀ (ents' : Array MapEntry) (clock' : Nat) (es' : List (Value × Value)), ents'.toList.map (fun e => (e.key, e.val)) = es' →
      ∃ RR', Inv G { E with w := { E.w with heap := E.w.heap.setIfInBounds B.b (.map ents' clock') } } RR' (st.putO o (.tab es')) a := by
    intro ents' clock' es' he'
    refine ⟨_, hi.inobj (E' := { E with w := { E.w with heap := E.w.heap.setIfInBounds B.b (.map ents' clock') } }) (Moves.setBlock G E B.b (.map ents' clock') hφ (hi.blk hbm)) (o := o) (R := [B.b]) (fun b h => by subst h; exact hbm) rfl ?_ (by simp) ?_⟩
    · simp only [ROb]
      refine ⟨B, ents', clock', hB, ?_, hφ, he', rfl⟩
      show (E.w.heap.setIfInBounds B.b _)[B.b]? = _
      simp [hbs]
    · intro b hb
      simp only [List.mem_singleton] at hb
      subst hb
      exact ⟨by simpa using hbs, hi.blk hbm, hi.mine (.inl hbm)⟩
  refine wpList_plain rfl fun KK hKK => ?_
  rcases K.find E.w hkv ents.toList hks' with ⟨h1, h2⟩ | ⟨j, x0, h1, h2, h3⟩
  · have hr : (Instr.mapUpdate t (.map (some B.b)) kv v).run P E.w = .ok () { E.w with heap := E.w.heap.setIfInBounds B.b (.map (ents.push { key := kv, val := v, born := clock }) (clock + 1)) } := by
      simp [Instr.mapUpdate, run_underlying ht, MapKept.run_getObj_map hw, K.check E.w _ hkv, h1, MapKept.run_setObj_map _ hw, Result.andThen]
    obtain ⟨RR', hi'⟩ := fin (ents.push { key := kv, val := v, born := clock }) (clock + 1) (es ++ [(kv, v)]) (by rw [Array.toList_push, List.map_append, he]; rfl)
    simp only [Oper.wp, hrun hr, Oper.upon_skip]
    refine hKK _ _ (kn (fun p hp => ?_) G hn _ _ ⟨_, RR', rfl, hi'⟩)
    subst he
    obtain ⟨x, hx, rfl⟩ := List.mem_map.1 hp
    exact h2 x hx
  · have hj : ents[j]? = some x0 := by simpa using h2
    have hr : (Instr.mapUpdate t (.map (some B.b)) kv v).run P E.w = .ok () { E.w with heap := E.w.heap.setIfInBounds B.b (.map (ents.modify j fun e => { e with key := kv, val := v }) clock) } := by
      simp [Instr.mapUpdate, run_underlying ht, MapKept.run_getObj_map hw, K.check E.w _ hkv, h1, hj, h3, K.stays E.w hkv, MapKept.run_setObj_map _ hw, Result.andThen]
    have hes : (ents.modify j fun e => { e with key := kv, val := v }).toList.map (fun e => (e.key, e.val)) = es.set j (kv, v) := by
      subst he
      apply List.ext_getElem?
      intro i
      simp only [Array.toList_modify, List.getElem?_map, List.getElem?_modify, List.getElem?_set]
      by_cases hij : j = i
      · subst hij
        simp [h2]
        have := (List.getElem?_eq_some_iff.1 h2).1
        simpa using this
      · simp [hij]
    obtain ⟨RR', hi'⟩ := fin _ clock _ hes
    simp only [Oper.wp, hrun hr, Oper.upon_skip]
    refine hKK _ _ (kf j x0.val ?_ G hn _ _ ⟨_, RR', rfl, hi'⟩)
    subst he
    rw [List.getElem?_map, h2]
    simp [h3]
end
end Go.AW
/- Part of the abstract walk: more of what does not look at memory. -/
namespace Go.AW
open Go

section
variable {P : Program} {N : Frm} {st : St} {ty : TypeId} {pos : String} {af : Array Edge} {dst : Option Nat} {g : Option (Nat × Bool)}
theorem Blind.nilCheck {x : Operand} {p q : X} (hx : opd st x = some p) (hq : p.on 0 = some q) : Blind P N st ⟨dst, .nilCheck x, ty, pos, af, g⟩ q := by
  intro G E RR a _ hi
  obtain ⟨R, hp⟩ := hi.eval hx
  obtain ⟨b, off, hc, h⟩ := hp.on hq
  refine ⟨_, fun w => ?_, h⟩
  simp only [execOp, hc]; rfl
theorem Blind.fieldAddr {t : TypeId} {x : Operand} {p q : X} {f off : Nat} {ft : TypeId} (ht : TY.fld P t f = some (off, ft)) (hx : opd st x = some p) (hq : p.on off = some q) :
    Blind P N st ⟨dst, .fieldAddr t x f, ty, pos, af, g⟩ q := by
  intro G E RR a _ hi
  obtain ⟨R, hp⟩ := hi.eval hx
  obtain ⟨b, o, hc, h⟩ := hp.on hq
  refine ⟨_, fun w => ?_, h⟩
  show (do let z ← Instr.fieldAt t (a.eval x) f; pure (Next.value z) : Sem Next).run P w = _
  rw [hc]
  exact run_v (TY.fld_run ht b o w)
end
end Go.AW
/- Part of the abstract walk: nil slices inside structs; lent pointers under other names. -/
namespace Go.AW
open Go

section
variable {P : Program} {N : Frm} {st : St} {d : Nat}

theorem RXs.swap {E E' : Env} {x y : X} {post : List X} (hE : E.On E' []) (hxy : ∀ c, RX E x c [] → RX E' y c []) : ∀ {pre : List X} {cs : List Value}, (∀ q, X.ments q (pre ++ x :: post) = true → E'.β q = E.β q) →
    X.frees (pre ++ x :: post) = true → RXs E (pre ++ x :: post) cs [] → RXs E' (pre ++ y :: post) cs []
  | [], cs, hβ, hf, h => by
    simp only [List.nil_append, RXs] at h ⊢
    obtain ⟨c, cs', R₁, R₂, hc, hs, h1, h2, hR⟩ := h
    obtain ⟨rfl, rfl⟩ := List.append_eq_nil_iff.1 hR.symm
    exact ⟨c, cs', [], [], hc, hs, hxy c h1, RXs.mono post cs' [] hE (fun q hq => hβ q (by simp [X.ments, hq])) h2, rfl⟩
  | p :: pre, cs, hβ, hf, h => by
    simp only [List.cons_append, RXs] at h ⊢
    obtain ⟨c, cs', R₁, R₂, hc, hs, h1, h2, hR⟩ := h
    obtain ⟨rfl, rfl⟩ := List.append_eq_nil_iff.1 hR.symm
    simp only [List.cons_append, X.frees, Bool.and_eq_true] at hf
    exact ⟨c, cs', [], [], hc, hs, RX.mono p c [] hE (fun q hq => hβ q (by simp [X.ments, hq])) h1,
      RXs.swap hE hxy (pre := pre) (fun q hq => hβ q (by simp [X.ments, hq])) hf.2 h2, rfl⟩

/-- A nil slice in a struct by value, as a slice over an empty object. -/
theorem Sh.nilA (o s : Nat) (pre post : List X) (hx : look st.slots d = some (.agg (pre ++ .v (.slice none 0 0) :: post))) (hf : X.frees (pre ++ .v (.slice none 0 0) :: post) = true)
    (hm : X.ments o (pre ++ .v (.slice none 0 0) :: post) = false) (hF : N.F.elem o = false) : Sh N st (((st.kill o).putO o (.rows s [])).put d (.agg (pre ++ .slc o s 0 0 :: post))) := by
  intro G hn a w hh
  obtain ⟨E, RR, rfl, hi⟩ := hh
  have hv := hi.slots d _ hx
  have h0 : RR (.slot d) = [] := RX.free (x := .agg (pre ++ .v (.slice none 0 0) :: post)) hf hv
  rw [h0] at hv
  simp only [RX] at hv
  obtain ⟨cs, hc, hs⟩ := hv
  have hβ : Moves G E { E with β := fun q => if q = o then none else E.β q } (fun _ => False) :=
    ⟨rfl, fun _ h => h.elim, fun _ h => h.elim, fun _ _ _ => rfl, Nat.le_refl _, rfl, rfl, rfl⟩
  have h1 := hi.reobj hβ (o := o) (ob := .rows s []) (R := []) (fun _ h => h.elim) (fun q hq => by simp [hq]) (fun h => by rw [hn, hF] at h; cases h)
    (by simp only [ROb]; exact ⟨fun _ h => (by cases h), .inl ⟨by simp, trivial, trivial⟩⟩) List.nodup_nil (fun _ h => by cases h)
  have h2 : RX { E with β := fun q => if q = o then none else E.β q } (.agg (pre ++ .slc o s 0 0 :: post)) (a.tmps.getD d undef) [] := by
    simp only [RX]
    refine ⟨cs, hc, RXs.swap (E := E) (E' := { E with β := fun q => if q = o then none else E.β q }) ⟨fun _ _ _ h => h, fun _ h => by cases h⟩ (fun c hcx => ?_) (fun q hq => ?_) hf hs⟩
    · simp only [RX] at hcx ⊢
      exact ⟨trivial, none, 0, hcx.1, .inl ⟨by simp, by trivial, by trivial, by trivial⟩⟩
    · have : q ≠ o := fun e => by subst e; rw [hm] at hq; cases hq
      simp [this]
  exact ⟨{ E with β := fun q => if q = o then none else E.β q }, _, rfl, h1.relabel h2 List.nodup_nil (fun _ h => by cases h)⟩

/-- An argument whose names the callee knows under others. -/
theorem LentL.named {L : List Nat} {ν : Nat → Nat} {x y : X} {xs ys : List X} (h : x.free = true) (he : x.ren ν = y) (hs : LentL st L ν xs ys) : LentL st L ν (y :: xs) (x :: ys) := by
  subst he
  exact .cons (.same h) hs
end
end Go.AW
/- Part of the abstract walk: loops and joins over several variables; lists in the forms that the second generator uses. -/
namespace Go.AW
open Go

section
variable {P : Program} {N : Frm} {st : St} {Q : Exit → St → Prop}
/-- A join without variables. -/
theorem AWp.join0 {x y : Code} (J : St) (I : Prop) (hx : AWp P N x st (Then (fun st' => I ∧ Le st' J) Q)) (hy : I → AWp P N y J Q) : AWp P N (.seq x y) st Q :=
  AWp.join (fun _ : Unit => J) (fun _ => I) (hx.mono fun e _ h => by cases e <;> first | exact ⟨(), h⟩ | exact h) (fun _ h => hy h)
theorem AWp.loop0 {c : Code} (S : St) (I : Prop) (hi : I) (hs : Le st S) (round : I → AWp P N c S (Then (fun _ => False) Q)) : AWp P N (.loop c) st Q :=
  AWp.loop (fun _ : Unit => S) (fun _ => I) (fun _ => 0) () hi hs (fun _ h => (round h).mono fun e _ h => by cases e <;> first | exact h.elim | exact h)
theorem AWp.loop1 {α0 : Type} {c : Code} (S : α0 → St) (I : α0 → Prop) (μ : α0 → Nat) (i0 : α0) (hi : I i0) (hs : Le st (S i0))
    (round : ∀ a0, I a0 → AWp P N c (S a0) (Then (fun st' => ∃ b0, I b0 ∧ μ b0 < μ a0 ∧ Le st' (S b0)) Q)) : AWp P N (.loop c) st Q :=
  AWp.loop (ι := α0) (fun u => S u) (fun u => I u) (fun u => μ u) i0 hi hs (fun u h => (round u h).mono fun e _ h => by
    cases e <;> first | exact h | (obtain ⟨b0, h⟩ := h; exact ⟨b0, h⟩))
theorem AWp.join1 {α0 : Type} {x y : Code} (J : α0 → St) (I : α0 → Prop) (hx : AWp P N x st (Then (fun st' => ∃ b0, I b0 ∧ Le st' (J b0)) Q)) (hy : ∀ a0, I a0 → AWp P N y (J a0) Q) : AWp P N (.seq x y) st Q :=
  AWp.join (ι := α0) (fun u => J u) (fun u => I u) (hx.mono fun e _ h => by cases e <;> first | exact h | (obtain ⟨b0, h⟩ := h; exact ⟨b0, h⟩)) (fun u h => hy u h)
theorem AWp.loop2 {α0 α1 : Type} {c : Code} (S : α0 → α1 → St) (I : α0 → α1 → Prop) (μ : α0 → α1 → Nat) (i0 : α0) (i1 : α1) (hi : I i0 i1) (hs : Le st (S i0 i1))
    (round : ∀ a0 a1, I a0 a1 → AWp P N c (S a0 a1) (Then (fun st' => ∃ b0 b1, I b0 b1 ∧ μ b0 b1 < μ a0 a1 ∧ Le st' (S b0 b1)) Q)) : AWp P N (.loop c) st Q :=
  AWp.loop (ι := α0 × α1) (fun u => S u.1 u.2) (fun u => I u.1 u.2) (fun u => μ u.1 u.2) (i0, i1) hi hs (fun u h => (round u.1 u.2 h).mono fun e _ h => by
    cases e <;> first | exact h | (obtain ⟨b0, b1, h⟩ := h; exact ⟨(b0, b1), h⟩))
theorem AWp.join2 {α0 α1 : Type} {x y : Code} (J : α0 → α1 → St) (I : α0 → α1 → Prop) (hx : AWp P N x st (Then (fun st' => ∃ b0 b1, I b0 b1 ∧ Le st' (J b0 b1)) Q)) (hy : ∀ a0 a1, I a0 a1 → AWp P N y (J a0 a1) Q) : AWp P N (.seq x y) st Q :=
  AWp.join (ι := α0 × α1) (fun u => J u.1 u.2) (fun u => I u.1 u.2) (hx.mono fun e _ h => by cases e <;> first | exact h | (obtain ⟨b0, b1, h⟩ := h; exact ⟨(b0, b1), h⟩)) (fun u h => hy u.1 u.2 h)
theorem AWp.loop3 {α0 α1 α2 : Type} {c : Code} (S : α0 → α1 → α2 → St) (I : α0 → α1 → α2 → Prop) (μ : α0 → α1 → α2 → Nat) (i0 : α0) (i1 : α1) (i2 : α2) (hi : I i0 i1 i2) (hs : Le st (S i0 i1 i2))
    (round : ∀ a0 a1 a2, I a0 a1 a2 → AWp P N c (S a0 a1 a2) (Then (fun st' => ∃ b0 b1 b2, I b0 b1 b2 ∧ μ b0 b1 b2 < μ a0 a1 a2 ∧ Le st' (S b0 b1 b2)) Q)) : AWp P N (.loop c) st Q :=
  AWp.loop (ι := α0 × α1 × α2) (fun u => S u.1 u.2.1 u.2.2) (fun u => I u.1 u.2.1 u.2.2) (fun u => μ u.1 u.2.1 u.2.2) (i0, i1, i2) hi hs (fun u h => (round u.1 u.2.1 u.2.2 h).mono fun e _ h => by
    cases e <;> first | exact h | (obtain ⟨b0, b1, b2, h⟩ := h; exact ⟨(b0, b1, b2), h⟩))
theorem AWp.join3 {α0 α1 α2 : Type} {x y : Code} (J : α0 → α1 → α2 → St) (I : α0 → α1 → α2 → Prop) (hx : AWp P N x st (Then (fun st' => ∃ b0 b1 b2, I b0 b1 b2 ∧ Le st' (J b0 b1 b2)) Q)) (hy : ∀ a0 a1 a2, I a0 a1 a2 → AWp P N y (J a0 a1 a2) Q) : AWp P N (.seq x y) st Q :=
  AWp.join (ι := α0 × α1 × α2) (fun u => J u.1 u.2.1 u.2.2) (fun u => I u.1 u.2.1 u.2.2) (hx.mono fun e _ h => by cases e <;> first | exact h | (obtain ⟨b0, b1, b2, h⟩ := h; exact ⟨(b0, b1, b2), h⟩)) (fun u h => hy u.1 u.2.1 u.2.2 h)
theorem AWp.loop4 {α0 α1 α2 α3 : Type} {c : Code} (S : α0 → α1 → α2 → α3 → St) (I : α0 → α1 → α2 → α3 → Prop) (μ : α0 → α1 → α2 → α3 → Nat) (i0 : α0) (i1 : α1) (i2 : α2) (i3 : α3) (hi : I i0 i1 i2 i3) (hs : Le st (S i0 i1 i2 i3))
    (round : ∀ a0 a1 a2 a3, I a0 a1 a2 a3 → AWp P N c (S a0 a1 a2 a3) (Then (fun st' => ∃ b0 b1 b2 b3, I b0 b1 b2 b3 ∧ μ b0 b1 b2 b3 < μ a0 a1 a2 a3 ∧ Le st' (S b0 b1 b2 b3)) Q)) : AWp P N (.loop c) st Q :=
  AWp.loop (ι := α0 × α1 × α2 × α3) (fun u => S u.1 u.2.1 u.2.2.1 u.2.2.2) (fun u => I u.1 u.2.1 u.2.2.1 u.2.2.2) (fun u => μ u.1 u.2.1 u.2.2.1 u.2.2.2) (i0, i1, i2, i3) hi hs (fun u h => (round u.1 u.2.1 u.2.2.1 u.2.2.2 h).mono fun e _ h => by
    cases e <;> first | exact h | (obtain ⟨b0, b1, b2, b3, h⟩ := h; exact ⟨(b0, b1, b2, b3), h⟩))
theorem AWp.join4 {α0 α1 α2 α3 : Type} {x y : Code} (J : α0 → α1 → α2 → α3 → St) (I : α0 → α1 → α2 → α3 → Prop) (hx : AWp P N x st (Then (fun st' => ∃ b0 b1 b2 b3, I b0 b1 b2 b3 ∧ Le st' (J b0 b1 b2 b3)) Q)) (hy : ∀ a0 a1 a2 a3, I a0 a1 a2 a3 → AWp P N y (J a0 a1 a2 a3) Q) : AWp P N (.seq x y) st Q :=
  AWp.join (ι := α0 × α1 × α2 × α3) (fun u => J u.1 u.2.1 u.2.2.1 u.2.2.2) (fun u => I u.1 u.2.1 u.2.2.1 u.2.2.2) (hx.mono fun e _ h => by cases e <;> first | exact h | (obtain ⟨b0, b1, b2, b3, h⟩ := h; exact ⟨(b0, b1, b2, b3), h⟩)) (fun u h => hy u.1 u.2.1 u.2.2.1 u.2.2.2 h)
theorem AWp.loop5 {α0 α1 α2 α3 α4 : Type} {c : Code} (S : α0 → α1 → α2 → α3 → α4 → St) (I : α0 → α1 → α2 → α3 → α4 → Prop) (μ : α0 → α1 → α2 → α3 → α4 → Nat) (i0 : α0) (i1 : α1) (i2 : α2) (i3 : α3) (i4 : α4) (hi : I i0 i1 i2 i3 i4) (hs : Le st (S i0 i1 i2 i3 i4))
    (round : ∀ a0 a1 a2 a3 a4, I a0 a1 a2 a3 a4 → AWp P N c (S a0 a1 a2 a3 a4) (Then (fun st' => ∃ b0 b1 b2 b3 b4, I b0 b1 b2 b3 b4 ∧ μ b0 b1 b2 b3 b4 < μ a0 a1 a2 a3 a4 ∧ Le st' (S b0 b1 b2 b3 b4)) Q)) : AWp P N (.loop c) st Q :=
  AWp.loop (ι := α0 × α1 × α2 × α3 × α4) (fun u => S u.1 u.2.1 u.2.2.1 u.2.2.2.1 u.2.2.2.2) (fun u => I u.1 u.2.1 u.2.2.1 u.2.2.2.1 u.2.2.2.2) (fun u => μ u.1 u.2.1 u.2.2.1 u.2.2.2.1 u.2.2.2.2) (i0, i1, i2, i3, i4) hi hs (fun u h => (round u.1 u.2.1 u.2.2.1 u.2.2.2.1 u.2.2.2.2 h).mono fun e _ h => by
    cases e <;> first | exact h | (obtain ⟨b0, b1, b2, b3, b4, h⟩ := h; exact ⟨(b0, b1, b2, b3, b4), h⟩))
theorem AWp.join5 {α0 α1 α2 α3 α4 : Type} {x y : Code} (J : α0 → α1 → α2 → α3 → α4 → St) (I : α0 → α1 → α2 → α3 → α4 → Prop) (hx : AWp P N x st (Then (fun st' => ∃ b0 b1 b2 b3 b4, I b0 b1 b2 b3 b4 ∧ Le st' (J b0 b1 b2 b3 b4)) Q)) (hy : ∀ a0 a1 a2 a3 a4, I a0 a1 a2 a3 a4 → AWp P N y (J a0 a1 a2 a3 a4) Q) : AWp P N (.seq x y) st Q :=
  AWp.join (ι := α0 × α1 × α2 × α3 × α4) (fun u => J u.1 u.2.1 u.2.2.1 u.2.2.2.1 u.2.2.2.2) (fun u => I u.1 u.2.1 u.2.2.1 u.2.2.2.1 u.2.2.2.2) (hx.mono fun e _ h => by cases e <;> first | exact h | (obtain ⟨b0, b1, b2, b3, b4, h⟩ := h; exact ⟨(b0, b1, b2, b3, b4), h⟩)) (fun u h => hy u.1 u.2.1 u.2.2.1 u.2.2.2.1 u.2.2.2.2 h)
theorem AWp.loop6 {α0 α1 α2 α3 α4 α5 : Type} {c : Code} (S : α0 → α1 → α2 → α3 → α4 → α5 → St) (I : α0 → α1 → α2 → α3 → α4 → α5 → Prop) (μ : α0 → α1 → α2 → α3 → α4 → α5 → Nat) (i0 : α0) (i1 : α1) (i2 : α2) (i3 : α3) (i4 : α4) (i5 : α5) (hi : I i0 i1 i2 i3 i4 i5) (hs : Le st (S i0 i1 i2 i3 i4 i5))
    (round : ∀ a0 a1 a2 a3 a4 a5, I a0 a1 a2 a3 a4 a5 → AWp P N c (S a0 a1 a2 a3 a4 a5) (Then (fun st' => ∃ b0 b1 b2 b3 b4 b5, I b0 b1 b2 b3 b4 b5 ∧ μ b0 b1 b2 b3 b4 b5 < μ a0 a1 a2 a3 a4 a5 ∧ Le st' (S b0 b1 b2 b3 b4 b5)) Q)) : AWp P N (.loop c) st Q :=
  AWp.loop (ι := α0 × α1 × α2 × α3 × α4 × α5) (fun u => S u.1 u.2.1 u.2.2.1 u.2.2.2.1 u.2.2.2.2.1 u.2.2.2.2.2) (fun u => I u.1 u.2.1 u.2.2.1 u.2.2.2.1 u.2.2.2.2.1 u.2.2.2.2.2) (fun u => μ u.1 u.2.1 u.2.2.1 u.2.2.2.1 u.2.2.2.2.1 u.2.2.2.2.2) (i0, i1, i2, i3, i4, i5) hi hs (fun u h => (round u.1 u.2.1 u.2.2.1 u.2.2.2.1 u.2.2.2.2.1 u.2.2.2.2.2 h).mono fun e _ h => by
    cases e <;> first | exact h | (obtain ⟨b0, b1, b2, b3, b4, b5, h⟩ := h; exact ⟨(b0, b1, b2, b3, b4, b5), h⟩))
theorem AWp.join6 {α0 α1 α2 α3 α4 α5 : Type} {x y : Code} (J : α0 → α1 → α2 → α3 → α4 → α5 → St) (I : α0 → α1 → α2 → α3 → α4 → α5 → Prop) (hx : AWp P N x st (Then (fun st' => ∃ b0 b1 b2 b3 b4 b5, I b0 b1 b2 b3 b4 b5 ∧ Le st' (J b0 b1 b2 b3 b4 b5)) Q)) (hy : ∀ a0 a1 a2 a3 a4 a5, I a0 a1 a2 a3 a4 a5 → AWp P N y (J a0 a1 a2 a3 a4 a5) Q) : AWp P N (.seq x y) st Q :=
  AWp.join (ι := α0 × α1 × α2 × α3 × α4 × α5) (fun u => J u.1 u.2.1 u.2.2.1 u.2.2.2.1 u.2.2.2.2.1 u.2.2.2.2.2) (fun u => I u.1 u.2.1 u.2.2.1 u.2.2.2.1 u.2.2.2.2.1 u.2.2.2.2.2) (hx.mono fun e _ h => by cases e <;> first | exact h | (obtain ⟨b0, b1, b2, b3, b4, b5, h⟩ := h; exact ⟨(b0, b1, b2, b3, b4, b5), h⟩)) (fun u h => hy u.1 u.2.1 u.2.2.1 u.2.2.2.1 u.2.2.2.2.1 u.2.2.2.2.2 h)
theorem AWp.loop7 {α0 α1 α2 α3 α4 α5 α6 : Type} {c : Code} (S : α0 → α1 → α2 → α3 → α4 → α5 → α6 → St) (I : α0 → α1 → α2 → α3 → α4 → α5 → α6 → Prop) (μ : α0 → α1 → α2 → α3 → α4 → α5 → α6 → Nat) (i0 : α0) (i1 : α1) (i2 : α2) (i3 : α3) (i4 : α4) (i5 : α5) (i6 : α6) (hi : I i0 i1 i2 i3 i4 i5 i6) (hs : Le st (S i0 i1 i2 i3 i4 i5 i6))
    (round : ∀ a0 a1 a2 a3 a4 a5 a6, I a0 a1 a2 a3 a4 a5 a6 → AWp P N c (S a0 a1 a2 a3 a4 a5 a6) (Then (fun st' => ∃ b0 b1 b2 b3 b4 b5 b6, I b0 b1 b2 b3 b4 b5 b6 ∧ μ b0 b1 b2 b3 b4 b5 b6 < μ a0 a1 a2 a3 a4 a5 a6 ∧ Le st' (S b0 b1 b2 b3 b4 b5 b6)) Q)) : AWp P N (.loop c) st Q :=
  AWp.loop (ι := α0 × α1 × α2 × α3 × α4 × α5 × α6) (fun u => S u.1 u.2.1 u.2.2.1 u.2.2.2.1 u.2.2.2.2.1 u.2.2.2.2.2.1 u.2.2.2.2.2.2) (fun u => I u.1 u.2.1 u.2.2.1 u.2.2.2.1 u.2.2.2.2.1 u.2.2.2.2.2.1 u.2.2.2.2.2.2) (fun u => μ u.1 u.2.1 u.2.2.1 u.2.2.2.1 u.2.2.2.2.1 u.2.2.2.2.2.1 u.2.2.2.2.2.2) (i0, i1, i2, i3, i4, i5, i6) hi hs (fun u h => (round u.1 u.2.1 u.2.2.1 u.2.2.2.1 u.2.2.2.2.1 u.2.2.2.2.2.1 u.2.2.2.2.2.2 h).mono fun e _ h => by
    cases e <;> first | exact h | (obtain ⟨b0, b1, b2, b3, b4, b5, b6, h⟩ := h; exact ⟨(b0, b1, b2, b3, b4, b5, b6), h⟩))
theorem AWp.join7 {α0 α1 α2 α3 α4 α5 α6 : Type} {x y : Code} (J : α0 → α1 → α2 → α3 → α4 → α5 → α6 → St) (I : α0 → α1 → α2 → α3 → α4 → α5 → α6 → Prop) (hx : AWp P N x st (Then (fun st' => ∃ b0 b1 b2 b3 b4 b5 b6, I b0 b1 b2 b3 b4 b5 b6 ∧ Le st' (J b0 b1 b2 b3 b4 b5 b6)) Q)) (hy : ∀ a0 a1 a2 a3 a4 a5 a6, I a0 a1 a2 a3 a4 a5 a6 → AWp P N y (J a0 a1 a2 a3 a4 a5 a6) Q) : AWp P N (.seq x y) st Q :=
  AWp.join (ι := α0 × α1 × α2 × α3 × α4 × α5 × α6) (fun u => J u.1 u.2.1 u.2.2.1 u.2.2.2.1 u.2.2.2.2.1 u.2.2.2.2.2.1 u.2.2.2.2.2.2) (fun u => I u.1 u.2.1 u.2.2.1 u.2.2.2.1 u.2.2.2.2.1 u.2.2.2.2.2.1 u.2.2.2.2.2.2) (hx.mono fun e _ h => by cases e <;> first | exact h | (obtain ⟨b0, b1, b2, b3, b4, b5, b6, h⟩ := h; exact ⟨(b0, b1, b2, b3, b4, b5, b6), h⟩)) (fun u h => hy u.1 u.2.1 u.2.2.1 u.2.2.2.1 u.2.2.2.2.1 u.2.2.2.2.2.1 u.2.2.2.2.2.2 h)
theorem AWp.loop8 {α0 α1 α2 α3 α4 α5 α6 α7 : Type} {c : Code} (S : α0 → α1 → α2 → α3 → α4 → α5 → α6 → α7 → St) (I : α0 → α1 → α2 → α3 → α4 → α5 → α6 → α7 → Prop) (μ : α0 → α1 → α2 → α3 → α4 → α5 → α6 → α7 → Nat) (i0 : α0) (i1 : α1) (i2 : α2) (i3 : α3) (i4 : α4) (i5 : α5) (i6 : α6) (i7 : α7) (hi : I i0 i1 i2 i3 i4 i5 i6 i7) (hs : Le st (S i0 i1 i2 i3 i4 i5 i6 i7))
    (round : ∀ a0 a1 a2 a3 a4 a5 a6 a7, I a0 a1 a2 a3 a4 a5 a6 a7 → AWp P N c (S a0 a1 a2 a3 a4 a5 a6 a7) (Then (fun st' => ∃ b0 b1 b2 b3 b4 b5 b6 b7, I b0 b1 b2 b3 b4 b5 b6 b7 ∧ μ b0 b1 b2 b3 b4 b5 b6 b7 < μ a0 a1 a2 a3 a4 a5 a6 a7 ∧ Le st' (S b0 b1 b2 b3 b4 b5 b6 b7)) Q)) : AWp P N (.loop c) st Q :=
  AWp.loop (ι := α0 × α1 × α2 × α3 × α4 × α5 × α6 × α7) (fun u => S u.1 u.2.1 u.2.2.1 u.2.2.2.1 u.2.2.2.2.1 u.2.2.2.2.2.1 u.2.2.2.2.2.2.1 u.2.2.2.2.2.2.2) (fun u => I u.1 u.2.1 u.2.2.1 u.2.2.2.1 u.2.2.2.2.1 u.2.2.2.2.2.1 u.2.2.2.2.2.2.1 u.2.2.2.2.2.2.2) (fun u => μ u.1 u.2.1 u.2.2.1 u.2.2.2.1 u.2.2.2.2.1 u.2.2.2.2.2.1 u.2.2.2.2.2.2.1 u.2.2.2.2.2.2.2) (i0, i1, i2, i3, i4, i5, i6, i7) hi hs (fun u h => (round u.1 u.2.1 u.2.2.1 u.2.2.2.1 u.2.2.2.2.1 u.2.2.2.2.2.1 u.2.2.2.2.2.2.1 u.2.2.2.2.2.2.2 h).mono fun e _ h => by
    cases e <;> first | exact h | (obtain ⟨b0, b1, b2, b3, b4, b5, b6, b7, h⟩ := h; exact ⟨(b0, b1, b2, b3, b4, b5, b6, b7), h⟩))
theorem AWp.join8 {α0 α1 α2 α3 α4 α5 α6 α7 : Type} {x y : Code} (J : α0 → α1 → α2 → α3 → α4 → α5 → α6 → α7 → St) (I : α0 → α1 → α2 → α3 → α4 → α5 → α6 → α7 → Prop) (hx : AWp P N x st (Then (fun st' => ∃ b0 b1 b2 b3 b4 b5 b6 b7, I b0 b1 b2 b3 b4 b5 b6 b7 ∧ Le st' (J b0 b1 b2 b3 b4 b5 b6 b7)) Q)) (hy : ∀ a0 a1 a2 a3 a4 a5 a6 a7, I a0 a1 a2 a3 a4 a5 a6 a7 → AWp P N y (J a0 a1 a2 a3 a4 a5 a6 a7) Q) : AWp P N (.seq x y) st Q :=
  AWp.join (ι := α0 × α1 × α2 × α3 × α4 × α5 × α6 × α7) (fun u => J u.1 u.2.1 u.2.2.1 u.2.2.2.1 u.2.2.2.2.1 u.2.2.2.2.2.1 u.2.2.2.2.2.2.1 u.2.2.2.2.2.2.2) (fun u => I u.1 u.2.1 u.2.2.1 u.2.2.2.1 u.2.2.2.2.1 u.2.2.2.2.2.1 u.2.2.2.2.2.2.1 u.2.2.2.2.2.2.2) (hx.mono fun e _ h => by cases e <;> first | exact h | (obtain ⟨b0, b1, b2, b3, b4, b5, b6, b7, h⟩ := h; exact ⟨(b0, b1, b2, b3, b4, b5, b6, b7), h⟩)) (fun u h => hy u.1 u.2.1 u.2.2.1 u.2.2.2.1 u.2.2.2.2.1 u.2.2.2.2.2.1 u.2.2.2.2.2.2.1 u.2.2.2.2.2.2.2 h)
end

section
variable {α : Type} {f : α → List X} {l m : List α} {i n : Nat} {d a b : α}
theorem row_getD (h : i < l.length) : (l.map f)[i]? = some (f (l.getD i d)) := by
  rw [List.getElem?_map, List.getElem?_eq_getElem h, List.getD_eq_getElem?_getD, List.getElem?_eq_getElem h]; rfl
theorem row_getD0 (h : i < l.length) : (l.map f)[0 + i]? = some (f (l.getD i d)) := by rw [Nat.zero_add]; exact row_getD h
theorem set_map0 {k : Nat} {ys : List X} (h : putL (f a) k ys = f b) : (l.map f).set (0 + i) (putL (f a) k ys) = (l.set i b).map f := by
  rw [h, Nat.zero_add, List.map_set]
theorem app_map (h : n = l.length) : (((l.map f).drop 0).take n) ++ m.map f = (l ++ m).map f := by
  rw [List.drop_zero, List.take_of_length_le (by rw [List.length_map]; omega), List.map_append]
theorem app_le (h : n = l.length) : 0 + n ≤ (l.map f).length := by rw [List.length_map]; omega
theorem app_n (h : n = l.length) : n + (m.map f).length = (l ++ m).length := by rw [List.length_map, List.length_append]; omega
theorem lend_le (h : n = l.length) : 0 + n ≤ (l.map f).length := by rw [List.length_map]; omega
theorem lend_eq (h : n = l.length) : ((l.map f).drop 0).take n = l.map f := by
  rw [List.drop_zero, List.take_of_length_le (by rw [List.length_map]; omega)]
theorem take_drop_map {x y : Nat} : ((l.map f).take y).drop x = ((l.take y).drop x).map f := by rw [List.map_drop, List.map_take]
theorem rep_map {f : α → List X} {z : List X} (h : z = f a) : List.replicate n z = (List.replicate n a).map f := by rw [List.map_replicate, h]
theorem len_map (h : n = l.length) : n = (l.map f).length := by rw [List.length_map]; exact h
end

section
variable {N : Frm} {st : St} {d : Nat}
/-- A slice of one's own gets a name, with a word for what it holds. -/
theorem Sh.adoptE {s n : Nat} {rows : List (List X)} (o : Nat) (rows' : List (List X)) (hx : look st.slots d = some (.uni s rows)) (he : rows = rows') (hn : n = rows'.length) (hF : N.F.elem o = false) : Sh N st (((st.kill o).putO o (.rows s rows')).put d (.slc o s 0 n)) := by
  subst he; exact Sh.adoptN o hx hn hF
theorem Sh.freezeE {s : Nat} {rows : List (List X)} (rows' : List (List X)) (hx : look st.slots d = some (.uni s rows)) (he : rows = rows') (hf : Frees rows') : Sh N st (st.put d (.fz s rows')) := by
  subst he; exact Sh.freeze hx hf
theorem Sh.detachE {s o n : Nat} {rows : List (List X)} (hx : look st.slots d = some (.slc o s 0 n)) (ho : look st.objs o = some (.rows s rows)) (hl : n = rows.length) (hF : N.F.elem o = false) :
    Sh N st (((st.kill o).putO o (.rows 0 [])).put d (.uni s rows)) := Sh.detach hx ho hl hF
end

section
variable {P : Program} {N : Frm} {st : St} {dst : Option Nat} {ty : TypeId} {pos : String} {af : Array Edge} {g : Option (Nat × Bool)}
theorem Y.convK {s d : TypeId} {x : Operand} {k k' : IntKind} {n : Int} (hs : TY.isInt P s = some k') (hd : TY.isInt P d = some k) (hx : opd st x = some (.v (.int k' n))) (hr : k.wrap n = n) :
    Yields P N st ⟨dst, .convert s d x, ty, pos, af, g⟩ (.v (.int k n)) := Y.conv hs hd hx hr
theorem Y.negI {t : TypeId} {x : Operand} {n : Int} (hx : opd st x = some (.v (.int .i64 n))) (hr : -9223372036854775808 ≤ 0 - n ∧ 0 - n ≤ 9223372036854775807) : Yields P N st ⟨dst, .unOp .neg t x, ty, pos, af, g⟩ (.v (.int .i64 (0 - n))) :=
  Y.neg hx (IntWalk.i64_in _ hr)
end
theorem look_slc {l : List (Nat × X)} {i o s lo n n' : Nat} (h : look l i = some (.slc o s lo n)) (e : n = n') : look l i = some (.slc o s lo n') := e ▸ h
theorem look_int {l : List (Nat × X)} {i : Nat} {k : IntKind} {a b : Int} (h : look l i = some (.v (.int k a))) (e : a = b) : look l i = some (.v (.int k b)) := e ▸ h
theorem look_bool {l : List (Nat × X)} {i : Nat} {a b : Bool} (h : look l i = some (.v (.bool a))) (e : a = b) : look l i = some (.v (.bool b)) := e ▸ h
theorem look_cells {l : List (Nat × Obj)} {i : Nat} {a b : List X} (h : look l i = some (.cells a)) (e : a = b) : look l i = some (.cells b) := e ▸ h
theorem look_rows {l : List (Nat × Obj)} {i s : Nat} {a b : List (List X)} (h : look l i = some (.rows s a)) (e : a = b) : look l i = some (.rows s b) := e ▸ h
theorem uniform_map {α : Type} {s : Nat} {f : α → List X} (h : ∀ a, (f a).length = s) {l : List α} : Uniform s (l.map f) := by
  intro r hr
  obtain ⟨a, _, rfl⟩ := List.mem_map.1 hr
  exact h a
theorem cg1 {α0 γ : Type} (f : α0 → γ) {a0 b0 : α0} (h0 : a0 = b0) : f a0 = f b0 := by subst h0; rfl
theorem cg2 {α0 α1 γ : Type} (f : α0 → α1 → γ) {a0 b0 : α0} {a1 b1 : α1} (h0 : a0 = b0) (h1 : a1 = b1) : f a0 a1 = f b0 b1 := by subst h0; subst h1; rfl
theorem cg3 {α0 α1 α2 γ : Type} (f : α0 → α1 → α2 → γ) {a0 b0 : α0} {a1 b1 : α1} {a2 b2 : α2} (h0 : a0 = b0) (h1 : a1 = b1) (h2 : a2 = b2) : f a0 a1 a2 = f b0 b1 b2 := by subst h0; subst h1; subst h2; rfl
theorem cg4 {α0 α1 α2 α3 γ : Type} (f : α0 → α1 → α2 → α3 → γ) {a0 b0 : α0} {a1 b1 : α1} {a2 b2 : α2} {a3 b3 : α3} (h0 : a0 = b0) (h1 : a1 = b1) (h2 : a2 = b2) (h3 : a3 = b3) : f a0 a1 a2 a3 = f b0 b1 b2 b3 := by subst h0; subst h1; subst h2; subst h3; rfl
theorem cg5 {α0 α1 α2 α3 α4 γ : Type} (f : α0 → α1 → α2 → α3 → α4 → γ) {a0 b0 : α0} {a1 b1 : α1} {a2 b2 : α2} {a3 b3 : α3} {a4 b4 : α4} (h0 : a0 = b0) (h1 : a1 = b1) (h2 : a2 = b2) (h3 : a3 = b3) (h4 : a4 = b4) : f a0 a1 a2 a3 a4 = f b0 b1 b2 b3 b4 := by subst h0; subst h1; subst h2; subst h3; subst h4; rfl
theorem cg6 {α0 α1 α2 α3 α4 α5 γ : Type} (f : α0 → α1 → α2 → α3 → α4 → α5 → γ) {a0 b0 : α0} {a1 b1 : α1} {a2 b2 : α2} {a3 b3 : α3} {a4 b4 : α4} {a5 b5 : α5} (h0 : a0 = b0) (h1 : a1 = b1) (h2 : a2 = b2) (h3 : a3 = b3) (h4 : a4 = b4) (h5 : a5 = b5) : f a0 a1 a2 a3 a4 a5 = f b0 b1 b2 b3 b4 b5 := by subst h0; subst h1; subst h2; subst h3; subst h4; subst h5; rfl
def nrow (n : Nat) : List X := [.v (.int .i64 (n : Int))]
theorem nrow_frees (n : Nat) : X.frees (nrow n) = true := rfl
theorem nrow_plains (n : Nat) : X.plains (nrow n) := ⟨trivial, trivial⟩
end Go.AW
/- Plain lemmas on lists with getD. -/
namespace Go.AW

section
variable {α : Type} {l m : List α} {i j n : Nat} {d a x : α}
theorem getD_at (h : i < l.length) : l[i]? = some (l.getD i d) := by
  rw [List.getD_eq_getElem?_getD, List.getElem?_eq_getElem h]; rfl
theorem getD_of (h : l[i]? = some a) : l.getD i d = a := by rw [List.getD_eq_getElem?_getD, h]; rfl
theorem getD_out (h : l.length ≤ i) : l.getD i d = d := by rw [List.getD_eq_getElem?_getD, List.getElem?_eq_none h]; rfl
theorem mem_getD (h : i < l.length) : l.getD i d ∈ l := List.mem_of_getElem? (getD_at h)
theorem lset_eq (l : List α) (i j : Nat) (a d : α) : (l.set i a).getD j d = if i = j ∧ i < l.length then a else l.getD j d := by
  rw [List.getD_eq_getElem?_getD, List.getElem?_set]
  split
  · rename_i h
    subst h
    split
    · rename_i h2; rw [if_pos ⟨rfl, h2⟩]; rfl
    · rename_i h2; rw [if_neg (fun h => h2 h.2), getD_out (by omega)]; rfl
  · rename_i h
    rw [if_neg (fun h' => h h'.1), List.getD_eq_getElem?_getD]
theorem lset_self (h : i < l.length) : (l.set i a).getD i d = a := by rw [lset_eq, if_pos ⟨rfl, h⟩]
theorem lset_ne (h : i ≠ j) : (l.set i a).getD j d = l.getD j d := by rw [lset_eq, if_neg (fun h' => h h'.1)]
theorem getD_app_left (h : i < l.length) : (l ++ m).getD i d = l.getD i d := by
  rw [List.getD_eq_getElem?_getD, List.getElem?_append_left h, List.getD_eq_getElem?_getD]
theorem getD_app_right (h : l.length ≤ i) : (l ++ m).getD i d = m.getD (i - l.length) d := by
  rw [List.getD_eq_getElem?_getD, List.getElem?_append_right h, List.getD_eq_getElem?_getD]
theorem getD_app_self : (l ++ [a]).getD l.length d = a := by rw [getD_app_right (Nat.le_refl _), Nat.sub_self]; rfl
theorem getD_rep (h : i < n) : (List.replicate n a).getD i d = a := by
  rw [List.getD_eq_getElem?_getD, List.getElem?_replicate, if_pos h]; rfl
theorem mem_take_succ (h : i < l.length) : x ∈ l.take (i + 1) ↔ x ∈ l.take i ∨ x = l.getD i d := by
  rw [List.take_add_one, getD_at (d := d) h]
  simp
theorem take_all (h : l.length ≤ i) : l.take i = l := List.take_of_length_le h
theorem take_succ_getD (h : i < l.length) : l.take (i + 1) = l.take i ++ [l.getD i d] := by
  rw [List.take_add_one, getD_at (d := d) h]; rfl
theorem ext_getD (d : α) (h : l.length = m.length) (he : ∀ i, i < l.length → l.getD i d = m.getD i d) : l = m := by
  apply List.ext_getElem?
  intro i
  rcases Nat.lt_or_ge i l.length with hl | hl
  · rw [getD_at (d := d) hl, getD_at (d := d) (by omega), he i hl]
  · rw [List.getElem?_eq_none hl, List.getElem?_eq_none (by omega)]
theorem getD_map {β : Type} {f : α → β} {e : β} (h : i < l.length) : (l.map f).getD i e = f (l.getD i d) := by
  rw [List.getD_eq_getElem?_getD, List.getElem?_map, getD_at (d := d) h]; rfl
theorem getD_take (h : i < n) : (l.take n).getD i d = l.getD i d := by
  rw [List.getD_eq_getElem?_getD, List.getElem?_take_of_lt h, List.getD_eq_getElem?_getD]
theorem getD_drop : (l.drop n).getD i d = l.getD (n + i) d := by
  rw [List.getD_eq_getElem?_getD, List.getElem?_drop, List.getD_eq_getElem?_getD]
theorem mem_exists_getD (h : x ∈ l) (d : α) : ∃ i, i < l.length ∧ l.getD i d = x := by
  obtain ⟨i, hi⟩ := List.getElem?_of_mem h
  exact ⟨i, (List.getElem?_eq_some_iff.1 hi).1, getD_of hi⟩
/-- What holds below i and of i holds below i + 1. -/
theorem below_succ {p : Nat → Prop} (h : ∀ j, j < i → p j) (hp : p i) : ∀ j, j < i + 1 → p j := by
  intro j hj
  rcases Nat.lt_or_ge j i with h1 | h1
  · exact h j h1
  · obtain rfl : j = i := by omega
    exact hp
end
end Go.AW
/- Part of the abstract walk: what a row reads, whatever its type, as the walk sees it. -/
namespace Go.AW
open Go Go.ChangeShapes Go.WideShapes Go.Deep Go.RowKit

theorem RXs.app0 {E : Env} : ∀ {xs ys : List X} {cs ds : List Value}, RXs E xs cs [] → RXs E ys ds [] → RXs E (xs ++ ys) (cs ++ ds) []
  | [], _, _, _, h, h' => by simp only [RXs] at h; rw [h.1]; exact h'
  | x :: r, ys, cs, ds, h, h' => by
    simp only [RXs] at h
    obtain ⟨c, cs', R₁, R₂, rfl, hs, h1, h2, hR⟩ := h
    obtain ⟨rfl, rfl⟩ := List.append_eq_nil_iff.1 hR.symm
    simp only [List.cons_append, RXs]
    exact ⟨c, cs' ++ ds, [], [], rfl, hs, h1, RXs.app0 h2 h', rfl⟩
theorem RXs.v1 {E : Env} {u : Value} (h : Single u) : RXs E [.v u] [u] [] := by
  simp only [RXs]
  exact ⟨u, [], [], [], rfl, h, by simp [RX], ⟨rfl, rfl⟩, rfl⟩
theorem RXs.len {E : Env} : ∀ {xs : List X} {cs : List Value} {R : List Nat}, RXs E xs cs R → xs.length = cs.length
  | [], _, _, h => by simp only [RXs] at h; rw [h.1]; rfl
  | x :: r, cs, R, h => by
    simp only [RXs] at h
    obtain ⟨c, cs', R₁, R₂, rfl, _, _, h2, _⟩ := h
    simp [RXs.len h2]
theorem RF.ofX {E : Env} {b : Nat} : ∀ {row : List X} {cs : List Value} {off : Nat}, RXs E row cs [] → X.nrs row = true → (∀ (j : Nat) c, cs[j]? = some c → E.φ b (off + j) = some c) → RF E row b off
  | [], _, _, _, _, _ => by simp [RF]
  | x :: r, cs, off, h, hn, hc => by
    simp only [RXs] at h
    obtain ⟨c, cs', R₁, R₂, rfl, hs, h1, h2, hR⟩ := h
    obtain ⟨rfl, rfl⟩ := List.append_eq_nil_iff.1 hR.symm
    simp only [X.nrs, Bool.and_eq_true] at hn
    simp only [RF]
    refine ⟨⟨c, by simpa using hc 0 c rfl, hs, hn.1, h1⟩, RF.ofX h2 hn.2 fun j c' hj => ?_⟩
    rw [show off + 1 + j = off + (j + 1) by omega]
    exact hc (j + 1) c' (by simpa using hj)

mutual
/-- How much is read. -/
def blk {H : Type} : DataW H → Nat
  | .lit (.string bytes) => bytes.length + 1
  | .lit _ => 1
  | .nil => 1
  | .ptr d => blk d + 1
  | .slice elems spare => blkAll elems + blkAll spare + 1
  | .agg parts => blkAll parts + 1
  | .iface _ d => blk d + 1
  | .map entries => blkEntries entries + 1
  | .held _ => 1
def blkAll {H : Type} : List (DataW H) → Nat
  | [] => 0
  | d :: r => blk d + blkAll r
def blkEntries {H : Type} : List (Lit × DataW H) → Nat
  | [] => 0
  | x :: r => blkEntry x + blkEntries r
def blkEntry {H : Type} : Lit × DataW H → Nat
  | (.string bytes, d) => bytes.length + blk d + 1
  | (_, d) => blk d + 1
end
theorem sum_le_blkAll {H α : Type} {m : α → Nat} : ∀ {l : List α} {ds : List (DataW H)}, l.length = ds.length → (∀ (i : Nat) a d, l[i]? = some a → ds[i]? = some d → m a ≤ blk d) → (l.map m).sum ≤ blkAll ds
  | [], _, _, _ => by simp
  | a :: l, [], h, _ => by simp at h
  | a :: l, d :: ds, h, hm => by
    have h1 := hm 0 a d rfl rfl
    have h2 := sum_le_blkAll (l := l) (ds := ds) (by simpa using h) (fun i a' d' ha hd => hm (i + 1) a' d' (by simpa using ha) (by simpa using hd))
    simp only [List.map_cons, List.sum_cons, blkAll]; omega
section
variable {H : Type} (enc : TypeId × Value → H) (P : Program) (W : World) (base : Nat)
/-- The datum is of a size that lies in memory. -/
def Sz {H : Type} (P : Program) (t : TypeId) (d : DataW H) : Prop := ∀ n ∈ d.weights P t, n ≤ 140737488351232
/-- What can be read as t is some α. -/
def Reads (t : TypeId) {α : Type} (f : α → List X) (p : α → Prop) (m : α → Nat) : Prop :=
  ∀ (n : Nat) (cs : List Value) (y : DataW H × List MemPlace), DataW.trod enc P W base (fun _ => true) true n t cs = some y → Sz P t y.1 →
    ∃ a : α, p a ∧ RXs (E0 W) (f a) cs [] ∧ X.frees (f a) = true ∧ X.nrs (f a) = true ∧ m a ≤ blk y.1
/-- .. as fields one after the other, from off on. -/
def ReadsL (fl : List Field) (off m : Nat) {α : Type} (f : α → List X) (p : α → Prop) (mm : α → Nat) : Prop :=
  ∀ (n : Nat) (cs : List Value) (xs : List (DataW H × List MemPlace)), off + m ≤ cs.length → xs.length = fl.length →
    (∀ (i : Nat) (fd : Field), fl[i]? = some fd → DataW.trod enc P W base (fun _ => true) true n fd.type ((cs.drop fd.offset).take (P.cellsOf fd.type)) = xs[i]?) →
    (∀ (i : Nat) (fd : Field) (x : DataW H × List MemPlace), fl[i]? = some fd → xs[i]? = some x → Sz P fd.type x.1) →
    ∃ a : α, p a ∧ RXs (E0 W) (f a) ((cs.drop off).take m) [] ∧ X.frees (f a) = true ∧ X.nrs (f a) = true ∧ mm a ≤ blkAll (xs.map (·.1))
end

section
variable {H : Type} {enc : TypeId × Value → H} {P : Program} {W : World} {base : Nat} {t e : TypeId} {α β : Type} {f : α → List X} {p : α → Prop} {g : β → List X} {q : β → Prop} {mf : α → Nat} {mg : β → Nat}

theorem frees_app : ∀ {a b : List X}, X.frees a = true → X.frees b = true → X.frees (a ++ b) = true
  | [], _, _, h => h
  | x :: r, b, h, h' => by
    simp only [X.frees, Bool.and_eq_true, List.cons_append] at h ⊢
    exact ⟨h.1, frees_app h.2 h'⟩
theorem nrs_app : ∀ {a b : List X}, X.nrs a = true → X.nrs b = true → X.nrs (a ++ b) = true
  | [], _, _, h => h
  | x :: r, b, h, h' => by
    simp only [X.nrs, Bool.and_eq_true, List.cons_append] at h ⊢
    exact ⟨h.1, nrs_app h.2 h'⟩

theorem Reads.map (φ : α → β) (h : Reads enc P W base t f p mf) (hf : ∀ a, g (φ a) = f a) (hp : ∀ a, p a → q (φ a)) (hm : ∀ a, mg (φ a) ≤ mf a) : Reads enc P W base t g q mg := by
  intro n cs y hy hs
  obtain ⟨a, h1, h2, h3, h4, h5⟩ := h n cs y hy hs
  exact ⟨φ a, hp a h1, by rw [hf]; exact h2, by rw [hf]; exact h3, by rw [hf]; exact h4, Nat.le_trans (hm a) h5⟩
theorem Reads.int {k : IntKind} (he : P.underlying t = some (.int k)) : Reads enc P W base t (fun z : Int => [.v (.int k z)]) (fun z => (Lit.int k z).wf = true) (fun _ => 1) := by
  intro n cs y hy _
  obtain ⟨z, rfl, hd, hw⟩ := DataW.trod_int he hy
  exact ⟨z, hw, RXs.v1 trivial, rfl, rfl, by rw [hd]; exact Nat.le_refl _⟩
theorem Reads.bool (he : P.underlying t = some .bool) : Reads enc P W base t (fun z : Bool => [.v (.bool z)]) (fun _ => True) (fun _ => 1) := by
  intro n cs y hy _
  obtain ⟨z, rfl, hd⟩ := DataW.trod_bool he hy
  exact ⟨z, trivial, RXs.v1 trivial, rfl, rfl, by rw [hd]; exact Nat.le_refl _⟩
theorem Reads.nat64 (he : P.underlying t = some (.int .u64)) : Reads enc P W base t (fun z : Nat => [.v (.int .u64 (z : Int))]) (fun z => z < 18446744073709551616) (fun _ => 1) := by
  intro n cs y hy _
  obtain ⟨z, rfl, hd, hw⟩ := DataW.trod_int he hy
  simp only [Lit.wf, IntKind.min, IntKind.max, IntKind.signed, IntKind.bits] at hw
  simp at hw
  obtain ⟨m, rfl⟩ := Int.eq_ofNat_of_zero_le (show 0 ≤ z by omega)
  exact ⟨m, by omega, RXs.v1 trivial, rfl, rfl, by rw [hd]; exact Nat.le_refl _⟩
theorem Reads.nat8 (he : P.underlying t = some (.int .u8)) : Reads enc P W base t (fun z : Nat => [.v (.int .u8 (z : Int))]) (fun z => z < 256) (fun _ => 1) := by
  intro n cs y hy _
  obtain ⟨z, rfl, hd, hw⟩ := DataW.trod_int he hy
  simp only [Lit.wf, IntKind.min, IntKind.max, IntKind.signed, IntKind.bits] at hw
  simp at hw
  obtain ⟨m, rfl⟩ := Int.eq_ofNat_of_zero_le (show 0 ≤ z by omega)
  exact ⟨m, by omega, RXs.v1 trivial, rfl, rfl, by rw [hd]; exact Nat.le_refl _⟩
theorem Reads.str (he : P.underlying t = some .string) : Reads enc P W base t (fun z : ByteArray => [.v (.string z)]) (fun z => z.size ≤ 140737488351232) (fun _ => 0) := by
  intro n cs y hy hs
  obtain ⟨z, rfl, rfl, _⟩ := DataW.trod_string he hy
  refine ⟨z, ?_, RXs.v1 trivial, rfl, rfl, Nat.zero_le _⟩
  have := hs z.data.toList.length (by simp [DataW.weights])
  simpa using this

theorem weightsAll_mem {H : Type} {P : Program} {e : TypeId} : ∀ {ds : List (DataW H)} {d : DataW H}, d ∈ ds → ∀ n ∈ d.weights P e, n ∈ DataW.weightsAll P e ds
  | d' :: r, d, h, n, hn => by
    simp only [DataW.weightsAll, List.mem_append]
    rcases List.mem_cons.1 h with rfl | h
    · exact .inl hn
    · exact .inr (weightsAll_mem h n hn)

theorem Reads.slice [Inhabited α] {s B : Nat} (ht : P.underlying t = some (.slice e)) (hC : P.cellsOf e = s) (hs : 0 < s) (hB : P.bytesOf e = B) (he : Reads enc P W base e f p mf) :
    Reads enc P W base t (fun l : List α => [.fz s (l.map f)]) (fun l => l.length * B ≤ 140737488351232 ∧ ∀ a ∈ l, p a) (fun l => (l.map mf).sum) := by
  intro fuel cs y hy hsz
  rcases open_slice ht hy with ⟨rfl, rfl⟩ | ⟨a, len, cap, m, n, D, Pl, rfl, _, hl, _, hm, rfl, hi⟩
  · refine ⟨[], ⟨by simp, fun _ h => by cases h⟩, ?_, rfl, rfl, by simp⟩
    simp only [RXs, List.map_nil]
    refine ⟨.slice none 0 0, [], [], [], rfl, trivial, ?_, ⟨rfl, by trivial⟩, rfl⟩
    simp only [RX]
    exact ⟨trivial, (fun _ h => by cases h), none, 0, rfl, .inl ⟨by trivial, rfl⟩⟩
  · simp only [if_true] at hm
    subst hm
    rw [hC] at hi
    have hD : ∀ i, i < m → Sz P e (D i) := by
      intro i him k hk
      refine hsz k ?_
      simp only [DataW.weights, ht, List.mem_cons, List.mem_append]
      right
      by_cases hil : i < len
      · exact .inl (weightsAll_mem (List.mem_map.2 ⟨i, List.mem_range.2 hil, rfl⟩) k hk)
      · refine .inr (weightsAll_mem (List.mem_map.2 ⟨i - len, List.mem_range.2 (by omega), ?_⟩) k hk)
        congr 1; omega
    have hch : ∀ i, ∃ x : α, i < len → ∃ cs, W.cells? base (a.add (i * s)) s = some cs ∧ p x ∧ RXs (E0 W) (f x) cs [] ∧ X.frees (f x) = true ∧ X.nrs (f x) = true ∧ mf x ≤ blk (D i) := by
      intro i
      by_cases hil : i < len
      · obtain ⟨cs, hc, ht'⟩ := hi i (by omega)
        obtain ⟨x, h0, h1, h2, h3, h4⟩ := he n cs _ ht' (hD i (by omega))
        exact ⟨x, fun _ => ⟨cs, hc, h0, h1, h2, h3, h4⟩⟩
      · exact ⟨default, fun h => absurd h hil⟩
    obtain ⟨g, hg⟩ := Classical.axiomOfChoice hch
    refine ⟨(List.range len).map g, ⟨?_, ?_⟩, ?_, rfl, rfl, ?_⟩
    rotate_right
    · refine Nat.le_trans (sum_le_blkAll (m := mf) (ds := (List.range len).map D) (by simp) ?_) (by show _ ≤ blkAll _ + blkAll _ + 1; omega)
      intro i a' d' ha hd
      simp only [List.getElem?_map, Option.map_eq_some_iff] at ha hd
      obtain ⟨k, hk, rfl⟩ := ha
      obtain ⟨k', hk', rfl⟩ := hd
      rw [hk] at hk'
      obtain rfl := Option.some.inj hk'
      have hkl : i < len := by have := (List.getElem?_eq_some_iff.1 hk).1; simpa using this
      have hki : k = i := by rw [List.getElem?_range hkl] at hk; exact (Option.some.inj hk).symm
      subst hki
      obtain ⟨_, _, _, _, _, _, h5⟩ := hg k hkl
      exact h5
    · have z := hsz ((((List.range len).map D).length + ((List.range (m - len)).map fun j => D (len + j)).length) * P.bytesOf e) (by simp [DataW.weights, ht])
      rw [hB] at z
      simp only [List.length_map, List.length_range] at z ⊢
      exact Nat.le_trans (Nat.mul_le_mul_right _ (by omega)) z
    · intro x hx
      simp only [List.mem_map, List.mem_range] at hx
      obtain ⟨i, hi', rfl⟩ := hx
      obtain ⟨_, _, h0, _⟩ := hg i hi'
      exact h0
    · have hu : Uniform s (((List.range len).map g).map f) := by
        intro r hr
        simp only [List.map_map, List.mem_map, List.mem_range, Function.comp] at hr
        obtain ⟨i, hi', rfl⟩ := hr
        obtain ⟨cs, hc, _, h1, _⟩ := hg i hi'
        rw [RXs.len h1]
        exact (World.cells?_some hc).2.1
      simp only [RXs]
      refine ⟨_, [], [], [], rfl, trivial, ?_, ⟨rfl, rfl⟩, rfl⟩
      simp only [RX]
      refine ⟨trivial, hu, some a, m, by simp, ?_⟩
      by_cases hm0 : m = 0
      · exact .inl ⟨by simp [show len = 0 by omega], hm0⟩
      · have hspot : a = ⟨a.block, a.off, none⟩ := by
          obtain ⟨cs, hc, _⟩ := hi 0 (by omega)
          have h1 := (World.cells?_some hc).2.2 0 hs
          have hlen := (World.cells?_some hc).2.1
          simp only [Nat.zero_mul, Addr.add, if_true] at h1
          rw [List.getElem?_eq_getElem (show 0 < cs.length by omega)] at h1
          unfold World.cell? at h1
          obtain ⟨b, o, sp⟩ := a
          cases sp with
          | none => rfl
          | some q => split at h1 <;> simp at h1
        refine .inr ⟨a.block, a.off, by rw [← hspot], by simp; omega, RFr.of hu ?_⟩
        intro i row hrow
        simp only [List.map_map, List.getElem?_map, Option.map_eq_some_iff, Function.comp] at hrow
        obtain ⟨k, hk, rfl⟩ := hrow
        have hkl : i < len := by have := (List.getElem?_eq_some_iff.1 hk).1; simpa using this
        have hki : k = i := by rw [List.getElem?_range hkl] at hk; exact (Option.some.inj hk).symm
        subst hki
        obtain ⟨cs, hc, _, h1, _, h2, _⟩ := hg k hkl
        refine RF.ofX h1 h2 fun j c hcj => ?_
        have hjl : j < s := by have := (List.getElem?_eq_some_iff.1 hcj).1; rw [(World.cells?_some hc).2.1] at this; exact this
        have h3 := (World.cells?_some hc).2.2 j hjl
        rw [hcj, add_add, hspot, add_mk] at h3
        show W.cell? _ = _
        rw [← h3]
        congr 2
        omega

theorem ReadsL.nil {off : Nat} : ReadsL enc P W base [] off 0 (fun _ : Unit => []) (fun _ => True) (fun _ => 0) := by
  intro n cs xs _ _ _ _
  exact ⟨(), trivial, by simp [RXs], rfl, rfl, Nat.zero_le _⟩
theorem ReadsL.cons {fd : Field} {fl : List Field} {off s m : Nat} (ho : fd.offset = off) (hC : P.cellsOf fd.type = s) (h : Reads enc P W base fd.type f p mf) (hr : ReadsL enc P W base fl (off + s) m g q mg) :
    ReadsL enc P W base (fd :: fl) off (s + m) (fun x : α × β => f x.1 ++ g x.2) (fun x => p x.1 ∧ q x.2) (fun x => mf x.1 + mg x.2) := by
  intro n cs xs hlen hxl hx hsz
  cases xs with
  | nil => simp at hxl
  | cons x xs =>
    have h0 := hx 0 fd rfl
    rw [ho, hC] at h0
    obtain ⟨a, ha, h1, h2, h3, h4⟩ := h n _ x h0 (hsz 0 fd x rfl rfl)
    obtain ⟨b, hb, g1, g2, g3, g4⟩ := hr n cs xs (by omega) (by simpa using hxl) (fun i fd' hi => by simpa using hx (i + 1) fd' (by simpa using hi)) (fun i fd' x' hi hx' => hsz (i + 1) fd' x' (by simpa using hi) (by simpa using hx'))
    refine ⟨(a, b), ⟨ha, hb⟩, ?_, frees_app h2 g2, nrs_app h3 g3, by simp only [List.map_cons, blkAll]; omega⟩
    have hsplit : (cs.drop off).take (s + m) = (cs.drop off).take s ++ (cs.drop (off + s)).take m := by
      rw [List.take_add, List.drop_drop]
    rw [hsplit]
    exact RXs.app0 h1 g1

theorem weightsEach_mem {H : Type} {P : Program} : ∀ {fl : List Field} {xs : List (DataW H × List MemPlace)} {i : Nat} {fd : Field} {x : DataW H × List MemPlace}, fl[i]? = some fd → xs[i]? = some x →
    ∀ n ∈ x.1.weights P fd.type, n ∈ DataW.weightsEach P (fl.map (·.type)) (xs.map (·.1))
  | f :: fl, y :: xs, 0, fd, x, h, h', n, hn => by
    simp only [List.getElem?_cons_zero, Option.some.injEq] at h h'
    subst h h'
    simp only [List.map_cons, DataW.weightsEach, List.mem_append]
    exact .inl hn
  | f :: fl, y :: xs, i + 1, fd, x, h, h', n, hn => by
    simp only [List.map_cons, DataW.weightsEach, List.mem_append]
    exact .inr (weightsEach_mem (i := i) (by simpa using h) (by simpa using h') n hn)
theorem Reads.struct {fs : Array Field} {m : Nat} (ht : P.underlying t = some (.struct fs)) (hC : P.cellsOf t = m) (h : ReadsL enc P W base fs.toList 0 m f p mf) : Reads enc P W base t f p mf := by
  intro fuel cs y hy hsz
  obtain ⟨xs, n, _, rfl, hlen, hxl, hx⟩ := DataW.trod_struct ht hy
  obtain ⟨a, ha, h1, h2, h3, h4⟩ := h n cs xs (by omega) (by simpa using hxl) (fun i fd hi => hx i fd (by simpa using hi)) (fun i fd x hi hx' k hk => by
    refine hsz k ?_
    simp only [DataW.weights, ht]
    exact weightsEach_mem hi hx' k hk)
  refine ⟨a, ha, ?_, h2, h3, by show _ ≤ blkAll _ + 1; omega⟩
  rw [List.drop_zero, List.take_of_length_le (by omega)] at h1
  exact h1
theorem Reads.arr2 {s : Nat} (ht : P.underlying t = some (.array 2 e)) (hC : P.cellsOf e = s) (hT : P.cellsOf t = 2 * s) (h : Reads enc P W base e f p mf) :
    Reads enc P W base t (fun x : α × α => f x.1 ++ f x.2) (fun x => p x.1 ∧ p x.2) (fun _ => 0) := by
  intro fuel cs y hy hsz
  obtain ⟨xs, n, _, rfl, hlen, hxl, hx⟩ := DataW.trod_array ht hy
  match xs, hxl with
  | [x0, x1], _ =>
    have w0 : ∀ x ∈ [x0, x1], Sz P e x.1 := fun x hx k hk => hsz k (by
      simp only [DataW.weights, ht]
      exact weightsAll_mem (List.mem_map.2 ⟨x, hx, rfl⟩) k hk)
    obtain ⟨a, ha, a1, a2, a3, _⟩ := h n _ x0 (hx 0 (by omega)) (w0 x0 (by simp))
    obtain ⟨b, hb, b1, b2, b3, _⟩ := h n _ x1 (hx 1 (by omega)) (w0 x1 (by simp))
    refine ⟨(a, b), ⟨ha, hb⟩, ?_, frees_app a2 b2, nrs_app a3 b3, Nat.zero_le _⟩
    have hsplit : cs = (cs.drop (0 * P.cellsOf e)).take (P.cellsOf e) ++ (cs.drop (1 * P.cellsOf e)).take (P.cellsOf e) := by
      rw [Nat.zero_mul, Nat.one_mul, List.drop_zero, hC, List.take_of_length_le (l := cs.drop s) (by rw [List.length_drop]; omega), List.take_append_drop]
    rw [hsplit]
    exact RXs.app0 a1 b1
theorem Reads.arr3 {s : Nat} (ht : P.underlying t = some (.array 3 e)) (hC : P.cellsOf e = s) (hT : P.cellsOf t = 3 * s) (h : Reads enc P W base e f p mf) :
    Reads enc P W base t (fun x : α × α × α => f x.1 ++ (f x.2.1 ++ f x.2.2)) (fun x => p x.1 ∧ p x.2.1 ∧ p x.2.2) (fun _ => 0) := by
  intro fuel cs y hy hsz
  obtain ⟨xs, n, _, rfl, hlen, hxl, hx⟩ := DataW.trod_array ht hy
  match xs, hxl with
  | [x0, x1, x2], _ =>
    have w0 : ∀ x ∈ [x0, x1, x2], Sz P e x.1 := fun x hx k hk => hsz k (by
      simp only [DataW.weights, ht]
      exact weightsAll_mem (List.mem_map.2 ⟨x, hx, rfl⟩) k hk)
    obtain ⟨a, ha, a1, a2, a3, _⟩ := h n _ x0 (hx 0 (by omega)) (w0 x0 (by simp))
    obtain ⟨b, hb, b1, b2, b3, _⟩ := h n _ x1 (hx 1 (by omega)) (w0 x1 (by simp))
    obtain ⟨c, hc, c1, c2, c3, _⟩ := h n _ x2 (hx 2 (by omega)) (w0 x2 (by simp))
    refine ⟨(a, b, c), ⟨ha, hb, hc⟩, ?_, frees_app a2 (frees_app b2 c2), nrs_app a3 (nrs_app b3 c3), Nat.zero_le _⟩
    have hsplit : cs = (cs.drop (0 * P.cellsOf e)).take (P.cellsOf e) ++ ((cs.drop (1 * P.cellsOf e)).take (P.cellsOf e) ++ (cs.drop (2 * P.cellsOf e)).take (P.cellsOf e)) := by
      rw [Nat.zero_mul, Nat.one_mul, List.drop_zero, hC, List.take_of_length_le (l := cs.drop (2 * s)) (by rw [List.length_drop]; omega), show 2 * s = s + s by omega, ← List.drop_drop, List.take_append_drop, List.take_append_drop]
    rw [hsplit]
    exact RXs.app0 a1 (RXs.app0 b1 c1)

/-- An argument of one cell. -/
theorem Reads.one {x : α → X} {v : Value} {d : DataW H} {ps : List MemPlace} (h : Reads enc P W base t (fun a => [x a]) p mf) (hs : Sz P t d) (hv : v.cells.toList = [v]) (ht : DataW.Trod enc P W base (fun _ => true) true t v d ps) :
    ∃ a, p a ∧ RX (E0 W) (x a) v [] ∧ mf a ≤ blk d := by
  obtain ⟨fuel, hf⟩ := ht
  rw [hv] at hf
  obtain ⟨a, ha, h1, _, _, h5⟩ := h fuel _ _ hf hs
  simp only [RXs] at h1
  obtain ⟨c, cs', R₁, R₂, hc, _, h2, _, hR⟩ := h1
  obtain ⟨rfl, rfl⟩ := List.append_eq_nil_iff.1 hR.symm
  simp only [List.cons.injEq] at hc
  exact ⟨a, ha, by rw [hc.1]; exact h2, h5⟩
/-- A struct as an argument. -/
theorem Reads.agg {cs : Array Value} {d : DataW H} {ps : List MemPlace} (h : Reads enc P W base t f p mf) (hs : Sz P t d) (ht : DataW.Trod enc P W base (fun _ => true) true t (.agg cs) d ps) :
    ∃ a, p a ∧ RX (E0 W) (.agg (f a)) (.agg cs) [] ∧ mf a ≤ blk d := by
  obtain ⟨fuel, hf⟩ := ht
  obtain ⟨a, ha, h1, _, _, h5⟩ := h fuel _ _ hf hs
  exact ⟨a, ha, by simp only [RX]; exact ⟨cs, rfl, h1⟩, h5⟩
/-- The sizes of the arguments. -/
theorem Sz.of {ts : List TypeId} {ds : List (DataW H)} (h : (DataW.weightsEach P ts ds).all (· ≤ reachBytes) = true) {j : Nat} {d : DataW H} (hts : ts[j]? = some t) (hds : ds[j]? = some d) : Sz P t d := by
  intro n hn
  have := List.all_eq_true.1 h _ (DataW.weights_mem_each hts hds n hn)
  have h2 := of_decide_eq_true this
  exact h2
end
end Go.AW
/- Part of the abstract walk: in an open order, operations that leave memory as it is may be taken in a row, if nothing else can come up before them. -/
namespace Go.AW
open Go

/-- The op j waits for i. -/
def waitsB (ops : Array Oper) (j i : Nat) : Bool := match ops[j]? with
  | some o => o.after.any fun e => Region.binds .any e && e.on == i
  | none => false
/-- l may be taken in a row: whoever else has not come up waits for t, or is t; and t waits for all of l, by way of l. -/
def rowB (ops : Array Oper) (l rest : List Nat) (t : Nat) (listed : Array Bool) : Bool :=
  listed.size == ops.size && ((List.range ops.size).all fun j => !listed.getD j false || match ops[j]? with
    | some o => o.after.all fun e => !Region.binds .any e || listed.getD e.on false
    | none => true) && ((List.range ops.size).all fun j => listed.getD j true || l.contains j || rest.contains j) && (rest.all fun j => !listed.getD j true && !l.contains j) && (l.all fun j => !listed.getD j true) &&
    (rest.isEmpty || l.all fun i => (t :: l).any fun j => decide (i < j) && waitsB ops j i) && (rest.all fun j => j == t || rest.any fun k => waitsB ops j k) && decide l.Nodup

structure On (ops : Array Oper) (l0 rest : List Nat) (t : Nat) (l : List Nat) (listed : Array Bool) : Prop where
  size : listed.size = ops.size
  closed : ∀ j o, ops[j]? = some o → listed.getD j false = true → ∀ e ∈ o.after, Region.binds .any e = true → listed.getD e.on false = true
  part : ∀ j, listed.getD j true = false → j ∈ l ∨ j ∈ rest
  out : ∀ j ∈ rest, listed.getD j true = false ∧ j ∉ l0
  open_ : ∀ j ∈ l, listed.getD j true = false
  sub : ∀ j ∈ l, j ∈ l0
  sink : rest ≠ [] → ∀ i ∈ l0, ∃ j, (j = t ∨ j ∈ l0) ∧ i < j ∧ waitsB ops j i = true
  wait : ∀ j ∈ rest, j = t ∨ ∃ k ∈ rest, waitsB ops j k = true
  nodup : l.Nodup

theorem getD_flip {listed : Array Bool} {i : Nat} (h : listed.getD i true = false) : listed.getD i false = false := by
  rcases Nat.lt_or_ge i listed.size with h' | h'
  · simp [h'] at h ⊢; exact h
  · simp [Array.getElem?_eq_none h'] at h
theorem getD_flip' {listed : Array Bool} {i : Nat} (hi : i < listed.size) (h : listed.getD i false = false) : listed.getD i true = false := by
  simp [hi] at h ⊢; exact h
theorem waitsB_spec {ops : Array Oper} {j i : Nat} (h : waitsB ops j i = true) : ∃ o, ops[j]? = some o ∧ ∃ e ∈ o.after, Region.binds .any e = true ∧ e.on = i := by
  unfold waitsB at h
  split at h
  · rename_i o ho
    obtain ⟨e, he, hb⟩ := Array.any_eq_true'.1 h
    simp only [Bool.and_eq_true, beq_iff_eq] at hb
    exact ⟨o, ho, e, he, hb.1, hb.2⟩
  · cases h
theorem rowB_on {ops : Array Oper} {l rest : List Nat} {t : Nat} {listed : Array Bool} (h : rowB ops l rest t listed = true) : On ops l rest t l listed := by
  simp only [rowB, Bool.and_eq_true, beq_iff_eq, List.all_eq_true, decide_eq_true_eq, List.mem_range, Bool.or_eq_true, Bool.not_eq_true', List.any_eq_true, List.contains_iff_mem] at h
  obtain ⟨⟨⟨⟨⟨⟨⟨h1, h2⟩, h3⟩, h4⟩, h5⟩, h6⟩, h7⟩, h8⟩ := h
  refine ⟨h1, ?_, ?_, ?_, h5, fun _ h => h, ?_, ?_, h8⟩
  · intro j o ho hl e he hb
    have := h2 j (Array.getElem?_eq_some_iff.1 ho).1
    rw [hl, ho] at this
    simp only [Bool.true_eq_false, false_or] at this
    have h9 := Array.all_eq_true_iff_forall_mem.1 this e he
    simpa [hb] using h9
  · intro j hj
    have hjs : j < ops.size := by
      rcases Nat.lt_or_ge j listed.size with h' | h'
      · omega
      · simp [Array.getElem?_eq_none h'] at hj
    have := h3 j hjs
    rw [hj] at this
    simpa using this
  · intro j hj
    have := h4 j hj
    exact ⟨this.1, by simpa using this.2⟩
  · intro hne i hi
    obtain ⟨j, hj, hlt, hw⟩ := (h6.resolve_left (by simpa using hne)) i hi
    exact ⟨j, by simpa using hj, hlt, hw⟩
  · intro j hj
    exact h7 j hj
theorem not_ready {ops : Array Oper} {listed : Array Bool} {j k : Nat} (hw : waitsB ops j k = true) (hk : listed.getD k true = false) : j ∉ Region.ready .any ops listed := by
  intro hj
  obtain ⟨_, o, ho, hall⟩ := mem_ready.1 hj
  obtain ⟨o', ho', e, he, hb, hon⟩ := waitsB_spec hw
  rw [ho] at ho'
  cases ho'
  have := hall e he hb
  rw [hon, getD_flip hk] at this
  cases this
theorem exists_max : ∀ {l : List Nat}, l ≠ [] → ∃ m ∈ l, ∀ x ∈ l, x ≤ m
  | [], h => absurd rfl h
  | [a], _ => ⟨a, by simp, by simp⟩
  | a :: b :: r, _ => by
    obtain ⟨m, hm, hx⟩ := exists_max (l := b :: r) (by simp)
    rcases Nat.le_total a m with h | h
    · exact ⟨m, List.mem_cons_of_mem _ hm, fun x hx' => by rcases List.mem_cons.1 hx' with rfl | hx'; exact h; exact hx x hx'⟩
    · exact ⟨a, by simp, fun x hx' => by rcases List.mem_cons.1 hx' with rfl | hx'; exact Nat.le_refl _; exact Nat.le_trans (hx x hx') h⟩
/-- As long as some of l have not come up, only these can come up. -/
theorem On.ready {ops : Array Oper} {l0 rest l : List Nat} {t : Nat} {listed : Array Bool} (h : On ops l0 rest t l listed) (hne : l ≠ []) : ∀ j ∈ Region.ready .any ops listed, j ∈ l := by
  intro j hj
  have hun := (mem_ready.1 hj).1
  rcases h.part j hun with hl | hr
  · exact hl
  · exfalso
    rcases h.wait j hr with rfl | ⟨k, hk, hw⟩
    · obtain ⟨m, hm, hmax⟩ := exists_max hne
      obtain ⟨j', hj', hlt, hw⟩ := h.sink (fun e => by rw [e] at hr; cases hr) m (h.sub m hm)
      rcases hj' with rfl | hj'
      · exact not_ready hw (h.open_ m hm) hj
      · obtain ⟨o, ho, e, he, hb, hon⟩ := waitsB_spec hw
        cases hl : listed.getD j' false with
        | true =>
          have := h.closed j' o ho hl e he hb
          rw [hon, getD_flip (h.open_ m hm)] at this
          cases this
        | false =>
          have hs : j' < listed.size := by rw [h.size]; exact (Array.getElem?_eq_some_iff.1 ho).1
          rcases h.part j' (getD_flip' hs hl) with h1 | h1
          · have := hmax j' h1; omega
          · exact (h.out j' h1).2 hj'
    · exact not_ready hw (h.out k hk).1 hj
theorem On.step {ops : Array Oper} {l0 rest l : List Nat} {t j : Nat} {listed : Array Bool} (h : On ops l0 rest t l listed) (hj : j ∈ Region.ready .any ops listed) (hl : j ∈ l) : On ops l0 rest t (l.erase j) (listed.setIfInBounds j true) := by
  obtain ⟨_, oj, hoj, hall⟩ := mem_ready.1 hj
  have other : ∀ k (d : Bool), j ≠ k → (listed.setIfInBounds j true).getD k d = listed.getD k d := fun k d hjk => by
    simp only [Array.getD_eq_getD_getElem?, Array.getElem?_setIfInBounds_ne hjk]
  refine ⟨by simp [h.size], ?_, ?_, ?_, ?_, fun k hk => h.sub k (List.mem_of_mem_erase hk), h.sink, h.wait, h.nodup.erase j⟩
  · intro k o ho hk e he hb
    by_cases hjk : j = k
    · subst hjk
      rw [hoj] at ho
      cases ho
      exact getD_set_true (hall e he hb)
    · rw [other k false hjk] at hk
      exact getD_set_true (h.closed k o ho hk e he hb)
  · intro k hk
    by_cases hjk : j = k
    · subst hjk
      rw [Array.getD_eq_getD_getElem?] at hk
      rcases Nat.lt_or_ge j listed.size with h' | h'
      · simp [h'] at hk
      · simp at hk
    · rw [other k true hjk] at hk
      rcases h.part k hk with h1 | h1
      · exact .inl ((List.mem_erase_of_ne (fun e => hjk e.symm)).2 h1)
      · exact .inr h1
  · intro k hk
    have h1 := h.out k hk
    have hjk : j ≠ k := fun e => h1.2 (e ▸ h.sub j hl)
    exact ⟨by rw [other k true hjk]; exact h1.1, h1.2⟩
  · intro k hk
    have hjk : j ≠ k := fun e => by subst e; exact (List.Nodup.not_mem_erase h.nodup) hk
    rw [other k true hjk]; exact h.open_ k (List.mem_of_mem_erase hk)

section
variable {P : Program} {N : Frm} {ops : Array Oper} {d : Nat} {ty : TypeId} {pos : String} {af : Array Edge}
/-- Whatever of them comes up leaves memory as it is; behind all of them, L. -/
def Quiet (P : Program) (ops : Array Oper) (w : World) (L : Array Bool → Act → Prop) : Nat → Array Bool → Act → Prop
  | 0, listed, a => L listed a
  | n + 1, listed, a => Region.ready .any ops listed ≠ [] ∧ ∀ j ∈ Region.ready .any ops listed, stOp P ops w j (Quiet P ops w L n (listed.setIfInBounds j true)) a

theorem Quiet.any {w : World} {L : Array Bool → Act → Prop} {Q' : Exit → Act → World → Prop} {k : Nat} (hL : ∀ listed a, L listed a → wpAny P .any ops Q' k listed a w) :
    ∀ (n : Nat) (listed : Array Bool) (a : Act), Quiet P ops w L n listed a → wpAny P .any ops Q' (n + k) listed a w
  | 0, listed, a, h => by rw [Nat.zero_add]; exact hL _ _ h
  | n + 1, listed, a, h => by
    rw [Nat.add_right_comm]
    exact ⟨fun e => absurd e h.1, fun j hj => wpOp_of_stOp (fun a' => Quiet.any hL n _ a') (h.2 j hj)⟩

theorem Quiet.first {l0 rest : List Nat} {t : Nat} {w : World} {L : Array Bool → Act → Prop} {i : Nat} {oi : Oper} {v : Value} (hi : ops[i]? = some oi) (hsel : Region.noSelect ops = true) : ∀ (n : Nat) (l : List Nat) (listed : Array Bool) (a : Act),
    l.length = n → On ops l0 rest t (i :: l) listed → (∀ j oj, ops[j]? = some oj → j ≠ i → listed.getD j true = false → (∀ e ∈ oj.after, Region.binds .any e = true → e.on ≠ i) → oi.apart ops oj = true) →
    i ∈ Region.ready .any ops listed → YieldsAt P ops w oi v a → Quiet P ops w L n (listed.setIfInBounds i true) (a.put oi.dst v) → Quiet P ops w L (n + 1) listed a := by
  intro n
  induction n with
  | zero =>
    intro l listed a hl hB _ hr hy H
    refine ⟨fun e => (by rw [e] at hr; cases hr), fun j hj => ?_⟩
    have h1 := hB.ready (by simp) j hj
    have hl0 : l = [] := List.length_eq_zero_iff.1 hl
    subst hl0
    obtain rfl : j = i := by simpa using h1
    exact hy.stOp hi H
  | succ n ih =>
    intro l listed a hl hB hfree hr hy H
    refine ⟨fun e => (by rw [e] at hr; cases hr), fun j hj => ?_⟩
    by_cases hji : j = i
    · subst hji; exact hy.stOp hi H
    · have h1 := hB.ready (by simp) j hj
      have h2 := hB.step hj h1
      have hjl : j ∈ l := by simpa [hji] using h1
      have hne : (i == j) = false := by simpa using fun h => hji h.symm
      rw [List.erase_cons, hne] at h2
      obtain ⟨hun, oj, hoj, hall⟩ := mem_ready.1 hj
      have hnot : ∀ e ∈ oj.after, Region.binds .any e = true → e.on ≠ i := by
        intro e he hb heq
        have h3 := hall e he hb
        have h4 := (mem_ready.1 hr).1
        rw [heq] at h3
        rcases Nat.lt_or_ge i listed.size with h' | h'
        · simp [h'] at h3 h4; rw [h3] at h4; cases h4
        · simp [Array.getElem?_eq_none h'] at h3
      have h5 := stOp_put hoj (hfree j oj hoj hji hun hnot) (fun cs b => Region.noSelect_spec hsel i oi cs b hi) (fun cs b => Region.noSelect_spec hsel j oj cs b hoj) hy (H.2 j (ready_mono hj hji))
      refine stOp_mono (fun a' h6 => ih (l.erase j) _ a' (by rw [List.length_erase_of_mem hjl, hl]; rfl) h2 ?_ (ready_mono hr (fun h => hji h.symm)) h6.1 ?_) h5
      · intro k ok hk hki hku hno
        refine hfree k ok hk hki ?_ hno
        by_cases hjk : j = k
        · subst hjk; exact hun
        · have : (listed.setIfInBounds j true).getD k true = listed.getD k true := by
            simp only [Array.getD_eq_getD_getElem?, Array.getElem?_setIfInBounds_ne hjk]
          rw [this] at hku; exact hku
      · have : (listed.setIfInBounds j true).setIfInBounds i true = (listed.setIfInBounds i true).setIfInBounds j true := Array.setIfInBounds_comm _ _ hji
        rw [this]; exact h6.2

/-- Operations in a row, in the middle of an open order. -/
def AQ (P : Program) (N : Frm) (ops : Array Oper) (l0 rest : List Nat) (t : Nat) (l : List Nat) (listed : Array Bool) (st : St) (K : Array Bool → St → Prop) : Prop :=
  On ops l0 rest t l listed → ∀ G : Ctx, G.fn = N → ∀ a w, Holds G st a w → Quiet P ops w (fun listed' a' => ∃ st', K listed' st' ∧ Holds G st' a' w) l.length listed a

theorem AQ.nil {l0 rest : List Nat} {t : Nat} {listed : Array Bool} {st : St} {K : Array Bool → St → Prop} (h : K listed st) : AQ P N ops l0 rest t [] listed st K := fun _ _ _ _ _ hh => ⟨st, h, hh⟩
theorem AQ.cons {l0 rest : List Nat} {t i : Nat} {l : List Nat} {listed : Array Bool} {st : St} {K : Array Bool → St → Prop} {op : Op} {x : X} (ho : ops[i]? = some ⟨some d, op, ty, pos, af, none⟩)
    (hB : (Region.noSelect ops && Region.free .any ops listed i && (Region.ready .any ops listed).contains i) = true) (hy : Yields P N st ⟨some d, op, ty, pos, af, none⟩ x) (hd : d < N.n)
    (k : AQ P N ops l0 rest t l (listed.setIfInBounds i true) (st.put d x) K) : AQ P N ops l0 rest t (i :: l) listed st K := by
  intro h4 G hn a w hh
  obtain ⟨E, RR, rfl, hi⟩ := hh
  obtain ⟨u, hr, hx⟩ := hy G E RR a hn hi
  simp only [Bool.and_eq_true] at hB
  obtain ⟨⟨h1, h2⟩, h3⟩ := hB
  have h5 := h4.step (j := i) (by simpa using h3) (by simp)
  rw [List.erase_cons_head] at h5
  exact Quiet.first ho h1 l.length l listed a rfl h4 (Region.free_spec ho h2) (by simpa using h3) (v := u) (.inl ⟨by simp [Region.wanted], .inl hr⟩) (k h5 G hn _ _ ⟨E, _, rfl, hi.put0 (hn ▸ hd) hx⟩)
/-- An operation whose guard says no. -/
theorem AQ.skip {l0 rest : List Nat} {t i : Nat} {l : List Nat} {listed : Array Bool} {st : St} {K : Array Bool → St → Prop} {op : Op} {j dj : Nat} {want : Bool} {u : Value} (ho : ops[i]? = some ⟨some d, op, ty, pos, af, some (j, want)⟩)
    (hB : (Region.noSelect ops && Region.free .any ops listed i && (Region.ready .any ops listed).contains i) = true)
    (hj : (ops[j]?).bind (·.dst) = some dj) (hdj : dj < N.n) (hd : d < N.n) (hx : look st.slots dj = some (.v u)) (hne : notB want u = true)
    (k : AQ P N ops l0 rest t l (listed.setIfInBounds i true) (st.put d (.v undef)) K) : AQ P N ops l0 rest t (i :: l) listed st K := by
  intro h4 G hn a w hh
  obtain ⟨E, RR, rfl, hi⟩ := hh
  simp only [Bool.and_eq_true] at hB
  obtain ⟨⟨h1, h2⟩, h3⟩ := hB
  have h5 := h4.step (j := i) (by simpa using h3) (by simp)
  rw [List.erase_cons_head] at h5
  have hw := unwanted (all := ops) (dst := some d) (op := op) (ty := ty) (pos := pos) (af := af) hi hj (hn ▸ hdj) hx hne
  exact Quiet.first ho h1 l.length l listed a rfl h4 (Region.free_spec ho h2) (by simpa using h3) (v := undef) (.inr ⟨hw, rfl⟩) (k h5 G hn _ _ ⟨E, _, rfl, hi.put0 (hn ▸ hd) (by simp [RX])⟩)
/-- .. says yes. -/
theorem AQ.run {l0 rest : List Nat} {t i : Nat} {l : List Nat} {listed : Array Bool} {st : St} {K : Array Bool → St → Prop} {op : Op} {x : X} {j dj : Nat} {want : Bool} (ho : ops[i]? = some ⟨some d, op, ty, pos, af, some (j, want)⟩)
    (hB : (Region.noSelect ops && Region.free .any ops listed i && (Region.ready .any ops listed).contains i) = true)
    (hj : (ops[j]?).bind (·.dst) = some dj) (hdj : dj < N.n) (hx : look st.slots dj = some (.v (.bool want))) (hy : Yields P N st ⟨some d, op, ty, pos, af, some (j, want)⟩ x) (hd : d < N.n)
    (k : AQ P N ops l0 rest t l (listed.setIfInBounds i true) (st.put d x) K) : AQ P N ops l0 rest t (i :: l) listed st K := by
  intro h4 G hn a w hh
  obtain ⟨E, RR, rfl, hi⟩ := hh
  obtain ⟨u, hr, hx'⟩ := hy G E RR a hn hi
  simp only [Bool.and_eq_true] at hB
  obtain ⟨⟨h1, h2⟩, h3⟩ := hB
  have h5 := h4.step (j := i) (by simpa using h3) (by simp)
  rw [List.erase_cons_head] at h5
  have hs := hi.slots dj _ hx
  simp only [RX] at hs
  have hsz : dj < a.tmps.size := by rw [hi.tmps, hn]; exact hdj
  have hv : a.tmps[dj]? = some (.bool want) := by
    have := hs.1
    simp only [Array.getD, hsz, dif_pos] at this
    rw [Array.getElem?_eq_getElem hsz]
    exact congrArg some this
  have hw : Region.wanted ⟨some d, op, ty, pos, af, some (j, want)⟩ (yielded ops a.tmps) = true := by
    simp [Region.wanted, yielded, hj, hv]
  exact Quiet.first ho h1 l.length l listed a rfl h4 (Region.free_spec ho h2) (by simpa using h3) (v := u) (.inl ⟨hw, .inl hr⟩) (k h5 G hn _ _ ⟨E, _, rfl, hi.put0 (hn ▸ hd) hx'⟩)
theorem AAny.quietN (l rest : List Nat) (t : Nat) {m n : Nat} (hm : m = l.length + n) {listed : Array Bool} {st : St} {K : St → Prop} (hB : rowB ops l rest t listed = true)
    (h : AQ P N ops l rest t l listed st (fun listed' st' => AAny P N ops n listed' st' K)) : AAny P N ops m listed st K := by
  subst hm
  intro G hn a w hh
  refine Quiet.any (fun listed' a' ⟨st', hk, hh'⟩ => ?_) l.length listed a (h (rowB_on hB) G hn a w hh)
  exact hk G hn a' w hh'
end
end Go.AW
/- Part of the abstract walk: values of one's own that move. -/
namespace Go.AW
open Go

section
variable {P : Program} {N : Frm} {st : St} {Q : Exit → St → Prop} {all : Array Oper} {rest : List Oper} {d : Nat} {ty : TypeId} {pos : String} {af : Array Edge}

theorem Inv.moveX {G : Ctx} {E : Env} {RR : Own → List Nat} {a : Act} (hi : Inv G E RR st a) {tv : Nat} {x : X} (hy : look st.slots tv = some x) (hd : d < G.fn.n) :
    ∃ RR', Inv G E RR' ((st.put tv .no).put d x) (a.put (some d) (a.eval (.tmp tv))) := by
  have hv := hi.slots tv _ hy
  have hi2 := hi.no tv
  refine ⟨_, hi2.put (R := RR (.slot tv)) hd hv (hi.nodup _) (fun b hb => ⟨(hi.own _ _ hb).1, (hi.own _ _ hb).2, fun p _ hp => ?_⟩)⟩
  unfold upd at hp
  split at hp
  · cases hp
  · rename_i h; exact hi.apart _ _ h b hp hb
/-- A value moves to another slot, with what it owns. -/
theorem AOps.assignX {tv : Nat} {x : X} (hy : look st.slots tv = some x) (hd : d < N.n) (k : AOps P N all rest ((st.put tv .no).put d x) Q) :
    AOps P N all (⟨some d, .assign (.tmp tv), ty, pos, af, none⟩ :: rest) st Q :=
  AOps.eff (fun G E RR a hn hi => let ⟨RR', h⟩ := hi.moveX hy (by rw [hn]; exact hd); ⟨a.eval (.tmp tv), E, RR', rfl, h⟩) k
theorem AOps.moveX {tv : Nat} {x : X} (hy : look st.slots tv = some x) (hd : d < N.n) (k : AOps P N all rest ((st.put tv .no).put d x) Q) :
    AOps P N all (⟨some d, .move (.tmp tv), ty, pos, af, none⟩ :: rest) st Q :=
  AOps.eff (fun G E RR a hn hi => let ⟨RR', h⟩ := hi.moveX hy (by rw [hn]; exact hd); ⟨a.eval (.tmp tv), E, RR', rfl, h⟩) k

theorem RXt.takeOut {E : Env} : ∀ {xs : List X} {cs : List Value} {R : List Nat} {k : Nat} {x : X}, RXt E xs cs R → xs[k]? = some x →
    ∃ u Ra Rk Rb, cs[k]? = some u ∧ RX E x u Rk ∧ R = Ra ++ (Rk ++ Rb) ∧ RXt E (xs.set k .no) cs (Ra ++ Rb)
  | [], _, _, _, _, _, h => by simp at h
  | y :: r, cs, R, 0, x, h, hx => by
    simp only [RXt] at h
    simp only [List.getElem?_cons_zero, Option.some.injEq] at hx
    subst hx
    obtain ⟨c, cs', R₁, R₂, rfl, h1, h2, rfl⟩ := h
    refine ⟨c, [], R₁, R₂, rfl, h1, rfl, ?_⟩
    simp only [List.set_cons_zero, RXt, List.nil_append]
    exact ⟨c, cs', [], R₂, rfl, by simp [RX], h2, rfl⟩
  | y :: r, cs, R, k + 1, x, h, hx => by
    simp only [RXt] at h
    obtain ⟨c, cs', R₁, R₂, rfl, h1, h2, rfl⟩ := h
    obtain ⟨u, Ra, Rk, Rb, hu, h3, rfl, h4⟩ := RXt.takeOut (k := k) h2 (by simpa using hx)
    refine ⟨u, R₁ ++ Ra, Rk, Rb, by simpa using hu, h3, by simp, ?_⟩
    simp only [List.set_cons_succ, RXt]
    exact ⟨c, cs', R₁, Ra ++ Rb, rfl, h1, h4, by simp⟩

/-- One of several values is taken out, with what it owns. -/
theorem AOps.extractU {tv : Nat} {xs : List X} {y : X} {k : Nat} (hx : look st.slots tv = some (.tup xs)) (hy : xs[k]? = some y) (hd : d < N.n)
    (kk : AOps P N all rest ((st.put tv (.tup (xs.set k .no))).put d y) Q) : AOps P N all (⟨some d, .extract (.tmp tv) k, ty, pos, af, none⟩ :: rest) st Q := by
  refine AOps.eff (fun G E RR a hn hi => ?_) kk
  have hp := hi.slots tv _ hx
  have hnd := hi.nodup (.slot tv)
  simp only [RX] at hp
  obtain ⟨cs, hc, hxs⟩ := hp
  obtain ⟨u, Ra, Rk, Rb, hu, h1, hR, h2⟩ := RXt.takeOut hxs hy
  have hsub : ∀ b ∈ Ra ++ Rb, b ∈ RR (.slot tv) := by
    intro b hb
    rw [hR]
    rcases List.mem_append.1 hb with h | h
    · exact mem_app_l h
    · exact mem_app_r (mem_app_r h)
  have hsubk : ∀ b ∈ Rk, b ∈ RR (.slot tv) := fun b hb => by rw [hR]; exact mem_app_r (mem_app_l hb)
  rw [hR, List.nodup_append, List.nodup_append] at hnd
  obtain ⟨hna, ⟨hnk, hnb, hkb⟩, hab⟩ := hnd
  have hndab : (Ra ++ Rb).Nodup := List.nodup_append.2 ⟨hna, hnb, fun x hx y hy => hab x hx y (mem_app_r hy)⟩
  have hi2 := hi.relabel (d := tv) (x := .tup (xs.set k .no)) (R := Ra ++ Rb) (by simp only [RX]; exact ⟨cs, hc, h2⟩) hndab
    (fun b hb => ⟨(hi.own _ _ (hsub b hb)).1, (hi.own _ _ (hsub b hb)).2, fun p hp hbp => hi.apart p (.slot tv) hp b hbp (hsub b hb)⟩)
  refine ⟨u, E, _, ?_, hi2.put (R := Rk) (by rw [hn]; exact hd) h1 hnk (fun b hb => ⟨(hi.own _ _ (hsubk b hb)).1, (hi.own _ _ (hsubk b hb)).2, fun p _ hbp => ?_⟩)⟩
  · show (do let z ← Instr.extract (a.eval (.tmp tv)) k; pure (Next.value z) : Sem Next).run P E.w = _
    have hc' : a.eval (.tmp tv) = .tuple cs := hc
    rw [hc']
    refine run_v ?_
    have hu' : cs[k]? = some u := by simpa using hu
    simp only [Instr.extract, hu']; rfl
  · unfold upd at hbp
    split at hbp
    · rcases List.mem_append.1 hbp with h | h
      · exact hab b h b (mem_app_l hb) rfl
      · exact hkb b hb b h rfl
    · rename_i h; exact hi.apart _ _ h b hbp (hsubk b hb)
end
end Go.AW
/- Part of the abstract walk: calls whose result is known by a relation. -/
namespace Go.AW
open Go

section
variable {P : Program} {N : Frm} {st : St} {Q : Exit → St → Prop} {all : Array Oper} {rest : List Oper} {d : Nat} {ty : TypeId} {pos : String} {af : Array Edge}
/-- A call that sees some slices of the caller's as they stand; what it gives is known by a relation. -/
theorem AOps.callLV {f : FuncId} {fargs : Array Operand} {ats : Array TypeId} {xs args : List X} {Q' : X → List Obj → Prop} (L : List Nat) (hok : callOK P f = true) (hspec : ACalls P f args [] [] Q')
    (hxs : opds st fargs.toList = some xs) (hargs : LentL st L (nameF []) xs args) (h0 : ∀ o ∈ L, ∃ ob, look st.objs o = some ob ∧ Owns0 ob) (hd : d < N.n)
    (k : ∀ r, Q' r [] → r.lt 0 = true ∧ r.plain ∧ AOps P N all rest (st.put d (r.ren (nameF []))) Q) :
    AOps P N all (⟨some d, .call ⟨.value (.func f), fargs, ats⟩, ty, pos, af, none⟩ :: rest) st Q := by
  refine AOps.call [] L hok hspec hxs hargs (fun j ob h => by simp at h) rfl List.nodup_nil (fun _ _ h => by cases h) h0 (fun _ h => by cases h) hd ?_
  intro r objs' hq hl
  have : objs' = [] := List.eq_nil_of_length_eq_zero hl
  subst this
  obtain ⟨h1, h2, h3⟩ := k r hq
  refine ⟨⟨h1, fun _ h => (by cases h), .inr ⟨h2, fun _ h => (by cases h)⟩⟩, ?_⟩
  rw [callSt_nil]; exact h3
end
end Go.AW
/- Part of the abstract walk: boxes that are written no more; functions as values; tests in open orders. -/
namespace Go.AW
open Go

mutual
/-- Pointers into the box o lead into frozen memory. -/
def X.fzp (o : Nat) (row : List X) : X → X
  | .ptr p s i k => bif Nat.beq p o && Nat.beq (i * s) 0 then .fp row k else .ptr p s i k
  | .agg xs => .agg (X.fzps o row xs)
  | .tup xs => .tup (X.fzps o row xs)
  | .clo f a b => .clo f (X.fzps o row a) (X.fzps o row b)
  | .v u => .v u
  | .no => .no
  | .fz s rs => .fz s rs
  | .uni s rs => .uni s rs
  | .slc p s l n => .slc p s l n
  | .mref p => .mref p
  | .fp r k => .fp r k
def X.fzps (o : Nat) (row : List X) : List X → List X
  | [] => []
  | x :: r => X.fzp o row x :: X.fzps o row r
end
def Obj.fzp (o : Nat) (row : List X) : Obj → Obj
  | .cells xs => .cells (X.fzps o row xs)
  | ob => ob

mutual
theorem X.fzp_free {o : Nat} {row : List X} : ∀ {x : X}, x.free = true → (x.fzp o row).free = true
  | .ptr p s i k, _ => by
    simp only [X.fzp]
    cases Nat.beq p o && Nat.beq (i * s) 0 <;> rfl
  | .agg xs, h => X.fzps_frees (xs := xs) h
  | .tup xs, h => X.fzps_frees (xs := xs) h
  | .clo f a b, _ => rfl
  | .v u, _ | .no, _ | .fz s rs, _ | .slc p s l n, _ | .mref p, _ | .fp r k, _ => rfl
theorem X.fzps_frees {o : Nat} {row : List X} : ∀ {xs : List X}, X.frees xs = true → X.frees (X.fzps o row xs) = true
  | [], _ => rfl
  | x :: r, h => by
    simp only [X.frees, Bool.and_eq_true] at h
    simp only [X.fzps, X.frees, X.fzp_free h.1, X.fzps_frees h.2, Bool.and_self]
end
theorem X.fzps_len {o : Nat} {row : List X} : ∀ {xs : List X}, (X.fzps o row xs).length = xs.length
  | [] => rfl
  | x :: r => by simp [X.fzps, X.fzps_len (xs := r)]

mutual
theorem RX.fzp {E E' : Env} {o : Nat} {row : List X} {B : Blk} (hB : E.β o = some B) (hF : RF E' row B.b B.off) (hβ : E'.β = E.β) : ∀ (x : X) (c : Value) (R : List Nat), E.On E' R → RX E x c R → RX E' (x.fzp o row) c R
  | .ptr p s i k, c, R, hE, h => by
    simp only [X.fzp]
    cases hc : Nat.beq p o && Nat.beq (i * s) 0 with
    | false => simp only [cond_false]; exact RX.mono _ c R hE (fun q _ => by rw [hβ]) h
    | true =>
      simp only [Bool.and_eq_true] at hc
      have h1 := Nat.eq_of_beq_eq_true hc.1
      have h2 := Nat.eq_of_beq_eq_true hc.2
      subst h1
      simp only [cond_true, RX] at h ⊢
      obtain ⟨hR, B', hB', rfl⟩ := h
      rw [hB] at hB'
      obtain rfl := Option.some.inj hB'
      exact ⟨hR, B.b, B.off, by rw [h2, Nat.zero_add], hF⟩
  | .agg xs, c, R, hE, h => by
    simp only [RX, X.fzp] at h ⊢
    obtain ⟨cs, hc, hs⟩ := h
    exact ⟨cs, hc, RXs.fzp hB hF hβ xs _ R hE hs⟩
  | .tup xs, c, R, hE, h => by
    simp only [RX, X.fzp] at h ⊢
    obtain ⟨cs, hc, hs⟩ := h
    exact ⟨cs, hc, RXt.fzp hB hF hβ xs _ R hE hs⟩
  | .clo fn a b, c, R, hE, h => by
    simp only [RX, X.fzp] at h ⊢
    obtain ⟨hR, f, cc, hc, h1, h2⟩ := h
    exact ⟨hR, f, cc, hc, RXt.fzp hB hF hβ a _ [] (hE.sub (by simp)) h1, RXt.fzp hB hF hβ b _ [] (hE.sub (by simp)) h2⟩
  | .v u, c, R, hE, h => RX.mono (.v u) c R hE (fun q _ => by rw [hβ]) h
  | .no, c, R, hE, h => RX.mono .no c R hE (fun q _ => by rw [hβ]) h
  | .fz s rs, c, R, hE, h => RX.mono (.fz s rs) c R hE (fun q _ => by rw [hβ]) h
  | .uni s rs, c, R, hE, h => RX.mono (.uni s rs) c R hE (fun q _ => by rw [hβ]) h
  | .slc p s l n, c, R, hE, h => RX.mono (.slc p s l n) c R hE (fun q _ => by rw [hβ]) h
  | .mref p, c, R, hE, h => RX.mono (.mref p) c R hE (fun q _ => by rw [hβ]) h
  | .fp r k, c, R, hE, h => RX.mono (.fp r k) c R hE (fun q _ => by rw [hβ]) h
theorem RXs.fzp {E E' : Env} {o : Nat} {row : List X} {B : Blk} (hB : E.β o = some B) (hF : RF E' row B.b B.off) (hβ : E'.β = E.β) : ∀ (xs : List X) (cs : List Value) (R : List Nat), E.On E' R → RXs E xs cs R → RXs E' (X.fzps o row xs) cs R
  | [], _, _, _, h => by simpa [RXs, X.fzps] using h
  | x :: r, cs, R, hE, h => by
    simp only [RXs, X.fzps] at h ⊢
    obtain ⟨c, cs', R₁, R₂, hc, hs, h1, h2, hR⟩ := h
    subst hR
    exact ⟨c, cs', R₁, R₂, hc, hs, RX.fzp hB hF hβ x c R₁ (hE.sub (fun _ h => mem_app_l h)) h1, RXs.fzp hB hF hβ r cs' R₂ (hE.sub (fun _ h => mem_app_r h)) h2, rfl⟩
theorem RXt.fzp {E E' : Env} {o : Nat} {row : List X} {B : Blk} (hB : E.β o = some B) (hF : RF E' row B.b B.off) (hβ : E'.β = E.β) : ∀ (xs : List X) (cs : List Value) (R : List Nat), E.On E' R → RXt E xs cs R → RXt E' (X.fzps o row xs) cs R
  | [], _, _, _, h => by simpa [RXt, X.fzps] using h
  | x :: r, cs, R, hE, h => by
    simp only [RXt, X.fzps] at h ⊢
    obtain ⟨c, cs', R₁, R₂, hc, h1, h2, hR⟩ := h
    subst hR
    exact ⟨c, cs', R₁, R₂, hc, RX.fzp hB hF hβ x c R₁ (hE.sub (fun _ h => mem_app_l h)) h1, RXt.fzp hB hF hβ r cs' R₂ (hE.sub (fun _ h => mem_app_r h)) h2, rfl⟩
theorem RO.fzp {E E' : Env} {o : Nat} {row : List X} {B : Blk} (hB : E.β o = some B) (hF : RF E' row B.b B.off) (hβ : E'.β = E.β) : ∀ (xs : List X) (cs : Array Value) (off : Nat) (R : List Nat), E.On E' R → RO E xs cs off R → RO E' (X.fzps o row xs) cs off R
  | [], _, _, _, _, h => by simpa [RO, X.fzps] using h
  | x :: r, cs, off, R, hE, h => by
    simp only [RO, X.fzps] at h ⊢
    obtain ⟨u, R₁, R₂, hu, hs, h1, h2, hR⟩ := h
    subst hR
    exact ⟨u, R₁, R₂, hu, hs, RX.fzp hB hF hβ x u R₁ (hE.sub (fun _ h => mem_app_l h)) h1, RO.fzp hB hF hβ r cs (off + 1) R₂ (hE.sub (fun _ h => mem_app_r h)) h2, rfl⟩
end

def fzpS (o : Nat) (row : List X) (l : List (Nat × X)) : List (Nat × X) := l.map fun p => (p.1, p.2.fzp o row)
def fzpO (o : Nat) (row : List X) (l : List (Nat × Obj)) : List (Nat × Obj) := l.map fun p => (p.1, p.2.fzp o row)
theorem look_mapX {α β : Type} {f : α → β} : ∀ {l : List (Nat × α)} {s : Nat} {y : β}, look (l.map fun p => (p.1, f p.2)) s = some y → ∃ x, look l s = some x ∧ y = f x
  | [], _, _, h => by cases h
  | (t, x) :: r, s, y, h => by
    simp only [List.map_cons, look] at h ⊢
    cases hb : Nat.beq t s with
    | true => rw [hb] at h; simp only [cond_true, Option.some.injEq] at h ⊢; exact ⟨x, rfl, h.symm⟩
    | false => rw [hb] at h; simp only [cond_false] at h ⊢; exact look_mapX h

section
variable {N : Frm} {st : St}
/-- A box is written no more. -/
theorem Sh.freezeO (o : Nat) {xs : List X} (ho : look st.objs o = some (.cells xs)) (hn : X.nrs xs = true) : Sh N st ⟨fzpS o xs st.slots, (o, .gone) :: fzpO o xs st.objs⟩ := by
  intro G _ a w hh
  obtain ⟨E, RR, rfl, hi⟩ := hh
  have hob := hi.objs o _ ho
  simp only [ROb] at hob
  obtain ⟨hfr, B, cs, ty, hB, hw, hφ, hlen, hRO, hRR⟩ := hob
  have hcell : ∀ i v, cs[i]? = some v → (E.lend (fun b => b = B.b)).φ B.b i = some v := by
    intro i v h
    rw [lend_in E (LB := fun b => b = B.b) rfl]
    unfold World.cell?
    simp [hw, h]
  have hle : ∀ c i v, E.φ c i = some v → (E.lend (fun b => b = B.b)).φ c i = some v := by
    intro c i v h
    by_cases hc : c = B.b
    · subst hc; rw [hφ i] at h; cases h
    · rw [lend_out E (LB := fun b => b = B.b) hc]; exact h
  have hF : RF (E.lend (fun b => b = B.b)) xs B.b B.off := by
    have h1 := RO.ffz (E := E) (E' := E.lend (fun b => b = B.b)) xs cs B.b B.off [] hcell ⟨rfl, rfl, hle, fun _ h => by cases h⟩ hn hRO
    rw [X.ffzs_frees hfr] at h1
    exact h1
  have hout : ∀ p, p ≠ .obj o → B.b ∉ RR p := fun p hp hb => hi.apart p (.obj o) hp _ hb (by rw [hRR]; simp)
  have hon : ∀ p, p ≠ .obj o → E.On (E.lend (fun b => b = B.b)) (RR p) := by
    intro p hp
    refine ⟨hle, fun c hc => ⟨rfl, fun h i => ?_⟩⟩
    rw [lend_out E (LB := fun b => b = B.b) (fun e => hout p hp (e ▸ hc))]; exact h i
  have hin : B.b ∈ RR (.obj o) := by rw [hRR]; simp
  have hsame : ∀ p, p ≠ .obj o → upd RR (.obj o) [] p = RR p := fun p hp => by simp [upd, hp]
  have hsub : ∀ p, ∀ b ∈ upd RR (.obj o) [] p, b ∈ RR p := by
    intro p b hb
    unfold upd at hb
    split at hb
    · cases hb
    · exact hb
  refine ⟨E.lend (fun b => b = B.b), upd RR (.obj o) [], rfl, { hi with frz := ?_, slots := ?_, objs := ?_, nodup := ?_, apart := ?_, own := ?_, φ0 := ?_, grow := ?_ }⟩
  · intro c i v h
    by_cases hc : c = B.b
    · rw [lend_in E (LB := fun b => b = B.b) hc] at h; exact h
    · rw [lend_out E (LB := fun b => b = B.b) hc] at h; exact hi.frz c i v h
  · intro s x hx
    obtain ⟨y, hy, rfl⟩ := look_mapX (f := X.fzp o xs) hx
    rw [hsame _ (by simp)]
    exact RX.fzp hB hF rfl y _ _ (hon _ (by simp)) (hi.slots s y hy)
  · intro q ob hob
    simp only [look] at hob
    cases hq : Nat.beq o q with
    | true =>
      rw [hq] at hob
      simp only [cond_true, Option.some.injEq] at hob
      obtain rfl := Nat.eq_of_beq_eq_true hq
      subst hob
      simp [ROb, upd]
    | false =>
      rw [hq] at hob
      simp only [cond_false] at hob
      have hne : q ≠ o := fun e => by subst e; simp at hq
      obtain ⟨ob', hob', rfl⟩ := look_mapX (f := Obj.fzp o xs) hob
      rw [hsame _ (by simp [hne])]
      have h1 := hi.objs q ob' hob'
      have hon' := hon (.obj q) (by simp [hne])
      cases ob' with
      | cells ys =>
        simp only [ROb, Obj.fzp] at h1 ⊢
        obtain ⟨h1, B', cs', ty', h2, h3, h4, h5, h6, h7⟩ := h1
        exact ⟨X.fzps_frees h1, B', cs', ty', h2, h3, (hon'.2 B'.b (by rw [h7]; simp)).2 h4, by rw [X.fzps_len]; exact h5, RO.fzp hB hF rfl ys cs' _ [] (hon'.sub (fun _ h => by cases h)) h6, h7⟩
      | rows s rs => exact ROb.mono hon' rfl (fun _ _ _ _ => rfl) h1
      | tab es => exact ROb.mono hon' rfl (fun _ _ _ _ => rfl) h1
      | gone => exact ROb.mono hon' rfl (fun _ _ _ _ => rfl) h1
  · intro p
    unfold upd
    split
    · exact List.nodup_nil
    · exact hi.nodup p
  · intro p q hpq b hb hb'
    exact hi.apart p q hpq b (hsub p b hb) (hsub q b hb')
  · intro p b hb
    exact hi.own p b (hsub p b hb)
  · intro c i v h
    exact hle c i v (hi.φ0 c i v h)
  · intro c i v h
    by_cases hc : c = B.b
    · subst hc; exact .inr (hi.own _ _ hin).2
    · rw [lend_out E (LB := fun b => b = B.b) hc] at h; exact hi.grow c i v h
end

section
variable {P : Program} {N : Frm} {st : St} {Q : Exit → St → Prop} {all : Array Oper} {rest : List Oper} {dst : Option Nat} {d : Nat} {ty : TypeId} {pos : String} {af : Array Edge} {g : Option (Nat × Bool)}

theorem opds_rxt {G : Ctx} {E : Env} {RR : Own → List Nat} {a : Act} (hi : Inv G E RR st a) : ∀ {l : List Operand} {xs : List X}, opds st l = some xs → X.frees xs = true → RXt E xs (l.map a.eval) []
  | [], xs, h, _ => by simp only [opds, Option.some.injEq] at h; subst h; simp [RXt]
  | o :: r, xs, h, hf => by
    simp only [opds] at h
    cases h1 : opd st o with
    | none => simp [h1] at h
    | some y =>
      cases h2 : opds st r with
      | none => simp [h1, h2] at h
      | some ys =>
        rw [h1, h2] at h
        simp only [Option.some.injEq] at h
        subst h
        simp only [X.frees, Bool.and_eq_true] at hf
        obtain ⟨R, hR⟩ := hi.eval h1
        have h0 := RX.free hf.1 hR
        subst h0
        simp only [List.map_cons, RXt]
        exact ⟨_, _, [], [], rfl, hR, opds_rxt hi h2 hf.2, rfl⟩
/-- A function as a value. -/
theorem Y.makeFunc {fn : Fn} {first caps : Array Operand} {xs ys : List X} (hx : opds st first.toList = some xs) (hy : opds st caps.toList = some ys) (hfx : X.frees xs = true) (hfy : X.frees ys = true) :
    Yields P N st ⟨dst, .makeFunc fn first caps, ty, pos, af, g⟩ (.clo fn xs ys) := by
  intro G E RR a _ hi
  refine ⟨.func fn (first.map a.eval) (caps.map a.eval), rfl, ?_⟩
  simp only [RX]
  refine ⟨trivial, _, _, rfl, ?_, ?_⟩
  · rw [Array.toList_map]; exact opds_rxt hi hx hfx
  · rw [Array.toList_map]; exact opds_rxt hi hy hfy

/-- A call of a function as a value: what it has caught goes behind the arguments. -/
theorem AOps.callCW {f : FuncId} {x : Operand} {fargs : Array Operand} {ats : Array TypeId} {caps xs args : List X} {objs : List Obj} {F : List Nat} {Q' : X → List Obj → Prop} (ν L : List Nat) (hx : opd st x = some (.clo (.func f) [] caps)) (hok : callOK P f = true) (hspec : ACalls P f args objs F Q')
    (hxs : opds st fargs.toList = some xs) (hargs : LentL st L (nameF ν) (xs ++ caps) args) (hobjs : ObjsAt st (nameF ν) 0 objs) (hlen : ν.length = objs.length) (hνn : ν.Nodup) (hLν : ∀ o ∈ L, o ∉ ν)
    (h0 : ∀ o ∈ L, ∃ ob, look st.objs o = some ob ∧ Owns0 ob) (hNF : ∀ o ∈ loose ν F, N.F.elem o = false) (hd : d < N.n)
    (k : ∀ r objs', Q' r objs' → objs'.length = objs.length → (r.lt objs.length = true ∧ (∀ ob ∈ objs', ob.lt objs.length = true) ∧ (L = [] ∨ (r.plain ∧ ∀ ob ∈ objs', ob.plain))) ∧ AOps P N all rest ((callSt st ν F objs').put d (r.ren (nameF ν))) Q) :
    AOps P N all (⟨some d, .call ⟨.value x, fargs, ats⟩, ty, pos, af, none⟩ :: rest) st Q := by
  intro G hn a w hh
  obtain ⟨E, RR, rfl, hi⟩ := hh
  obtain ⟨Rx, hfx⟩ := hi.eval hx
  simp only [RX] at hfx
  obtain ⟨_, ff, cc, hfc, hff, hcc⟩ := hfx
  simp only [RXt] at hff
  have hff0 : ff = #[] := by
    have := hff.1
    cases ff; simp_all
  subst hff0
  obtain ⟨hxl, hxg⟩ := opds_get hi hxs
  have hcl : caps.length = cc.toList.length := by
    have : ∀ {l : List X} {c : List Value} {R : List Nat}, RXt E l c R → l.length = c.length := by
      intro l
      induction l with
      | nil => intro c R h; simp only [RXt] at h; rw [h.1]; rfl
      | cons y r ih =>
        intro c R h
        simp only [RXt] at h
        obtain ⟨_, c', _, _, rfl, _, h2, _⟩ := h
        simp [ih h2]
    exact this hcc
  have hc := hi.callW (vs := fargs.toList.map a.eval ++ cc.toList) hspec (by simp only [List.length_append, List.length_map]; omega) (fun j y hy => by
    rcases Nat.lt_or_ge j xs.length with hj | hj
    · rw [List.getElem?_append_left hj] at hy
      obtain ⟨o, ho, R, hR⟩ := hxg j y hy
      exact ⟨a.eval o, by rw [List.getElem?_append_left (by rw [List.length_map]; omega)]; simp [ho], R, hR⟩
    · rw [List.getElem?_append_right hj] at hy
      obtain ⟨u, R, hu, hR⟩ := RXt.get hcc hy
      exact ⟨u, by rw [List.getElem?_append_right (by rw [List.length_map]; omega), List.length_map, ← hxl]; exact hu, R, hR⟩) hargs
    (fun j ob h => by have := hobjs.get j ob h; rwa [Nat.zero_add] at this) hlen hνn hLν h0 (fun o ho => by rw [hn]; exact hNF o ho) (d := d) (by rw [hn]; exact hd)
  have hrun : (execOp a.eval ⟨some d, .call ⟨.value x, fargs, ats⟩, ty, pos, af, none⟩).run P E.w = .ok (.enter f (fargs.toList.map a.eval ++ cc.toList).toArray) E.w := by
    have e : (execOp a.eval ⟨some d, .call ⟨.value x, fargs, ats⟩, ty, pos, af, none⟩).run P E.w = (do let d ← Deferred.ofValue (a.eval x) (fargs.map a.eval); invoke d.target d.args : Sem Next).run P E.w := rfl
    rw [e, hfc]
    have e2 : (do let d ← Deferred.ofValue (.func (.func f) #[] cc) (fargs.map a.eval); invoke d.target d.args : Sem Next).run P E.w = (callFunc f ((#[] ++ fargs.map a.eval) ++ cc)).run P E.w := rfl
    rw [e2, callOK_run hok]
    congr 2
    apply Array.ext'
    simp
  refine wpList_plain rfl fun K hK => ?_
  simp only [Oper.wp, hrun, Oper.upon_enter]
  refine hc.mono ?_
  rintro e w' ⟨v, r, objs', rfl, hQ', hl', hcont⟩
  obtain ⟨⟨h1, h2, h3⟩, hk⟩ := k r objs' hQ' hl'
  obtain ⟨E'', RR'', hw, hI⟩ := hcont h1 h2 h3
  exact hK _ _ (hk G hn _ _ ⟨E'', RR'', hw, hI⟩)
/-- .. that gives R. -/
theorem AOps.callCP {f : FuncId} {x : Operand} {fargs : Array Operand} {ats : Array TypeId} {caps xs args : List X} {R : X} (hx : opd st x = some (.clo (.func f) [] caps)) (hok : callOK P f = true) (hspec : ACalls P f args [] [] (fun r o => r = R ∧ o = []))
    (hxs : opds st fargs.toList = some xs) (hargs : LentL st [] (nameF []) (xs ++ caps) args) (hd : d < N.n) (hlt : R.lt 0 = true)
    (k : AOps P N all rest (st.put d R) Q) : AOps P N all (⟨some d, .call ⟨.value x, fargs, ats⟩, ty, pos, af, none⟩ :: rest) st Q := by
  refine AOps.callCW [] [] hx hok hspec hxs hargs trivial rfl List.nodup_nil (fun _ h => by cases h) (fun _ h => by cases h) (fun _ h => by cases h) hd ?_
  rintro r objs' ⟨rfl, rfl⟩ _
  refine ⟨⟨hlt, fun _ h => (by cases h), .inl rfl⟩, ?_⟩
  rw [callSt_nil, X.ren_lt0 hlt]; exact k
end

section
variable {P : Program} {N : Frm} {ops : Array Oper} {st : St} {d : Nat} {listed : Array Bool} {n : Nat} {K : St → Prop} {KK : Array Bool → St → Prop} {l0 rest l : List Nat} {t : Nat}
theorem AAny.le {st' : St} (hl : Le st st') (h : AAny P N ops n listed st' K) : AAny P N ops n listed st K := fun G hn a w hh => h G hn a w (hl.holds hh)
theorem AAny.split {b : Bool} (hx : look st.slots d = some (.v (.bool b))) (ht : b = true → AAny P N ops n listed (st.put d (.v (.bool true))) K) (hf : b = false → AAny P N ops n listed (st.put d (.v (.bool false))) K) : AAny P N ops n listed st K := by
  have : Le st (st.put d (.v (.bool b))) := ⟨SubL.cons hx (fun _ _ h => h), fun _ _ h => h⟩
  cases b
  · exact (hf rfl).le this
  · exact (ht rfl).le this
theorem AAny.splitD {p : Prop} {inst : Decidable p} (hx : look st.slots d = some (.v (.bool (decide p)))) (ht : p → AAny P N ops n listed (st.put d (.v (.bool true))) K) (hf : ¬ p → AAny P N ops n listed (st.put d (.v (.bool false))) K) : AAny P N ops n listed st K :=
  AAny.split hx (fun h => ht (of_decide_eq_true h)) (fun h => hf (of_decide_eq_false h))
theorem AQ.le {st' : St} (hl : Le st st') (h : AQ P N ops l0 rest t l listed st' KK) : AQ P N ops l0 rest t l listed st KK := fun ho G hn a w hh => h ho G hn a w (hl.holds hh)
theorem AQ.split {b : Bool} (hx : look st.slots d = some (.v (.bool b))) (ht : b = true → AQ P N ops l0 rest t l listed (st.put d (.v (.bool true))) KK) (hf : b = false → AQ P N ops l0 rest t l listed (st.put d (.v (.bool false))) KK) : AQ P N ops l0 rest t l listed st KK := by
  have : Le st (st.put d (.v (.bool b))) := ⟨SubL.cons hx (fun _ _ h => h), fun _ _ h => h⟩
  cases b
  · exact (hf rfl).le this
  · exact (ht rfl).le this
theorem AQ.splitD {p : Prop} {inst : Decidable p} (hx : look st.slots d = some (.v (.bool (decide p)))) (ht : p → AQ P N ops l0 rest t l listed (st.put d (.v (.bool true))) KK) (hf : ¬ p → AQ P N ops l0 rest t l listed (st.put d (.v (.bool false))) KK) : AQ P N ops l0 rest t l listed st KK :=
  AQ.split hx (fun h => ht (of_decide_eq_true h)) (fun h => hf (of_decide_eq_false h))
end
/-- A byte of a string. -/
def sbyte (b : ByteArray) (m : Nat) : Nat := (b.data.toList.getD m 0).toNat
theorem Y.indexSb {P : Program} {N : Frm} {st : St} {dst : Option Nat} {ty : TypeId} {pos : String} {af : Array Edge} {g : Option (Nat × Bool)} {t : TypeId} {x ix : Operand} {b : ByteArray} {k : IntKind} {n : Int} {m : Nat} (ht : P.underlying t = some .string) (hx : opd st x = some (.v (.string b)))
    (hix : opd st ix = some (.v (.int k n))) (hn : n = (m : Int)) (hm : m < b.size) : Yields P N st ⟨dst, .index t x ix, ty, pos, af, g⟩ (.v (.int .u8 ((sbyte b m : Nat) : Int))) := by
  have h := Y.indexS (P := P) (N := N) (st := st) (dst := dst) (ty := ty) (pos := pos) (af := af) (g := g) ht hx hix hn hm
  have e : b[m].toNat = sbyte b m := by
    unfold sbyte
    have : b.data.toList.getD m 0 = b[m] := by
      rw [List.getD_eq_getElem?_getD, List.getElem?_eq_getElem (by simpa using hm)]
      rfl
    rw [this]
  rw [e] at h
  exact h
theorem sbyte_le (b : ByteArray) (m : Nat) : sbyte b m ≤ 255 := by
  unfold sbyte
  have := (b.data.toList.getD m 0).toNat_lt
  omega
end Go.AW
/- Part of the abstract walk: words of 64 bits as natural numbers. -/
namespace Go.AW
open Go

theorem u64_wrapN (n : Nat) : IntKind.u64.wrap (n : Int) = ((n % 18446744073709551616 : Nat) : Int) := by
  simp [IntKind.wrap, IntKind.bits, IntKind.signed]
theorem u64_fitN (n : Nat) (h : n < 18446744073709551616) : IntKind.u64.wrap (n : Int) = (n : Int) := by rw [u64_wrapN, Nat.mod_eq_of_lt h]
theorem u64_toNat (n : Int) (h : 0 ≤ n ∧ n ≤ 18446744073709551615) : IntKind.u64.wrap n = ((n.toNat : Nat) : Int) := by rw [IntWalk.u64_in n h]; omega
theorem bv_ofNat (n w : Nat) : BitVec.ofInt w (n : Int) = BitVec.ofNat w n := by
  apply BitVec.eq_of_toNat_eq
  simp [BitVec.toNat_ofInt, BitVec.toNat_ofNat]
section
variable {P : Program} {N : Frm} {st : St} {dst : Option Nat} {ty : TypeId} {pos : String} {af : Array Edge} {g : Option (Nat × Bool)} {t t' : TypeId} {x y : Operand} {a b : Nat}
theorem Y.addN (hx : opd st x = some (.v (.int .u64 (a : Int)))) (hy : opd st y = some (.v (.int .u64 (b : Int)))) : Yields P N st ⟨dst, .binOp .add t x y t', ty, pos, af, g⟩ (.v (.int .u64 (((a + b) % 18446744073709551616 : Nat) : Int))) :=
  Y.add hx hy (by rw [← u64_wrapN]; congr 1)
theorem Y.mulN (hx : opd st x = some (.v (.int .u64 (a : Int)))) (hy : opd st y = some (.v (.int .u64 (b : Int)))) : Yields P N st ⟨dst, .binOp .mul t x y t', ty, pos, af, g⟩ (.v (.int .u64 (((a * b) % 18446744073709551616 : Nat) : Int))) :=
  Y.mul hx hy (by rw [← u64_wrapN]; congr 1)
theorem Y.subN (hx : opd st x = some (.v (.int .u64 (a : Int)))) (hy : opd st y = some (.v (.int .u64 (b : Int)))) (hb : b ≤ 18446744073709551616) : Yields P N st ⟨dst, .binOp .sub t x y t', ty, pos, af, g⟩ (.v (.int .u64 (((a + (18446744073709551616 - b)) % 18446744073709551616 : Nat) : Int))) :=
  Y.sub hx hy (by simp only [IntKind.wrap, IntKind.bits, IntKind.signed]; simp; omega)
theorem Y.quoN (hx : opd st x = some (.v (.int .u64 (a : Int)))) (hy : opd st y = some (.v (.int .u64 (b : Int)))) (hr : a < 18446744073709551616 ∧ 1 ≤ b) : Yields P N st ⟨dst, .binOp .quo t x y t', ty, pos, af, g⟩ (.v (.int .u64 ((a / b : Nat) : Int))) :=
  Y.quo hx hy (by omega) (by
    rw [Int.tdiv_eq_ediv_of_nonneg (by omega), ← Int.natCast_ediv]
    exact u64_fitN _ (Nat.lt_of_le_of_lt (Nat.div_le_self a b) hr.1))
theorem Y.remN {k : IntKind} (hx : opd st x = some (.v (.int k (a : Int)))) (hy : opd st y = some (.v (.int k (b : Int)))) (hr : 1 ≤ b) : Yields P N st ⟨dst, .binOp .rem t x y t', ty, pos, af, g⟩ (.v (.int k ((a % b : Nat) : Int))) :=
  Y.rem hx hy (by omega) (by rw [Int.tmod_eq_emod_of_nonneg (by omega)]; exact (Int.natCast_emod a b).symm)
theorem Y.andN (hx : opd st x = some (.v (.int .u64 (a : Int)))) (hy : opd st y = some (.v (.int .u64 (b : Int)))) (hr : a < 18446744073709551616 ∧ b < 18446744073709551616) : Yields P N st ⟨dst, .binOp .and t x y t', ty, pos, af, g⟩ (.v (.int .u64 ((a &&& b : Nat) : Int))) :=
  Y.and hx hy (by
    rw [bv_ofNat, bv_ofNat, BitVec.toNat_and, BitVec.toNat_ofNat, BitVec.toNat_ofNat, show 2 ^ IntKind.u64.bits = 18446744073709551616 from rfl, Nat.mod_eq_of_lt hr.1, Nat.mod_eq_of_lt hr.2]
    exact u64_fitN _ (Nat.lt_of_le_of_lt Nat.and_le_left hr.1))
theorem Y.orN (hx : opd st x = some (.v (.int .u64 (a : Int)))) (hy : opd st y = some (.v (.int .u64 (b : Int)))) (hr : a < 18446744073709551616 ∧ b < 18446744073709551616) : Yields P N st ⟨dst, .binOp .or t x y t', ty, pos, af, g⟩ (.v (.int .u64 ((a ||| b : Nat) : Int))) :=
  Y.or hx hy (by
    rw [bv_ofNat, bv_ofNat, BitVec.toNat_or, BitVec.toNat_ofNat, BitVec.toNat_ofNat, show 2 ^ IntKind.u64.bits = 18446744073709551616 from rfl, Nat.mod_eq_of_lt hr.1, Nat.mod_eq_of_lt hr.2]
    exact u64_fitN _ (Nat.or_lt_two_pow (n := 64) hr.1 hr.2))
theorem Y.xorN (hx : opd st x = some (.v (.int .u64 (a : Int)))) (hy : opd st y = some (.v (.int .u64 (b : Int)))) (hr : a < 18446744073709551616 ∧ b < 18446744073709551616) : Yields P N st ⟨dst, .binOp .xor t x y t', ty, pos, af, g⟩ (.v (.int .u64 ((a ^^^ b : Nat) : Int))) :=
  Y.xor hx hy (by
    rw [bv_ofNat, bv_ofNat, BitVec.toNat_xor, BitVec.toNat_ofNat, BitVec.toNat_ofNat, show 2 ^ IntKind.u64.bits = 18446744073709551616 from rfl, Nat.mod_eq_of_lt hr.1, Nat.mod_eq_of_lt hr.2]
    exact u64_fitN _ (Nat.xor_lt_two_pow (n := 64) hr.1 hr.2))
theorem pow_min64 (a b : Nat) (h : a < 18446744073709551616) : a / 2 ^ (min b 64) = a / 2 ^ b := by
  rcases Nat.le_total b 64 with hb | hb
  · rw [Nat.min_eq_left hb]
  · rw [Nat.min_eq_right hb, Nat.div_eq_of_lt h]
    exact (Nat.div_eq_of_lt (Nat.lt_of_lt_of_le h (Nat.pow_le_pow_right (show 0 < 2 by decide) hb))).symm
theorem Y.shrN {k' : IntKind} {i : Int} (b : Nat) (hx : opd st x = some (.v (.int .u64 (a : Int)))) (hy : opd st y = some (.v (.int k' i))) (hi : i = (b : Int)) (hr : a < 18446744073709551616) : Yields P N st ⟨dst, .binOp .shr t x y t', ty, pos, af, g⟩ (.v (.int .u64 ((a / 2 ^ b : Nat) : Int))) :=
  Y.shr hx hy (by omega) (by
    subst hi
    show (a : Int).fdiv (2 ^ (Min.min b 64)) = _
    have h2 : (0 : Int) ≤ 2 ^ (Min.min b 64) := Int.le_of_lt (Int.pow_pos (show (0 : Int) < 2 by decide))
    rw [← pow_min64 a b hr, Int.fdiv_eq_ediv_of_nonneg _ h2]
    norm_cast)
theorem pow_mod64 (a b : Nat) : a * 2 ^ (min b 64) % 18446744073709551616 = a * 2 ^ b % 18446744073709551616 := by
  rcases Nat.le_total b 64 with hb | hb
  · rw [Nat.min_eq_left hb]
  · rw [Nat.min_eq_right hb]
    have e : 2 ^ b = 18446744073709551616 * 2 ^ (b - 64) := by
      have h := Nat.pow_add 2 64 (b - 64)
      rw [show 64 + (b - 64) = b by omega] at h
      rw [h]
    rw [e, show a * (18446744073709551616 * 2 ^ (b - 64)) = 18446744073709551616 * (a * 2 ^ (b - 64)) by rw [Nat.mul_left_comm], Nat.mul_mod_right]
    exact Nat.mul_mod_left a 18446744073709551616
theorem Y.shlN {k' : IntKind} {i : Int} (b : Nat) (hx : opd st x = some (.v (.int .u64 (a : Int)))) (hy : opd st y = some (.v (.int k' i))) (hi : i = (b : Int)) : Yields P N st ⟨dst, .binOp .shl t x y t', ty, pos, af, g⟩ (.v (.int .u64 ((a * 2 ^ b % 18446744073709551616 : Nat) : Int))) :=
  Y.shl hx hy (by omega) (by
    subst hi
    show IntKind.u64.wrap ((a : Int) * 2 ^ (Min.min b 64)) = _
    rw [← pow_mod64, ← u64_wrapN]
    norm_cast)
end
end Go.AW
/- Part of the abstract walk: guarded operations that look at no memory, in open orders. -/
namespace Go.AW
open Go

section
variable {P : Program} {N : Frm} {ops : Array Oper} {st : St} {d : Nat} {ty : TypeId} {pos : String} {af : Array Edge} {K : St → Prop}
theorem AAny.skipOp {n : Nat} {listed : Array Bool} (i : Nat) {op : Op} {j dj : Nat} {want : Bool} {u : Value} (ho : ops[i]? = some ⟨some d, op, ty, pos, af, some (j, want)⟩)
    (hB : (Region.noSelect ops && Region.free .any ops listed i && (Region.ready .any ops listed).contains i) = true)
    (hj : (ops[j]?).bind (·.dst) = some dj) (hdj : dj < N.n) (hd : d < N.n) (hx : look st.slots dj = some (.v u)) (hne : notB want u = true)
    (k : AAny P N ops n (listed.setIfInBounds i true) (st.put d (.v undef)) K) : AAny P N ops (n + 1) listed st K := by
  intro G hn a w hh
  obtain ⟨E, RR, rfl, hi⟩ := hh
  simp only [Bool.and_eq_true] at hB
  have hw := unwanted (all := ops) (dst := some d) (op := op) (ty := ty) (pos := pos) (af := af) hi hj (hn ▸ hdj) hx hne
  refine wpAny_take (v := undef) ho hB.1.1 hB.1.2 hB.2 ?_ (.inr ⟨hw, rfl⟩) (k G hn _ _ ⟨E, _, rfl, hi.put0 (hn ▸ hd) (by simp [RX])⟩)
  intro c a w h
  cases h.1
theorem AAny.blindRun {n : Nat} {listed : Array Bool} (i : Nat) {op : Op} {x : X} {j dj : Nat} {want : Bool} (ho : ops[i]? = some ⟨some d, op, ty, pos, af, some (j, want)⟩)
    (hB : (Region.noSelect ops && Region.free .any ops listed i && (Region.ready .any ops listed).contains i) = true)
    (hj : (ops[j]?).bind (·.dst) = some dj) (hdj : dj < N.n) (hx : look st.slots dj = some (.v (.bool want))) (hy : Blind P N st ⟨some d, op, ty, pos, af, some (j, want)⟩ x) (hd : d < N.n)
    (k : AAny P N ops n (listed.setIfInBounds i true) (st.put d x) K) : AAny P N ops (n + 1) listed st K := by
  intro G hn a w hh
  obtain ⟨E, RR, rfl, hi⟩ := hh
  obtain ⟨u, hr, hx'⟩ := hy G E RR a hn hi
  simp only [Bool.and_eq_true] at hB
  have hs := hi.slots dj _ hx
  simp only [RX] at hs
  have hsz : dj < a.tmps.size := by rw [hi.tmps, hn]; exact hdj
  have hv : a.tmps[dj]? = some (.bool want) := by
    have := hs.1
    simp only [Array.getD, hsz, dif_pos] at this
    rw [Array.getElem?_eq_getElem hsz]
    exact congrArg some this
  have hw : Region.wanted ⟨some d, op, ty, pos, af, some (j, want)⟩ (yielded ops a.tmps) = true := by
    simp [Region.wanted, yielded, hj, hv]
  refine wpAny_take (v := u) ho hB.1.1 hB.1.2 hB.2 ?_ (.inl ⟨hw, hr⟩) (k G hn _ _ ⟨E, _, rfl, hi.put0 (hn ▸ hd) hx'⟩)
  intro c a w h
  cases h.1
end
end Go.AW
/- Part of the abstract walk: slices.Grow of no slice. -/
namespace Go.AW
open Go

section
variable {P : Program} {N : Frm} {G : Ctx} {E : Env} {RR : Own → List Nat} {st : St} {a : Act} {Q : Exit → St → Prop} {all : Array Oper} {rest : List Oper} {d : Nat} {dst : Option Nat} {ty : TypeId} {pos : String} {af : Array Edge} {g : Option (Nat × Bool)}
theorem Y.capNil {t e s by_ : Nat} {x : Operand} (ht : TY.slice P t = some (e, s, by_)) (hx : opd st x = some (.v (.slice none 0 0))) :
    Yields P N st ⟨dst, .call ⟨.builtin .cap, #[x], #[t]⟩, ty, pos, af, g⟩ (.v (.int .i64 0)) := by
  intro G E RR a _ hi
  refine ⟨.int .i64 0, run_callB ?_, by simp [RX]⟩
  obtain ⟨hu, _⟩ := TY.slice_spec ht
  have hc := hi.val hx
  simp [builtin, Builtin.cap_, hc, run_underlying hu, goInt]
theorem Y.sliceNil {t e s by_ : Nat} {x : Operand} {lo hi' : Option Operand} (ht : TY.slice P t = some (e, s, by_)) (hx : opd st x = some (.v (.slice none 0 0))) (hl : Bd st lo 0 0) (hh : Bd st hi' 0 0) :
    Yields P N st ⟨dst, .slice t x lo hi' none, ty, pos, af, g⟩ (.v (.slice none 0 0)) := by
  intro G E RR a _ hi
  obtain ⟨hun, i, hinf, hsz, _⟩ := TY.slice_spec ht
  have hc := hi.val hx
  refine ⟨.slice none 0 0, ?_, by simp [RX]⟩
  show (do let z ← Instr.sliceAt t (a.eval x) (lo.map a.eval) (hi'.map a.eval) none; pure (Next.value z) : Sem Next).run P E.w = _
  rw [hc]
  refine run_v ?_
  simp only [Instr.sliceAt, Sem.run_bind, run_underlying hun, Result.andThen_ok, Instr.slice, run_sliceBounds hi hl hh (Nat.le_refl 0) (Nat.le_refl 0), run_sizeOf hinf, hsz]
  rfl
/-- append of so many zeros to no slice. -/
theorem AOps.appendMake {t tn e s by_ n : Nat} {x y : Operand} {z : List Value} {k kn : IntKind} (ht : TY.slice P t = some (e, s, by_)) (hz : TY.zero P e = some z) (hzl : z.length = s) (h1 : X.ones (z.map X.v) = true) (htn : TY.isInt P tn = some kn)
    (hx : opd st x = some (.v (.slice none 0 0))) (hy : opd st y = some (.v (.int k (n : Int)))) (h0 : 0 < n) (hs0 : 0 < s) (hb : n * by_ ≤ 281474976710656) (h63 : n ≤ 9223372036854775807) (hd : d < N.n)
    (kk : AOps P N all rest (st.put d (.uni s (List.replicate n (z.map X.v)))) Q) : AOps P N all (⟨some d, .call ⟨.builtin .append, #[x, y], #[t, tn]⟩, ty, pos, af, none⟩ :: rest) st Q := by
  refine AOps.eff (fun G E RR a hn hi => ?_) kk
  obtain ⟨hu, i, hinf, hs, hby⟩ := TY.slice_spec ht
  obtain ⟨i', z0, hi0, hz0, hzz⟩ := TY.zero_spec hz
  rw [hinf] at hi0
  obtain rfl := Option.some.inj hi0
  have hzz' : z0.cells = z.toArray := by rw [← hzz]
  have hrun := Lib.run_append_nil_zeros (P := P) E.w t tn ty e i z0 k kn hu (by unfold TY.isInt at htn; split at htn <;> simp_all : P.underlying tn = some (.int kn)) hinf hz0 n h0 (by rw [hs]; exact hs0) (by omega) (by rw [hby]; exact hb)
  rw [hzz'] at hrun
  have hU : Uniform s (List.replicate n (z.map X.v)) := by
    intro r hr
    rw [(List.mem_replicate.1 hr).2]; simpa using hzl
  have hi2 := hi.moves (Moves.drew G E) rfl
  have hcap := grownCap_ge E.w n 0 e
  have hsz : (Builtin.zeroCells z.toArray n ++ Builtin.zeroCells z.toArray (grownCap E.w n 0 e - n)).size = grownCap E.w n 0 e * s := by
    rw [Array.size_append, size_zeroCells, size_zeroCells, ← Nat.add_mul]
    simp only [List.size_toArray, hzl]
    congr 1; omega
  obtain ⟨RR', hi'⟩ := hi2.newRow (cs := Builtin.zeroCells z.toArray n ++ Builtin.zeroCells z.toArray (grownCap E.w n 0 e - n)) (e := e) (s := s) (cap := grownCap E.w n 0 e) (d := d) hU (by rw [List.length_replicate]; exact hcap) (by rw [hsz]; exact Nat.le_refl _) (by
    refine ROr.of_all hU fun j row hr => ?_
    have hj : j < n := by
      rcases Nat.lt_or_ge j n with h' | h'
      · exact h'
      · rw [List.getElem?_eq_none (by rw [List.length_replicate]; exact h')] at hr; cases hr
    have : row = z.map X.v := by
      have := List.mem_of_getElem? hr
      exact (List.mem_replicate.1 this).2
    subst this
    refine ⟨nrs_v z, RXs.toRO (RXs_v h1) fun q hq => ?_⟩
    have hq' : q < s := by simpa [hzl] using hq
    have hlt : j * s + q < n * s := by
      have : (j + 1) * s ≤ n * s := Nat.mul_le_mul_right s hj
      rw [Nat.add_mul] at this; omega
    have hqz : q < z.length := by omega
    rw [Array.getElem?_append_left (by rw [size_zeroCells]; simp only [List.size_toArray, hzl]; omega)]
    simp only [Nat.zero_add, Builtin.zeroCells]
    rw [Array.getElem?_map, Array.getElem?_range, if_pos (by simpa [hzl] using hlt)]
    simp only [Option.map_some, List.size_toArray, hzl, mod_of hq']
    rw [List.getElem?_eq_getElem hqz]
    simp [hqz]) (by rw [hn]; exact hd)
  simp only [List.length_replicate] at hi'
  refine ⟨_, _, _, ?_, hi'⟩
  refine run_callB (g := none) ?_
  have e' : (#[x, y] : Array Operand).map a.eval = #[.slice none 0 0, .int k (n : Int)] := by simp [hi.val hx, hi.val hy]
  rw [e']
  exact run_v hrun
theorem Sh.trimE {d o s lo n : Nat} {rs : List (List X)} (rs' : List (List X)) (hx : look st.slots d = some (.slc o s lo n)) (ho : look st.objs o = some (.rows s rs)) (hln : lo + n ≤ rs.length) (he : (rs.drop lo).take n = rs') (hF : N.F.elem o = false) :
    Sh N st (((st.kill o).putO o (.rows s rs')).put d (.slc o s 0 n)) := by subst he; exact Sh.trim hx ho hln hF
end
end Go.AW
/- Part of the abstract walk: a slice of one's own is taken out of the slice that holds it. -/
namespace Go.AW
open Go

theorem X.nrs_set : ∀ {xs : List X} (k : Nat), X.nrs xs = true → X.nrs (xs.set k .no) = true
  | [], _, _ => rfl
  | x :: r, 0, h => by
    simp only [X.nrs, Bool.and_eq_true] at h
    simp [List.set, X.nrs, X.nr, h.2]
  | x :: r, k + 1, h => by
    simp only [X.nrs, Bool.and_eq_true] at h
    simp [List.set, X.nrs, h.1, X.nrs_set k h.2]
theorem RO.pick {E : Env} {cs : Array Value} {y : X} : ∀ {xs : List X} {off k : Nat} {R : List Nat}, RO E xs cs off R → xs[k]? = some y →
    ∃ u Ry R1, cs[off + k]? = some u ∧ Single u ∧ RX E y u Ry ∧ RO E (xs.set k .no) cs off R1 ∧ (R.Nodup → (Ry ++ R1).Nodup) ∧ ∀ b ∈ Ry ++ R1, b ∈ R
  | [], _, _, _, _, h => by simp at h
  | x :: r, off, 0, R, h, hy => by
    simp only [RO] at h
    obtain ⟨u, R₁, R₂, hu, hs, h1, h2, rfl⟩ := h
    simp only [List.getElem?_cons_zero, Option.some.injEq] at hy
    subst hy
    refine ⟨u, R₁, R₂, hu, hs, h1, ?_, fun h => h, fun b hb => hb⟩
    simp only [List.set, RO]
    exact ⟨u, [], R₂, hu, hs, by simp [RX], h2, rfl⟩
  | x :: r, off, k + 1, R, h, hy => by
    simp only [RO] at h
    obtain ⟨u, R₁, R₂, hu, hs, h1, h2, rfl⟩ := h
    simp only [List.getElem?_cons_succ] at hy
    obtain ⟨v, Ry, R', hv, hsv, hvy, hro, hnd, hsub⟩ := RO.pick h2 hy
    refine ⟨v, Ry, R₁ ++ R', by rw [show off + (k + 1) = off + 1 + k by omega]; exact hv, hsv, hvy, ?_, fun hn => ?_, fun b hb => ?_⟩
    · simp only [List.set, RO]
      exact ⟨u, R₁, R', hu, hs, h1, hro, rfl⟩
    · obtain ⟨n1, n2, n3⟩ := List.nodup_append.1 hn
      have h3 := hnd n2
      rw [← List.append_assoc, List.nodup_append]
      obtain ⟨m1, m2, m3⟩ := List.nodup_append.1 h3
      refine ⟨?_, m2, fun a ha b hb => ?_⟩
      · rw [List.nodup_append]
        exact ⟨m1, n1, fun a ha b hb e => n3 b hb a (hsub a (List.mem_append.2 (.inl ha))) e.symm⟩
      · rcases List.mem_append.1 ha with h | h
        · exact m3 a h b hb
        · exact n3 a h b (hsub b (List.mem_append.2 (.inr hb)))
    · rcases List.mem_append.1 hb with h | h
      · exact List.mem_append.2 (.inr (hsub b (List.mem_append.2 (.inl h))))
      · rcases List.mem_append.1 h with h | h
        · exact List.mem_append.2 (.inl h)
        · exact List.mem_append.2 (.inr (hsub b (List.mem_append.2 (.inr h))))
theorem ROr.pick {E : Env} {cs : Array Value} {y : X} {s : Nat} : ∀ {rs : List (List X)} {row : List X} {off i k : Nat} {R : List Nat}, Uniform s rs → ROr E rs cs off R → rs[i]? = some row → row[k]? = some y →
    ∃ u Ry R1, cs[off + (i * s + k)]? = some u ∧ Single u ∧ RX E y u Ry ∧ ROr E (rs.set i (row.set k .no)) cs off R1 ∧ (R.Nodup → (Ry ++ R1).Nodup) ∧ ∀ b ∈ Ry ++ R1, b ∈ R
  | [], _, _, _, _, _, _, _, h, _ => by simp at h
  | r :: rs, row, off, 0, k, R, _, h, hr, hy => by
    simp only [ROr] at h
    obtain ⟨R₁, R₂, hn, h1, h2, rfl⟩ := h
    simp only [List.getElem?_cons_zero, Option.some.injEq] at hr
    subst hr
    obtain ⟨u, Ry, R', hu, hs, hvy, hro, hnd, hsub⟩ := RO.pick h1 hy
    refine ⟨u, Ry, R' ++ R₂, by rw [Nat.zero_mul, Nat.zero_add]; exact hu, hs, hvy, ?_, fun hn' => ?_, fun b hb => ?_⟩
    · simp only [List.set, ROr, List.length_set]
      exact ⟨R', R₂, X.nrs_set k hn, hro, h2, rfl⟩
    · obtain ⟨n1, n2, n3⟩ := List.nodup_append.1 hn'
      rw [← List.append_assoc, List.nodup_append]
      exact ⟨hnd n1, n2, fun a ha b hb => n3 a (hsub a ha) b hb⟩
    · rw [← List.append_assoc] at hb
      rcases List.mem_append.1 hb with h | h
      · exact List.mem_append.2 (.inl (hsub b h))
      · exact List.mem_append.2 (.inr h)
  | r :: rs, row, off, i + 1, k, R, hU, h, hr, hy => by
    simp only [ROr] at h
    obtain ⟨R₁, R₂, hn, h1, h2, rfl⟩ := h
    simp only [List.getElem?_cons_succ] at hr
    have hl : r.length = s := hU r (List.mem_cons_self ..)
    obtain ⟨u, Ry, R', hu, hs, hvy, hro, hnd, hsub⟩ := ROr.pick (fun x hx => hU x (List.mem_cons_of_mem _ hx)) h2 hr hy
    refine ⟨u, Ry, R₁ ++ R', by rw [show off + ((i + 1) * s + k) = off + r.length + (i * s + k) by rw [Nat.add_mul, hl]; omega]; exact hu, hs, hvy, ?_, fun hn' => ?_, fun b hb => ?_⟩
    · simp only [List.set, ROr]
      exact ⟨R₁, R', hn, h1, hro, rfl⟩
    · obtain ⟨n1, n2, n3⟩ := List.nodup_append.1 hn'
      have h3 := hnd n2
      rw [← List.append_assoc, List.nodup_append]
      obtain ⟨m1, m2, m3⟩ := List.nodup_append.1 h3
      refine ⟨?_, m2, fun a ha b hb => ?_⟩
      · rw [List.nodup_append]
        exact ⟨m1, n1, fun a ha b hb e => n3 b hb a (hsub a (List.mem_append.2 (.inl ha))) e.symm⟩
      · rcases List.mem_append.1 ha with h | h
        · exact m3 a h b hb
        · exact n3 a h b (hsub b (List.mem_append.2 (.inr hb)))
    · rcases List.mem_append.1 hb with h | h
      · exact List.mem_append.2 (.inr (hsub b (List.mem_append.2 (.inl h))))
      · rcases List.mem_append.1 h with h | h
        · exact List.mem_append.2 (.inl h)
        · exact List.mem_append.2 (.inr (hsub b (List.mem_append.2 (.inr h))))
section
variable {P : Program} {N : Frm} {st : St} {Q : Exit → St → Prop} {all : Array Oper} {rest : List Oper} {d : Nat} {ty : TypeId} {pos : String} {af : Array Edge}
/-- A slice of one's own, loaded out of a slice: it moves. -/
theorem AOps.loadU {t : TypeId} {x : Operand} {o s i k : Nat} {y : X} {row : List X} {rs : List (List X)} (rs' : List (List X)) (ht : TY.shape P t = some none) (hx : opd st x = some (.ptr o s i k)) (ho : look st.objs o = some (.rows s rs)) (hr : rs[i]? = some row) (hy : row[k]? = some y)
    (he : rs.set i (row.set k .no) = rs') (hd : d < N.n) (kk : AOps P N all rest ((st.putO o (.rows s rs')).put d y) Q) :
    AOps P N all (⟨some d, .load t x, ty, pos, af, none⟩ :: rest) st Q := by
  subst he
  refine AOps.eff (fun G E RR a hn hi => ?_) kk
  obtain ⟨R, hp⟩ := hi.eval hx
  simp only [RX] at hp
  obtain ⟨_, B, hB, hc⟩ := hp
  have hob := hi.objs o _ ho
  have hnd := hi.nodup (.obj o)
  simp only [ROb] at hob
  obtain ⟨hu, hob⟩ := hob
  rcases hob with ⟨_, h, _⟩ | ⟨B', cs, tb, R', hB', hw, hφ, hcap, hlen, hRO, hRR⟩
  · subst h; simp at hr
  rw [hB] at hB'
  obtain rfl := Option.some.inj hB'
  obtain ⟨u, Ry, R1, hcu, hs, hvy, hro, hnod, hsub⟩ := ROr.pick hu hRO hr hy
  rw [hRR] at hnd
  obtain ⟨hnin, hnd'⟩ := List.nodup_cons.1 hnd
  have hn2 := hnod hnd'
  obtain ⟨m1, m2, m3⟩ := List.nodup_append.1 hn2
  have hsubo : ∀ b ∈ Ry ++ R1, b ∈ RR (.obj o) := fun b hb => by rw [hRR]; exact List.mem_cons.2 (.inr (hsub b hb))
  have hi2 : Inv G E (upd RR (.obj o) (B.b :: R1)) (st.putO o (.rows s (rs.set i (row.set k .no)))) a := by
    refine hi.putO ?_ ?_ ?_
    · simp only [ROb]
      refine ⟨hu.set (by rw [List.length_set]; exact hu row (List.mem_of_getElem? hr)), .inr ⟨B, cs, tb, R1, hB, hw, hφ, by simpa using hcap, hlen, hro, rfl⟩⟩
    · exact List.nodup_cons.2 ⟨fun h => hnin (hsub _ (List.mem_append.2 (.inr h))), m2⟩
    · intro b hb
      have hbm : b ∈ RR (.obj o) := by
        rcases List.mem_cons.1 hb with h | h
        · rw [hRR, h]; simp
        · exact hsubo b (List.mem_append.2 (.inr h))
      exact ⟨(hi.own _ _ hbm).1, (hi.own _ _ hbm).2, fun p hp h => hi.apart _ _ hp b h hbm⟩
  refine ⟨u, E, _, ?_, hi2.put (by rw [hn]; exact hd) hvy m1 fun b hb => ?_⟩
  · show (do let z ← Instr.loadAt t (a.eval x); pure (Next.value z) : Sem Next).run P E.w = _
    rw [hc]
    refine run_v ?_
    have hcell : E.w.cell? ⟨B.b, B.off + (i * s + k), none⟩ = some u := by rw [cell_of_heap hw]; exact hcu
    simp only [Instr.loadAt, Instr.sureAddr, loadVar, Sem.run_bind, Sem.run_pure, Result.andThen_ok, (TY.shape_none ht E.w).1]
    simp [hcell]
  · have hbm := hsubo b (List.mem_append.2 (.inl hb))
    refine ⟨(hi.own _ _ hbm).1, (hi.own _ _ hbm).2, fun p hp h => ?_⟩
    unfold upd at h
    split at h
    · rename_i hpo
      rcases List.mem_cons.1 h with h' | h'
      · exact hnin (h' ▸ hsub b (List.mem_append.2 (.inl hb)))
      · exact m3 b hb b h' rfl
    · rename_i hpo
      exact hi.apart _ _ hpo b h hbm
/-- .. and stored again. -/
theorem AOps.storeUE {t : TypeId} {x : Operand} {o s i k ys' tv : Nat} {rows : List (List X)} {rw' : List X} {rs : List (List X)} (rs' : List (List X)) (ht : TY.size P t = some 1) (hx : opd st x = some (.ptr o s i k)) (hy : look st.slots tv = some (.uni ys' rows))
    (ho : look st.objs o = some (.rows s rs)) (hr : rs[i]? = some rw') (hk : k + 1 ≤ rw'.length) (he : rs.set i (putL rw' k [.uni ys' rows]) = rs') (kk : AOps P N all rest ((st.put tv .no).putO o (.rows s rs')) Q) :
    AOps P N all (⟨none, .store t x (.tmp tv), ty, pos, af, none⟩ :: rest) st Q := by
  subst he; exact AOps.storeU ht hx hy (row := []) rfl ho hr hk kk
end
end Go.AW
/- Part of the abstract walk: slices of slices of one's own. -/
namespace Go.AW
open Go

theorem RO.nilu {E : Env} {cs : Array Value} {e off : Nat} {R : List Nat} (h : RO E [.v (.slice none 0 0)] cs off R) : RO E [.uni e []] cs off R := by
  simp only [RO] at h ⊢
  obtain ⟨u, R₁, R₂, hu, hs, h1, h2, h3⟩ := h
  simp only [RX] at h1
  refine ⟨u, R₁, R₂, hu, hs, ?_, h2, h3⟩
  simp only [RX]
  exact ⟨fun _ h => (by cases h), none, 0, h1.1, .inl ⟨by trivial, by trivial, h1.2⟩⟩
theorem ROr.nilu {E : Env} {cs : Array Value} {e : Nat} : ∀ {n off : Nat} {R : List Nat}, ROr E (List.replicate n [.v (.slice none 0 0)]) cs off R → ROr E (List.replicate n [.uni e []]) cs off R
  | 0, _, _, h => by simpa [ROr] using h
  | n + 1, off, R, h => by
    simp only [List.replicate_succ, ROr] at h ⊢
    obtain ⟨R₁, R₂, _, h1, h2, h3⟩ := h
    exact ⟨R₁, R₂, rfl, h1.nilu, ROr.nilu h2, h3⟩
section
variable {N : Frm} {st : St} {d : Nat}
/-- Slices that are nil, as slices of one's own without elements. -/
theorem Sh.nilRows (e : Nat) {n : Nat} (hx : look st.slots d = some (.uni 1 (List.replicate n [.v (.slice none 0 0)]))) : Sh N st (st.put d (.uni 1 (List.replicate n [.uni e []]))) := by
  intro G hn a w hh
  obtain ⟨E, RR, rfl, hi⟩ := hh
  have hv := hi.slots d _ hx
  refine ⟨E, _, rfl, hi.relabel (d := d) (R := RR (.slot d)) ?_ (hi.nodup _) (fun b hb => ⟨(hi.own _ _ hb).1, (hi.own _ _ hb).2, fun p hp h => hi.apart _ _ hp b h hb⟩)⟩
  simp only [RX] at hv ⊢
  obtain ⟨_, base, cap, hc, h⟩ := hv
  refine ⟨fun r hr => by rw [(List.mem_replicate.1 hr).2]; rfl, base, cap, by simpa using hc, ?_⟩
  rcases h with ⟨h1, h2, h3⟩ | ⟨b, off, cs, ty, R', h1, h2, h3, h4, h5, h6, h7⟩
  · refine .inl ⟨?_, h2, h3⟩
    have : n = 0 := by simpa using congrArg List.length h1
    subst this; rfl
  · exact .inr ⟨b, off, cs, ty, R', h1, h2, by simpa using h3, h4, h5, h6.nilu, h7⟩
end
theorem out_get {α : Type} {l : List α} {f : α → List X} {m : Nat} {r : List X} (h : m < l.length) : ((l.map f).set (0 + m) r)[0 + m]? = some r := by
  rw [Nat.zero_add, List.getElem?_set_self (by simpa using h)]
theorem out_back {α : Type} {l : List α} {f : α → List X} {m : Nat} {r q : List X} {v : α} (h : q = f v) : ((l.map f).set (0 + m) r).set (0 + m) q = (l.set m v).map f := by
  rw [Nat.zero_add, List.set_set, h, List.map_set]
theorem trim_drop {α : Type} {l : List α} {f : α → List X} {m n : Nat} (h : n = l.length - m) : ((l.map f).drop (0 + m)).take n = (l.drop m).map f := by
  rw [Nat.zero_add, ← List.map_drop, List.take_of_length_le (by simp; omega)]
theorem X.ffzr_map {α : Type} {f g : α → List X} (h : ∀ a, X.ffzs (f a) = g a) : ∀ l : List α, X.ffzr (l.map f) = l.map g
  | [] => rfl
  | a :: r => by simp only [List.map_cons, X.ffzr, h, X.ffzr_map h r]
theorem Sh.freezeNest {α : Type} {f g : α → List X} {N : Frm} {st : St} {d s : Nat} {l : List α} (h : ∀ a, X.ffzs (f a) = g a) (hx : look st.slots d = some (.uni s (l.map f))) : Sh N st (st.put d (.fz s (l.map g))) :=
  Sh.freezeX hx (by simp only [X.ffz, X.ffzr_map h])
end Go.AW
/- Part of the abstract walk: is a frozen slice nil; a nil slice in a variable gets a name. -/
namespace Go.AW
open Go

section
variable {P : Program} {N : Frm} {st : St} {Q : Exit → St → Prop} {all : Array Oper} {rest : List Oper} {d : Nat} {ty : TypeId} {pos : String} {af : Array Edge}
theorem AOps.eqNil {t t' e s by_ : Nat} {x y : Operand} {s' : Nat} {rows : List (List X)} (ht : TY.slice P t = some (e, s, by_)) (hx : opd st x = some (.fz s' rows)) (hy : opd st y = some (.v (.slice none 0 0))) (hd : d < N.n)
    (k : ∀ b : Bool, (b = true → rows = []) → AOps P N all rest (st.put d (.v (.bool b))) Q) : AOps P N all (⟨some d, .binOp .eql t x y t', ty, pos, af, none⟩ :: rest) st Q := by
  intro G hn a w hh
  obtain ⟨E, RR, rfl, hi⟩ := hh
  obtain ⟨R, hp⟩ := hi.eval hx
  have hyv := hi.val hy
  obtain ⟨hu, _⟩ := TY.slice_spec ht
  simp only [RX] at hp
  obtain ⟨_, hU, base, cap, hc, hcase⟩ := hp
  have hr : (execOp a.eval ⟨some d, .binOp .eql t x y t', ty, pos, af, none⟩).run P E.w = .ok (.value (.bool base.isNone)) E.w := by
    show (do let x ← (do eqGuard .eql t x y (a.eval x) (a.eval y); binOp .eql t (a.eval x) (a.eval y) : Sem Value); pure (Next.value x) : Sem Next).run P E.w = _
    rw [hyv, hc]
    refine run_v ?_
    have := Lib.run_eql_slice_nil (P := P) E.w t e base rows.length cap 0 0 hu
    simp only [eqGuard, Sem.run_bind]
    simpa using this
  refine wpList_plain rfl fun K hK => ?_
  simp only [Oper.wp, hr, Oper.upon_value]
  refine hK _ _ (k base.isNone (fun h => ?_) G hn _ _ ⟨E, _, rfl, hi.put0 (by rw [hn]; exact hd) (by simp [RX])⟩)
  rcases hcase with ⟨h1, _⟩ | ⟨b, off, h1, _⟩
  · exact h1
  · rw [h1] at h; cases h
theorem RO.recell {E : Env} {cs : Array Value} {x y : X} (hxy : ∀ c, RX E x c [] → RX E y c []) (hf : x.free = true) : ∀ {xs : List X} {off k : Nat} {R : List Nat}, RO E xs cs off R → xs[k]? = some x → RO E (xs.set k y) cs off R
  | [], _, _, _, _, h => by simp at h
  | z :: r, off, 0, R, h, hy => by
    simp only [RO] at h
    obtain ⟨u, R₁, R₂, hu, hs, h1, h2, rfl⟩ := h
    simp only [List.getElem?_cons_zero, Option.some.injEq] at hy
    subst hy
    have h0 := RX.free hf h1
    subst h0
    simp only [List.set, RO]
    exact ⟨u, [], R₂, hu, hs, hxy u h1, h2, rfl⟩
  | z :: r, off, k + 1, R, h, hy => by
    simp only [RO] at h
    obtain ⟨u, R₁, R₂, hu, hs, h1, h2, rfl⟩ := h
    simp only [List.getElem?_cons_succ] at hy
    simp only [List.set, RO]
    exact ⟨u, R₁, R₂, hu, hs, h1, RO.recell hxy hf h2 hy, rfl⟩
/-- A nil slice in the variable o gets the name q. -/
theorem Sh.nilCell (o q s k : Nat) {xs : List X} (ho : look (st.kill q).objs o = some (.cells xs)) (hk : xs[k]? = some (.v (.slice none 0 0))) (hfr : X.frees (xs.set k (.slc q s 0 0)) = true) (hoq : Nat.beq q o = false) (hF : N.F.elem q = false) :
    Sh N st (((st.kill q).putO q (.rows s [])).putO o (.cells (xs.set k (.slc q s 0 0)))) := by
  intro G hn a w hh
  obtain ⟨E, RR, rfl, hi⟩ := hh
  obtain ⟨E', RR', hw, h1, h2⟩ := hi.nil q s (by rw [hn]; exact hF)
  have hob := h1.objs o (.cells xs) (by simp only [St.putO, look, hoq, cond_false]; exact ho)
  have hob2 := hob
  simp only [ROb] at hob2
  obtain ⟨_, B, cs, ty, hB, hw', hφ, hsz, hro, hR⟩ := hob2
  refine ⟨E', _, hw, h1.putO (R := RR' (.obj o)) ?_ (h1.nodup _) (fun b hb => ⟨(h1.own _ _ hb).1, (h1.own _ _ hb).2, fun p hp h => h1.apart _ _ hp b h hb⟩)⟩
  simp only [ROb]
  refine ⟨hfr, B, cs, ty, hB, hw', hφ, by rw [List.length_set]; exact hsz, RO.recell (x := .v (.slice none 0 0)) (fun c hc => ?_) rfl hro hk, hR⟩
  simp only [RX] at hc
  rw [hc.1]; exact h2
theorem RXs.recell {E : Env} {x y : X} (hxy : ∀ c, RX E x c [] → RX E y c []) (hf : x.free = true) : ∀ {xs : List X} {k : Nat} {cs : List Value} {R : List Nat}, RXs E xs cs R → xs[k]? = some x → RXs E (xs.set k y) cs R
  | [], _, _, _, _, h => by simp at h
  | z :: r, 0, cs, R, h, hy => by
    simp only [RXs] at h
    obtain ⟨c, cs', R₁, R₂, hcs, hs, h1, h2, rfl⟩ := h
    simp only [List.getElem?_cons_zero, Option.some.injEq] at hy
    subst hy
    have h0 := RX.free hf h1
    subst h0
    simp only [List.set, RXs]
    exact ⟨c, cs', [], R₂, hcs, hs, hxy c h1, h2, rfl⟩
  | z :: r, k + 1, cs, R, h, hy => by
    simp only [RXs] at h
    obtain ⟨c, cs', R₁, R₂, hcs, hs, h1, h2, rfl⟩ := h
    simp only [List.getElem?_cons_succ] at hy
    simp only [List.set, RXs]
    exact ⟨c, cs', R₁, R₂, hcs, hs, h1, RXs.recell hxy hf h2 hy, rfl⟩
/-- A nil slice in a struct is a frozen slice without elements. -/
theorem Sh.fzA (s k : Nat) {d : Nat} {xs : List X} (hx : look st.slots d = some (.agg xs)) (hk : xs[k]? = some (.v (.slice none 0 0))) : Sh N st (st.put d (.agg (xs.set k (.fz s [])))) := by
  intro G hn a w hh
  obtain ⟨E, RR, rfl, hi⟩ := hh
  have hv := hi.slots d _ hx
  refine ⟨E, _, rfl, hi.relabel (d := d) (R := RR (.slot d)) ?_ (hi.nodup _) (fun b hb => ⟨(hi.own _ _ hb).1, (hi.own _ _ hb).2, fun p hp h => hi.apart _ _ hp b h hb⟩)⟩
  simp only [RX] at hv ⊢
  obtain ⟨cs, hc, h⟩ := hv
  refine ⟨cs, hc, RXs.recell (x := .v (.slice none 0 0)) (fun c hc => ?_) rfl h hk⟩
  simp only [RX] at hc ⊢
  exact ⟨trivial, fun _ h => (by cases h), none, 0, hc.1, .inl ⟨by trivial, by trivial⟩⟩
/-- A nil slice in the variable o is a frozen slice without elements. -/
theorem Sh.fzCell (o s k : Nat) {xs : List X} (ho : look st.objs o = some (.cells xs)) (hk : xs[k]? = some (.v (.slice none 0 0))) (hfr : X.frees (xs.set k (.fz s [])) = true) :
    Sh N st (st.putO o (.cells (xs.set k (.fz s [])))) := by
  intro G hn a w hh
  obtain ⟨E, RR, rfl, hi⟩ := hh
  have hob := hi.objs o _ ho
  simp only [ROb] at hob
  obtain ⟨_, B, cs, ty, hB, hw', hφ, hsz, hro, hR⟩ := hob
  refine ⟨E, _, rfl, hi.putO (R := RR (.obj o)) ?_ (hi.nodup _) (fun b hb => ⟨(hi.own _ _ hb).1, (hi.own _ _ hb).2, fun p hp h => hi.apart _ _ hp b h hb⟩)⟩
  simp only [ROb]
  refine ⟨hfr, B, cs, ty, hB, hw', hφ, by rw [List.length_set]; exact hsz, RO.recell (x := .v (.slice none 0 0)) (fun c hc => ?_) rfl hro hk, hR⟩
  simp only [RX] at hc ⊢
  exact ⟨trivial, fun _ h => (by cases h), none, 0, hc.1, .inl ⟨by trivial, by trivial⟩⟩
end
end Go.AW
/- Part of the abstract walk: the rules that are used most, under short names. -/
namespace Go.AW
open Go

section
variable {P : Program} {N : Frm} {st : St} {Q : Exit → St → Prop} {all : Array Oper} {rest : List Oper} {d dd j : Nat} {want : Bool} {op : Op} {ty : TypeId} {pos : String} {af : Array Edge} {x : X} {u : Value}
theorem AOps.vl (hy : Yields P N st ⟨some d, op, ty, pos, af, none⟩ x) (k : AOps P N all rest (st.put d x) Q) (hd : d < N.n := by decide) : AOps P N all (⟨some d, op, ty, pos, af, none⟩ :: rest) st Q := AOps.val hy hd k
theorem AOps.gv (d : Nat) (hj : (all[j]?).bind (·.dst) = some d) (hx : look st.slots d = some (.v (.bool want))) (hy : Yields P N st ⟨some dd, op, ty, pos, af, none⟩ x) (k : AOps P N all rest (st.put dd x) Q) (hd : d < N.n := by decide) (hdd : dd < N.n := by decide) :
    AOps P N all (⟨some dd, op, ty, pos, af, some (j, want)⟩ :: rest) st Q := AOps.guardRun hj hd hx (AOps.val hy hdd k)
theorem AOps.gs (d : Nat) (hj : (all[j]?).bind (·.dst) = some d) (hx : look st.slots d = some (.v u)) (hne : notB want u = true) (k : AOps P N all rest (st.put dd (.v undef)) Q) (hd : d < N.n := by decide) (hdd : dd < N.n := by decide) :
    AOps P N all (⟨some dd, op, ty, pos, af, some (j, want)⟩ :: rest) st Q := AOps.guardSkipV hj hd hdd hx hne k
theorem AWp.sr {id : Nat} {l : List Oper} {y : Code} (h : AOps P N l.toArray l st (Then (fun st' => AWp P N y st' Q) Q)) : AWp P N (.seq (.region id l.toArray false) y) st Q := AWp.seq (AWp.region h)
variable {ops : Array Oper} {l0 rs l : List Nat} {t i dj : Nat} {listed : Array Bool} {K : Array Bool → St → Prop}
theorem AQ.cn (i : Nat) (ho : ops[i]? = some ⟨some d, op, ty, pos, af, none⟩) (hy : Yields P N st ⟨some d, op, ty, pos, af, none⟩ x) (k : AQ P N ops l0 rs t l (listed.setIfInBounds i true) (st.put d x) K)
    (hB : (Region.noSelect ops && Region.free .any ops listed i && (Region.ready .any ops listed).contains i) = true := by kernel_rfl) (hd : d < N.n := by decide) : AQ P N ops l0 rs t (i :: l) listed st K := AQ.cons ho hB hy hd k
theorem AQ.sk (i : Nat) (ho : ops[i]? = some ⟨some d, op, ty, pos, af, some (j, want)⟩) (hj : (ops[j]?).bind (·.dst) = some dj) (hx : look st.slots dj = some (.v u)) (hne : notB want u = true) (k : AQ P N ops l0 rs t l (listed.setIfInBounds i true) (st.put d (.v undef)) K)
    (hB : (Region.noSelect ops && Region.free .any ops listed i && (Region.ready .any ops listed).contains i) = true := by kernel_rfl) (hdj : dj < N.n := by decide) (hd : d < N.n := by decide) : AQ P N ops l0 rs t (i :: l) listed st K := AQ.skip ho hB hj hdj hd hx hne k
theorem AQ.rn (i : Nat) (ho : ops[i]? = some ⟨some d, op, ty, pos, af, some (j, want)⟩) (hj : (ops[j]?).bind (·.dst) = some dj) (hx : look st.slots dj = some (.v (.bool want))) (hy : Yields P N st ⟨some d, op, ty, pos, af, some (j, want)⟩ x) (k : AQ P N ops l0 rs t l (listed.setIfInBounds i true) (st.put d x) K)
    (hB : (Region.noSelect ops && Region.free .any ops listed i && (Region.ready .any ops listed).contains i) = true := by kernel_rfl) (hdj : dj < N.n := by decide) (hd : d < N.n := by decide) : AQ P N ops l0 rs t (i :: l) listed st K := AQ.run ho hB hj hdj hx hy hd k
end
end Go.AW
