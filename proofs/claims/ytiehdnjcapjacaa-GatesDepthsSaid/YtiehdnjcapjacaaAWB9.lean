/- Part of the abstract walk: the rule for a call, proved. -/
import Derived.Test.YtiehdnjcapjacaaAWB8
namespace Go.AW
open Go

section
variable {P : Program} {N : Frm} {st : St} {Q : Exit → St → Prop} {all : Array Oper} {rest : List Oper} {d : Nat} {ty : TypeId} {pos : String} {af : Array Edge}

theorem opds_get {G : Ctx} {E : Env} {RR : Own → List Nat} {a : Act} (hi : Inv G E RR st a) : ∀ {l : List Operand} {xs : List X}, opds st l = some xs → xs.length = l.length ∧ ∀ (j : Nat) (x : X), xs[j]? = some x → ∃ o : Operand, l[j]? = some o ∧ ∃ R, RX E x (a.eval o) R
  | [], xs, h => by simp only [opds, Option.some.injEq] at h; subst h; exact ⟨rfl, by simp⟩
  | o :: r, xs, h => by
    simp only [opds] at h
    cases h1 : opd st o with
    | none => simp [h1] at h
    | some y =>
      cases h2 : opds st r with
      | none => simp [h1, h2] at h
      | some ys =>
        rw [h1, h2] at h
        simp only [Option.some.injEq] at h
        subst h
        obtain ⟨hl, hg⟩ := opds_get hi h2
        refine ⟨by simp [hl], fun j x hx => ?_⟩
        cases j with
        | zero => simp at hx; subst hx; exact ⟨o, rfl, hi.eval h1⟩
        | succ j => simpa using hg j x (by simpa using hx)

theorem Inv.call {G : Ctx} {E : Env} {RR : Own → List Nat} {a : Act} {f : FuncId} {fargs : List Operand} {xs args : List X} {objs : List Obj} {F ν L : List Nat} {Q' : X → List Obj → Prop} (hi : Inv G E RR st a) (hspec : ACalls P f args objs F Q')
    (hxs : opds st fargs = some xs) (hargs : LentL st L (nameF ν) xs args) (hobjs : ∀ j ob, objs[j]? = some ob → look st.objs (nameF ν j) = some (ob.ren (nameF ν))) (hlen : ν.length = objs.length) (hνn : ν.Nodup) (hLν : ∀ o ∈ L, o ∉ ν)
    (h0 : ∀ o ∈ L, ∃ ob, look st.objs o = some ob ∧ Owns0 ob) (hNF : ∀ o ∈ loose ν F, G.fn.F.elem o = false) (hd : d < G.fn.n) :
    Calls P f (fargs.map a.eval).toArray E.w fun e w' => ∃ v r objs', e = .returned v ∧ Q' r objs' ∧ objs'.length = objs.length ∧
      (r.lt objs.length = true → (∀ ob ∈ objs', ob.lt objs.length = true) → (L = [] ∨ (r.plain ∧ ∀ ob ∈ objs', ob.plain)) → ∃ E'' RR'', E''.w = w' ∧ Inv G E'' RR'' ((callSt st ν F objs').put d (r.ren (nameF ν))) (a.put (some d) v)) := by
  classical
  -- the blocks that are lent, and those that are handed over
  let LB : Nat → Prop := fun b => ∃ o ∈ L, b ∈ RR (.obj o)
  let PB : Nat → Prop := fun b => ∃ j, j < objs.length ∧ b ∈ RR (.obj (nameF ν j))
  have hνj : ∀ j, j < objs.length → ν[j]? = some (nameF ν j) := by
    intro j hj
    have : j < ν.length := by omega
    simp [nameF, List.getD, List.getElem?_eq_getElem this]
  have hLφ : ∀ b, LB b → ∀ i, E.φ b i = none := by
    rintro b ⟨o, hoL, hb⟩
    obtain ⟨ob, hob, hown⟩ := h0 o hoL
    have h := hi.objs o ob hob
    cases ob with
    | cells ys =>
      simp only [ROb] at h
      obtain ⟨_, B, cs, tb, _, _, hφ, _, _, hRR⟩ := h
      rw [hRR] at hb
      simp only [List.mem_singleton] at hb
      rw [hb]; exact hφ
    | rows s rs =>
      simp only [ROb] at h
      obtain ⟨_, h⟩ := h
      rcases h with ⟨_, _, h3⟩ | ⟨B, cs, tb, R', _, _, hφ, _, _, hRO, hRR⟩
      · rw [h3] at hb; cases hb
      · have hR0 := ROr.free hown hRO
        subst hR0
        rw [hRR] at hb
        simp only [List.mem_singleton] at hb
        rw [hb]; exact hφ
    | gone =>
      simp only [ROb] at h
      rw [h] at hb; cases hb
  have hLP : ∀ b, LB b → ¬ PB b := by
    rintro b ⟨o, hoL, hb⟩ ⟨j, hj, hb'⟩
    have hne : o ≠ nameF ν j := fun e => hLν o hoL (by rw [e]; exact List.mem_of_getElem? (hνj j hj))
    exact hi.apart (.obj o) (.obj (nameF ν j)) (by simpa using hne) b hb hb'
  have hle : ∀ c i v, E.φ c i = some v → (E.lend LB).φ c i = some v := by
    intro c i v h
    have : ¬ LB c := fun hL => by rw [hLφ c hL i] at h; cases h
    rw [lend_out E this]; exact h
  let E1 : Env := (E.lend LB).names (nameF ν)
  have hE1w : E1.w = E.w := rfl
  have hE1β : ∀ o, E1.β o = E.β (nameF ν o) := fun _ => rfl
  have hE1φ : ∀ b i, E1.φ b i = (E.lend LB).φ b i := fun _ _ => rfl
  let K1 : Nat → Prop := fun b => b < E.w.heap.size ∧ ¬ PB b
  let RR1 : Own → List Nat := fun p => match p with
    | .obj j => if j < objs.length then RR (.obj (nameF ν j)) else []
    | .slot _ => []
  have hinj : ∀ i j, i < objs.length → j < objs.length → nameF ν i = nameF ν j → i = j := by
    intro i j hi' hj' h
    have h1 := posIn_of hνn (hνj i hi')
    have h2 := posIn_of hνn (hνj j hj')
    rw [h] at h1
    rw [h1] at h2
    exact Option.some.inj h2
  obtain ⟨hxl, hxg⟩ := opds_get hi hxs
  have hI1 : Inv (ctx0 K1 E1 ⟨args.length, F⟩) E1 RR1 ⟨enumF 0 args, enumF 0 objs⟩ ⟨(fargs.map a.eval).toArray, []⟩ := by
    constructor
    · intro b i v h
      rw [hE1φ] at h
      by_cases hL : LB b
      · rw [lend_in E hL] at h; exact h
      · rw [lend_out E hL] at h; exact hi.frz b i v h
    · intro s y hy
      have hy' : look (enumF 0 args) s = some y := hy
      rw [look_enum] at hy'
      obtain ⟨x, hx, hcase⟩ := hargs.get hy'
      obtain ⟨o, ho, R, hR⟩ := hxg s x hx
      have hval : (fargs.map a.eval).toArray.getD s undef = a.eval o := by
        simp [Array.getD_eq_getD_getElem?, ho]
      show RX E1 y ((fargs.map a.eval).toArray.getD s undef) []
      rw [hval]
      have hLB : ∀ o ∈ L, ∀ b ∈ RR (.obj o), LB b := fun o ho b hb => ⟨o, ho, hb⟩
      have h0' : ∀ o ∈ L, ∀ ob, look st.objs o = some ob → Owns0 ob := fun o ho ob hob => by
        obtain ⟨ob', h1, h2⟩ := h0 o ho
        rw [h1] at hob
        obtain rfl := Option.some.inj hob
        exact h2
      rcases hcase with hl | ⟨us, vs, rfl, rfl, hl, _⟩
      · exact hl.rx hi hLB hle h0' hR
      · simp only [RX] at hR ⊢
        obtain ⟨cs, hc, h2⟩ := hR
        exact ⟨cs, hc, hl.rxs hi hLB hle h0' h2⟩
    · intro j ob ho
      have ho' : look (enumF 0 objs) j = some ob := ho
      rw [look_enum] at ho'
      have hj : j < objs.length := by
        rcases Nat.lt_or_ge j objs.length with h' | h'
        · exact h'
        · simp [List.getElem?_eq_none h'] at ho'
      have h1 := hi.objs _ _ (hobjs j ob ho')
      have hR1 : RR1 (.obj j) = RR (.obj (nameF ν j)) := by simp [RR1, hj]
      rw [hR1]
      have h2 : ROb (E.names (nameF ν)) j ob (RR (.obj (nameF ν j))) := ROb.ren.2 h1
      refine ROb.mono (E := E.names (nameF ν)) ⟨hle, fun b hb => ⟨rfl, fun hφ i => ?_⟩⟩ rfl (fun _ _ _ _ => rfl) h2
      have : ¬ LB b := fun hL => hLP b hL ⟨j, hj, hb⟩
      show (E.lend LB).φ b i = none
      rw [lend_out E this]; exact hφ i
    · intro p
      cases p with
      | slot s => exact List.nodup_nil
      | obj j => by_cases hj : j < objs.length <;> simp [RR1, hj, hi.nodup]
    · intro p q hpq b hb hb'
      cases p with
      | slot s => cases hb
      | obj i =>
        cases q with
        | slot s => cases hb'
        | obj j =>
          by_cases hil : i < objs.length
          · by_cases hjl : j < objs.length
            · simp only [RR1, hil, hjl, if_true] at hb hb'
              have hne : nameF ν i ≠ nameF ν j := fun e => hpq (by rw [hinj i j hil hjl e])
              exact hi.apart (.obj (nameF ν i)) (.obj (nameF ν j)) (by simpa using hne) b hb hb'
            · simp [RR1, hjl] at hb'
          · simp [RR1, hil] at hb
    · intro p b hb
      cases p with
      | slot s => cases hb
      | obj j =>
        by_cases hj : j < objs.length
        · simp only [RR1, hj, if_true] at hb
          exact ⟨(hi.own _ _ hb).1, fun h => h.2 ⟨j, hj, hb⟩⟩
        · simp [RR1, hj] at hb
    · intro b _; rfl
    · exact Nat.le_refl _
    · intro b hb; exact hb.1
    · rfl
    · rfl
    · rfl
    · intro b i v h; exact h
    · intro b i v h; exact .inl h
    · intro o _; rfl
    · show (fargs.map a.eval).toArray.size = args.length
      have := hargs.length
      simp; omega
    · rfl
  refine (hspec K1 E1 RR1 _ hI1).mono ?_
  rintro e w' ⟨v, r, objs', he, hQ', hl', E', RR', rfl, hI'⟩
  refine ⟨v, r, objs', he, hQ', hl', fun hrlt holt hplain => ?_⟩
  -- what the callee leaves
  have hkeep : ∀ b, b < E.w.heap.size → ¬ PB b → E'.w.heap[b]? = E.w.heap[b]? := fun b h1 h2 => hI'.keep b ⟨h1, h2⟩
  have hsz : E.w.heap.size ≤ E'.w.heap.size := hI'.size
  let E'' : Env := { φ := fun b i => if LB b then none else E'.φ b i, β := fun o => match posIn ν o with | some j => E'.β j | none => E.β o, w := E'.w }
  have hφin : ∀ b i, LB b → E''.φ b i = none := fun b i h => by simp [E'', h]
  have hφout : ∀ b i, ¬ LB b → E''.φ b i = E'.φ b i := fun b i h => by simp [E'', h]
  have hφle : ∀ b i v, E.φ b i = some v → E''.φ b i = some v := by
    intro b i v h
    have hn : ¬ LB b := fun hL => by rw [hLφ b hL i] at h; cases h
    rw [hφout b i hn]
    refine hI'.φ0 b i v ?_
    show (E.lend LB).φ b i = some v
    exact hle b i v h
  have hφnone : ∀ b, b < E.w.heap.size → ¬ PB b → (∀ i, E.φ b i = none) → ∀ i, E''.φ b i = none := by
    intro b hb hP hφ i
    by_cases hL : LB b
    · exact hφin b i hL
    · rw [hφout b i hL]
      cases h : E'.φ b i with
      | none => rfl
      | some v =>
        rcases hI'.grow b i v h with h1 | h1
        · have h1' : (E.lend LB).φ b i = some v := h1
          rw [lend_out E hL, hφ i] at h1'; cases h1'
        · exact absurd ⟨hb, hP⟩ h1
  have hon : ∀ R, (∀ b ∈ R, b < E.w.heap.size ∧ ¬ PB b) → E.On E'' R := fun R h => ⟨hφle, fun b hb => ⟨hkeep b (h b hb).1 (h b hb).2, hφnone b (h b hb).1 (h b hb).2⟩⟩
  have hβ : ∀ o, o ∉ loose ν F → E''.β o = E.β o := by
    intro o ho
    show (match posIn ν o with | some j => E'.β j | none => E.β o) = E.β o
    cases hp : posIn ν o with
    | none => rfl
    | some j =>
      have h1 := posIn_some hp
      have hF := mem_loose ho h1
      have h2 := hI'.fixed j hF
      have h3 : (ctx0 K1 E1 ⟨1, F⟩).β0 j = E.β (nameF ν j) := rfl
      rw [h3] at h2
      have h4 : nameF ν j = o := by simp [nameF, List.getD, h1]
      rw [h4] at h2
      exact h2
  have hβν : ∀ j, j < objs.length → E''.β (nameF ν j) = E'.β j := by
    intro j hj
    show (match posIn ν (nameF ν j) with | some j => E'.β j | none => E.β (nameF ν j)) = E'.β j
    rw [posIn_of hνn (hνj j hj)]
  -- who owns what then
  let RR2 : Own → List Nat := fun p => match p with
    | .slot s => match look st.slots s with
      | some x => bif (loose ν F).any (fun o => x.ment o) then [] else RR (.slot s)
      | none => []
    | .obj o => match posIn ν o with
      | some j => RR' (.obj j)
      | none => RR (.obj o)
  have hR2slot : ∀ s b, b ∈ RR2 (.slot s) → b ∈ RR (.slot s) := by
    intro s b hb
    simp only [RR2] at hb
    cases hs : look st.slots s with
    | none => simp [hs] at hb
    | some x =>
      rw [hs] at hb
      simp only at hb
      cases hk : (loose ν F).any (fun o => x.ment o) with
      | true => simp [hk] at hb
      | false => simpa [hk] using hb
  have hnotPB : ∀ p b, b ∈ RR p → (∀ j, j < objs.length → p ≠ .obj (nameF ν j)) → b < E.w.heap.size ∧ ¬ PB b := by
    intro p b hb hp
    refine ⟨(hi.own p b hb).1, ?_⟩
    rintro ⟨j, hj, hb'⟩
    exact hi.apart p _ (hp j hj) b hb hb'
  have hfresh : ∀ q b, b ∈ RR' q → b < E'.w.heap.size ∧ (E.w.heap.size ≤ b ∨ PB b) := by
    intro q b hb
    have h := hI'.own q b hb
    refine ⟨h.1, ?_⟩
    by_cases hb2 : b < E.w.heap.size
    · right
      by_cases hP : PB b
      · exact hP
      · exact absurd ⟨hb2, hP⟩ h.2
    · left; omega
  have hclash : ∀ p b, b ∈ RR p → (∀ j, j < objs.length → p ≠ .obj (nameF ν j)) → ∀ q, b ∉ RR' q := by
    intro p b hb hp q hq
    have h1 := hnotPB p b hb hp
    rcases (hfresh q b hq).2 with h | h
    · omega
    · exact h1.2 h
  have hnotK : ∀ q b, b ∈ RR' q → ¬ G.K b := by
    intro q b hb hK
    rcases (hfresh q b hb).2 with h | ⟨j, hj, h⟩
    · have := hi.small b hK; have := hi.size; omega
    · exact (hi.own _ _ h).2 hK
  have hpos : ∀ o j, posIn ν o = some j → j < objs.length ∧ nameF ν j = o := by
    intro o j h
    have h1 := posIn_some h
    have hj : j < ν.length := by
      rcases Nat.lt_or_ge j ν.length with h' | h'
      · exact h'
      · simp [List.getElem?_eq_none h'] at h1
    exact ⟨by omega, by simp [nameF, List.getD, h1]⟩
  have hLnil : L = [] → ∀ b i, E''.φ b i = E'.φ b i := by
    intro hL b i
    refine hφout b i ?_
    rintro ⟨o, ho, _⟩
    rw [hL] at ho; cases ho
  have hφmono : ∀ b, (∀ i, E'.φ b i = none) → ∀ i, E''.φ b i = none := by
    intro b h i
    by_cases hL : LB b
    · exact hφin b i hL
    · rw [hφout b i hL]; exact h i
  have hback : ∀ p b, b ∈ RR2 p → (b ∈ RR p ∧ ∀ j, j < objs.length → p ≠ .obj (nameF ν j)) ∨ (∃ o j, p = .obj o ∧ posIn ν o = some j ∧ b ∈ RR' (.obj j)) := by
    intro p b hb
    cases p with
    | slot s => exact .inl ⟨hR2slot s b hb, fun j hj => by simp⟩
    | obj o =>
      simp only [RR2] at hb
      cases hp : posIn ν o with
      | some j => rw [hp] at hb; exact .inr ⟨o, j, rfl, hp, hb⟩
      | none =>
        rw [hp] at hb
        refine .inl ⟨hb, fun j hj e => posIn_none hp ?_⟩
        have : o = nameF ν j := by simpa using e
        rw [this]; exact List.mem_of_getElem? (hνj j hj)
  have hI2 : Inv G E'' RR2 (callSt st ν F objs') a := by
    refine { hi with frz := ?_, slots := ?_, objs := ?_, nodup := ?_, apart := ?_, own := ?_, keep := ?_, size := ?_, os := ?_, tape := ?_, output := ?_, φ0 := ?_, grow := ?_, fixed := ?_ }
    · intro b i v h
      by_cases hL : LB b
      · rw [hφin b i hL] at h; cases h
      · rw [hφout b i hL] at h; exact hI'.frz b i v h
    · intro s y hy
      have hy' : look ((st.slots).map fun p => (p.1, AW.killM (loose ν F) p.2)) s = some y := hy
      rw [look_map (AW.killM (loose ν F))] at hy'
      cases hs : look st.slots s with
      | none => simp [hs] at hy'
      | some x =>
        rw [hs] at hy'
        simp only [Option.map_some, Option.some.injEq] at hy'
        subst hy'
        cases hk : (loose ν F).any (fun o => x.ment o) with
        | true =>
          have : RR2 (.slot s) = [] := by simp [RR2, hs, hk]
          rw [this]
          simp [AW.killM, hk, RX]
        | false =>
          have : RR2 (.slot s) = RR (.slot s) := by simp [RR2, hs, hk]
          rw [this]
          simp only [AW.killM, hk, cond_false]
          refine RX.mono x _ _ (hon _ (fun b hb => hnotPB _ b hb (fun j hj => by simp))) (fun o ho => hβ o (fun hol => ?_)) (hi.slots s x hs)
          have : (loose ν F).any (fun o => x.ment o) = true := List.any_eq_true.2 ⟨o, hol, ho⟩
          rw [hk] at this; cases this
    · intro o ob ho
      have ho' : look (ν.zip (objs'.map (Obj.ren (nameF ν))) ++ (st.objs.map fun p => (p.1, p.2.killM (loose ν F)))) o = some ob := ho
      rw [look_zip (by simp [hl', hlen])] at ho'
      cases hp : posIn ν o with
      | some j =>
        rw [hp] at ho'
        simp only [List.getElem?_map, Option.map_eq_some_iff] at ho'
        obtain ⟨ob', hob', rfl⟩ := ho'
        obtain ⟨hj, hjo⟩ := hpos o j hp
        have hR2 : RR2 (.obj o) = RR' (.obj j) := by simp [RR2, hp]
        rw [hR2, ← hjo]
        have h1 : ROb E' j ob' (RR' (.obj j)) := hI'.objs j ob' (by rw [look_enum]; exact hob')
        have hmem : ob' ∈ objs' := List.mem_of_getElem? hob'
        refine ROb.ren.1 (?_ : ROb (E''.names (nameF ν)) j ob' (RR' (.obj j)))
        have h3 : ROb { E' with φ := E''.φ } j ob' (RR' (.obj j)) := by
          rcases hplain with hL | hpl
          · exact ROb.mono (E := E') ⟨fun b i v h => by show E''.φ b i = _; rw [hLnil hL b i]; exact h, fun b _ => ⟨rfl, fun h i => by show E''.φ b i = _; rw [hLnil hL b i]; exact h i⟩⟩ rfl (fun _ _ _ _ => rfl) h1
          · exact ROb.off (E := E') (hpl.2 ob' hmem) (fun b _ => ⟨rfl, hφmono b⟩) (fun _ => rfl) h1
        refine ROb.mono (E := { E' with φ := E''.φ }) ⟨fun _ _ _ h => h, fun b _ => ⟨rfl, fun h => h⟩⟩ (hβν j hj) (fun ys hys q hq => ?_) h3
        subst hys
        exact hβν q (X.lts_ments (holt _ hmem) hq)
      | none =>
        rw [hp] at ho'
        simp only at ho'
        rw [look_map (Obj.killM (loose ν F))] at ho'
        cases hs : look st.objs o with
        | none => simp [hs] at ho'
        | some ob0 =>
          rw [hs] at ho'
          simp only [Option.map_some, Option.some.injEq] at ho'
          subst ho'
          have hR2 : RR2 (.obj o) = RR (.obj o) := by simp [RR2, hp]
          rw [hR2]
          have hno : ∀ j, j < objs.length → Own.obj o ≠ .obj (nameF ν j) := fun j hj e => posIn_none hp (by
            have : o = nameF ν j := by simpa using e
            rw [this]; exact List.mem_of_getElem? (hνj j hj))
          have hon' := hon _ (fun b hb => hnotPB _ b hb hno)
          have hobj := hi.objs o ob0 hs
          have hoβ : E''.β o = E.β o := by
            show (match posIn ν o with | some j => E'.β j | none => E.β o) = E.β o
            rw [hp]
          cases ob0 with
          | cells ys =>
            simp only [Obj.killM, ROb] at hobj ⊢
            obtain ⟨hfr, B, cs, tb, hB, hw, hf, hlen', hRO, hRR⟩ := hobj
            have h2 := hon'.2 B.b (by rw [hRR]; simp)
            exact ⟨frees_killM _ hfr, B, cs, tb, hoβ.trans hB, h2.1.trans hw, h2.2 hf, by simpa using hlen',
              RO.mono _ cs _ [] (hon'.sub (fun _ h => by cases h)) (fun q hq => hβ q (ments_killM hq)) (RO.killM hfr hRO), hRR⟩
          | rows s rs => exact ROb.mono hon' hoβ (fun ys h => by cases h) hobj
          | gone => simpa [Obj.killM, ROb] using hobj
    · intro p
      cases p with
      | slot s =>
        simp only [RR2]
        cases hs : look st.slots s with
        | none => exact List.nodup_nil
        | some x =>
          simp only
          cases (loose ν F).any (fun o => x.ment o) with
          | true => exact List.nodup_nil
          | false => exact hi.nodup _
      | obj o =>
        simp only [RR2]
        cases posIn ν o with
        | some j => exact hI'.nodup _
        | none => exact hi.nodup _
    · intro p q hpq b hb hb'
      rcases hback p b hb with ⟨h1, h2⟩ | ⟨o, j, rfl, hp, h1⟩
      · rcases hback q b hb' with ⟨h3, h4⟩ | ⟨o', j', rfl, hp', h3⟩
        · exact hi.apart p q hpq b h1 h3
        · exact hclash p b h1 h2 _ h3
      · rcases hback q b hb' with ⟨h3, h4⟩ | ⟨o', j', rfl, hp', h3⟩
        · exact hclash q b h3 h4 _ h1
        · have hjj : j ≠ j' := fun e => by
            subst e
            have := (hpos o j hp).2.symm.trans (hpos o' j hp').2
            exact hpq (by rw [this])
          exact hI'.apart (.obj j) (.obj j') (by simpa using hjj) b h1 h3
    · intro p b hb
      rcases hback p b hb with ⟨h1, h2⟩ | ⟨o, j, rfl, hp, h1⟩
      · have h4 := hi.own p b h1
        exact ⟨Nat.lt_of_lt_of_le h4.1 hsz, h4.2⟩
      · exact ⟨(hfresh _ b h1).1, hnotK _ b h1⟩
    · intro b hK
      have h1 : b < E.w.heap.size := Nat.lt_of_lt_of_le (hi.small b hK) hi.size
      have h2 : ¬ PB b := fun ⟨j, hj, h⟩ => (hi.own _ _ h).2 hK
      have := hkeep b h1 h2
      exact this.trans (hi.keep b hK)
    · exact Nat.le_trans hi.size hsz
    · exact hI'.os.trans hi.os
    · exact hI'.tape.trans hi.tape
    · exact hI'.output.trans hi.output
    · exact fun b i v h => hφle b i v (hi.φ0 b i v h)
    · intro b i v h
      by_cases hL : LB b
      · rw [hφin b i hL] at h; cases h
      · rw [hφout b i hL] at h
        rcases hI'.grow b i v h with h1 | h1
        · have h1' : (E.lend LB).φ b i = some v := h1
          rw [lend_out E hL] at h1'
          exact hi.grow b i v h1'
        · right
          intro hK
          exact h1 ⟨Nat.lt_of_lt_of_le (hi.small b hK) hi.size, fun ⟨j, hj, h⟩ => (hi.own _ _ h).2 hK⟩
    · intro o ho
      rw [hβ o (fun hol => by rw [hNF o hol] at ho; cases ho)]
      exact hi.fixed o ho
  have hr : RX E'' (r.ren (nameF ν)) v (RR' (.slot 0)) := by
    have h1 : RX E' r v (RR' (.slot 0)) := hI'.slots 0 r rfl
    have h3 : RX { E' with φ := E''.φ } r v (RR' (.slot 0)) := by
      rcases hplain with hL | hpl
      · exact RX.mono (E := E') r _ _ ⟨fun b i v h => by show E''.φ b i = _; rw [hLnil hL b i]; exact h, fun b _ => ⟨rfl, fun h i => by show E''.φ b i = _; rw [hLnil hL b i]; exact h i⟩⟩ (fun _ _ => rfl) h1
      · exact RX.off (E := E') r _ _ hpl.1 (fun b _ => ⟨rfl, hφmono b⟩) (fun _ => rfl) h1
    refine (RX.ren r v _).1 (?_ : RX (E''.names (nameF ν)) r v (RR' (.slot 0)))
    exact RX.mono (E := { E' with φ := E''.φ }) r _ _ ⟨fun _ _ _ h => h, fun b _ => ⟨rfl, fun h => h⟩⟩ (fun q hq => hβν q (X.lt_ment hrlt hq)) h3
  refine ⟨E'', _, rfl, hI2.put hd hr (hI'.nodup _) (fun b hb => ⟨(hfresh _ b hb).1, hnotK _ b hb, fun p _ hbp => ?_⟩)⟩
  rcases hback p b hbp with ⟨h1, h2⟩ | ⟨o, j, rfl, hp, h1⟩
  · exact hclash p b h1 h2 _ hb
  · exact hI'.apart (.slot 0) (.obj j) (by simp) b hb h1

theorem AOps.call {f : FuncId} {fargs : Array Operand} {ats : Array TypeId} {xs args : List X} {objs : List Obj} {F : List Nat} {Q' : X → List Obj → Prop} (ν L : List Nat) (hok : callOK P f = true) (hspec : ACalls P f args objs F Q')
    (hxs : opds st fargs.toList = some xs) (hargs : LentL st L (nameF ν) xs args) (hobjs : ∀ j ob, objs[j]? = some ob → look st.objs (nameF ν j) = some (ob.ren (nameF ν))) (hlen : ν.length = objs.length) (hνn : ν.Nodup) (hLν : ∀ o ∈ L, o ∉ ν)
    (h0 : ∀ o ∈ L, ∃ ob, look st.objs o = some ob ∧ Owns0 ob) (hNF : ∀ o ∈ loose ν F, N.F.elem o = false) (hd : d < N.n)
    (k : ∀ r objs', Q' r objs' → objs'.length = objs.length → (r.lt objs.length = true ∧ (∀ ob ∈ objs', ob.lt objs.length = true) ∧ (L = [] ∨ (r.plain ∧ ∀ ob ∈ objs', ob.plain))) ∧ AOps P N all rest ((callSt st ν F objs').put d (r.ren (nameF ν))) Q) :
    AOps P N all (⟨some d, .call ⟨.value (.func f), fargs, ats⟩, ty, pos, af, none⟩ :: rest) st Q := by
  intro G hn a w hh
  obtain ⟨E, RR, rfl, hi⟩ := hh
  have hc := hi.call hspec hxs hargs hobjs hlen hνn hLν h0 (fun o ho => by rw [hn]; exact hNF o ho) (d := d) (by rw [hn]; exact hd)
  have hrun : (execOp a.eval ⟨some d, .call ⟨.value (.func f), fargs, ats⟩, ty, pos, af, none⟩).run P E.w = .ok (.enter f (fargs.toList.map a.eval).toArray) E.w := by
    have e : (execOp a.eval ⟨some d, .call ⟨.value (.func f), fargs, ats⟩, ty, pos, af, none⟩).run P E.w = (callFunc f ((#[] ++ fargs.map a.eval) ++ #[])).run P E.w := rfl
    rw [e, callOK_run hok]
    congr 2
    apply Array.ext'
    simp
  refine wpList_plain rfl fun K hK => ?_
  simp only [Oper.wp, hrun, Oper.upon_enter]
  refine hc.mono ?_
  rintro e w' ⟨v, r, objs', rfl, hQ', hl', hcont⟩
  obtain ⟨⟨h1, h2, h3⟩, hk⟩ := k r objs' hQ' hl'
  obtain ⟨E'', RR'', hw, hI⟩ := hcont h1 h2 h3
  exact hK _ _ (hk G hn _ _ ⟨E'', RR'', hw, hI⟩)

end
end Go.AW
