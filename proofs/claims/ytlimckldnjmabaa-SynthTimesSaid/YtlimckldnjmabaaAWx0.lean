/- Part of the abstract walk: values as trees, objects by name, and what they say of the model's values and memory. -/
import Derived.WalkKit
set_option linter.unusedSimpArgs false
set_option linter.unusedVariables false
set_option linter.unusedSectionVars false
namespace Go.AW
open Go
theorem U.{u}{α:Sort u}{a:α}:a = a:=rfl
theorem om{p:Prop}(h:p:=by omega):p:=h
theorem au{p:Prop}(h:p:=by kernel_rfl):p:=h
theorem ae{p:Prop}(h:p:=by decide):p:=h
theorem ej{p:Prop}(h:p:=by assumption):p:=h
theorem oml{p:Prop}(h:p:=by (simp only [List.length_append,List.length_cons,List.length_nil]; omega)):p:=h
theorem eG{p:Prop}(h:p:=by first | rfl | simp_all):p:=h
theorem bc{p:Prop}(h:p:=by first | rfl | omega):p:=h
theorem aG{p:Prop}(h:p:=by first | omega | simp [-List.getD_eq_getElem?_getD] <;> omega):p:=h
theorem mz{p:Prop}(h:p:=by first | omega | (simp [-List.getD_eq_getElem?_getD]; done) | (simp [-List.getD_eq_getElem?_getD]; omega)):p:=h
theorem oF{p:Prop}(h:p:=by (constructor <;> (simp only [List.length_append,List.length_cons,List.length_nil]; omega))):p:=h
inductive X where
 | v (u:Value)
 | no
 | fz (s:Nat) (rows:List (List X))
 | dH (s:Nat) (rows:List (List X))
 | ptr (o s i k:Nat)
 | aL (o s lo n:Nat)
 | mref (o:Nat)
 | fp (row:List X) (k:Nat)
 | agg (xs:List X)
 | tup (xs:List X)
 | j7 (fn:Fn) (first ss:List X)
mutual
def X.nr : X → Bool
 | .v _ | .no | .fz .. | .dH .. | .fp ..=>true
 | .ptr .. | .aL .. | .mref _=>false
 | .agg xs=>X.iQ xs
 | .tup xs=>X.iQ xs
 | .j7 _ a b=>X.iQ a && X.iQ b
def X.iQ : List X → Bool
 | []=>true
 | x :: r=>x.nr && X.iQ r
end
mutual
def X.eO(o : Nat) : X → Bool
 | .v _ | .no | .fz .. | .dH .. | .fp ..=>false
 | .ptr p ..=>Nat.beq p o
 | .aL p ..=>Nat.beq p o
 | .mref p=>Nat.beq p o
 | .agg xs=>X.cv o xs
 | .tup xs=>X.cv o xs
 | .j7 _ a b=>X.cv o a || X.cv o b
def X.cv(o : Nat) : List X → Bool
 | []=>false
 | x :: r=>x.eO o || X.cv o r
end
mutual
def X.free : X → Bool
 | .v _ | .no | .fz .. | .ptr .. | .aL .. | .mref _ | .fp .. | .j7 ..=>true
 | .dH ..=>false
 | .agg xs=>X.bu xs
 | .tup xs=>X.bu xs
def X.bu : List X → Bool
 | []=>true
 | x :: r=>x.free && X.bu r
end
structure Bg where
 b:Nat
 off:Nat
 cap:Nat
abbrev Fz:=Nat -> Nat -> Option Value
structure Env where
 φ:Fz
 β:Nat -> Option Bg
 w:World
def ka : Value → Prop
 | .agg _ | .tuple _=>False
 | _=>True
def cz(s:Nat)(rows:List (List X)):Prop:=∀ r ∈ rows,r.length = s
mutual
def RX(E : Env) : X → Value → List Nat → Prop
 | .v u,c,R=>c = u /\ R = []
 | .no,_,R=>R = []
 | .fz s rows, c, R => R = [] ∧ cz s rows ∧ ∃ base cap, c = .slice base rows.length cap ∧
   ((rows = [] /\ cap = 0) \/ ∃ b off,base = some ⟨b,off,none⟩ /\ rows.length <= cap /\ kX E rows b off)
 | .dH s rows, c, R => cz s rows ∧ ∃ base cap, c = .slice base rows.length cap ∧
   ((rows = [] ∧ cap = 0 ∧ R = []) ∨ ∃ b off cs ty R', base = some ⟨b, off, none⟩ ∧ E.w.heap[b]? = some (.cells cs ty (0, 0)) ∧
    rows.length <= cap /\ off + cap * s <= cs.size /\ (∀ i,E.φ b i = none) /\ cE E rows cs off R' /\ R = b :: R')
 | .ptr o s i k,c,R=>R = [] /\ ∃ B,E.β o = some B /\ c = .pointer (some ⟨B.b,B.off + (i * s + k),none⟩)
 | .aL o s lo n, c, R => R = [] ∧ ∃ base cap, c = .slice base n cap ∧
   ((E.β o = none /\ lo = 0 /\ n = 0 /\ cap = 0) \/ ∃ B,E.β o = some B /\ lo + cap = B.cap /\ n <= cap /\ (cap = 0 \/ base = some ⟨B.b,B.off + lo * s,none⟩))
 | .mref o,c,R=>R = [] /\ ∃ B,E.β o = some B /\ c = .map (some B.b)
 | .fp row k,c,R=>R = [] /\ ∃ b off,c = .pointer (some ⟨b,off + k,none⟩) /\ RF E row b off
 | .agg xs,c,R=>∃ cs,c = .agg cs /\ b6 E xs cs.toList R
 | .tup xs,c,R=>∃ cs,c = .tuple cs /\ eV E xs cs.toList R
 | .j7 fn first ss,c,R=>R = [] /\ ∃ f cc,c = .func fn f cc /\ eV E first f.toList [] /\ eV E ss cc.toList []
def b6(E : Env) : List X → List Value → List Nat → Prop
 | [],cs,R=>cs = [] /\ R = []
 | x :: r,cs,R=>∃ c dp R₁ R₂,cs = c :: dp /\ ka c /\ RX E x c R₁ /\ b6 E r dp R₂ /\ R = R₁ ++ R₂
def eV(E : Env) : List X → List Value → List Nat → Prop
 | [],cs,R=>cs = [] /\ R = []
 | x :: r,cs,R=>∃ c dp R₁ R₂,cs = c :: dp /\ RX E x c R₁ /\ eV E r dp R₂ /\ R = R₁ ++ R₂
def RF(E : Env) : List X → Nat → Nat → Prop
 | [],_,_=>True
 | x :: r,b,off=>(∃ u,E.φ b off = some u /\ ka u /\ x.nr = true /\ RX E x u []) /\ RF E r b (off + 1)
def kX(E : Env) : List (List X) → Nat → Nat → Prop
 | [],_,_=>True
 | r :: rs,b,off=>RF E r b off /\ kX E rs b (off + r.length)
def RO(E : Env) : List X → Array Value → Nat → List Nat → Prop
 | [],_,_,R=>R = []
 | x :: r,cs,off,R=>∃ u R₁ R₂,cs[off]? = some u /\ ka u /\ RX E x u R₁ /\ RO E r cs (off + 1) R₂ /\ R = R₁ ++ R₂
def cE(E : Env) : List (List X) → Array Value → Nat → List Nat → Prop
 | [],_,_,R=>R = []
 | r :: rs,cs,off,R=>∃ R₁ R₂,X.iQ r = true /\ RO E r cs off R₁ /\ cE E rs cs (off + r.length) R₂ /\ R = R₁ ++ R₂
end
inductive Obj where
 | cells (xs:List X)
 | rows (s:Nat) (rs:List (List X))
 | yU (es:List (Value × Value))
 | gone
 | hole (rs:List (List X)) (i q s n:Nat)
def Obj.cv(q : Nat) : Obj → Bool
 | .cells xs=>X.cv q xs
 | .hole _ _ p _ _=>Nat.beq p q
 | _=>false
end Go.AW
namespace Go.AW
open Go
theorem cH{α}{a:α}{l r:List α}(h:a ∈ l):a ∈ l ++ r:=List.mem_append.2 (.inl h)
theorem ct{α}{a:α}{l r:List α}(h:a ∈ r):a ∈ l ++ r:=List.mem_append.2 (.inr h)
def Env.On(E E':Env)(R:List Nat):Prop :=
 (∀ b i v,E.φ b i = some v -> E'.φ b i = some v) /\ ∀ b ∈ R,E'.w.heap[b]? = E.w.heap[b]? /\ ((∀ i,E.φ b i = none) -> ∀ i,E'.φ b i = none)
theorem Env.On.sub{E E':Env}{R R':List Nat}(h:E.On E' R)(hs:∀ b ∈ R',b ∈ R):E.On E' R':=⟨h.1,fun b hb=>h.2 b (hs b hb)⟩
mutual
theorem X.qC : ∀ {x : X}, x.nr = true → ∀ o, x.eO o = false
 | .v _,_,_ | .no,_,_ | .fz ..,_,_ | .dH ..,_,_ | .fp ..,_,_=>rfl
 | .agg xs,h,o=>X.gx (xs:=xs) h o
 | .tup xs,h,o=>X.gx (xs:=xs) h o
 | .j7 _ a b,h,o=>by
  simp only [X.nr,Bool.and_eq_true] at h
  simp only [X.eO,X.gx h.1 o,X.gx h.2 o,Bool.or_self]
theorem X.gx : ∀ {xs : List X}, X.iQ xs = true → ∀ o, X.cv o xs = false
 | [],_,_=>rfl
 | x :: r,h,o=>by
  simp only [X.iQ,Bool.and_eq_true] at h
  simp only [X.cv,X.qC h.1 o,X.gx h.2 o,Bool.or_self]
end
mutual
theorem RX.mono{E E' : Env} : ∀ (x : X) (c : Value) (R : List Nat), E.On E' R → (∀ o, x.eO o = true → E'.β o = E.β o) → RX E x c R → RX E' x c R
 | .v u,c,R,_,_,h=>by simpa [RX] using h
 | .no,c,R,_,_,h=>by simpa [RX] using h
 | .fz s rows,c,R,hE,_,h=>by
  simp only [RX] at h ⊢
  obtain ⟨hR,hu,base,cap,hc,hh⟩:=h
  refine ⟨hR,hu,base,cap,hc,?_⟩
  rcases hh with hh | ⟨b,off,hb,hl,hf⟩
  ·exact .inl hh
  ·exact .inr ⟨b,off,hb,hl,kX.mono rows b off (hE.sub (by simp)) hf⟩
 | .dH s rows,c,R,hE,_,h=>by
  simp only [RX] at h ⊢
  obtain ⟨hu,base,cap,hc,hh⟩:=h
  refine ⟨hu,base,cap,hc,?_⟩
  rcases hh with hh | ⟨b,off,cs,ty,R',hb,hw,hl,ho,hf,hr,hR⟩
  ·exact .inl hh
  ·subst hR
   have h2:=hE.2 b (by simp)
   exact .inr ⟨b,off,cs,ty,R',hb,h2.1.trans hw,hl,ho,h2.2 hf,cE.mono rows cs off R' (hE.sub (fun _ h=>by simp [h])) hr,rfl⟩
 | .ptr o s i k,c,R,_,hβ,h=>by
  simp only [RX] at h ⊢
  rw [hβ o (by simp [X.eO])]; exact h
 | .aL o s lo n,c,R,_,hβ,h=>by
  simp only [RX] at h ⊢
  rw [hβ o (by simp [X.eO])]; exact h
 | .mref o,c,R,_,hβ,h=>by
  simp only [RX] at h ⊢
  rw [hβ o (by simp [X.eO])]; exact h
 | .fp row k,c,R,hE,_,h=>by
  simp only [RX] at h ⊢
  obtain ⟨hR,b,off,hc,hf⟩:=h
  exact ⟨hR,b,off,hc,RF.mono row b off (hE.sub (by simp)) hf⟩
 | .agg xs,c,R,hE,hβ,h=>by
  simp only [RX] at h ⊢
  obtain ⟨cs,hc,hs⟩:=h
  exact ⟨cs,hc,b6.mono xs _ R hE (fun o ho=>hβ o (by simp [X.eO,ho])) hs⟩
 | .tup xs,c,R,hE,hβ,h=>by
  simp only [RX] at h ⊢
  obtain ⟨cs,hc,hs⟩:=h
  exact ⟨cs,hc,eV.mono xs _ R hE (fun o ho=>hβ o (by simp [X.eO,ho])) hs⟩
 | .j7 fn a b,c,R,hE,hβ,h=>by
  simp only [RX] at h ⊢
  obtain ⟨hR,f,cc,hc,h1,h2⟩:=h
  exact ⟨hR,f,cc,hc,eV.mono a _ [] (hE.sub (by simp)) (fun o ho=>hβ o (by simp [X.eO,ho])) h1,eV.mono b _ [] (hE.sub (by simp)) (fun o ho=>hβ o (by simp [X.eO,ho])) h2⟩
theorem b6.mono{E E' : Env} : ∀ (xs : List X) (cs : List Value) (R : List Nat), E.On E' R → (∀ o, X.cv o xs = true → E'.β o = E.β o) → b6 E xs cs R → b6 E' xs cs R
 | [],_,_,_,_,h=>by simpa [b6] using h
 | x :: r,cs,R,hE,hβ,h=>by
  simp only [b6] at h ⊢
  obtain ⟨c,dp,R₁,R₂,hc,hs,h1,h2,hR⟩:=h
  subst hR
  exact ⟨c, dp, R₁, R₂, hc, hs, RX.mono x c R₁ (hE.sub (fun _ h => cH h)) (fun o ho => hβ o (by simp [X.cv, ho])) h1,
   b6.mono r dp R₂ (hE.sub (fun _ h=>ct h)) (fun o ho=>hβ o (by simp [X.cv,ho])) h2,rfl⟩
theorem eV.mono{E E' : Env} : ∀ (xs : List X) (cs : List Value) (R : List Nat), E.On E' R → (∀ o, X.cv o xs = true → E'.β o = E.β o) → eV E xs cs R → eV E' xs cs R
 | [],_,_,_,_,h=>by simpa [eV] using h
 | x :: r,cs,R,hE,hβ,h=>by
  simp only [eV] at h ⊢
  obtain ⟨c,dp,R₁,R₂,hc,h1,h2,hR⟩:=h
  subst hR
  exact ⟨c, dp, R₁, R₂, hc, RX.mono x c R₁ (hE.sub (fun _ h => cH h)) (fun o ho => hβ o (by simp [X.cv, ho])) h1,
   eV.mono r dp R₂ (hE.sub (fun _ h=>ct h)) (fun o ho=>hβ o (by simp [X.cv,ho])) h2,rfl⟩
theorem RF.mono{E E' : Env} : ∀ (xs : List X) (b off : Nat), E.On E' [] → RF E xs b off → RF E' xs b off
 | [],_,_,_,_=>by simp [RF]
 | x :: r,b,off,hE,h=>by
  simp only [RF] at h ⊢
  obtain ⟨⟨u,hu,hs,hn,hx⟩,hr⟩:=h
  exact ⟨⟨u,hE.1 _ _ _ hu,hs,hn,RX.mono x u [] hE (fun o ho=>by rw [X.qC hn] at ho; cases ho) hx⟩,RF.mono r b (off + 1) hE hr⟩
theorem kX.mono{E E' : Env} : ∀ (rs : List (List X)) (b off : Nat), E.On E' [] → kX E rs b off → kX E' rs b off
 | [],_,_,_,_=>by simp [kX]
 | r :: rs,b,off,hE,h=>by
  simp only [kX] at h ⊢
  exact ⟨RF.mono r b off hE h.1,kX.mono rs b _ hE h.2⟩
theorem RO.mono{E E' : Env} : ∀ (xs : List X) (cs : Array Value) (off : Nat) (R : List Nat), E.On E' R → (∀ o, X.cv o xs = true → E'.β o = E.β o) → RO E xs cs off R → RO E' xs cs off R
 | [],_,_,_,_,_,h=>by simpa [RO] using h
 | x :: r,cs,off,R,hE,hβ,h=>by
  simp only [RO] at h ⊢
  obtain ⟨u,R₁,R₂,hu,hs,h1,h2,hR⟩:=h
  subst hR
  exact ⟨u, R₁, R₂, hu, hs, RX.mono x u R₁ (hE.sub (fun _ h => cH h)) (fun o ho => hβ o (by simp [X.cv, ho])) h1,
   RO.mono r cs (off + 1) R₂ (hE.sub (fun _ h=>ct h)) (fun o ho=>hβ o (by simp [X.cv,ho])) h2,rfl⟩
theorem cE.mono{E E' : Env} : ∀ (rs : List (List X)) (cs : Array Value) (off : Nat) (R : List Nat), E.On E' R → cE E rs cs off R → cE E' rs cs off R
 | [],_,_,_,_,h=>by simpa [cE] using h
 | r :: rs,cs,off,R,hE,h=>by
  simp only [cE] at h ⊢
  obtain ⟨R₁,R₂,hn,h1,h2,hR⟩:=h
  subst hR
  exact ⟨R₁, R₂, hn, RO.mono r cs off R₁ (hE.sub (fun _ h => cH h)) (fun o ho => by rw [X.gx hn] at ho; cases ho) h1,
   cE.mono rs cs _ R₂ (hE.sub (fun _ h=>ct h)) h2,rfl⟩
end
end Go.AW
namespace Go.AW
open Go
def look{α : Type} : List (Nat × α) → Nat → Option α
 | [],_=>none
 | (t,x) :: r,s=>bif Nat.beq t s then some x else look r s
structure St where
 aE:List (Nat × X)
 aF:List (Nat × Obj)
def dK(E : Env)(o : Nat) : Obj → List Nat → Prop
 | .cells xs,R=>X.bu xs = true /\ ∃ B cs ty,E.β o = some B /\ E.w.heap[B.b]? = some (.cells cs ty (0,0)) /\ (∀ i,E.φ B.b i = none) /\ B.off + xs.length <= cs.size /\ RO E xs cs B.off [] /\ R = [B.b]
 | .rows s rs, R => cz s rs ∧ ((E.β o = none ∧ rs = [] ∧ R = []) ∨ ∃ B cs ty R', E.β o = some B ∧ E.w.heap[B.b]? = some (.cells cs ty (0, 0)) ∧ (∀ i, E.φ B.b i = none) ∧
   rs.length <= B.cap /\ B.off + B.cap * s <= cs.size /\ cE E rs cs B.off R' /\ R = B.b :: R')
 | .yU es,R=>∃ B tC clock,E.β o = some B /\ E.w.heap[B.b]? = some (.map tC clock) /\ (∀ i,E.φ B.b i = none) /\ tC.toList.map (fun e=>(e.key,e.val)) = es /\ R = [B.b]
 | .gone,R=>R = []
 | .hole rs i q s n, R => cz 1 rs ∧ ∃ B cs ty R' u, E.β o = some B ∧ E.w.heap[B.b]? = some (.cells cs ty (0, 0)) ∧ (∀ i, E.φ B.b i = none) ∧
   rs.length <= B.cap /\ B.off + B.cap <= cs.size /\ cE E rs cs B.off R' /\ R = B.b :: R' /\ i < rs.length /\ cs[B.off + i]? = some u /\ ka u /\ RX E (.aL q s 0 n) u []
inductive Own where
 | slot (s:Nat)
 | obj (o:Nat)
 deriving DecidableEq
structure fo where
 n:Nat
 F:List Nat
structure Ctx where
 K:Nat -> Prop
 w0:World
 φ0:Fz
 β0:Nat -> Option Bg
 fn:fo
 ds:List Deferred
structure Inv(G:Ctx)(E:Env)(RR:Own -> List Nat)(st:St)(a:Act):Prop where
 nM:∀ b i v,E.φ b i = some v -> E.w.cell? ⟨b,i,none⟩ = some v
 aE:∀ s x,look st.aE s = some x -> RX E x (a.tmps.getD s undef) (RR (.slot s))
 aF:∀ o ob,look st.aF o = some ob -> dK E o ob (RR (.obj o))
 nodup:∀ p,(RR p).Nodup
 apart:∀ p q,p ≠ q -> ∀ b ∈ RR p,b ∉ RR q
 own:∀ p b,b ∈ RR p -> b < E.w.heap.size /\ ¬ G.K b
 aj:∀ b,G.K b -> E.w.heap[b]? = G.w0.heap[b]?
 size:G.w0.heap.size <= E.w.heap.size
 small:∀ b,G.K b -> b < G.w0.heap.size
 os:E.w.os = G.w0.os
 tape:E.w.tape = G.w0.tape
 output:E.w.output = G.w0.output
 φ0:∀ b i v,G.φ0 b i = some v -> E.φ b i = some v
 grow:∀ b i v,E.φ b i = some v -> G.φ0 b i = some v \/ ¬ G.K b
 fixed:∀ o,G.fn.F.elem o = true -> E.β o = G.β0 o
 tmps:a.tmps.size = G.fn.n
 defers:a.defers = G.ds
def cK(G:Ctx)(st:St)(a:Act)(w:World):Prop:=∃ E RR,E.w = w /\ Inv G E RR st a
def oB(G:Ctx)(Q:Exit -> St -> Prop)(e:Exit)(a:Act)(w:World):Prop:=∃ st,cK G st a w /\ Q e st
def dx(P:Program)(N:fo)(c:Code)(st:St)(Q:Exit -> St -> Prop):Prop :=
 ∀ G:Ctx,G.fn = N -> ∀ a w,cK G st a w -> c.wp P (oB G Q) a w
def aQ(P:Program)(N:fo)(all:Array Oper)(rest:List Oper)(st:St)(Q:Exit -> St -> Prop):Prop :=
 ∀ G:Ctx,G.fn = N -> ∀ a w,cK G st a w -> wpList P all (oB G Q) rest a w
def j5(K : St → Prop)(Q : Exit → St → Prop) : Exit → St → Prop
 | .normal,st=>K st
 | e,st=>Q e st
def p4(id : Nat)(Q : Exit → St → Prop) : Exit → St → Prop
 | .exit id',st=>bif Nat.beq id' id then Q .normal st else Q (.exit id') st
 | e,st=>Q e st
def bV(st : St) : Operand → Option X
 | .tmp t=>look st.aE t
 | .const v=>some (.v v)
 | .func f=>some (.v (.func (.func f) #[] #[]))
 | .global _=>none
def Le(st aY:St):Prop :=
 (∀ s x,look aY.aE s = some x -> look st.aE s = some x) /\ (∀ o x,look aY.aF o = some x -> look st.aF o = some x)
theorem Le.refl(st:St):Le st st:=⟨fun _ _ h=>h,fun _ _ h=>h⟩
theorem Le.holds{G:Ctx}{st aY:St}{a:Act}{w:World}(h:Le st aY)(hh:cK G st a w):cK G aY a w:=by
 obtain ⟨E,RR,hw,hi⟩:=hh
 exact ⟨E,RR,hw,{ hi with aE:=fun s x hx=>hi.aE s x (h.1 s x hx),aF:=fun o x hx=>hi.aF o x (h.2 o x hx) }⟩
def ir{α:Type}(l l':List (Nat × α)):Prop:=∀ s x,look l' s = some x -> look l s = some x
theorem ir.nil{α:Type}{l:List (Nat × α)}:ir l []:=fun _ _ h=>by cases h
theorem ir.cons{α:Type}{l l':List (Nat × α)}{s:Nat}{x:α}(h:look l s = some x)(hr:ir l l'):ir l ((s,x) :: l'):=by
 intro t y hy
 unfold look at hy
 cases hb:Nat.beq s t with
 | true=>rw [hb] at hy; simp at hy; subst hy; rw [Nat.eq_of_beq_eq_true hb] at h; exact h
 | false=>rw [hb] at hy; exact hr t y hy
theorem Le.mk{st:St}{sl:List (Nat × X)}{ob:List (Nat × Obj)}(h:ir st.aE sl)(h':ir st.aF ob):Le st ⟨sl,ob⟩:=⟨h,h'⟩
section control
variable {P:Program} {N:fo} {st aY:St} {Q Q':Exit -> St -> Prop}
theorem oB.mono{G:Ctx}{e:Exit}{a:Act}{w:World}(h:∀ st,Q e st -> Q' e st)(hp:oB G Q e a w):oB G Q' e a w :=
 let ⟨st,hh,hq⟩:=hp; ⟨st,hh,h st hq⟩
theorem dx.mono{c:Code}(h:dx P N c st Q)(hq:∀ e st,Q e st -> Q' e st):dx P N c st Q' :=
 fun G hn a w hh=>wp_mono (h G hn a w hh) fun e _ _ hp=>oB.mono (hq e) hp
theorem dx.le{c:Code}(hl:Le st aY)(h:dx P N c aY Q):dx P N c st Q :=
 fun G hn a w hh=>h G hn a w (hl.holds hh)
theorem aQ.le{all:Array Oper}{rest:List Oper}(hl:Le st aY)(h:aQ P N all rest aY Q):aQ P N all rest st Q :=
 fun G hn a w hh=>h G hn a w (hl.holds hh)
theorem dx.skip(h:Q .normal st):dx P N .skip st Q:=fun _ _ _ _ hh=>wp_skip ⟨st,hh,h⟩
theorem dx.exit{id:Nat}(h:Q (.exit id) st):dx P N (.exit id) st Q:=fun _ _ _ _ hh=>wp_exit ⟨st,hh,h⟩
theorem dx.ret(h:Q .ret st):dx P N .ret st Q:=fun _ _ _ _ hh=>wp_ret ⟨st,hh,h⟩
theorem dx.seq{x y:Code}(h:dx P N x st (j5 (fun aY=>dx P N y aY Q) Q)):dx P N (.seq x y) st Q:=by
 intro G hn a w hh
 refine wp_seq (wp_mono (h G hn a w hh) ?_)
 rintro e a' w' ⟨aY,iR,hq⟩
 cases e <;> first | exact hq G hn a' w' iR | exact ⟨aY,iR,hq⟩
theorem dx.block{id:Nat}{c:Code}(h:dx P N c st (p4 id Q)):dx P N (.block id c) st Q:=by
 intro G hn a w hh
 refine wp_block (wp_mono (h G hn a w hh) ?_)
 rintro e a' w' ⟨aY,iR,hq⟩
 cases e with
 | exit id' =>
  simp only [p4] at hq
  simp only [Exit.inBlock]
  cases hb:Nat.beq id' id with
  | true =>
   rw [hb] at hq
   rw [if_pos (Nat.eq_of_beq_eq_true hb)]
   exact ⟨aY,iR,hq⟩
  | false =>
   rw [hb] at hq
   rw [if_neg (Nat.ne_of_beq_eq_false hb)]
   exact ⟨aY,iR,hq⟩
 | _=>exact ⟨aY,iR,hq⟩
theorem Inv.eval{G:Ctx}{E:Env}{RR:Own -> List Nat}{a:Act}(hi:Inv G E RR st a){o:Operand}{x:X}(h:bV st o = some x):∃ R,RX E x (a.eval o) R:=by
 cases o with
 | tmp t=>exact ⟨_,hi.aE t x h⟩
 | const v=>simp only [bV,Option.some.injEq] at h; subst h; exact ⟨[],by simp [RX,Act.eval]⟩
 | func f=>simp only [bV,Option.some.injEq] at h; subst h; exact ⟨[],by simp [RX,Act.eval]⟩
 | global g=>cases h
theorem Inv.val{G:Ctx}{E:Env}{RR:Own -> List Nat}{a:Act}(hi:Inv G E RR st a){o:Operand}{u:Value}(h:bV st o = some (.v u)):a.eval o = u:=by
 obtain ⟨R,hR⟩:=hi.eval h
 simp only [RX] at hR
 exact hR.1
theorem dx.cond{c : Operand}{x y : Code}{b : Bool}(hc : bV st c = some (.v (.bool b)))(ht : b = true → dx P N x st Q)(hf : b = false → dx P N y st Q) :
  dx P N (.cond c x y) st Q:=by
 intro G hn a w hh
 obtain ⟨E,RR,rfl,hi⟩:=hh
 exact wp_cond_split (hi.val hc) (fun h=>ht h G hn a E.w ⟨E,RR,rfl,hi⟩) (fun h=>hf h G hn a E.w ⟨E,RR,rfl,hi⟩)
theorem uf{c : Code}{ι : Type}{R : Exit → Act → World → Prop}(J : ι → Act → World → Prop)(μ : ι → Nat)
  (round:∀ i a w,J i a w -> c.wp P (Exit.then (fun a' w'=>∃ j,J j a' w' /\ μ j < μ i) R) a w) {i:ι} {a:Act} {w:World} (h₀:J i a w):(Code.loop c).wp P R a w:=by
 intro b k cs
 have key : ∀ n i a w, μ i = n → J i a w →
   ∃ e a' w',R e a' w' /\ Arrives P (lone (b.at a (.code c :: .inLoop c :: k)) cs w) b k cs e a' w':=by
  intro n
  induction n using Nat.strongRecOn with
  | _ n ih =>
   intro i a w hn hI
   obtain ⟨e,a₁,w₁,hq,ry⟩:=round i a w hI b (.inLoop c :: k) cs
   cases e with
   | normal =>
    obtain ⟨j,XI,gQ⟩:=hq
    obtain ⟨e₂,a₂,w₂,XJ,MZ⟩:=ih (μ j) (hn ▸ gQ) j a₁ w₁ rfl XI
    exact ⟨e₂,a₂,w₂,XJ,.of_steps (Steps.trans ry (.one step_inLoop)) MZ⟩
   | exit id=>exact ⟨_,a₁,w₁,hq,.pass (x:=.inLoop c) rfl (fun _ _=>.inl (by simp)) ry⟩
   | goto l=>exact ⟨_,a₁,w₁,hq,.pass (x:=.inLoop c) rfl (fun _ _=>.inl (by simp)) ry⟩
   | ret=>exact ⟨_,a₁,w₁,hq,.pass (x:=.inLoop c) rfl (fun _ _=>.inl (by simp)) ry⟩
   | panic ch=>exact ⟨_,a₁,w₁,hq,.pass (x:=.inLoop c) rfl (fun _ _=>.inl (by simp)) ry⟩
   | outgrown=>exact ⟨_,a₁,w₁,hq,.pass (x:=.inLoop c) rfl (fun _ _=>.inl (by simp)) ry⟩
 obtain ⟨e,a',w',hq,ry⟩:=key _ i a w rfl h₀
 exact ⟨e,a',w',hq,.of_steps (.one step_loop) ry⟩
theorem dx.loop{ι : Type}{c : Code}(S : ι → St)(I : ι → Prop)(μ : ι → Nat)(i : ι)(hi : I i)(hs : Le st (S i))
  (round:∀ i,I i -> dx P N c (S i) (j5 (fun aY=>∃ j,I j /\ μ j < μ i /\ Le aY (S j)) Q)):dx P N (.loop c) st Q:=by
 intro G hn a w hh
 refine uf (fun i a w=>I i /\ cK G (S i) a w) μ ?_ ⟨hi,hs.holds hh⟩
 rintro i a w ⟨hI,hh⟩
 refine wp_mono (round i hI G hn a w hh) ?_
 rintro e a' w' ⟨aY,iR,hq⟩
 cases e with
 | normal=>obtain ⟨j,hj,gQ,hle⟩:=hq; exact ⟨j,⟨hj,hle.holds iR⟩,gQ⟩
 | _=>exact ⟨aY,iR,hq⟩
theorem dx.region{id:Nat}{l:List Oper}(h:aQ P N l.toArray l st Q):dx P N (.region id l.toArray false) st Q :=
 fun G hn a w hh=>wp_region_lit (h G hn a w hh)
theorem aQ.nil{all:Array Oper}(h:Q .normal st):aQ P N all [] st Q:=fun _ _ _ _ hh=>⟨st,hh,h⟩
end control
end Go.AW
namespace Go.AW
open Go
def TY.shape(P:Program)(t:TypeId):Option (Option Nat) :=
 match P.underlying t,P.info? t with
 | some (.struct _),some i=>some (some i.size)
 | some (.array _ _),some i=>some (some i.size)
 | some _,some _=>some none
 | _,_=>none
def TY.slice(P:Program)(t:TypeId):Option (Nat × Nat × Nat) :=
 match P.underlying t with
 | some (.slice e)=>(P.info? e).map fun i=>(e,i.size,i.bytes)
 | _=>none
def TY.array(P:Program)(t:TypeId):Option (Nat × Nat × Nat) :=
 match P.underlying t with
 | some (.array n e)=>(P.info? e).map fun i=>(n,e,i.size)
 | _=>none
def TY.jQ(P:Program)(t:TypeId)(f:Nat):Option (Nat × TypeId) :=
 match P.underlying t with
 | some (.struct fs)=>match fs[f]? with
  | some fd=>match P.info? fd.type with
   | some i=>bif Nat.beq i.size 0 then none else some (fd.offset,fd.type)
   | none=>none
  | none=>none
 | _=>none
def TY.zero(P:Program)(t:TypeId):Option (List Value):=(P.info? t).bind fun i=>i.zero.map (·.cells.toList)
def TY.isInt(P:Program)(t:TypeId):Option IntKind:=match P.underlying t with | some (.int k)=>some k | _=>none
def St.put(st:St)(d:Nat)(x:X):St:={ st with aE:=(d,x) :: st.aE }
mutual
theorem RX.free{E : Env} : ∀ {x : X} {c : Value} {R : List Nat}, x.free = true → RX E x c R → R = []
 | .v _,_,_,_,h=>by simp only [RX] at h; exact h.2
 | .no,_,_,_,h=>by simpa [RX] using h
 | .fz ..,_,_,_,h=>by simp only [RX] at h; exact h.1
 | .ptr ..,_,_,_,h=>by simp only [RX] at h; exact h.1
 | .aL ..,_,_,_,h=>by simp only [RX] at h; exact h.1
 | .mref _,_,_,_,h=>by simp only [RX] at h; exact h.1
 | .fp ..,_,_,_,h=>by simp only [RX] at h; exact h.1
 | .j7 ..,_,_,_,h=>by simp only [RX] at h; exact h.1
 | .dH ..,_,_,hf,_=>by simp [X.free] at hf
 | .agg xs,_,_,hf,h=>by
  simp only [RX] at h
  obtain ⟨_,_,h⟩:=h
  exact b6.free (xs:=xs) hf h
 | .tup xs,_,_,hf,h=>by
  simp only [RX] at h
  obtain ⟨_,_,h⟩:=h
  exact eV.free (xs:=xs) hf h
theorem b6.free{E : Env} : ∀ {xs : List X} {cs : List Value} {R : List Nat}, X.bu xs = true → b6 E xs cs R → R = []
 | [],_,_,_,h=>by simp only [b6] at h; exact h.2
 | x :: r,_,_,hf,h=>by
  simp only [b6] at h
  obtain ⟨c,dp,R₁,R₂,_,_,h1,h2,hR⟩:=h
  simp only [X.bu,Bool.and_eq_true] at hf
  rw [hR,RX.free hf.1 h1,b6.free hf.2 h2]; rfl
theorem eV.free{E : Env} : ∀ {xs : List X} {cs : List Value} {R : List Nat}, X.bu xs = true → eV E xs cs R → R = []
 | [],_,_,_,h=>by simp only [eV] at h; exact h.2
 | x :: r,_,_,hf,h=>by
  simp only [eV] at h
  obtain ⟨c,dp,R₁,R₂,_,h1,h2,hR⟩:=h
  simp only [X.bu,Bool.and_eq_true] at hf
  rw [hR,RX.free hf.1 h1,eV.free hf.2 h2]; rfl
end
theorem RO.free{E : Env} : ∀ {xs : List X} {cs : Array Value} {off : Nat} {R : List Nat}, X.bu xs = true → RO E xs cs off R → R = []
 | [],_,_,_,_,h=>by simpa [RO] using h
 | x :: r,_,_,_,hf,h=>by
  simp only [RO] at h
  obtain ⟨c,R₁,R₂,_,_,h1,h2,hR⟩:=h
  simp only [X.bu,Bool.and_eq_true] at hf
  rw [hR,RX.free hf.1 h1,RO.free hf.2 h2]; rfl
def fI(RR:Own -> List Nat)(p:Own)(R:List Nat):Own -> List Nat:=fun q=>if q = p then R else RR q
theorem DK{a:Act}{d:Nat}{u:Value}(hd:d < a.tmps.size):(a.put (some d) u).tmps.getD d undef = u:=by
 simp [Act.put,Array.getD,hd]
theorem x4{a:Act}{d s:Nat}{u:Value}(h:d ≠ s):(a.put (some d) u).tmps.getD s undef = a.tmps.getD s undef:=by
 simp only [Act.put,Array.getD_eq_getD_getElem?,Array.getElem?_setIfInBounds_ne h]
section
variable {P:Program} {N:fo} {G:Ctx} {E:Env} {RR:Own -> List Nat} {st:St} {a:Act} {Q:Exit -> St -> Prop}
theorem Inv.put(hi : Inv G E RR st a){d : Nat}{x : X}{u : Value}{R : List Nat}(hd : d < G.fn.n)(hx : RX E x u R)(hn : R.Nodup)
  (hR:∀ b ∈ R,b < E.w.heap.size /\ ¬ G.K b /\ ∀ p,p ≠ .slot d -> b ∉ RR p):Inv G E (fI RR (.slot d) R) (st.put d x) (a.put (some d) u):=by
 refine { hi with aE:=?_,aF:=?_,nodup:=?_,apart:=?_,own:=?_,tmps:=?_,defers:=?_ }
 ·intro s y hy
  simp only [St.put,look] at hy
  cases hb:Nat.beq d s with
  | true =>
   have:=Nat.eq_of_beq_eq_true hb
   subst this
   rw [hb] at hy
   simp only [cond_true,Option.some.injEq] at hy
   subst hy
   rw [DK (by rw [hi.tmps]; exact hd)]
   simpa [fI] using hx
  | false =>
   have fH:=Nat.ne_of_beq_eq_false hb
   rw [hb] at hy
   rw [x4 fH]
   have:fI RR (.slot d) R (.slot s) = RR (.slot s):=by simp [fI,Ne.symm fH]
   rw [this]
   exact hi.aE s y hy
 ·intro o ob ho
  have:fI RR (.slot d) R (.obj o) = RR (.obj o):=by simp [fI]
  rw [this]; exact hi.aF o ob ho
 ·intro p
  unfold fI
  split
  ·exact hn
  ·exact hi.nodup p
 ·intro p q nO b hb
  unfold fI at hb ⊢
  split at hb
  ·rename_i hp
   subst hp
   rw [if_neg (Ne.symm nO)]
   exact (hR b hb).2.2 q (Ne.symm nO)
  ·split
   ·rename_i hp hq
    subst hq
    intro iG
    exact (hR b iG).2.2 p nO hb
   ·exact hi.apart p q nO b hb
 ·intro p b hb
  unfold fI at hb
  split at hb
  ·exact ⟨(hR b hb).1,(hR b hb).2.1⟩
  ·exact hi.own p b hb
 ·simp [Act.put,hi.tmps]
 ·simp [Act.put,hi.defers]
theorem Inv.iT(hi:Inv G E RR st a){d:Nat}{x:X}{u:Value}(hd:d < G.fn.n)(hx:RX E x u []):Inv G E (fI RR (.slot d) []) (st.put d x) (a.put (some d) u) :=
 hi.put hd hx List.nodup_nil (fun _ hb=>by cases hb)
def Yields(P:Program)(N:fo)(st:St)(o:Oper)(x:X):Prop :=
 ∀ (G:Ctx) (E:Env) (RR:Own -> List Nat) (a:Act),G.fn = N -> Inv G E RR st a -> ∃ u,(execOp a.eval o).run P E.w = .ok (.value u) E.w /\ RX E x u []
theorem aQ.val{all : Array Oper}{rest : List Oper}{d : Nat}{op : Op}{ty : TypeId}{pos : String}{af : Array Edge}{x : X}
  (hy:Yields P N st ⟨some d,op,ty,pos,af,none⟩ x) (hd:d < N.n) (k:aQ P N all rest (st.put d x) Q):aQ P N all (⟨some d,op,ty,pos,af,none⟩ :: rest) st Q:=by
 intro G hn a w hh
 obtain ⟨E,RR,rfl,hi⟩:=hh
 obtain ⟨u,hr,hx⟩:=hy G E RR a hn hi
 refine wpList_plain rfl fun K hK=>?_
 simp only [Oper.wp,hr,Oper.upon_value]
 exact hK _ _ (k G hn _ _ ⟨E,_,rfl,hi.iT (hn ▸ hd) hx⟩)
theorem aQ.split{all : Array Oper}{rest : List Oper}{d : Nat}{b : Bool}(hx : look st.aE d = some (.v (.bool b)))
  (ht:b = true -> aQ P N all rest (st.put d (.v (.bool true))) Q) (hf:b = false -> aQ P N all rest (st.put d (.v (.bool false))) Q):aQ P N all rest st Q:=by
 have:Le st (st.put d (.v (.bool b))):=⟨ir.cons hx (fun _ _ h=>h),fun _ _ h=>h⟩
 cases b
 ·exact (hf rfl).le this
 ·exact (ht rfl).le this
theorem aQ.bn{all : Array Oper}{rest : List Oper}{dst : Option Nat}{op : Op}{ty : TypeId}{pos : String}{af : Array Edge}{j d : Nat}{want : Bool}
  (hj:(all[j]?).bind (·.dst) = some d) (hd:d < N.n) (hx:look st.aE d = some (.v (.bool want)))
  (k:aQ P N all (⟨dst,op,ty,pos,af,none⟩ :: rest) st Q):aQ P N all (⟨dst,op,ty,pos,af,some (j,want)⟩ :: rest) st Q:=by
 intro G hn a w hh
 have hk:=k G hn a w hh
 obtain ⟨E,RR,rfl,hi⟩:=hh
 have hs:=hi.aE d _ hx
 simp only [RX] at hs
 have fY:d < a.tmps.size:=by rw [hi.tmps,hn]; exact hd
 have hv:a.tmps[d]? = some (.bool want):=by
  have:=hs.1
  simp only [Array.getD,fY,dif_pos] at this
  rw [Array.getElem?_eq_getElem fY]
  exact congrArg some this
 have hw:Region.wanted ⟨dst,op,ty,pos,af,some (j,want)⟩ (yielded all a.tmps) = true:=by
  simp [Region.wanted,yielded,hj,hv]
 unfold wpList at hk ⊢
 rw [if_pos hw]
 rw [if_pos (by simp [Region.wanted])] at hk
 exact hk
end
end Go.AW
namespace Go.AW
open Go
section
variable {P:Program} {N:fo} {st:St} {dst:Option Nat} {ty:TypeId} {pos:String} {af:Array Edge} {g:Option (Nat × Bool)}
theorem kE{α β:Type}{s:Sem α}{f:α -> Sem β}{w w':World}{u:α}{r:Result β}(h:s.run P w = .ok u w')(h':(f u).run P w' = r):(s.bind f).run P w = r:=by
 rw [show (s.bind f) = (s >>= f) from rfl,Sem.run_bind,h]; exact h'
theorem eb{s:Sem Value}{w w':World}{u:Value}(h:s.run P w = .ok u w'):(do let x <- s; pure (Next.value x):Sem Next).run P w = .ok (.value u) w' :=
 kE h rfl
theorem DL{s:Sem Unit}{w w':World}(h:s.run P w = .ok () w'):(do s; pure Next.skip:Sem Next).run P w = .ok .skip w' :=
 kE h rfl
theorem Y.zh{x:Operand}{y:X}(hx:bV st x = some y)(hf:y.free = true):Yields P N st ⟨dst,.move x,ty,pos,af,g⟩ y:=by
 intro G E RR a _ hi
 obtain ⟨R,h⟩:=hi.eval hx
 have:=RX.free hf h
 subst this
 exact ⟨_,rfl,h⟩
theorem Y.qf{x:Operand}{y:X}(hx:bV st x = some y)(hf:y.free = true):Yields P N st ⟨dst,.assign x,ty,pos,af,g⟩ y:=by
 intro G E RR a _ hi
 obtain ⟨R,h⟩:=hi.eval hx
 have:=RX.free hf h
 subst this
 exact ⟨_,rfl,h⟩
theorem Y.zo{c x y : Operand}{b : Bool}{z : X}(hc : bV st c = some (.v (.bool b)))(hz : bV st (if b then x else y) = some z)(hf : z.free = true) :
  Yields P N st ⟨dst,.pick c x y,ty,pos,af,g⟩ z:=by
 intro G E RR a _ hi
 obtain ⟨R,h⟩:=hi.eval hz
 have:=RX.free hf h
 subst this
 refine ⟨a.eval (if b then x else y),?_,h⟩
 have rz:=hi.val hc
 simp only [execOp,rz]
 cases b <;> rfl
theorem Y.qg{op : BinOp}{t t' : TypeId}{x y : Operand}{u v r : Value}(hx : bV st x = some (.v u))(hy : bV st y = some (.v v))
  (hr:∀ w,(do eqGuard op t x y u v; binOp op t u v:Sem Value).run P w = .ok r w):Yields P N st ⟨dst,.binOp op t x y t',ty,pos,af,g⟩ (.v r):=by
 intro G E RR a _ hi
 refine ⟨r,?_,by simp [RX]⟩
 show (do let x <- (do eqGuard op t x y (a.eval x) (a.eval y); binOp op t (a.eval x) (a.eval y):Sem Value); pure (Next.value x):Sem Next).run P E.w = _
 rw [hi.val hx,hi.val hy]
 exact eb (hr _)
section ints
variable {t t':TypeId} {x y:Operand} {k:IntKind} {a b r:Int}
theorem Y.qa(hx:bV st x = some (.v (.int k a)))(hy:bV st y = some (.v (.int k b)))(hr:k.wrap (a + b) = r):Yields P N st ⟨dst,.binOp .add t x y t',ty,pos,af,g⟩ (.v (.int k r)) :=
 Y.qg hx hy fun w=>by subst hr; simp [eqGuard,binOp,Op.intArith]
theorem Y.wb(hx:bV st x = some (.v (.int k a)))(hy:bV st y = some (.v (.int k b)))(hr:k.wrap (a - b) = r):Yields P N st ⟨dst,.binOp .sub t x y t',ty,pos,af,g⟩ (.v (.int k r)) :=
 Y.qg hx hy fun w=>by subst hr; simp [eqGuard,binOp,Op.intArith]
theorem Y.zi(hx:bV st x = some (.v (.int k a)))(hy:bV st y = some (.v (.int k b)))(hr:k.wrap (a * b) = r):Yields P N st ⟨dst,.binOp .mul t x y t',ty,pos,af,g⟩ (.v (.int k r)) :=
 Y.qg hx hy fun w=>by subst hr; simp [eqGuard,binOp,Op.intArith]
theorem Y.zp(hx:bV st x = some (.v (.int k a)))(hy:bV st y = some (.v (.int k b)))(h0:b ≠ 0)(hr:k.wrap (a.tdiv b) = r):Yields P N st ⟨dst,.binOp .quo t x y t',ty,pos,af,g⟩ (.v (.int k r)) :=
 Y.qg hx hy fun w=>by subst hr; simp [eqGuard,binOp,Op.intDiv,h0]
theorem Y.zs(hx:bV st x = some (.v (.int k a)))(hy:bV st y = some (.v (.int k b)))(h0:b ≠ 0)(hr:a.tmod b = r):Yields P N st ⟨dst,.binOp .rem t x y t',ty,pos,af,g⟩ (.v (.int k r)) :=
 Y.qg hx hy fun w=>by subst hr; simp [eqGuard,binOp,Op.intDiv,h0]
theorem Y.qd(hx:bV st x = some (.v (.int k a)))(hy:bV st y = some (.v (.int k b)))(hr:k.wrap (BitVec.ofInt k.bits a &&& BitVec.ofInt k.bits b).toNat = r):Yields P N st ⟨dst,.binOp .and t x y t',ty,pos,af,g⟩ (.v (.int k r)) :=
 Y.qg hx hy fun w=>by subst hr; simp [eqGuard,binOp,Op.intBits]
theorem Y.or(hx:bV st x = some (.v (.int k a)))(hy:bV st y = some (.v (.int k b)))(hr:k.wrap (BitVec.ofInt k.bits a ||| BitVec.ofInt k.bits b).toNat = r):Yields P N st ⟨dst,.binOp .or t x y t',ty,pos,af,g⟩ (.v (.int k r)) :=
 Y.qg hx hy fun w=>by subst hr; simp [eqGuard,binOp,Op.intBits]
theorem Y.wd(hx:bV st x = some (.v (.int k a)))(hy:bV st y = some (.v (.int k b)))(hr:k.wrap (BitVec.ofInt k.bits a ^^^ BitVec.ofInt k.bits b).toNat = r):Yields P N st ⟨dst,.binOp .xor t x y t',ty,pos,af,g⟩ (.v (.int k r)) :=
 Y.qg hx hy fun w=>by subst hr; simp [eqGuard,binOp,Op.intBits]
theorem Y.zv{k':IntKind}(hx:bV st x = some (.v (.int k a)))(hy:bV st y = some (.v (.int k' b)))(h0:0 <= b)(hr:k.wrap (a * 2 ^ (min b.toNat k.bits)) = r):Yields P N st ⟨dst,.binOp .shl t x y t',ty,pos,af,g⟩ (.v (.int k r)) :=
 Y.qg hx hy fun w=>by subst hr; simp [eqGuard,binOp,Op.shift,Int.not_lt.2 h0]
theorem Y.zw{k':IntKind}(hx:bV st x = some (.v (.int k a)))(hy:bV st y = some (.v (.int k' b)))(h0:0 <= b)(hr:a.fdiv (2 ^ (min b.toNat k.bits)) = r):Yields P N st ⟨dst,.binOp .shr t x y t',ty,pos,af,g⟩ (.v (.int k r)) :=
 Y.qg hx hy fun w=>by subst hr; simp [eqGuard,binOp,Op.shift,Int.not_lt.2 h0]
theorem Y.zc(hx:bV st x = some (.v (.int k a)))(hy:bV st y = some (.v (.int k b))):Yields P N st ⟨dst,.binOp .lss t x y t',ty,pos,af,g⟩ (.v (.bool (decide (a < b)))) :=
 Y.qg hx hy fun w=>by simp [eqGuard,binOp,Op.intCmp]
theorem Y.qz(hx:bV st x = some (.v (.int k a)))(hy:bV st y = some (.v (.int k b))):Yields P N st ⟨dst,.binOp .leq t x y t',ty,pos,af,g⟩ (.v (.bool (decide (a <= b)))) :=
 Y.qg hx hy fun w=>by simp [eqGuard,binOp,Op.intCmp]
theorem Y.qr(hx:bV st x = some (.v (.int k a)))(hy:bV st y = some (.v (.int k b))):Yields P N st ⟨dst,.binOp .gtr t x y t',ty,pos,af,g⟩ (.v (.bool (decide (b < a)))) :=
 Y.qg hx hy fun w=>by simp [eqGuard,binOp,Op.intCmp]
theorem Y.qq(hx:bV st x = some (.v (.int k a)))(hy:bV st y = some (.v (.int k b))):Yields P N st ⟨dst,.binOp .geq t x y t',ty,pos,af,g⟩ (.v (.bool (decide (b <= a)))) :=
 Y.qg hx hy fun w=>by simp [eqGuard,binOp,Op.intCmp]
theorem Y.ql(hx:bV st x = some (.v (.int k a)))(hy:bV st y = some (.v (.int k b))):Yields P N st ⟨dst,.binOp .eql t x y t',ty,pos,af,g⟩ (.v (.bool (decide (a = b)))) :=
 Y.qg hx hy fun w=>by simp [eqGuard,binOp,Op.intCmp,BEq.beq]
theorem Y.zl(hx:bV st x = some (.v (.int k a)))(hy:bV st y = some (.v (.int k b))):Yields P N st ⟨dst,.binOp .neq t x y t',ty,pos,af,g⟩ (.v (.bool (decide (a ≠ b)))) :=
 Y.qg hx hy fun w=>by simp [eqGuard,binOp,Op.intCmp,bne,BEq.beq]
end ints
theorem run_equal_bool{t:TypeId}{a b:Bool}(ht:P.underlying t = some .bool)(w:World):(Op.equal t (.bool a) (.bool b)).run P w = .ok (a == b) w:=by
 show (Op.equalIn (9999 + 1) t (.bool a) (.bool b)).run P w = _
 generalize 9999 = d
 simp [Op.equalIn,run_underlying ht]
theorem Y.qm{t t' : TypeId}{x y : Operand}{a b : Bool}(ht : P.underlying t = some .bool)(hx : bV st x = some (.v (.bool a)))(hy : bV st y = some (.v (.bool b))) :
  Yields P N st ⟨dst,.binOp .eql t x y t',ty,pos,af,g⟩ (.v (.bool (a == b))) :=
 Y.qg hx hy fun w=>by
  show (do let z <- Op.equal t (.bool a) (.bool b); pure (Value.bool z):Sem Value).run P w = _
  exact kE (run_equal_bool ht w) rfl
theorem Y.un{op:UnOp}{t:TypeId}{x:Operand}{u r:Value}(hx:bV st x = some (.v u))(hr:∀ w,(Op.unary op u).run P w = .ok r w):Yields P N st ⟨dst,.unOp op t x,ty,pos,af,g⟩ (.v r):=by
 intro G E RR a _ hi
 refine ⟨r,?_,by simp [RX]⟩
 show (do let x <- Op.unary op (a.eval x); pure (Next.value x):Sem Next).run P E.w = _
 rw [hi.val hx]
 exact eb (hr _)
theorem Y.zn{t:TypeId}{x:Operand}{b:Bool}(hx:bV st x = some (.v (.bool b))):Yields P N st ⟨dst,.unOp .not t x,ty,pos,af,g⟩ (.v (.bool (!b))) :=
 Y.un hx fun _=>rfl
theorem Y.qj{s d : TypeId}{x : Operand}{k k' : IntKind}{n r : Int}(hs : TY.isInt P s = some k')(hd : TY.isInt P d = some k)(hx : bV st x = some (.v (.int k' n)))(hr : k.wrap n = r) :
  Yields P N st ⟨dst,.convert s d x,ty,pos,af,g⟩ (.v (.int k r)):=by
 intro G E RR a _ hi
 refine ⟨.int k r,?_,by simp [RX]⟩
 show (do let x <- convert s d (a.eval x); pure (Next.value x):Sem Next).run P E.w = _
 rw [hi.val hx]
 refine eb ?_
 have h1:P.underlying s = some (.int k'):=by unfold TY.isInt at hs; split at hs <;> simp_all
 have h2:P.underlying d = some (.int k):=by unfold TY.isInt at hd; split at hd <;> simp_all
 simp [convert,run_underlying h1,run_underlying h2,Conv.intToInt,hr]
end
end Go.AW
namespace Go.AW
open Go
theorem dq{w:World}{b i:Nat}{cs:Array Value}{ty:TypeId}{fr:Nat × Nat}(h:w.heap[b]? = some (.cells cs ty fr)):w.cell? ⟨b,i,none⟩ = cs[i]?:=by
 simp [World.cell?,h]
theorem iH(b off n:Nat):(⟨b,off,none⟩:Addr).add n = ⟨b,off + n,none⟩:=by
 unfold Addr.add
 split
 ·rename_i h; subst h; rfl
 ·rfl
section
variable {E:Env}
theorem RF.get : ∀ {row : List X} {b off k : Nat} {x : X}, RF E row b off → row[k]? = some x → ∃ u, E.φ b (off + k) = some u ∧ ka u ∧ x.nr = true ∧ RX E x u []
 | [],_,_,_,_,_,h=>by simp at h
 | y :: r,b,off,0,x,h,hx=>by
  simp only [RF] at h
  simp only [List.getElem?_cons_zero,Option.some.injEq] at hx
  subst hx
  exact h.1
 | y :: r,b,off,k + 1,x,h,hx=>by
  simp only [RF] at h
  obtain ⟨u,hu⟩:=RF.get (k:=k) h.2 (by simpa using hx)
  exact ⟨u,by rw [show off + (k + 1) = off + 1 + k by omega]; exact hu⟩
theorem RF.drop : ∀ {row : List X} {b off : Nat} (k : Nat), RF E row b off → RF E (row.drop k) b (off + k)
 | [],_,_,_,_=>by simp [RF]
 | y :: r,b,off,0,h=>h
 | y :: r,b,off,k + 1,h=>by
  simp only [RF] at h
  simp only [List.drop_succ_cons]
  rw [show off + (k + 1) = off + 1 + k by omega]
  exact RF.drop k h.2
theorem RF.take : ∀ {row : List X} {b off : Nat} (k : Nat), RF E row b off → RF E (row.take k) b off
 | [],_,_,_,_=>by simp [RF]
 | y :: r,b,off,0,h=>by simp [RF]
 | y :: r,b,off,k + 1,h=>by
  simp only [RF,List.take_succ_cons] at h ⊢
  exact ⟨h.1,RF.take k h.2⟩
theorem RF.cells : ∀ {row : List X} {b off : Nat}, RF E row b off → ∃ cs : List Value, cs.length = row.length ∧ (∀ j v, cs[j]? = some v → E.φ b (off + j) = some v) ∧ b6 E row cs []
 | [],_,_,_=>⟨[],rfl,by simp,by simp [b6]⟩
 | y :: r,b,off,h=>by
  simp only [RF] at h
  obtain ⟨⟨u,hu,hs,_,hx⟩,hr⟩:=h
  obtain ⟨cs,hl,hc,gN⟩:=RF.cells hr
  refine ⟨u :: cs,by simp [hl],?_,?_⟩
  ·intro j v hv
   cases j with
   | zero=>simp at hv; subst hv; exact hu
   | succ j=>rw [show off + (j + 1) = off + 1 + j by omega]; exact hc j v (by simpa using hv)
  ·simp only [b6]
   exact ⟨u,cs,[],[],rfl,hs,hx,gN,rfl⟩
theorem kX.get : ∀ {rows : List (List X)} {s b off i : Nat} {row : List X}, cz s rows → kX E rows b off → rows[i]? = some row → RF E row b (off + i * s)
 | [],_,_,_,_,_,_,_,h=>by simp at h
 | r :: rs,s,b,off,0,row,hu,h,hr=>by
  simp only [kX] at h
  simp only [List.getElem?_cons_zero,Option.some.injEq] at hr
  subst hr
  simpa using h.1
 | r :: rs,s,b,off,i + 1,row,hu,h,hr=>by
  simp only [kX] at h
  have h1:=hu r (by simp)
  have:=kX.get (i:=i) (s:=s) (fun q hq=>hu q (by simp [hq])) h.2 (by simpa using hr)
  rw [h1] at this
  rw [show off + (i + 1) * s = off + s + i * s by rw [Nat.add_mul]; omega]
  exact this
theorem kX.drop : ∀ {rows : List (List X)} {s b off : Nat} (k : Nat), cz s rows → k ≤ rows.length → kX E rows b off → kX E (rows.drop k) b (off + k * s)
 | _,_,_,_,0,_,_,h=>by simpa using h
 | [],_,_,_,k + 1,_,hk,_=>by simp at hk
 | r :: rs,s,b,off,k + 1,hu,hk,h=>by
  simp only [kX] at h
  have h1:=hu r (by simp)
  rw [h1] at h
  simp only [List.drop_succ_cons]
  rw [show off + (k + 1) * s = off + s + k * s by rw [Nat.add_mul]; omega]
  exact kX.drop k (fun q hq=>hu q (by simp [hq])) (by simpa using hk) h.2
theorem kX.take : ∀ {rows : List (List X)} {b off : Nat} (k : Nat), kX E rows b off → kX E (rows.take k) b off
 | [],_,_,_,_=>by simp [kX]
 | _ :: _,_,_,0,_=>by simp [kX]
 | r :: rs,b,off,k + 1,h=>by
  simp only [kX,List.take_succ_cons] at h ⊢
  exact ⟨h.1,kX.take k h.2⟩
theorem cz.drop{s:Nat}{rows:List (List X)}(k:Nat)(h:cz s rows):cz s (rows.drop k):=fun r hr=>h r (List.mem_of_mem_drop hr)
theorem cz.take{s:Nat}{rows:List (List X)}(k:Nat)(h:cz s rows):cz s (rows.take k):=fun r hr=>h r (List.mem_of_mem_take hr)
theorem RO.get : ∀ {xs : List X} {cs : Array Value} {off k : Nat} {R : List Nat} {x : X}, RO E xs cs off R → xs[k]? = some x →
  ∃ u R₁,cs[off + k]? = some u /\ ka u /\ RX E x u R₁ /\ ∀ b ∈ R₁,b ∈ R
 | [],_,_,_,_,_,_,h=>by simp at h
 | y :: r,cs,off,0,R,x,h,hx=>by
  simp only [RO] at h
  simp only [List.getElem?_cons_zero,Option.some.injEq] at hx
  subst hx
  obtain ⟨u,R₁,R₂,hu,hs,h1,_,rfl⟩:=h
  exact ⟨u,R₁,hu,hs,h1,fun b hb=>cH hb⟩
 | y :: r,cs,off,k + 1,R,x,h,hx=>by
  simp only [RO] at h
  obtain ⟨_,R₁,R₂,_,_,_,h2,rfl⟩:=h
  obtain ⟨u,R₃,hu,hs,h3,dR⟩:=RO.get (k:=k) h2 (by simpa using hx)
  exact ⟨u,R₃,by rw [show off + (k + 1) = off + 1 + k by omega]; exact hu,hs,h3,fun b hb=>ct (dR b hb)⟩
theorem RO.drop : ∀ {xs : List X} {cs : Array Value} {off : Nat} {R : List Nat} (k : Nat), RO E xs cs off R → ∃ R', RO E (xs.drop k) cs (off + k) R' ∧ ∀ b ∈ R', b ∈ R
 | [],cs,off,R,k,h=>⟨[],by simp [RO],by simp⟩
 | y :: r,cs,off,R,0,h=>⟨R,h,fun _ h=>h⟩
 | y :: r,cs,off,R,k + 1,h=>by
  simp only [RO] at h
  obtain ⟨_,R₁,R₂,_,_,_,h2,rfl⟩:=h
  obtain ⟨R',h',hs⟩:=RO.drop k h2
  refine ⟨R',?_,fun b hb=>ct (hs b hb)⟩
  simp only [List.drop_succ_cons]
  rw [show off + (k + 1) = off + 1 + k by omega]; exact h'
theorem RO.take : ∀ {xs : List X} {cs : Array Value} {off : Nat} {R : List Nat} (k : Nat), RO E xs cs off R → ∃ R', RO E (xs.take k) cs off R' ∧ ∀ b ∈ R', b ∈ R
 | [],cs,off,R,k,h=>⟨[],by simp [RO],by simp⟩
 | y :: r,cs,off,R,0,h=>⟨[],by simp [RO],by simp⟩
 | y :: r,cs,off,R,k + 1,h=>by
  simp only [RO] at h
  obtain ⟨u,R₁,R₂,hu,hs,h1,h2,rfl⟩:=h
  obtain ⟨R',h',Na⟩:=RO.take k h2
  refine ⟨R₁ ++ R',?_,?_⟩
  ·simp only [List.take_succ_cons,RO]
   exact ⟨u,R₁,R',hu,hs,h1,h',rfl⟩
  ·intro b hb
   rcases List.mem_append.1 hb with hb | hb
   ·exact cH hb
   ·exact ct (Na b hb)
theorem RO.cells : ∀ {xs : List X} {cs : Array Value} {off : Nat} {R : List Nat}, RO E xs cs off R → ∃ vs : List Value, vs.length = xs.length ∧ (∀ j v, vs[j]? = some v → cs[off + j]? = some v) ∧ b6 E xs vs R
 | [],_,_,R,h=>⟨[],rfl,by simp,by simp only [RO] at h; simp [b6,h]⟩
 | y :: r,cs,off,R,h=>by
  simp only [RO] at h
  obtain ⟨u,R₁,R₂,hu,hs,h1,h2,rfl⟩:=h
  obtain ⟨vs,hl,hc,gN⟩:=RO.cells h2
  refine ⟨u :: vs,by simp [hl],?_,?_⟩
  ·intro j v hv
   cases j with
   | zero=>simp at hv; subst hv; exact hu
   | succ j=>rw [show off + (j + 1) = off + 1 + j by omega]; exact hc j v (by simpa using hv)
  ·simp only [b6]
   exact ⟨u,vs,R₁,R₂,rfl,hs,h1,gN,rfl⟩
theorem cE.get : ∀ {rows : List (List X)} {s : Nat} {cs : Array Value} {off i : Nat} {R : List Nat} {row : List X}, cz s rows → cE E rows cs off R → rows[i]? = some row →
  ∃ R₁,X.iQ row = true /\ RO E row cs (off + i * s) R₁ /\ ∀ b ∈ R₁,b ∈ R
 | [],_,_,_,_,_,_,_,_,h=>by simp at h
 | r :: rs,s,cs,off,0,R,row,hu,h,hr=>by
  simp only [cE] at h
  simp only [List.getElem?_cons_zero,Option.some.injEq] at hr
  subst hr
  obtain ⟨R₁,R₂,hn,h1,_,rfl⟩:=h
  exact ⟨R₁,hn,by simpa using h1,fun b hb=>cH hb⟩
 | r :: rs,s,cs,off,i + 1,R,row,hu,h,hr=>by
  simp only [cE] at h
  obtain ⟨R₁,R₂,hn,_,h2,rfl⟩:=h
  have h1:=hu r (by simp)
  obtain ⟨R₃,tD,h3,hs⟩:=cE.get (i:=i) (s:=s) (fun q hq=>hu q (by simp [hq])) h2 (by simpa using hr)
  rw [h1] at h3
  exact ⟨R₃,tD,by rw [show off + (i + 1) * s = off + s + i * s by rw [Nat.add_mul]; omega]; exact h3,fun b hb=>ct (hs b hb)⟩
end
def rowAt(st : St) : X → Option (List X)
 | .fp row _=>some row
 | .ptr o s i _=>match look st.aF o with
  | some (.cells xs)=>bif Nat.beq i 0 then some xs else none
  | some (.rows s' rs)=>bif Nat.beq s s' then rs[i]? else none
  | some (.hole _ i' q s' n)=>bif Nat.beq s 1 && Nat.beq i i' then some [.aL q s' 0 n] else none
  | _=>none
 | _=>none
def mR : X → Nat
 | .fp _ k=>k
 | .ptr _ _ _ k=>k
 | _=>0
theorem z6{st:St}{o i q s n:Nat}{rs:List (List X)}{k:Nat}(h:look st.aF o = some (.hole rs i q s n)):rowAt st (.ptr o 1 i k) = some [.aL q s 0 n]:=by
 simp only [rowAt,h,Nat.beq_refl,Bool.and_self,cond_true]
section
variable {P:Program} {N:fo} {G:Ctx} {E:Env} {RR:Own -> List Nat} {st:St} {a:Act}
theorem Inv.behind(hi : Inv G E RR st a){p : X}{c : Value}{R : List Nat}{row : List X}(hp : RX E p c R)(hr : rowAt st p = some row) :
  ∃ b off, c = .pointer (some ⟨b, off + mR p, none⟩) ∧ ∀ k m, k + m ≤ row.length →
   ∃ vs:List Value,∃ R',vs.length = m /\ (∀ j v,vs[j]? = some v -> E.w.cell? ⟨b,off + (k + j),none⟩ = some v) /\ b6 E ((row.drop k).take m) vs R':=by
 cases p with
 | fp row' k' =>
  simp only [rowAt,Option.some.injEq] at hr
  subst hr
  simp only [RX] at hp
  obtain ⟨_,b,off,hc,hf⟩:=hp
  refine ⟨b,off,hc,fun k m vL=>?_⟩
  obtain ⟨vs,hl,hv,hx⟩:=RF.cells (RF.take m (RF.drop k hf))
  refine ⟨vs,[],by rw [hl]; simp; omega,fun j v hj=>?_,hx⟩
  rw [<- Nat.add_assoc]
  exact hi.nM _ _ _ (hv j v hj)
 | ptr o s i k' =>
  simp only [RX] at hp
  obtain ⟨_,B,hB,hc⟩:=hp
  simp only [rowAt] at hr
  split at hr
  ·rename_i xs ho
   have h0:=hi.aF o _ ho
   simp only [dK] at h0
   obtain ⟨_,B',cs,ty,iU,hw,_,_,jS,_⟩:=h0
   rw [hB] at iU
   obtain rfl:=Option.some.inj iU
   cases rp:Nat.beq i 0 with
   | false=>simp [rp] at hr
   | true =>
    have:=Nat.eq_of_beq_eq_true rp
    subst this
    simp only [rp,cond_true,Option.some.injEq] at hr
    subst hr
    refine ⟨B.b,B.off,by simpa [mR] using hc,fun k m vL=>?_⟩
    obtain ⟨R₁,h1,_⟩:=RO.drop k jS
    obtain ⟨R₂,h2,_⟩:=RO.take m h1
    obtain ⟨vs,hl,hv,hx⟩:=RO.cells h2
    refine ⟨vs,R₂,by rw [hl]; simp; omega,fun j v hj=>?_,hx⟩
    rw [dq hw,<- Nat.add_assoc]
    exact hv j v hj
  ·rename_i s' rs ho
   have h0:=hi.aF o _ ho
   simp only [dK] at h0
   obtain ⟨hu,h0⟩:=h0
   cases Kj:Nat.beq s s' with
   | false=>simp [Kj] at hr
   | true =>
    have:=Nat.eq_of_beq_eq_true Kj
    subst this
    simp only [Kj,cond_true] at hr
    rcases h0 with ⟨_,h0,_⟩ | ⟨B',cs,ty,R',iU,hw,_,_,_,jS,_⟩
    ·subst h0; simp at hr
    ·rw [hB] at iU
     obtain rfl:=Option.some.inj iU
     obtain ⟨R₁,_,h1,_⟩:=cE.get hu jS hr
     refine ⟨B.b,B.off + i * s,by rw [hc]; simp [mR,Nat.add_assoc],fun k m vL=>?_⟩
     obtain ⟨R₂,h2,_⟩:=RO.drop k h1
     obtain ⟨R₃,h3,_⟩:=RO.take m h2
     obtain ⟨vs,hl,hv,hx⟩:=RO.cells h3
     refine ⟨vs,R₃,by rw [hl]; simp; omega,fun j v hj=>?_,hx⟩
     rw [dq hw,<- Nat.add_assoc]
     exact hv j v hj
  ·rename_i rs i' q s' n ho
   have h0:=hi.aF o _ ho
   simp only [dK] at h0
   obtain ⟨_,B',cs,ty,R',u,iU,hw,_,_,_,_,_,_,yV,XK,hx⟩:=h0
   rw [hB] at iU
   obtain rfl:=Option.some.inj iU
   cases hb:(Nat.beq s 1 && Nat.beq i i') with
   | false=>simp [hb] at hr
   | true =>
    rw [hb] at hr
    simp only [cond_true,Option.some.injEq] at hr
    subst hr
    simp only [Bool.and_eq_true] at hb
    obtain rfl:=Nat.eq_of_beq_eq_true hb.1
    obtain rfl:=Nat.eq_of_beq_eq_true hb.2
    refine ⟨B.b,B.off + i,by rw [hc]; simp [mR,Nat.add_assoc],fun k m vL=>?_⟩
    have jS:RO E [X.aL q s' 0 n] cs (B.off + i) []:=by simp only [RO]; exact ⟨u,[],[],yV,XK,hx,rfl,rfl⟩
    obtain ⟨R₁,h1,_⟩:=RO.drop k jS
    obtain ⟨R₂,h2,_⟩:=RO.take m h1
    obtain ⟨vs,hl,hv,hx⟩:=RO.cells h2
    refine ⟨vs,R₂,by rw [hl]; simp at vL ⊢; omega,fun j v hj=>?_,hx⟩
    rw [dq hw,<- Nat.add_assoc]
    exact hv j v hj
  ·cases hr
 | _=>simp [rowAt] at hr
end
end Go.AW
namespace Go.AW
open Go
section
variable {P:Program} {N:fo} {st:St} {dst:Option Nat} {ty:TypeId} {pos:String} {af:Array Edge} {g:Option (Nat × Bool)}
theorem TY.kb{t:TypeId}(h:TY.shape P t = some none)(w:World):(isAgg t).run P w = .ok false w /\ ∃ d,P.underlying t = some d:=by
 unfold TY.shape at h
 cases hu:P.underlying t with
 | none=>simp [hu] at h
 | some d =>
  refine ⟨?_,d,rfl⟩
  rw [hu] at h
  simp only [isAgg,Sem.run_bind,run_underlying hu,Result.andThen_ok]
  cases d <;> first | rfl | (cases hi:P.info? t <;> simp [hi] at h)
theorem TY.nP{t:TypeId}{m:Nat}(h:TY.shape P t = some (some m))(w:World):(isAgg t).run P w = .ok true w /\ (sizeOf t).run P w = .ok m w:=by
 unfold TY.shape at h
 cases hu:P.underlying t with
 | none=>simp [hu] at h
 | some d =>
  cases hi:P.info? t with
  | none=>rw [hu,hi] at h; cases d <;> simp at h
  | some i =>
   rw [hu,hi] at h
   have hs:(sizeOf t).run P w = .ok i.size w:=by simp [sizeOf,typeInfo,hi]
   have ha:∀ d',P.underlying t = some d' -> (match d' with | .struct _ | .array _ _=>true | _=>false) = true -> (isAgg t).run P w = .ok true w:=by
    intro d' XL hm
    simp only [isAgg,Sem.run_bind,run_underlying XL,Result.andThen_ok]
    cases d' <;> simp at hm <;> rfl
   cases d <;> simp at h <;> subst h <;> exact ⟨ha _ hu rfl,hs⟩
theorem getElem?_drop_take_one{α:Type}{l:List α}{k:Nat}{x:α}(h:l[k]? = some x):(l.drop k).take 1 = [x]:=by
 have hk:k < l.length:=by
  rcases Nat.lt_or_ge k l.length with h' | h'
  ·exact h'
  ·simp [List.getElem?_eq_none h'] at h
 rw [List.drop_eq_getElem_cons hk]
 simp only [List.take_succ_cons,List.take_zero]
 rw [List.getElem?_eq_getElem hk] at h
 rw [Option.some.inj h]
theorem Y.za{t : TypeId}{x : Operand}{p y : X}{row : List X}(ht : TY.shape P t = some none)(hx : bV st x = some p)(hr : rowAt st p = some row)(hy : row[mR p]? = some y)(hf : y.free = true) :
  Yields P N st ⟨dst,.load t x,ty,pos,af,g⟩ y:=by
 intro G E RR a _ hi
 obtain ⟨R,hp⟩:=hi.eval hx
 obtain ⟨b,off,hc,j9⟩:=hi.behind hp hr
 have hk:mR p < row.length:=by
  rcases Nat.lt_or_ge (mR p) row.length with h' | h'
  ·exact h'
  ·simp [List.getElem?_eq_none h'] at hy
 obtain ⟨vs,R',hl,hv,gN⟩:=j9 (mR p) 1 om
 rw [getElem?_drop_take_one hy] at gN
 simp only [b6] at gN
 obtain ⟨c,dp,R₁,R₂,Kk,_,h1,⟨rfl,rfl⟩,rfl⟩:=gN
 subst Kk
 have h0:=RX.free hf h1
 subst h0
 refine ⟨c,?_,h1⟩
 show (do let z <- Instr.loadAt t (a.eval x); pure (Next.value z):Sem Next).run P E.w = _
 rw [hc]
 refine eb ?_
 have jA:=hv 0 c rfl
 simp only [Instr.loadAt,Instr.sureAddr,loadVar,Sem.run_bind,Sem.run_pure,Result.andThen_ok,(TY.kb ht E.w).1]
 simp only [Nat.add_zero] at jA
 simp [jA]
theorem Y.zb{t : TypeId}{x : Operand}{p : X}{row : List X}{m : Nat}{ys : List X}(ht : TY.shape P t = some (some m))(hx : bV st x = some p)(hr : rowAt st p = some row)(hm : mR p + m ≤ row.length)
  (Cw:(row.drop (mR p)).take m = ys) (hf:X.bu ys = true):Yields P N st ⟨dst,.load t x,ty,pos,af,g⟩ (.agg ys):=by
 intro G E RR a _ hi
 obtain ⟨R,hp⟩:=hi.eval hx
 obtain ⟨b,off,hc,j9⟩:=hi.behind hp hr
 obtain ⟨vs,R',hl,hv,gN⟩:=j9 (mR p) m hm
 rw [Cw] at gN
 have h0:=b6.free hf gN
 subst h0
 refine ⟨.agg vs.toArray,?_,by simp only [RX]; exact ⟨_,rfl,gN⟩⟩
 show (do let z <- Instr.loadAt t (a.eval x); pure (Next.value z):Sem Next).run P E.w = _
 rw [hc]
 refine eb ?_
 obtain ⟨h1,h2⟩:=TY.nP ht E.w
 have h3:(loadCells ⟨b,off + mR p,none⟩ m).run P E.w = .ok vs.toArray E.w:=by
  rw [<- hl]
  exact run_loadCells_list (w:=E.w) _ vs fun j v hj=>by rw [iH,Nat.add_assoc]; exact hv j v hj
 simp only [Instr.loadAt,Instr.sureAddr,loadVar,Sem.run_bind,Sem.run_pure,Result.andThen_ok,h1,if_true,h2,h3]
theorem run_sizeOf{t:TypeId}{i:TypeInfo}(h:P.info? t = some i)(w:World):(sizeOf t).run P w = .ok i.size w:=by simp [sizeOf,typeInfo,h]
theorem TY.Bh{t : TypeId}{f off : Nat}{ft : TypeId}(h : TY.jQ P t f = some (off, ft))(b o : Nat)(w : World) :
  (Instr.fieldAt t (.pointer (some ⟨b,o,none⟩)) f).run P w = .ok (.pointer (some ⟨b,o + off,none⟩)) w:=by
 unfold TY.jQ at h
 cases hu:P.underlying t with
 | none=>simp [hu] at h
 | some d =>
  rw [hu] at h
  cases d with
  | struct fs =>
   simp only at h
   cases hf:fs[f]? with
   | none=>simp [hf] at h
   | some fd =>
    rw [hf] at h
    simp only at h
    cases hi:P.info? fd.type with
    | none=>simp [hi] at h
    | some i =>
     rw [hi] at h
     simp only at h
     cases hz:Nat.beq i.size 0 with
     | true=>simp [hz] at h
     | false =>
      have XM:i.size ≠ 0:=Nat.ne_of_beq_eq_false hz
      rw [hz] at h
      simp only [cond_false,Option.some.injEq,Prod.mk.injEq] at h
      simp only [Instr.fieldAt,Sem.run_bind,run_underlying hu,Result.andThen_ok,hf,Instr.sureAddr,Sem.run_pure,fieldPlace,run_sizeOf hi,XM,if_false,iH,h.1]
  | _=>simp at h
def X.on(n : Nat) : X → Option X
 | .fp row k=>some (.fp row (k + n))
 | .ptr o s i k=>some (.ptr o s i (k + n))
 | _=>none
theorem RX.on{E:Env}{p q:X}{n:Nat}{c:Value}{R:List Nat}(hq:p.on n = some q)(h:RX E p c R):∃ b off,c = .pointer (some ⟨b,off,none⟩) /\ RX E q (.pointer (some ⟨b,off + n,none⟩)) []:=by
 cases p with
 | fp row k =>
  simp only [X.on,Option.some.injEq] at hq
  subst hq
  simp only [RX] at h ⊢
  obtain ⟨_,b,off,hc,hf⟩:=h
  exact ⟨b,_,hc,trivial,b,off,by rw [Nat.add_assoc],hf⟩
 | ptr o s i k =>
  simp only [X.on,Option.some.injEq] at hq
  subst hq
  simp only [RX] at h ⊢
  obtain ⟨_,B,hB,hc⟩:=h
  exact ⟨_,_,hc,trivial,B,hB,by simp only [Nat.add_assoc]⟩
 | _=>simp [X.on] at hq
theorem Y.qp{t : TypeId}{x : Operand}{p q : X}{f off : Nat}{ft : TypeId}(ht : TY.jQ P t f = some (off, ft))(hx : bV st x = some p)(hq : p.on off = some q) :
  Yields P N st ⟨dst,.fieldAddr t x f,ty,pos,af,g⟩ q:=by
 intro G E RR a _ hi
 obtain ⟨R,hp⟩:=hi.eval hx
 obtain ⟨b,o,hc,h⟩:=hp.on hq
 refine ⟨_,?_,h⟩
 show (do let z <- Instr.fieldAt t (a.eval x) f; pure (Next.value z):Sem Next).run P E.w = _
 rw [hc]
 exact eb (TY.Bh ht b o E.w)
theorem TY.dT{t e s de:Nat}(h:TY.slice P t = some (e,s,de)):P.underlying t = some (.slice e) /\ ∃ i,P.info? e = some i /\ i.size = s /\ i.bytes = de:=by
 unfold TY.slice at h
 split at h
 ·rename_i e' hu
  cases hi:P.info? e' with
  | none=>simp [hi] at h
  | some i =>
   simp only [hi,Option.map_some,Option.some.injEq,Prod.mk.injEq] at h
   obtain ⟨rfl,h2,h3⟩:=h
   exact ⟨hu,i,hi,h2,h3⟩
 ·cases h
theorem TY.ug{t n e s:Nat}(h:TY.array P t = some (n,e,s)):P.underlying t = some (.array n e) /\ ∃ i,P.info? e = some i /\ i.size = s:=by
 unfold TY.array at h
 split at h
 ·rename_i n' e' hu
  cases hi:P.info? e' with
  | none=>simp [hi] at h
  | some i =>
   simp only [hi,Option.map_some,Option.some.injEq,Prod.mk.injEq] at h
   obtain ⟨rfl,rfl,h3⟩:=h
   exact ⟨hu,i,hi,h3⟩
 ·cases h
theorem m7{t e s de : Nat}(ht : TY.slice P t = some (e, s, de)){b off len cap m : Nat}{k : IntKind}{n : Int}(hn : n = (m : Int))(hm : m < len)(w : World) :
  (Instr.indexAt t (.slice (some ⟨b,off,none⟩) len cap) (.int k n)).run P w = .ok (.pointer (some ⟨b,off + m * s,none⟩)) w:=by
 obtain ⟨hu,i,hi,hs,_⟩:=TY.dT ht
 subst hn
 simp [Instr.indexAt,asIntOf,run_underlying hu,hm,run_sizeOf hi,hs,iH]
theorem Y.qs{t e s de : Nat}{x ix : Operand}{rows : List (List X)}{row : List X}{k : IntKind}{n : Int}{m : Nat}(ht : TY.slice P t = some (e, s, de))(hx : bV st x = some (.fz s rows))
  (z7:bV st ix = some (.v (.int k n))) (hn:n = (m:Int)) (hr:rows[m]? = some row):Yields P N st ⟨dst,.indexAddr t x ix,ty,pos,af,g⟩ (.fp row 0):=by
 intro G E RR a _ hi
 obtain ⟨R,hp⟩:=hi.eval hx
 have hm:m < rows.length:=by
  rcases Nat.lt_or_ge m rows.length with h' | h'
  ·exact h'
  ·simp [List.getElem?_eq_none h'] at hr
 simp only [RX] at hp
 obtain ⟨_,hu,base,cap,hc,h⟩:=hp
 rcases h with ⟨h,_⟩ | ⟨b,off,rfl,hl,hf⟩
 ·subst h; simp at hr
 ·refine ⟨.pointer (some ⟨b,off + m * s,none⟩),?_,?_⟩
  ·show (do let z <- Instr.indexAt t (a.eval x) (a.eval ix); pure (Next.value z):Sem Next).run P E.w = _
   rw [hc,hi.val z7]
   exact eb (m7 ht hn hm E.w)
  ·simp only [RX]
   exact ⟨trivial,b,off + m * s,rfl,kX.get hu hf hr⟩
theorem Y.qt{t e s de : Nat}{x ix : Operand}{o lo len : Nat}{k : IntKind}{n : Int}{m : Nat}(ht : TY.slice P t = some (e, s, de))(hx : bV st x = some (.aL o s lo len))
  (z7:bV st ix = some (.v (.int k n))) (hn:n = (m:Int)) (hm:m < len):Yields P N st ⟨dst,.indexAddr t x ix,ty,pos,af,g⟩ (.ptr o s (lo + m) 0):=by
 intro G E RR a _ hi
 obtain ⟨R,hp⟩:=hi.eval hx
 simp only [RX] at hp
 obtain ⟨_,base,cap,hc,h⟩:=hp
 rcases h with ⟨_,_,h,_⟩ | ⟨B,hB,_,hl,hb⟩
 ·omega
 ·have iG:base = some ⟨B.b,B.off + lo * s,none⟩:=hb.resolve_left om
  subst iG
  refine ⟨.pointer (some ⟨B.b,B.off + lo * s + m * s,none⟩),?_,?_⟩
  ·show (do let z <- Instr.indexAt t (a.eval x) (a.eval ix); pure (Next.value z):Sem Next).run P E.w = _
   rw [hc,hi.val z7]
   exact eb (m7 ht hn hm E.w)
  ·simp only [RX]
   exact ⟨trivial,B,hB,by rw [Nat.add_mul]; simp [Nat.add_assoc]⟩
theorem Y.qu{t len e s : Nat}{x ix : Operand}{p q : X}{k : IntKind}{n : Int}{m : Nat}(ht : TY.array P t = some (len, e, s))(hx : bV st x = some p)
  (z7:bV st ix = some (.v (.int k n))) (hn:n = (m:Int)) (hm:m < len) (hq:p.on (m * s) = some q):Yields P N st ⟨dst,.indexAddr t x ix,ty,pos,af,g⟩ q:=by
 intro G E RR a _ hi
 obtain ⟨R,hp⟩:=hi.eval hx
 obtain ⟨b,o,hc,h⟩:=hp.on hq
 refine ⟨_,?_,h⟩
 show (do let z <- Instr.indexAt t (a.eval x) (a.eval ix); pure (Next.value z):Sem Next).run P E.w = _
 rw [hc,hi.val z7]
 refine eb ?_
 obtain ⟨hu,i,iV,hs⟩:=TY.ug ht
 subst hn
 simp [Instr.indexAt,Instr.sureAddr,asIntOf,run_underlying hu,hm,run_sizeOf iV,hs,iH]
theorem b6.get{E : Env} : ∀ {xs : List X} {cs : List Value} {R : List Nat} {k : Nat} {x : X}, b6 E xs cs R → xs[k]? = some x → ∃ u R₁, cs[k]? = some u ∧ ka u ∧ RX E x u R₁
 | [],_,_,_,_,_,h=>by simp at h
 | y :: r,cs,R,0,x,h,hx=>by
  simp only [b6] at h
  simp only [List.getElem?_cons_zero,Option.some.injEq] at hx
  subst hx
  obtain ⟨c,dp,R₁,R₂,rfl,hs,h1,_,_⟩:=h
  exact ⟨c,R₁,rfl,hs,h1⟩
 | y :: r,cs,R,k + 1,x,h,hx=>by
  simp only [b6] at h
  obtain ⟨c,dp,R₁,R₂,rfl,_,_,h2,_⟩:=h
  obtain ⟨u,R₃,hu,hs,h3⟩:=b6.get (k:=k) h2 (by simpa using hx)
  exact ⟨u,R₃,by simpa using hu,hs,h3⟩
theorem b6.length{E : Env} : ∀ {xs : List X} {cs : List Value} {R : List Nat}, b6 E xs cs R → cs.length = xs.length
 | [],_,_,h=>by simp only [b6] at h; rw [h.1]; rfl
 | x :: r,_,_,h=>by
  simp only [b6] at h
  obtain ⟨c,dp,R₁,R₂,rfl,_,_,h2,_⟩:=h
  simp [b6.length h2]
theorem b6.drop{E : Env} : ∀ {xs : List X} {cs : List Value} {R : List Nat} (k : Nat), b6 E xs cs R → ∃ R', b6 E (xs.drop k) (cs.drop k) R'
 | [],cs,R,k,h=>by simp only [b6] at h; exact ⟨[],by simp [b6,h.1]⟩
 | y :: r,cs,R,0,h=>⟨R,h⟩
 | y :: r,cs,R,k + 1,h=>by
  simp only [b6] at h
  obtain ⟨c,dp,R₁,R₂,rfl,_,_,h2,_⟩:=h
  simpa using b6.drop k h2
theorem b6.take{E : Env} : ∀ {xs : List X} {cs : List Value} {R : List Nat} (k : Nat), b6 E xs cs R → ∃ R', b6 E (xs.take k) (cs.take k) R'
 | [],cs,R,k,h=>by simp only [b6] at h; exact ⟨[],by simp [b6,h.1]⟩
 | y :: r,cs,R,0,h=>⟨[],by simp [b6]⟩
 | y :: r,cs,R,k + 1,h=>by
  simp only [b6] at h
  obtain ⟨c,dp,R₁,R₂,rfl,hs,h1,h2,_⟩:=h
  obtain ⟨R',h'⟩:=b6.take k h2
  exact ⟨R₁ ++ R',by simp only [List.take_succ_cons,b6]; exact ⟨c,_,R₁,R',rfl,hs,h1,h',rfl⟩⟩
theorem Cx{t:TypeId}{cs:Array Value}{off:Nat}{u:Value}(ht:TY.shape P t = some none)(hu:cs[off]? = some u)(w:World):(part t cs off).run P w = .ok u w:=by
 simp only [part,Sem.run_bind,(TY.kb ht w).1,Result.andThen_ok,hu]; rfl
theorem TY.DM{t:TypeId}{f off:Nat}{ft:TypeId}(h:TY.jQ P t f = some (off,ft)):∃ fs fd,P.underlying t = some (.struct fs) /\ fs[f]? = some fd /\ fd.offset = off /\ fd.type = ft:=by
 unfold TY.jQ at h
 split at h
 ·rename_i fs hu
  split at h
  ·rename_i fd hf
   split at h
   ·rename_i i hi
    cases hz:Nat.beq i.size 0 with
    | true=>simp [hz] at h
    | false=>rw [hz] at h; simp only [cond_false,Option.some.injEq,Prod.mk.injEq] at h; exact ⟨fs,fd,hu,hf,h.1,h.2⟩
   ·cases h
  ·cases h
 ·cases h
theorem Y.qo{t : TypeId}{x : Operand}{xs : List X}{y : X}{f off : Nat}{ft : TypeId}(ht : TY.jQ P t f = some (off, ft))(hs : TY.shape P ft = some none)(hx : bV st x = some (.agg xs))(hy : xs[off]? = some y)(hf : y.free = true) :
  Yields P N st ⟨dst,.field t x f,ty,pos,af,g⟩ y:=by
 intro G E RR a _ hi
 obtain ⟨R,hp⟩:=hi.eval hx
 simp only [RX] at hp
 obtain ⟨cs,hc,gN⟩:=hp
 obtain ⟨u,R₁,hu,_,h1⟩:=b6.get gN hy
 have h0:=RX.free hf h1
 subst h0
 refine ⟨u,?_,h1⟩
 show (do let z <- Instr.field t (a.eval x) f; pure (Next.value z):Sem Next).run P E.w = _
 rw [hc]
 refine eb ?_
 obtain ⟨fs,fd,yW,XN,ho,XO⟩:=TY.DM ht
 have Cy:cs[off]? = some u:=by simpa using hu
 simp only [Instr.field,Sem.run_bind,run_underlying yW,Result.andThen_ok,XN,asAgg,Sem.run_pure,ho,XO]
 exact Cx hs Cy E.w
theorem Y.qv{t : TypeId}{x ix : Operand}{b : ByteArray}{k : IntKind}{n : Int}{m : Nat}(ht : P.underlying t = some .string)(hx : bV st x = some (.v (.string b)))
  (z7:bV st ix = some (.v (.int k n))) (hn:n = (m:Int)) (hm:m < b.size):Yields P N st ⟨dst,.index t x ix,ty,pos,af,g⟩ (.v (.int .u8 (b[m].toNat:Int))):=by
 intro G E RR a _ hi
 refine ⟨.int .u8 (b[m].toNat:Int),?_,by simp [RX]⟩
 show (do let z <- Instr.index t (a.eval x) (a.eval ix); pure (Next.value z):Sem Next).run P E.w = _
 rw [hi.val hx,hi.val z7]
 refine eb ?_
 subst hn
 have h0:(0:Int) <= (m:Int):=by omega
 simp [Instr.index,asIntOf,run_underlying ht,h0,getElem?_pos b m hm]
end
end Go.AW
namespace Go.AW
open Go
section
variable {P:Program} {N:fo} {st:St} {dst:Option Nat} {ty:TypeId} {pos:String} {af:Array Edge} {g:Option (Nat × Bool)}
theorem iu{b : Builtin}{args : Array Operand}{q2 : Array TypeId}{a : Act}{w w' : World}{r : Next}
  (h:(builtin b q2 ty (args.map fun | .const _=>true | _=>false) (args.map a.eval)).run P w = .ok r w') :
  (execOp a.eval ⟨dst,.call ⟨.builtin b,args,q2⟩,ty,pos,af,g⟩).run P w = .ok r w':=h
def X.len : X → Option Nat
 | .fz _ rows=>some rows.length
 | .dH _ rows=>some rows.length
 | .aL _ _ _ n=>some n
 | .v (.slice none n _)=>some n
 | _=>none
theorem RX.len{E:Env}{x:X}{c:Value}{R:List Nat}{n:Nat}(hn:x.len = some n)(h:RX E x c R):∃ base cap,c = .slice base n cap:=by
 cases x with
 | fz s rows =>
  simp only [X.len,Option.some.injEq] at hn; subst hn
  simp only [RX] at h
  obtain ⟨_,_,base,cap,hc,_⟩:=h
  exact ⟨base,cap,hc⟩
 | dH s rows =>
  simp only [X.len,Option.some.injEq] at hn; subst hn
  simp only [RX] at h
  obtain ⟨_,base,cap,hc,_⟩:=h
  exact ⟨base,cap,hc⟩
 | aL o s lo m =>
  simp only [X.len,Option.some.injEq] at hn; subst hn
  simp only [RX] at h
  obtain ⟨_,base,cap,hc,_⟩:=h
  exact ⟨base,cap,hc⟩
 | v u =>
  simp only [RX] at h
  cases u with
  | slice b m c' =>
   cases b with
   | none=>simp only [X.len,Option.some.injEq] at hn; subst hn; exact ⟨none,c',h.1⟩
   | some b=>simp [X.len] at hn
  | _=>simp [X.len] at hn
 | _=>simp [X.len] at hn
theorem Y.qx{t e s de : Nat}{x : Operand}{y : X}{n : Nat}(ht : TY.slice P t = some (e, s, de))(hx : bV st x = some y)(hn : y.len = some n) :
  Yields P N st ⟨dst,.call ⟨.builtin .len,#[x],#[t]⟩,ty,pos,af,g⟩ (.v (.int .i64 (n:Int))):=by
 intro G E RR a _ hi
 obtain ⟨R,hp⟩:=hi.eval hx
 obtain ⟨base,cap,hc⟩:=hp.len hn
 refine ⟨.int .i64 (n:Int),iu ?_,by simp [RX]⟩
 obtain ⟨hu,_⟩:=TY.dT ht
 simp [builtin,Builtin.len_,hc,run_underlying hu,goInt]
theorem Y.qy{t : TypeId}{x : Operand}{b : ByteArray}(ht : P.underlying t = some .string)(hx : bV st x = some (.v (.string b))) :
  Yields P N st ⟨dst,.call ⟨.builtin .len,#[x],#[t]⟩,ty,pos,af,g⟩ (.v (.int .i64 (b.size:Int))):=by
 intro G E RR a _ hi
 refine ⟨.int .i64 (b.size:Int),iu ?_,by simp [RX]⟩
 have hc:=hi.val hx
 simp [builtin,Builtin.len_,hc,run_underlying ht,goInt]
def bound(st : St)(d : Nat) : Option Operand → Option Nat → Prop
 | none,m=>m = none \/ m = some d
 | some x,some m=>∃ k,bV st x = some (.v (.int k (m:Int)))
 | some _,none=>False
theorem run_sliceBound{k:IntKind}{m y:Nat}{code:BoundsCode}(h:m <= y)(w:World):(Instr.sliceBound (.int k (m:Int)) y code).run P w = .ok m w:=by
 have h1:(0:Int) <= (m:Int) /\ (m:Int) <= (y:Int):=by omega
 simp only [Instr.sliceBound,asIntOf,Sem.run_bind,Sem.run_pure,Result.andThen_ok,h1,and_self,if_true,Int.toNat_natCast]
inductive Bd (st:St):Option Operand -> Nat -> Nat -> Prop where
 | none (d:Nat):Bd st none d d
 | some {x:Operand} {k:IntKind} {m d:Nat} (h:bV st x = some (.v (.int k (m:Int)))):Bd st (some x) d m
theorem jd{G : Ctx}{E : Env}{RR : Own → List Nat}{a : Act}(hi : Inv G E RR st a){lo iS : Option Operand}{len cap l h : Nat}
  (hl:Bd st lo 0 l) (hh:Bd st iS len h) (h1:l <= h) (h2:h <= cap) (XP:Bool) (w:World) :
  (Instr.sliceBounds XP len cap (lo.map a.eval) (iS.map a.eval) none).run P w = .ok (l,h,cap) w:=by
 cases hl with
 | none =>
  cases hh with
  | none=>simp [Instr.sliceBounds]
  | some hx=>simp [Instr.sliceBounds,hi.val hx,run_sliceBound h2]
 | some hy =>
  cases hh with
  | none=>simp [Instr.sliceBounds,hi.val hy,run_sliceBound h1]
  | some hx=>simp [Instr.sliceBounds,hi.val hx,hi.val hy,run_sliceBound h1,run_sliceBound h2]
theorem Y.zy{t e s de : Nat}{x : Operand}{lo iS : Option Operand}{rows : List (List X)}{l h : Nat}{ni : List (List X)}(ht : TY.slice P t = some (e, s, de))(hx : bV st x = some (.fz s rows))
  (hl:Bd st lo 0 l) (hh:Bd st iS rows.length h) (h1:l <= h) (h2:h <= rows.length) (hr:(rows.take h).drop l = ni) :
  Yields P N st ⟨dst,.slice t x lo iS none,ty,pos,af,g⟩ (.fz s ni):=by
 intro G E RR a _ hi
 obtain ⟨R,hp⟩:=hi.eval hx
 simp only [RX] at hp
 obtain ⟨_,hu,base,cap,hc,cU⟩:=hp
 obtain ⟨yW,i,iV,fY,_⟩:=TY.dT ht
 subst hr
 have lx:h <= cap:=by
  rcases cU with ⟨h',mx⟩ | ⟨_,_,_,x5,_⟩
  ·subst h'; simp at h2; omega
  ·omega
 refine ⟨.slice (if cap = l then base else base.map (·.add (l * s))) (h - l) (cap - l),?_,?_⟩
 ·show (do let z <- Instr.sliceAt t (a.eval x) (lo.map a.eval) (iS.map a.eval) none; pure (Next.value z):Sem Next).run P E.w = _
  rw [hc]
  refine eb ?_
  simp only [Instr.sliceAt,Sem.run_bind,run_underlying yW,Result.andThen_ok,Instr.slice,jd hi hl hh h1 lx,run_sizeOf iV,fY]
  rfl
 ·have hlen:((rows.take h).drop l).length = h - l:=by simp; omega
  simp only [RX,hlen]
  refine ⟨trivial,(hu.take h).drop l,_,_,rfl,?_⟩
  rcases cU with ⟨h',mx⟩ | ⟨b,off,hb,x5,hf⟩
  ·exact .inl ⟨by subst h'; simp,om⟩
  ·refine .inr ?_
   subst hb
   by_cases vx:cap = l
   ·refine ⟨b,off,by rw [if_pos vx],om,?_⟩
    have:(rows.take h).drop l = []:=by
     apply List.eq_nil_of_length_eq_zero
     rw [hlen]; omega
    rw [this]; simp [kX]
   ·refine ⟨b,off + l * s,by rw [if_neg vx]; simp [iH],om,?_⟩
    exact kX.drop l (hu.take h) (by simp; omega) (hf.take h)
theorem Y.wa{t e s de : Nat}{x : Operand}{lo iS : Option Operand}{o Wf n l h : Nat}(ht : TY.slice P t = some (e, s, de))(hx : bV st x = some (.aL o s Wf n))
  (hl:Bd st lo 0 l) (hh:Bd st iS n h) (h1:l <= h) (h2:h <= n):Yields P N st ⟨dst,.slice t x lo iS none,ty,pos,af,g⟩ (.aL o s (Wf + l) (h - l)):=by
 intro G E RR a _ hi
 obtain ⟨R,hp⟩:=hi.eval hx
 simp only [RX] at hp
 obtain ⟨_,base,cap,hc,cU⟩:=hp
 obtain ⟨yW,i,iV,fY,_⟩:=TY.dT ht
 have lx:h <= cap:=by
  rcases cU with ⟨_,_,h',_⟩ | ⟨_,_,_,h',_⟩ <;> omega
 refine ⟨.slice (if cap = l then base else base.map (·.add (l * s))) (h - l) (cap - l),?_,?_⟩
 ·show (do let z <- Instr.sliceAt t (a.eval x) (lo.map a.eval) (iS.map a.eval) none; pure (Next.value z):Sem Next).run P E.w = _
  rw [hc]
  refine eb ?_
  simp only [Instr.sliceAt,Sem.run_bind,run_underlying yW,Result.andThen_ok,Instr.slice,jd hi hl hh h1 lx,run_sizeOf iV,fY]
  rfl
 ·simp only [RX]
  refine ⟨trivial,_,_,rfl,?_⟩
  rcases cU with ⟨hβ,x6,hn,mx⟩ | ⟨B,hβ,Nb,hn,hb⟩
  ·exact .inl ⟨hβ,om,om,om⟩
  ·refine .inr ⟨B,hβ,om,om,?_⟩
   by_cases vx:cap = l
   ·left; omega
   ·right
    have:=hb.resolve_left om
    rw [if_neg vx,this]
    simp only [Option.map_some,iH,Nat.add_mul,Nat.add_assoc]
theorem eV.get{E : Env} : ∀ {xs : List X} {cs : List Value} {R : List Nat} {k : Nat} {x : X}, eV E xs cs R → xs[k]? = some x → ∃ u R₁, cs[k]? = some u ∧ RX E x u R₁
 | [],_,_,_,_,_,h=>by simp at h
 | y :: r,cs,R,0,x,h,hx=>by
  simp only [eV] at h
  simp only [List.getElem?_cons_zero,Option.some.injEq] at hx
  subst hx
  obtain ⟨c,dp,R₁,R₂,rfl,h1,_,_⟩:=h
  exact ⟨c,R₁,rfl,h1⟩
 | y :: r,cs,R,k + 1,x,h,hx=>by
  simp only [eV] at h
  obtain ⟨c,dp,R₁,R₂,rfl,_,h2,_⟩:=h
  obtain ⟨u,R₃,hu,h3⟩:=eV.get (k:=k) h2 (by simpa using hx)
  exact ⟨u,R₃,by simpa using hu,h3⟩
theorem Y.qn{x:Operand}{xs:List X}{y:X}{k:Nat}(hx:bV st x = some (.tup xs))(hy:xs[k]? = some y)(hf:y.free = true):Yields P N st ⟨dst,.extract x k,ty,pos,af,g⟩ y:=by
 intro G E RR a _ hi
 obtain ⟨R,hp⟩:=hi.eval hx
 simp only [RX] at hp
 obtain ⟨cs,hc,gN⟩:=hp
 obtain ⟨u,R₁,hu,h1⟩:=eV.get gN hy
 have h0:=RX.free hf h1
 subst h0
 refine ⟨u,?_,h1⟩
 show (do let z <- Instr.extract (a.eval x) k; pure (Next.value z):Sem Next).run P E.w = _
 rw [hc]
 refine eb ?_
 have Cy:cs[k]? = some u:=by simpa using hu
 simp only [Instr.extract,Cy]; rfl
theorem Y.zm{x:Operand}{p q:X}(hx:bV st x = some p)(hq:p.on 0 = some q):Yields P N st ⟨dst,.nilCheck x,ty,pos,af,g⟩ q:=by
 intro G E RR a _ hi
 obtain ⟨R,hp⟩:=hi.eval hx
 obtain ⟨b,off,hc,h⟩:=hp.on hq
 refine ⟨_,?_,h⟩
 simp only [execOp,hc]; rfl
def X.one : X → Bool
 | .v (.agg _) | .v (.tuple _)=>false
 | .v _ | .fz .. | .dH .. | .ptr .. | .aL .. | .mref _ | .fp .. | .j7 ..=>true
 | .no | .agg _ | .tup _=>false
theorem RX.one{E:Env}{x:X}{c:Value}{R:List Nat}(ho:x.one = true)(h:RX E x c R):ka c:=by
 cases x with
 | v u =>
  simp only [RX] at h
  rw [h.1]
  cases u <;> first | trivial | (simp [X.one] at ho)
 | fz s rows=>simp only [RX] at h; obtain ⟨_,_,_,_,rfl,_⟩:=h; trivial
 | dH s rows=>simp only [RX] at h; obtain ⟨_,_,_,rfl,_⟩:=h; trivial
 | ptr o s i k=>simp only [RX] at h; obtain ⟨_,_,_,rfl⟩:=h; trivial
 | aL o s lo n=>simp only [RX] at h; obtain ⟨_,_,_,rfl,_⟩:=h; trivial
 | mref o=>simp only [RX] at h; obtain ⟨_,_,_,rfl⟩:=h; trivial
 | fp row k=>simp only [RX] at h; obtain ⟨_,_,_,rfl,_⟩:=h; trivial
 | j7 fn f c=>simp only [RX] at h; obtain ⟨_,_,_,rfl,_⟩:=h; trivial
 | _=>simp [X.one] at ho
def X.flat : X → Option (List X)
 | .agg xs=>some xs
 | x=>bif x.one then some [x] else none
theorem wF{c:Value}(h:ka c):c.cells = #[c]:=by
 cases c <;> first | rfl | exact h.elim
theorem RX.flat{E:Env}{x:X}{c:Value}{R:List Nat}{ys:List X}(hf:x.flat = some ys)(h:RX E x c R):b6 E ys c.cells.toList R:=by
 by_cases hx:∃ xs,x = .agg xs
 ·obtain ⟨xs,rfl⟩:=hx
  simp only [X.flat,Option.some.injEq] at hf
  subst hf
  simp only [RX] at h
  obtain ⟨cs,rfl,h⟩:=h
  exact h
 ·have h1:x.one = true /\ ys = [x]:=by
   unfold X.flat at hf
   split at hf
   ·exact absurd ⟨_,rfl⟩ hx
   ·cases ho:x.one with
    | false=>simp [ho] at hf
    | true=>simp [ho] at hf; exact ⟨rfl,hf.symm⟩
  obtain ⟨ho,rfl⟩:=h1
  have hs:=h.one ho
  rw [wF hs]
  simp only [b6]
  exact ⟨c,[],R,[],rfl,hs,h,⟨rfl,rfl⟩,by simp⟩
end
end Go.AW
namespace Go.AW
open Go
theorem dK.mono{E E':Env}{o:Nat}{ob:Obj}{R:List Nat}(hE:E.On E' R)(ho:E'.β o = E.β o)(hm:∀ q,ob.cv q = true -> E'.β q = E.β q)(h:dK E o ob R):dK E' o ob R:=by
 cases ob with
 | cells xs =>
  simp only [dK] at h ⊢
  obtain ⟨sX,B,cs,ty,hB,hw,hf,hl,hR,rfl⟩:=h
  have h2:=hE.2 B.b (by simp)
  exact ⟨sX,B,cs,ty,ho.trans hB,h2.1.trans hw,h2.2 hf,hl,RO.mono xs cs _ [] (hE.sub (fun _ h=>by cases h)) hm hR,rfl⟩
 | rows s rs =>
  simp only [dK] at h ⊢
  obtain ⟨hu,h⟩:=h
  refine ⟨hu,?_⟩
  rcases h with ⟨h1,h2,h3⟩ | ⟨B,cs,ty,R',hB,hw,hf,hl,hc,hR,rfl⟩
  ·exact .inl ⟨ho.trans h1,h2,h3⟩
  ·have h2:=hE.2 B.b (by simp)
   exact .inr ⟨B,cs,ty,R',ho.trans hB,h2.1.trans hw,h2.2 hf,hl,hc,cE.mono rs cs _ R' (hE.sub (fun _ h=>by simp [h])) hR,rfl⟩
 | yU es =>
  simp only [dK] at h ⊢
  obtain ⟨B,tC,clock,hB,hw,hf,he,rfl⟩:=h
  have h2:=hE.2 B.b (by simp)
  exact ⟨B,tC,clock,ho.trans hB,h2.1.trans hw,h2.2 hf,he,rfl⟩
 | gone=>simpa [dK] using h
 | hole rs i q s n =>
  simp only [dK] at h ⊢
  obtain ⟨hu,B,cs,ty,R',u,hB,hw,hf,hl,hc,hR,rfl,hi,yV,hs,hx⟩:=h
  have h2:=hE.2 B.b (by simp)
  exact ⟨hu, B, cs, ty, R', u, ho.trans hB, h2.1.trans hw, h2.2 hf, hl, hc, cE.mono rs cs _ R' (hE.sub (fun _ h => by simp [h])) hR, rfl, hi, yV, hs,
   RX.mono _ u [] (hE.sub (fun _ h=>by cases h)) (fun p hp=>hm p hp) hx⟩
structure dg(G:Ctx)(E E':Env)(T:Nat -> Prop):Prop where
 φ:E'.φ = E.φ
 free:∀ b,T b -> ∀ i,E.φ b i = none
 out:∀ b,T b -> ¬ G.K b
 same:∀ b,b < E.w.heap.size -> ¬ T b -> E'.w.heap[b]? = E.w.heap[b]?
 size:E.w.heap.size <= E'.w.heap.size
 os:E'.w.os = E.w.os
 tape:E'.w.tape = E.w.tape
 output:E'.w.output = E.w.output
section
variable {G:Ctx} {E E':Env} {RR:Own -> List Nat} {st:St} {a:Act} {T:Nat -> Prop}
theorem dg.on(hm:dg G E E' T)(hi:Inv G E RR st a){p:Own}(hT:∀ b ∈ RR p,¬ T b):E.On E' (RR p) :=
 ⟨fun b i v h=>by rw [hm.φ]; exact h,fun b hb=>⟨hm.same b (hi.own p b hb).1 (hT b hb),fun h=>by rw [hm.φ]; exact h⟩⟩
theorem dg.nM(hm:dg G E E' T)(hi:Inv G E RR st a):∀ b i v,E'.φ b i = some v -> E'.w.cell? ⟨b,i,none⟩ = some v:=by
 intro b i v h
 rw [hm.φ] at h
 have h0:=hi.nM b i v h
 have gQ:=World.block_lt_of_cell? E.w _ h0
 have hT:¬ T b:=fun hT=>by rw [hm.free b hT i] at h; cases h
 have:=hm.same b gQ hT
 rw [World.cell?_of_block this]; exact h0
theorem dg.aj(hm:dg G E E' T)(hi:Inv G E RR st a):∀ b,G.K b -> E'.w.heap[b]? = G.w0.heap[b]?:=by
 intro b hK
 have gQ:b < E.w.heap.size:=Nat.lt_of_lt_of_le (hi.small b hK) hi.size
 rw [hm.same b gQ (fun hT=>hm.out b hT hK)]
 exact hi.aj b hK
theorem dg.slot(hm : dg G E E' T)(hi : Inv G E RR st a){s : Nat}{x : X}(hx : look st.aE s = some x)(hT : ∀ b ∈ RR (.slot s), ¬ T b)(hβ : ∀ o, x.eO o = true → E'.β o = E.β o) :
  RX E' x (a.tmps.getD s undef) (RR (.slot s)) :=
 RX.mono x _ _ (hm.on hi hT) hβ (hi.aE s x hx)
theorem dg.obj(hm : dg G E E' T)(hi : Inv G E RR st a){o : Nat}{ob : Obj}(hx : look st.aF o = some ob)(hT : ∀ b ∈ RR (.obj o), ¬ T b)(ho : E'.β o = E.β o)
  (hβ:∀ q,ob.cv q = true -> E'.β q = E.β q):dK E' o ob (RR (.obj o)) :=
 dK.mono (hm.on hi hT) ho hβ (hi.aF o ob hx)
theorem dg.own(hm:dg G E E' T)(hi:Inv G E RR st a):∀ p b,b ∈ RR p -> b < E'.w.heap.size /\ ¬ G.K b :=
 fun p b hb=>⟨Nat.lt_of_lt_of_le (hi.own p b hb).1 hm.size,(hi.own p b hb).2⟩
theorem Inv.Bi(hi:Inv G E RR st a)(hm:dg G E E' (fun _=>False))(hβ:E'.β = E.β):Inv G E' RR st a :=
 {hi with
  nM:=hm.nM hi
  aE:=fun s x hx=>hm.slot hi hx (fun _ _ h=>h) (fun o _=>by rw [hβ])
  aF:=fun o ob ho=>hm.obj hi ho (fun _ _ h=>h) (by rw [hβ]) (fun _ _=>by rw [hβ])
  own:=hm.own hi
  aj:=hm.aj hi
  size:=Nat.le_trans hi.size hm.size
  os:=hm.os.trans hi.os
  tape:=hm.tape.trans hi.tape
  output:=hm.output.trans hi.output
  φ0:=fun b i v h=>by rw [hm.φ]; exact hi.φ0 b i v h
  grow:=fun b i v h=>by rw [hm.φ] at h; exact hi.grow b i v h
  fixed:=fun o h=>by rw [hβ]; exact hi.fixed o h }
theorem dg.alloc(G:Ctx)(E:Env)(o:Go.Obj):dg G E { E with w:=E.w.alloc o } (fun _=>False) where
 φ:=rfl
 free:=fun _ h=>h.elim
 out:=fun _ h=>h.elim
 same:=fun b hb _=>by
  show (E.w.heap.push o)[b]? = _
  rw [Array.getElem?_push,if_neg om]
 size:=by simp
 os:=rfl
 tape:=rfl
 output:=rfl
theorem dg.drew(G:Ctx)(E:Env):dg G E { E with w:=E.w.drew } (fun _=>False) where
 φ:=rfl
 free:=fun _ h=>h.elim
 out:=fun _ h=>h.elim
 same:=fun _ _ _=>rfl
 size:=Nat.le_refl _
 os:=rfl
 tape:=rfl
 output:=rfl
theorem dg.trans{m8:Env}{T':Nat -> Prop}(h:dg G E E' T)(h':dg G E' m8 T')(dR:∀ b,T' b -> T b \/ (E.w.heap.size <= b)):dg G E m8 T where
 φ:=h'.φ.trans h.φ
 free:=h.free
 out:=h.out
 same:=fun b hb hT=>by
  have h1:=h.same b hb hT
  rw [<- h1]
  refine h'.same b (Nat.lt_of_lt_of_le hb h.size) (fun XQ=>?_)
  rcases dR b XQ with h2 | h2
  ·exact hT h2
  ·omega
 size:=Nat.le_trans h.size h'.size
 os:=h'.os.trans h.os
 tape:=h'.tape.trans h.tape
 output:=h'.output.trans h.output
theorem dg.setRow(G:Ctx)(E:Env)(b:Nat)(cs:Array Value)(hf:∀ i,E.φ b i = none)(hK:¬ G.K b):dg G E { E with w:=E.w.setRow b cs } (fun c=>c = b) where
 φ:=rfl
 free:=fun c h=>by subst h; exact hf
 out:=fun c h=>by subst h; exact hK
 same:=fun c _ h=>setRow_other E.w b c cs h
 size:=by simp
 os:=rfl
 tape:=rfl
 output:=rfl
theorem Inv.relabel(hi : Inv G E RR st a){d : Nat}{x : X}{R : List Nat}(hx : RX E x (a.tmps.getD d undef) R)(hn : R.Nodup)
  (hR:∀ b ∈ R,b < E.w.heap.size /\ ¬ G.K b /\ ∀ p,p ≠ .slot d -> b ∉ RR p):Inv G E (fI RR (.slot d) R) (st.put d x) a:=by
 refine { hi with aE:=?_,aF:=?_,nodup:=?_,apart:=?_,own:=?_ }
 ·intro s y hy
  simp only [St.put,look] at hy
  cases hb:Nat.beq d s with
  | true =>
   have:=Nat.eq_of_beq_eq_true hb
   subst this
   rw [hb] at hy
   simp only [cond_true,Option.some.injEq] at hy
   subst hy
   simpa [fI] using hx
  | false =>
   have fH:=Nat.ne_of_beq_eq_false hb
   rw [hb] at hy
   have:fI RR (.slot d) R (.slot s) = RR (.slot s):=by simp [fI,Ne.symm fH]
   rw [this]
   exact hi.aE s y hy
 ·intro o ob ho
  have:fI RR (.slot d) R (.obj o) = RR (.obj o):=by simp [fI]
  rw [this]; exact hi.aF o ob ho
 ·intro p
  unfold fI
  split
  ·exact hn
  ·exact hi.nodup p
 ·intro p q nO b hb
  unfold fI at hb ⊢
  split at hb
  ·rename_i hp
   subst hp
   rw [if_neg (Ne.symm nO)]
   exact (hR b hb).2.2 q (Ne.symm nO)
  ·split
   ·rename_i hp hq
    subst hq
    intro iG
    exact (hR b iG).2.2 p nO hb
   ·exact hi.apart p q nO b hb
 ·intro p b hb
  unfold fI at hb
  split at hb
  ·exact ⟨(hR b hb).1,(hR b hb).2.1⟩
  ·exact hi.own p b hb
theorem Inv.no(hi:Inv G E RR st a)(d:Nat):Inv G E (fI RR (.slot d) []) (st.put d .no) a :=
 hi.relabel (by simp [RX]) List.nodup_nil (fun _ h=>by cases h)
def St.cV(st:St)(o:Nat)(ob:Obj):St:={ st with aF:=(o,ob) :: st.aF }
theorem Inv.cV(hi : Inv G E RR st a){o : Nat}{ob : Obj}{R : List Nat}(hx : dK E o ob R)(hn : R.Nodup)
  (hR:∀ b ∈ R,b < E.w.heap.size /\ ¬ G.K b /\ ∀ p,p ≠ .obj o -> b ∉ RR p):Inv G E (fI RR (.obj o) R) (st.cV o ob) a:=by
 refine { hi with aE:=?_,aF:=?_,nodup:=?_,apart:=?_,own:=?_ }
 ·intro s y hy
  have:fI RR (.obj o) R (.slot s) = RR (.slot s):=by simp [fI]
  rw [this]; exact hi.aE s y hy
 ·intro q yX ho
  simp only [St.cV,look] at ho
  cases hb:Nat.beq o q with
  | true =>
   have:=Nat.eq_of_beq_eq_true hb
   subst this
   rw [hb] at ho
   simp only [cond_true,Option.some.injEq] at ho
   subst ho
   simpa [fI] using hx
  | false =>
   have fH:=Nat.ne_of_beq_eq_false hb
   rw [hb] at ho
   have:fI RR (.obj o) R (.obj q) = RR (.obj q):=by simp [fI,Ne.symm fH]
   rw [this]
   exact hi.aF q yX ho
 ·intro p
  unfold fI
  split
  ·exact hn
  ·exact hi.nodup p
 ·intro p q nO b hb
  unfold fI at hb ⊢
  split at hb
  ·rename_i hp
   subst hp
   rw [if_neg (Ne.symm nO)]
   exact (hR b hb).2.2 q (Ne.symm nO)
  ·split
   ·rename_i hp hq
    subst hq
    intro iG
    exact (hR b iG).2.2 p nO hb
   ·exact hi.apart p q nO b hb
 ·intro p b hb
  unfold fI at hb
  split at hb
  ·exact ⟨(hR b hb).1,(hR b hb).2.1⟩
  ·exact hi.own p b hb
end
def ox(o:Nat)(x:X):X:=bif x.eO o then .no else x
def uh(o:Nat)(l:List (Nat × X)):List (Nat × X):=l.map fun p=>(p.1,ox o p.2)
def Obj.sY(o : Nat) : Obj → Obj
 | .cells xs=>.cells (xs.map (ox o))
 | .hole rs i q s n=>bif Nat.beq q o then .rows 1 rs else .hole rs i q s n
 | ob=>ob
def wG(o:Nat)(l:List (Nat × Obj)):List (Nat × Obj):=l.map fun p=>(p.1,p.2.sY o)
def St.kill(st:St)(o:Nat):St:=⟨uh o st.aE,wG o st.aF⟩
theorem oH{α β : Type}(f : α → β) : ∀ (l : List (Nat × α)) (s : Nat), look (l.map fun p => (p.1, f p.2)) s = (look l s).map f
 | [],_=>rfl
 | (t,x) :: r,s=>by
  simp only [List.map_cons,look]
  cases Nat.beq t s with
  | true=>rfl
  | false=>exact oH f r s
theorem z8(o:Nat){x:X}(h:x.free = true):(ox o x).free = true:=by
 unfold ox
 cases x.eO o with
 | true=>rfl
 | false=>exact h
theorem ui(o : Nat) : ∀ {xs : List X}, X.bu xs = true → X.bu (xs.map (ox o)) = true
 | [],_=>rfl
 | x :: r,h=>by
  simp only [X.bu,Bool.and_eq_true] at h
  simp only [List.map_cons,X.bu,z8 o h.1,ui o h.2,Bool.and_self]
theorem RO.kill{E : Env}{o : Nat} : ∀ {xs : List X} {cs : Array Value} {off : Nat}, X.bu xs = true → RO E xs cs off [] → RO E (xs.map (ox o)) cs off []
 | [],_,_,_,h=>h
 | x :: r,cs,off,hf,h=>by
  simp only [RO] at h
  obtain ⟨u,R₁,R₂,hu,hs,h1,h2,hR⟩:=h
  simp only [X.bu,Bool.and_eq_true] at hf
  have RY:=RX.free hf.1 h1
  have RZ:=RO.free hf.2 h2
  subst RY; subst RZ
  have h3:=RO.kill (o:=o) hf.2 h2
  simp only [List.map_cons,RO]
  refine ⟨u,[],[],hu,hs,?_,h3,rfl⟩
  unfold ox
  cases x.eO o with
  | true=>simp [RX]
  | false=>exact h1
theorem qD(o : Nat) : ∀ (xs : List X) (q : Nat), X.cv q (xs.map (ox o)) = true → q ≠ o ∧ X.cv q xs = true
 | [],_,h=>by simp [X.cv] at h
 | x :: r,q,h=>by
  simp only [List.map_cons,X.cv,Bool.or_eq_true] at h ⊢
  rcases h with h | h
  ·unfold ox at h
   cases hk:x.eO o with
   | true=>simp [hk,X.eO] at h
   | false =>
    rw [hk] at h
    simp only [cond_false] at h
    exact ⟨fun hq=>by (subst hq; rw [hk] at h; cases h),.inl h⟩
  ·exact ⟨(qD o r q h).1,.inr (qD o r q h).2⟩
theorem dK.wH{E:Env}{o i q s n:Nat}{rs:List (List X)}{R:List Nat}(h:dK E o (.hole rs i q s n) R):dK E o (.rows 1 rs) R:=by
 simp only [dK] at h ⊢
 obtain ⟨hu,B,cs,ty,R',u,hB,hw,hf,hl,hc,hR,iI,_⟩:=h
 exact ⟨hu,.inr ⟨B,cs,ty,R',hB,hw,hf,hl,by simpa using hc,hR,iI⟩⟩
section
variable {G:Ctx} {E E':Env} {RR:Own -> List Nat} {st:St} {a:Act} {T:Nat -> Prop}
theorem Inv.x7(hi:Inv G E RR st a){o b:Nat}(h:b ∈ RR (.obj o) \/ E.w.heap.size <= b):∀ p,p ≠ .obj o -> b ∉ RR p:=by
 intro p hp hb
 rcases h with h | h
 ·exact hi.apart p _ hp b hb h
 ·have:=(hi.own p b hb).1; omega
def fq(st : St)(RR : Own → List Nat)(o : Nat)(R : List Nat) : Own → List Nat
 | .obj q=>if q = o then R else RR (.obj q)
 | .slot s=>match look st.aE s with
  | some x=>bif x.eO o then [] else RR (.slot s)
  | none=>RR (.slot s)
theorem ji(st:St)(RR:Own -> List Nat)(o:Nat)(R:List Nat)(s:Nat):fq st RR o R (.slot s) = [] \/ fq st RR o R (.slot s) = RR (.slot s):=by
 cases hs:look st.aE s with
 | none=>exact .inr (by simp [fq,hs])
 | some x=>cases hk:x.eO o with
  | true=>exact .inl (by simp [fq,hs,hk])
  | false=>exact .inr (by simp [fq,hs,hk])
theorem Inv.lF(hi : Inv G E RR st a)(hm : dg G E E' T){o : Nat}{ob : Obj}{R : List Nat}(hT : ∀ b, T b → b ∈ RR (.obj o))(hβ : ∀ q, q ≠ o → E'.β q = E.β q)(Sa : G.fn.F.elem o = true → E'.β o = E.β o)
  (hx:dK E' o ob R) (hn:R.Nodup) (hR:∀ b ∈ R,b < E'.w.heap.size /\ ¬ G.K b /\ ∀ p,p ≠ .obj o -> b ∉ RR p) :
  Inv G E' (fq st RR o R) ((st.kill o).cV o ob) a:=by
 have hold:∀ p,p ≠ .obj o -> ∀ b ∈ RR p,¬ T b:=fun p hp b hb Jk=>hi.apart p (.obj o) hp b hb (hT b Jk)
 have dR:∀ p,p ≠ .obj o -> ∀ b ∈ fq st RR o R p,b ∈ RR p:=by
  intro p hp b hb
  cases p with
  | obj q =>
   have:q ≠ o:=fun e=>hp (by rw [e])
   simpa [fq,this] using hb
  | slot s =>
   rcases ji st RR o R s with h | h
   ·rw [h] at hb; cases hb
   ·rw [h] at hb; exact hb
 have x8:fq st RR o R (.obj o) = R:=by simp [fq]
 have oI:∀ p,p ≠ .obj o -> ∀ b ∈ RR p,b ∉ R:=by
  intro p hp b hb Kl
  exact (hR b Kl).2.2 p hp hb
 have Sb:∀ b i v,G.φ0 b i = some v -> E'.φ b i = some v:=fun b i v h=>by rw [hm.φ]; exact hi.φ0 b i v h
 have DN:∀ b i v,E'.φ b i = some v -> G.φ0 b i = some v \/ ¬ G.K b:=fun b i v h=>by rw [hm.φ] at h; exact hi.grow b i v h
 refine { hi with nM:=hm.nM hi,aE:=?_,aF:=?_,nodup:=?_,apart:=?_,own:=?_,aj:=hm.aj hi,size:=Nat.le_trans hi.size hm.size,os:=hm.os.trans hi.os,tape:=hm.tape.trans hi.tape,output:=hm.output.trans hi.output,φ0:=Sb,grow:=DN,fixed:=?_ }
 ·intro s y hy
  have hl:look (uh o st.aE) s = some y:=hy
  unfold uh at hl
  rw [oH (ox o)] at hl
  cases hs:look st.aE s with
  | none=>simp [hs] at hl
  | some x =>
   rw [hs] at hl
   simp only [Option.map_some,Option.some.injEq] at hl
   subst hl
   cases hk:x.eO o with
   | true=>simp [fq,hs,hk,ox,RX]
   | false =>
    have:fq st RR o R (.slot s) = RR (.slot s):=by simp [fq,hs,hk]
    rw [this]
    simp only [ox,hk,cond_false]
    exact hm.slot hi hs (hold _ (by simp)) (fun q hq=>hβ q (fun e=>by subst e; rw [hk] at hq; cases hq))
 ·intro q yX ho
  simp only [St.cV,look] at ho
  cases hb:Nat.beq o q with
  | true =>
   have:=Nat.eq_of_beq_eq_true hb
   subst this
   rw [hb] at ho
   simp only [cond_true,Option.some.injEq] at ho
   subst ho
   rw [x8]; exact hx
  | false =>
   have fH:=Nat.ne_of_beq_eq_false hb
   rw [hb] at ho
   have hl:look (wG o st.aF) q = some yX:=ho
   unfold wG at hl
   rw [oH (Obj.sY o)] at hl
   have hr:fq st RR o R (.obj q) = RR (.obj q):=by simp [fq,Ne.symm fH]
   rw [hr]
   cases hs:look st.aF q with
   | none=>simp [hs] at hl
   | some Nc =>
    rw [hs] at hl
    simp only [Option.map_some,Option.some.injEq] at hl
    subst hl
    have kF:=hi.aF q Nc hs
    have im:=hm.on hi (p:=.obj q) (hold _ (by simpa using Ne.symm fH))
    cases Nc with
    | cells xs =>
     simp only [Obj.sY,dK] at kF ⊢
     obtain ⟨sX,B,cs,ty,hB,hw,hf,hlen,jS,iI⟩:=kF
     have h2:=im.2 B.b (by rw [iI]; simp)
     exact ⟨ui o sX, B, cs, ty, (hβ q (Ne.symm fH)).trans hB, h2.1.trans hw, h2.2 hf, by simpa using hlen,
      RO.mono _ cs _ [] (im.sub (fun _ h=>by cases h)) (fun p hp=>hβ p (qD o xs p hp).1) (RO.kill sX jS),iI⟩
    | rows s rs=>exact dK.mono im (hβ q (Ne.symm fH)) (fun p h=>by cases h) kF
    | yU es=>exact dK.mono im (hβ q (Ne.symm fH)) (fun p h=>by cases h) kF
    | gone=>simpa [dK,Obj.sY] using kF
    | hole rs i p s n =>
     cases hb:Nat.beq p o with
     | false =>
      rw [show (Obj.hole rs i p s n).sY o = .hole rs i p s n by simp [Obj.sY,hb]]
      refine dK.mono im (hβ q (Ne.symm fH)) (fun x hx=>hβ x fun e=>?_) kF
      have h1:=Nat.eq_of_beq_eq_true (show Nat.beq p x = true from hx)
      subst h1; subst e; simp at hb
     | true =>
      rw [show (Obj.hole rs i p s n).sY o = .rows 1 rs by simp [Obj.sY,hb]]
      exact dK.mono im (hβ q (Ne.symm fH)) (fun p h=>by cases h) kF.wH
 ·intro p
  by_cases hp:p = .obj o
  ·subst hp; rw [x8]; exact hn
  ·cases p with
   | obj q =>
    have:q ≠ o:=fun e=>hp (by rw [e])
    simpa [fq,this] using hi.nodup (.obj q)
   | slot s =>
    rcases ji st RR o R s with h | h
    ·rw [h]; exact List.nodup_nil
    ·rw [h]; exact hi.nodup _
 ·intro p q nO b hb iG
  by_cases hp:p = .obj o
  ·subst hp
   rw [x8] at hb
   have hq:q ≠ .obj o:=Ne.symm nO
   exact oI q hq b (dR q hq b iG) hb
  ·by_cases hq:q = .obj o
   ·subst hq
    rw [x8] at iG
    exact oI p hp b (dR p hp b hb) iG
   ·exact hi.apart p q nO b (dR p hp b hb) (dR q hq b iG)
 ·intro p b hb
  by_cases hp:p = .obj o
  ·subst hp
   rw [x8] at hb
   exact ⟨(hR b hb).1,(hR b hb).2.1⟩
  ·exact hm.own hi p b (dR p hp b hb)
 ·intro q hq
  by_cases Nd:q = o
  ·subst Nd; rw [Sa hq]; exact hi.fixed q hq
  ·rw [hβ q Nd]; exact hi.fixed q hq
theorem Inv.DO(hi : Inv G E RR st a)(hm : dg G E E' T){o : Nat}{ob : Obj}{R : List Nat}(hT : ∀ b, T b → b ∈ RR (.obj o))(hβ : E'.β = E.β)
  (hx:dK E' o ob R) (hn:R.Nodup) (hR:∀ b ∈ R,b < E'.w.heap.size /\ ¬ G.K b /\ ∀ p,p ≠ .obj o -> b ∉ RR p) :
  Inv G E' (fI RR (.obj o) R) (st.cV o ob) a:=by
 have hold:∀ p,p ≠ .obj o -> ∀ b ∈ RR p,¬ T b:=fun p hp b hb Jk=>hi.apart p (.obj o) hp b hb (hT b Jk)
 have oI:∀ p,p ≠ .obj o -> ∀ b ∈ RR p,b ∉ R:=by
  intro p hp b hb Kl
  exact (hR b Kl).2.2 p hp hb
 have Sb:∀ b i v,G.φ0 b i = some v -> E'.φ b i = some v:=fun b i v h=>by rw [hm.φ]; exact hi.φ0 b i v h
 have DN:∀ b i v,E'.φ b i = some v -> G.φ0 b i = some v \/ ¬ G.K b:=fun b i v h=>by rw [hm.φ] at h; exact hi.grow b i v h
 refine { hi with nM:=hm.nM hi,aE:=?_,aF:=?_,nodup:=?_,apart:=?_,own:=?_,aj:=hm.aj hi,size:=Nat.le_trans hi.size hm.size,os:=hm.os.trans hi.os,tape:=hm.tape.trans hi.tape,output:=hm.output.trans hi.output,φ0:=Sb,grow:=DN,fixed:=fun q hq=>by rw [hβ]; exact hi.fixed q hq }
 ·intro s y hy
  have:fI RR (.obj o) R (.slot s) = RR (.slot s):=by simp [fI]
  rw [this]
  exact hm.slot hi hy (hold _ (by simp)) (fun q _=>by rw [hβ])
 ·intro q yX ho
  simp only [St.cV,look] at ho
  cases hb:Nat.beq o q with
  | true =>
   have:=Nat.eq_of_beq_eq_true hb
   subst this
   rw [hb] at ho
   simp only [cond_true,Option.some.injEq] at ho
   subst ho
   simpa [fI] using hx
  | false =>
   have fH:=Nat.ne_of_beq_eq_false hb
   rw [hb] at ho
   have:fI RR (.obj o) R (.obj q) = RR (.obj q):=by simp [fI,Ne.symm fH]
   rw [this]
   exact hm.obj hi ho (hold _ (by simpa using Ne.symm fH)) (by rw [hβ]) (fun _ _=>by rw [hβ])
 ·intro p
  unfold fI
  split
  ·exact hn
  ·exact hi.nodup p
 ·intro p q nO b hb iG
  unfold fI at hb iG
  split at hb
  ·rename_i hp
   subst hp
   rw [if_neg (Ne.symm nO)] at iG
   exact oI q (Ne.symm nO) b iG hb
  ·rename_i hp
   split at iG
   ·exact oI p hp b hb iG
   ·exact hi.apart p q nO b hb iG
 ·intro p b hb
  unfold fI at hb
  split at hb
  ·exact ⟨(hR b hb).1,(hR b hb).2.1⟩
  ·exact hm.own hi p b hb
end
end Go.AW
namespace Go.AW
open Go
section
variable {E:Env}
theorem RO.ext : ∀ {xs : List X} {cs dp : Array Value} {off : Nat} {R : List Nat}, (∀ j, j < xs.length → dp[off + j]? = cs[off + j]?) → RO E xs cs off R → RO E xs dp off R
 | [],_,_,_,_,_,h=>by simpa [RO] using h
 | x :: r,cs,dp,off,R,he,h=>by
  simp only [RO] at h ⊢
  obtain ⟨u,R₁,R₂,hu,hs,h1,h2,hR⟩:=h
  refine ⟨u,R₁,R₂,?_,hs,h1,RO.ext (fun j hj=>?_) h2,hR⟩
  ·have:=he 0 (by simp)
   rw [Nat.add_zero] at this
   rw [this]; exact hu
  ·have:=he (j + 1) (by simp; omega)
   rw [show off + 1 + j = off + (j + 1) by omega]; exact this
theorem cE.ext : ∀ {rs : List (List X)} {cs dp : Array Value} {off : Nat} {R : List Nat}, (∀ j, j < rs.flatten.length → dp[off + j]? = cs[off + j]?) → cE E rs cs off R → cE E rs dp off R
 | [],_,_,_,_,_,h=>by simpa [cE] using h
 | x :: r,cs,dp,off,R,he,h=>by
  simp only [cE] at h ⊢
  obtain ⟨R₁,R₂,hn,h1,h2,hR⟩:=h
  refine ⟨R₁,R₂,hn,RO.ext (fun j hj=>he j (by simp; omega)) h1,cE.ext (fun j hj=>?_) h2,hR⟩
  have:=he (x.length + j) (by simp at hj ⊢; omega)
  rw [Nat.add_assoc]; exact this
theorem RO.app : ∀ {xs ys : List X} {cs : Array Value} {off : Nat} {R₁ R₂ : List Nat}, RO E xs cs off R₁ → RO E ys cs (off + xs.length) R₂ → RO E (xs ++ ys) cs off (R₁ ++ R₂)
 | [],ys,cs,off,R₁,R₂,h,h'=>by simp only [RO] at h; subst h; simpa using h'
 | x :: r,ys,cs,off,R₁,R₂,h,h'=>by
  simp only [RO] at h
  obtain ⟨u,R₃,R₄,hu,hs,h1,h2,rfl⟩:=h
  simp only [List.cons_append,RO]
  refine ⟨u,R₃,R₄ ++ R₂,hu,hs,h1,RO.app h2 ?_,by simp⟩
  rw [show off + 1 + r.length = off + (x :: r).length by simp; omega]; exact h'
theorem RO.r1 : ∀ {xs ys : List X} {cs : Array Value} {off : Nat} {R : List Nat}, RO E (xs ++ ys) cs off R → ∃ R₁ R₂, RO E xs cs off R₁ ∧ RO E ys cs (off + xs.length) R₂ ∧ R = R₁ ++ R₂
 | [],ys,cs,off,R,h=>⟨[],R,by simp [RO],by simpa using h,rfl⟩
 | x :: r,ys,cs,off,R,h=>by
  simp only [List.cons_append,RO] at h
  obtain ⟨u,R₃,R₄,hu,hs,h1,h2,rfl⟩:=h
  obtain ⟨R₁,R₂,h3,h4,rfl⟩:=RO.r1 h2
  refine ⟨R₃ ++ R₁,R₂,?_,?_,by simp⟩
  ·simp only [RO]; exact ⟨u,R₃,R₁,hu,hs,h1,h3,rfl⟩
  ·rw [show off + (x :: r).length = off + 1 + r.length by simp; omega]; exact h4
theorem cE.app : ∀ {xs ys : List (List X)} {cs : Array Value} {off : Nat} {R₁ R₂ : List Nat}, cE E xs cs off R₁ → cE E ys cs (off + xs.flatten.length) R₂ → cE E (xs ++ ys) cs off (R₁ ++ R₂)
 | [],ys,cs,off,R₁,R₂,h,h'=>by simp only [cE] at h; subst h; simpa using h'
 | x :: r,ys,cs,off,R₁,R₂,h,h'=>by
  simp only [cE] at h
  obtain ⟨R₃,R₄,hn,h1,h2,rfl⟩:=h
  simp only [List.cons_append,cE]
  refine ⟨R₃,R₄ ++ R₂,hn,h1,cE.app h2 ?_,by simp⟩
  rw [show off + x.length + r.flatten.length = off + (x :: r).flatten.length by simp; omega]; exact h'
theorem cE.r1 : ∀ {xs ys : List (List X)} {cs : Array Value} {off : Nat} {R : List Nat}, cE E (xs ++ ys) cs off R → ∃ R₁ R₂, cE E xs cs off R₁ ∧ cE E ys cs (off + xs.flatten.length) R₂ ∧ R = R₁ ++ R₂
 | [],ys,cs,off,R,h=>⟨[],R,by simp [cE],by simpa using h,rfl⟩
 | x :: r,ys,cs,off,R,h=>by
  simp only [List.cons_append,cE] at h
  obtain ⟨R₃,R₄,hn,h1,h2,rfl⟩:=h
  obtain ⟨R₁,R₂,h3,h4,rfl⟩:=cE.r1 h2
  refine ⟨R₃ ++ R₁,R₂,?_,?_,by simp⟩
  ·simp only [cE]; exact ⟨R₃,R₁,hn,h1,h3,rfl⟩
  ·rw [show off + (x :: r).flatten.length = off + x.length + r.flatten.length by simp; omega]; exact h4
theorem RO.of : ∀ {xs : List X} {vs : List Value} {cs : Array Value} {off : Nat} {R : List Nat}, b6 E xs vs R → (∀ j v, vs[j]? = some v → cs[off + j]? = some v) → RO E xs cs off R
 | [],_,_,_,_,h,_=>by simp only [b6] at h; simp [RO,h.2]
 | x :: r,vs,cs,off,R,h,hv=>by
  simp only [b6] at h
  obtain ⟨c,dp,R₁,R₂,rfl,hs,h1,h2,rfl⟩:=h
  simp only [RO]
  refine ⟨c,R₁,R₂,?_,hs,h1,RO.of h2 (fun j v hj=>?_),rfl⟩
  ·simpa using hv 0 c rfl
  ·rw [show off + 1 + j = off + (j + 1) by omega]; exact hv (j + 1) v (by simpa using hj)
theorem length_flatten{s : Nat} : ∀ {rs : List (List X)}, cz s rs → rs.flatten.length = rs.length * s
 | [],_=>by simp
 | r :: rs,h=>by
  have h1:=h r (by simp)
  have:=length_flatten (rs:=rs) (fun q hq=>h q (by simp [hq]))
  simp only [List.flatten_cons,List.length_append,h1,this,List.length_cons,Nat.add_mul]
  omega
end
def ly{α:Type}(xs:List α)(k:Nat)(ys:List α):List α:=xs.take k ++ ys ++ xs.drop (k + ys.length)
theorem m9{α:Type}{xs ys:List α}{k:Nat}(h:k + ys.length <= xs.length):(ly xs k ys).length = xs.length:=by
 simp [ly]; omega
def lG(cs:Array Value)(k:Nat)(vs:List Value):Array Value:=(cs.toList.take k ++ vs ++ cs.toList.drop (k + vs.length)).toArray
theorem p5{cs:Array Value}{k:Nat}{vs:List Value}(h:k + vs.length <= cs.size):(lG cs k vs).size = cs.size:=by
 simp [lG]; omega
theorem Bj{cs:Array Value}{k j:Nat}{vs:List Value}(h:k + vs.length <= cs.size)(hj:j < vs.length):(lG cs k vs)[k + j]? = vs[j]?:=by
 have hk:k <= cs.toList.length:=by simp; omega
 simp only [lG,List.getElem?_toArray,List.append_assoc]
 rw [List.getElem?_append_right (by simp; omega)]
 have:k + j - (List.take k cs.toList).length = j:=by simp; omega
 rw [this,List.getElem?_append_left hj]
theorem oJ{cs:Array Value}{k j:Nat}{vs:List Value}(h:k + vs.length <= cs.size)(hj:j < k \/ k + vs.length <= j):(lG cs k vs)[j]? = cs[j]?:=by
 have hk:k <= cs.toList.length:=by simp; omega
 have hl:(List.take k cs.toList).length = k:=by simp; omega
 simp only [lG,List.getElem?_toArray,List.append_assoc]
 rcases hj with hj | hj
 ·rw [List.getElem?_append_left om,List.getElem?_take_of_lt hj]; simp
 ·rw [List.getElem?_append_right om,List.getElem?_append_right om,hl,List.getElem?_drop]
  have:k + vs.length + (j - k - vs.length) = j:=by omega
  rw [this]; simp
section
variable {E:Env}
theorem RO.put{xs ys : List X}{cs : Array Value}{off k : Nat}{R R₂ : List Nat}{vs : List Value}(h : RO E xs cs off R)(hk : k + ys.length ≤ xs.length)(hy : b6 E ys vs R₂)(hc : off + xs.length ≤ cs.size) :
  ∃ R₁,RO E (ly xs k ys) (lG cs (off + k) vs) off R₁ /\ (∀ b ∈ R₁,b ∈ R \/ b ∈ R₂) /\ ((R ++ R₂).Nodup -> R₁.Nodup):=by
 have hl:=b6.length hy
 have oK:off + k + vs.length <= cs.size:=by omega
 have h0:xs = xs.take k ++ ((xs.drop k).take ys.length ++ xs.drop (k + ys.length)):=by
  conv=>lhs; rw [<- List.take_append_drop k xs,<- List.take_append_drop ys.length (xs.drop k),List.drop_drop]
 rw [h0] at h
 obtain ⟨Ra,Rb,h1,h2,rfl⟩:=RO.r1 h
 obtain ⟨Rc,Rd,h3,h4,rfl⟩:=RO.r1 h2
 have Wh:(xs.take k).length = k:=by simp; omega
 have Sc:((xs.drop k).take ys.length).length = ys.length:=by simp; omega
 rw [Wh,Sc] at h4
 refine ⟨Ra ++ R₂ ++ Rd,?_,?_,?_⟩
 ·unfold ly
  refine RO.app (RO.app (RO.ext (fun j hj=>oJ oK (.inl om)) h1) ?_) ?_
  ·rw [Wh]
   refine RO.of hy fun j v hj=>?_
   have oG:j < vs.length:=by
    rcases Nat.lt_or_ge j vs.length with h' | h'
    ·exact h'
    ·simp [List.getElem?_eq_none h'] at hj
   rw [Bj oK oG]; exact hj
  ·have:off + (List.take k xs ++ ys).length = off + k + ys.length:=by simp; omega
   rw [this]
   exact RO.ext (fun j _=>oJ oK (.inr om)) h4
 ·intro b hb
  simp only [List.mem_append] at hb ⊢
  rcases hb with (hb | hb) | hb
  ·exact .inl (.inl hb)
  ·exact .inr hb
  ·exact .inl (.inr (.inr hb))
 ·intro hn
  simp only [List.nodup_append,List.mem_append] at hn ⊢
  obtain ⟨⟨ha,⟨rz,hd,Km⟩,Kn⟩,Sd,hx⟩:=hn
  refine ⟨⟨ha,Sd,fun a z9 b hb=>hx a (.inl z9) b hb⟩,hd,?_⟩
  intro a z9 b hb
  rcases z9 with z9 | z9
  ·exact Kn a z9 b (.inr hb)
  ·intro e; subst e; exact hx a (.inr (.inr hb)) a z9 rfl
theorem cE.set{rs : List (List X)}{row ys : List X}{cs : Array Value}{off s i k : Nat}{R R₂ : List Nat}{vs : List Value}(hu : cz s rs)(h : cE E rs cs off R)(hr : rs[i]? = some row)
  (hk:k + ys.length <= row.length) (hy:b6 E ys vs R₂) (hn:X.iQ ys = true) (hc:off + rs.length * s <= cs.size) :
  ∃ R₁,cE E (rs.set i (ly row k ys)) (lG cs (off + (i * s + k)) vs) off R₁ /\ (∀ b ∈ R₁,b ∈ R \/ b ∈ R₂) /\ ((R ++ R₂).Nodup -> R₁.Nodup):=by
 have hi:i < rs.length:=by
  rcases Nat.lt_or_ge i rs.length with h' | h'
  ·exact h'
  ·simp [List.getElem?_eq_none h'] at hr
 have hl:=b6.length hy
 have qE:row.length = s:=hu row (List.mem_of_getElem? hr)
 have XR:rs[i] = row:=by rw [List.getElem?_eq_getElem hi] at hr; exact Option.some.inj hr
 have h0:rs = rs.take i ++ (row :: rs.drop (i + 1)):=by
  conv=>lhs; rw [<- List.take_append_drop i rs,List.drop_eq_getElem_cons hi,XR]
 have wI:rs.set i (ly row k ys) = rs.take i ++ (ly row k ys :: rs.drop (i + 1)):=by
  rw [List.set_eq_take_append_cons_drop,if_pos hi]
 rw [h0] at h
 obtain ⟨Ra,Rb,h1,h2,rfl⟩:=cE.r1 h
 have x9:(rs.take i).flatten.length = i * s:=by
  rw [length_flatten (hu.take i),List.length_take,Nat.min_eq_left (Nat.le_of_lt hi)]
 rw [x9] at h2
 simp only [cE] at h2
 obtain ⟨Rc,Rd,Cz,h3,h4,rfl⟩:=h2
 have QR:i * s + s <= rs.length * s:=by
  have:(i + 1) * s <= rs.length * s:=Nat.mul_le_mul_right s hi
  rw [Nat.add_mul] at this; omega
 have oK:off + (i * s + k) + vs.length <= cs.size:=by omega
 obtain ⟨Re,h5,dR,jB⟩:=RO.put h3 hk hy om
 rw [wI]
 refine ⟨Ra ++ (Re ++ Rd),?_,?_,?_⟩
 ·refine cE.app (cE.ext (fun j hj=>oJ oK (.inl om)) h1) ?_
  rw [x9]
  simp only [cE]
  have XS:(ly row k ys).length = row.length:=m9 hk
  refine ⟨Re,Rd,?_,?_,?_,rfl⟩
  ·have h7:∀ (xs ys:List X),X.iQ xs = true -> X.iQ ys = true -> X.iQ (xs ++ ys) = true:=by
    intro xs
    induction xs with
    | nil=>intro ys _ h; exact h
    | cons x r ih=>intro ys hx hy; simp only [X.iQ,Bool.and_eq_true,List.cons_append] at hx ⊢; exact ⟨hx.1,ih ys hx.2 hy⟩
   have h8:∀ (xs:List X) (n:Nat),X.iQ xs = true -> X.iQ (xs.take n) = true:=by
    intro xs
    induction xs with
    | nil=>intro n _; simp [X.iQ]
    | cons x r ih =>
     intro n hx
     cases n with
     | zero=>simp [X.iQ]
     | succ n=>simp only [X.iQ,Bool.and_eq_true,List.take_succ_cons] at hx ⊢; exact ⟨hx.1,ih n hx.2⟩
   have h9:∀ (xs:List X) (n:Nat),X.iQ xs = true -> X.iQ (xs.drop n) = true:=by
    intro xs
    induction xs with
    | nil=>intro n _; simp [X.iQ]
    | cons x r ih =>
     intro n hx
     cases n with
     | zero=>simpa using hx
     | succ n=>simp only [X.iQ,Bool.and_eq_true,List.drop_succ_cons] at hx ⊢; exact ih n hx.2
   exact h7 _ _ (h7 _ _ (h8 _ _ Cz) hn) (h9 _ _ Cz)
  ·rw [Nat.add_assoc] at h5; exact h5
  ·rw [XS]
   exact cE.ext (fun j _=>oJ oK (.inr om)) h4
 ·intro b hb
  simp only [List.mem_append] at hb ⊢
  rcases hb with hb | hb | hb
  ·exact .inl (.inl hb)
  ·rcases dR b hb with h' | h'
   ·exact .inl (.inr (.inl h'))
   ·exact .inr h'
  ·exact .inl (.inr (.inr hb))
 ·intro nj
  simp only [List.nodup_append,List.mem_append] at nj jB ⊢
  obtain ⟨⟨ha,⟨rz,hd,Km⟩,Kn⟩,Sd,hx⟩:=nj
  have XT:=jB ⟨rz,Sd,fun a z9 b hb=>hx a (.inr (.inl z9)) b hb⟩
  refine ⟨ha,⟨XT,hd,?_⟩,?_⟩
  ·intro a z9 b hb
   rcases dR a z9 with h' | h'
   ·exact Km a h' b hb
   ·intro e; subst e; exact hx a (.inr (.inr hb)) a h' rfl
  ·intro a z9 b hb
   rcases hb with hb | hb
   ·rcases dR b hb with h' | h'
    ·exact Kn a z9 b (.inl h')
    ·exact hx a (.inl z9) b h'
   ·exact Kn a z9 b (.inr hb)
theorem cz.set{s i:Nat}{rs:List (List X)}{row:List X}(hu:cz s rs)(h:row.length = s):cz s (rs.set i row):=by
 intro r hr
 rcases List.mem_or_eq_of_mem_set hr with h' | h'
 ·exact hu r h'
 ·rw [h']; exact h
end
end Go.AW
namespace Go.AW
open Go
def X.v5 : List X → Bool
 | []=>true
 | x :: r=>x.one && X.v5 r
theorem Bk : ∀ (z : List Value), X.bu (z.map X.v) = true
 | []=>rfl
 | _ :: r=>by simp [X.bu,X.free,Bk r]
theorem DP : ∀ (z : List Value), X.iQ (z.map X.v) = true
 | []=>rfl
 | _ :: r=>by simp [X.iQ,X.nr,DP r]
theorem vM{E : Env} : ∀ {z : List Value}, X.v5 (z.map X.v) = true → b6 E (z.map X.v) z []
 | [],_=>by simp [b6]
 | c :: r,h=>by
  simp only [List.map_cons,X.v5,Bool.and_eq_true] at h
  simp only [List.map_cons,b6]
  have hx:RX E (X.v c) c []:=by simp [RX]
  exact ⟨c,r,[],[],rfl,hx.one h.1,hx,vM h.2,rfl⟩
theorem b6.p6{E : Env} : ∀ {xs : List X} {vs : List Value} {R : List Nat}, b6 E xs vs R → ∀ v ∈ vs, v.oneCell' = true
 | [],_,_,h,v,hv=>by simp only [b6] at h; rw [h.1] at hv; cases hv
 | x :: r,_,_,h,v,hv=>by
  simp only [b6] at h
  obtain ⟨c,dp,R₁,R₂,rfl,hs,_,h2,_⟩:=h
  rcases List.mem_cons.1 hv with h' | h'
  ·subst h'; cases v <;> first | rfl | exact hs.elim
  ·exact b6.p6 h2 v h'
def Sh(N:fo)(st aY:St):Prop:=∀ G:Ctx,G.fn = N -> ∀ a w,cK G st a w -> cK G aY a w
section
variable {P:Program} {N:fo} {st aY:St} {Q:Exit -> St -> Prop} {all:Array Oper} {rest:List Oper} {d:Nat} {ty:TypeId} {pos:String} {af:Array Edge}
theorem aQ.sh(h:Sh N st aY)(k:aQ P N all rest aY Q):aQ P N all rest st Q:=fun G hn a w hh=>k G hn a w (h G hn a w hh)
theorem dx.sh{c:Code}(h:Sh N st aY)(k:dx P N c aY Q):dx P N c st Q:=fun G hn a w hh=>k G hn a w (h G hn a w hh)
theorem aQ.DQ{op : Op}(h : ∀ (G : Ctx) (E : Env) (RR : Own → List Nat) (a : Act), G.fn = N → Inv G E RR st a →
   ∃ u E' gG,(execOp a.eval ⟨some d,op,ty,pos,af,none⟩).run P E.w = .ok (.value u) E'.w /\ Inv G E' gG aY (a.put (some d) u))
  (k:aQ P N all rest aY Q):aQ P N all (⟨some d,op,ty,pos,af,none⟩ :: rest) st Q:=by
 intro G hn a w hh
 obtain ⟨E,RR,rfl,hi⟩:=hh
 obtain ⟨u,E',gG,hr,iS⟩:=h G E RR a hn hi
 refine wpList_plain rfl fun K hK=>?_
 simp only [Oper.wp,hr,Oper.upon_value]
 exact hK _ _ (k G hn _ _ ⟨E',gG,rfl,iS⟩)
theorem aQ.Ko{op : Op}(h : ∀ (G : Ctx) (E : Env) (RR : Own → List Nat) (a : Act), G.fn = N → Inv G E RR st a →
   ∃ E' gG,(execOp a.eval ⟨none,op,ty,pos,af,none⟩).run P E.w = .ok .skip E'.w /\ Inv G E' gG aY a)
  (k:aQ P N all rest aY Q):aQ P N all (⟨none,op,ty,pos,af,none⟩ :: rest) st Q:=by
 intro G hn a w hh
 obtain ⟨E,RR,rfl,hi⟩:=hh
 obtain ⟨E',gG,hr,iS⟩:=h G E RR a hn hi
 refine wpList_plain rfl fun K hK=>?_
 simp only [Oper.wp,hr,Oper.upon_skip]
 exact hK _ _ (k G hn _ _ ⟨E',gG,rfl,iS⟩)
theorem TY.gH{t:TypeId}{z:List Value}(h:TY.zero P t = some z):∃ i z0,P.info? t = some i /\ i.zero = some z0 /\ z0.cells.toList = z:=by
 unfold TY.zero at h
 cases hi:P.info? t with
 | none=>simp [hi] at h
 | some i =>
  rw [hi] at h
  simp only [Option.bind_some] at h
  cases hz:i.zero with
  | none=>simp [hz] at h
  | some z0 =>
   rw [hz] at h
   simp only [Option.map_some,Option.some.injEq] at h
   exact ⟨i,z0,rfl,hz,h⟩
def Env.withVar(E:Env)(o:Nat)(cs:Array Value)(t:TypeId):Env :=
 {E with w:=E.w.alloc (.cells cs t),β:=fun q=>if q = o then some ⟨E.w.heap.size,0,0⟩ else E.β q }
theorem heap_alloc(w:World)(o:Go.Obj):(w.alloc o).heap[w.heap.size]? = some o:=by
 show (w.heap.push o)[w.heap.size]? = _
 simp
theorem Inv.newVar{G : Ctx}{E : Env}{RR : Own → List Nat}{a : Act}(hi : Inv G E RR st a){o : Nat}{ys : List X}{vs : List Value}{t : TypeId}(hF : G.fn.F.elem o = false)(hy : b6 E ys vs [])(hf : X.bu ys = true)(hm : X.cv o ys = false) :
  ∃ gG,Inv G (E.withVar o vs.toArray t) gG ((st.kill o).cV o (.cells ys)) a:=by
 refine ⟨_,hi.lF (E':=E.withVar o vs.toArray t) (T:=fun _=>False) (o:=o) (R:=[E.w.heap.size]) ?_ (fun _ h=>h.elim) (fun q hq=>by simp [Env.withVar,hq]) (fun h=>by rw [hF] at h; cases h) ?_ (by simp) ?_⟩
 ·exact { dg.alloc G E (.cells vs.toArray t) with φ:=rfl }
 ·have im:E.On (E.withVar o vs.toArray t) []:=⟨fun _ _ _ h=>h,fun _ h=>by cases h⟩
  have GR:b6 (E.withVar o vs.toArray t) ys vs []:=b6.mono ys vs [] im (fun q hq=>by
   have:q ≠ o:=fun e=>by subst e; rw [hm] at hq; cases hq
   simp [Env.withVar,this]) hy
  simp only [dK]
  refine ⟨hf,⟨E.w.heap.size,0,0⟩,vs.toArray,t,by simp [Env.withVar],heap_alloc _ _,fun i=>?_,by simp [b6.length hy],?_,rfl⟩
  ·show E.φ E.w.heap.size i = none
   cases h:E.φ E.w.heap.size i with
   | none=>rfl
   | some v=>exact absurd (World.block_lt_of_cell? E.w _ (hi.nM _ _ _ h)) (by simp)
  ·exact RO.of GR (fun j v hj=>by simpa using hj)
 ·intro b hb
  simp only [List.mem_singleton] at hb
  subst hb
  refine ⟨by simp [Env.withVar],fun hK=>?_,hi.x7 (.inr (Nat.le_refl _))⟩
  have:=hi.small _ hK
  have:=hi.size
  omega
theorem aQ.alloc{t : TypeId}{z : List Value}(o : Nat)(hz : TY.zero P t = some z)(h1 : X.v5 (z.map X.v) = true)(hF : N.F.elem o = false)(hd : d < N.n)
  (k:aQ P N all rest (((st.kill o).cV o (.cells (z.map X.v))).put d (.ptr o 0 0 0)) Q):aQ P N all (⟨some d,.alloc t,ty,pos,af,none⟩ :: rest) st Q:=by
 refine aQ.DQ (fun G E RR a hn hi=>?_) k
 have hm:∀ z:List Value,X.cv o (z.map X.v) = false:=by
  intro z
  induction z with
  | nil=>rfl
  | cons c r ih=>simp [X.cv,X.eO,ih]
 obtain ⟨gG,iS⟩:=hi.newVar (o:=o) (t:=t) (by rw [hn]; exact hF) (vM h1) (Bk z) (hm z)
 refine ⟨.pointer (some ⟨E.w.heap.size,0,none⟩),_,_,?_,iS.iT (x:=.ptr o 0 0 0) (by rw [hn]; exact hd) ?_⟩
 ·obtain ⟨i,z0,rp,Dw,Dx⟩:=TY.gH hz
  show (do let x <- Instr.alloc t true (.tuple #[]); pure (Next.value x):Sem Next).run P E.w = _
  refine eb ?_
  have xA:z0.cells = z.toArray:=by rw [<- Dx]
  simp [Instr.alloc,zeroValue,typeInfo,rp,Dw,Go.newVar,newRow,Env.withVar,xA]
 ·simp only [RX]
  exact ⟨trivial,⟨E.w.heap.size,0,0⟩,by simp [Env.withVar],by simp⟩
theorem aQ.box{t : TypeId}{x : Operand}{y : X}{ys : List X}(o : Nat)(hx : bV st x = some y)(hy : y.flat = some ys)(hf : X.bu ys = true)(hm : X.cv o ys = false)(hF : N.F.elem o = false)(hd : d < N.n)
  (k:aQ P N all rest (((st.kill o).cV o (.cells ys)).put d (.ptr o 0 0 0)) Q):aQ P N all (⟨some d,.box t x,ty,pos,af,none⟩ :: rest) st Q:=by
 refine aQ.DQ (fun G E RR a hn hi=>?_) k
 obtain ⟨R,C5⟩:=hi.eval hx
 have x9:=C5.flat hy
 have h0:=b6.free hf x9
 subst h0
 obtain ⟨gG,iS⟩:=hi.newVar (o:=o) (t:=t) (by rw [hn]; exact hF) x9 hf hm
 refine ⟨.pointer (some ⟨E.w.heap.size,0,none⟩),_,_,?_,iS.iT (x:=.ptr o 0 0 0) (by rw [hn]; exact hd) ?_⟩
 ·show (do let z <- Instr.box t (a.eval x); pure (Next.value z):Sem Next).run P E.w = _
  refine eb ?_
  simp [Instr.box,Go.newVar,newRow,Env.withVar]
 ·simp only [RX]
  exact ⟨trivial,⟨E.w.heap.size,0,0⟩,by simp [Env.withVar],by simp⟩
end
end Go.AW
namespace Go.AW
open Go
section
variable {E:Env}
theorem b6.app : ∀ {xs ys : List X} {cs ds : List Value} {R₁ R₂ : List Nat}, b6 E xs cs R₁ → b6 E ys ds R₂ → b6 E (xs ++ ys) (cs ++ ds) (R₁ ++ R₂)
 | [],_,_,_,_,_,h,h'=>by simp only [b6] at h; obtain ⟨rfl,rfl⟩:=h; simpa using h'
 | x :: r,ys,cs,ds,R₁,R₂,h,h'=>by
  simp only [b6] at h
  obtain ⟨c,dp,R₃,R₄,rfl,hs,h1,h2,rfl⟩:=h
  simp only [List.cons_append,b6]
  exact ⟨c,dp ++ ds,R₃,R₄ ++ R₂,rfl,hs,h1,b6.app h2 h',by simp⟩
theorem b6.Nf{xs:List X}{cs:List Value}(k:Nat)(h:b6 E xs cs []):b6 E (xs.take k) (cs.take k) []:=by
 induction xs generalizing cs k with
 | nil=>simp only [b6] at h; simp [b6,h.1]
 | cons x r ih =>
  simp only [b6] at h
  obtain ⟨c,dp,R₁,R₂,rfl,hs,h1,h2,hR⟩:=h
  have Kq:=List.append_eq_nil_iff.1 hR.symm
  obtain ⟨rfl,rfl⟩:=Kq
  cases k with
  | zero=>simp [b6]
  | succ k=>simp only [List.take_succ_cons,b6]; exact ⟨c,_,[],[],rfl,hs,h1,ih k h2,rfl⟩
theorem b6.Ng{xs:List X}{cs:List Value}(k:Nat)(h:b6 E xs cs []):b6 E (xs.drop k) (cs.drop k) []:=by
 induction xs generalizing cs k with
 | nil=>simp only [b6] at h; simp [b6,h.1]
 | cons x r ih =>
  have h':=h
  simp only [b6] at h
  obtain ⟨c,dp,R₁,R₂,rfl,hs,h1,h2,hR⟩:=h
  have Kq:=List.append_eq_nil_iff.1 hR.symm
  obtain ⟨rfl,rfl⟩:=Kq
  cases k with
  | zero=>exact h'
  | succ k=>simp only [List.drop_succ_cons]; exact ih k h2
theorem b6.iT{xs ys:List X}{cs vs:List Value}{k:Nat}(h:b6 E xs cs [])(h':b6 E ys vs []):b6 E (ly xs k ys) (ly cs k vs) []:=by
 unfold ly
 rw [<- b6.length h']
 have:=b6.app (b6.app (b6.Nf k h) h') (b6.Ng (k + vs.length) h)
 simpa using this
end
def vN(place : Nat → Option (Nat × Nat))(cells : List X) : List (Nat × X) → Option (List X)
 | []=>some cells
 | (i,x) :: rest =>
  match place i,x.flat with
  | some (off,size),some ys=>bif Nat.beq ys.length size && Nat.ble (off + size) cells.length then vN place (ly cells off ys) rest else none
  | _,_=>none
def qF(st : St) : List (Nat × Operand) → Option (List (Nat × X))
 | []=>some []
 | (i,x) :: r=>match bV st x,qF st r with
  | some y,some l=>bif y.free then some ((i,y) :: l) else none
  | _,_=>none
theorem vO(off : Nat) : ∀ (l : List Value) (k : Nat) (cs : Array Value), ((l.zipIdx k).foldl (fun cs (p : Value × Nat) => cs.setIfInBounds (off + p.2) p.1) cs).size = cs.size ∧
  ∀ j,((l.zipIdx k).foldl (fun cs (p:Value × Nat)=>cs.setIfInBounds (off + p.2) p.1) cs)[j]? = if off + k <= j /\ j < off + k + l.length /\ j < cs.size then l[j - off - k]? else cs[j]?
 | [],k,cs=>by
  refine ⟨rfl,fun j=>?_⟩
  rw [if_neg (by simp; omega)]
  rfl
 | v :: r,k,cs=>by
  obtain ⟨h1,h2⟩:=vO off r (k + 1) (cs.setIfInBounds (off + k) v)
  simp only [List.zipIdx_cons,List.foldl_cons]
  refine ⟨by rw [h1]; simp,fun j=>?_⟩
  rw [h2 j]
  simp only [Array.size_setIfInBounds,List.length_cons]
  by_cases hj:off + (k + 1) <= j /\ j < off + (k + 1) + r.length /\ j < cs.size
  ·rw [if_pos hj,if_pos om,show j - off - k = (j - off - (k + 1)) + 1 by omega]
   simp
  ·rw [if_neg hj]
   by_cases vP:j = off + k
   ·subst vP
    by_cases gQ:off + k < cs.size
    ·rw [if_pos om,show off + k - off - k = 0 by omega]
     simp [Array.getElem?_setIfInBounds_self_of_lt gQ]
    ·rw [if_neg om]
     simp [gQ]
   ·rw [if_neg om,Array.getElem?_setIfInBounds_ne om]
theorem zA(off:Nat)(v cs:Array Value)(h:off + v.size <= cs.size):(v.zipIdx.foldl (fun cs (p:Value × Nat)=>cs.setIfInBounds (off + p.2) p.1) cs).toList = ly cs.toList off v.toList:=by
 have hf:v.zipIdx.foldl (fun cs (p:Value × Nat)=>cs.setIfInBounds (off + p.2) p.1) cs = (v.toList.zipIdx 0).foldl (fun cs (p:Value × Nat)=>cs.setIfInBounds (off + p.2) p.1) cs:=by
  rw [<- Array.foldl_toList,Array.toList_zipIdx]
 rw [hf]
 obtain ⟨h1,h2⟩:=vO off v.toList 0 cs
 apply List.ext_getElem?
 intro j
 rw [Array.getElem?_toList,h2 j]
 have Nh:v.toList.length = v.size:=by simp
 simp only [Nat.add_zero,Nat.sub_zero,Nh,ly,List.append_assoc]
 have hl:(List.take off cs.toList).length = off:=by simp; omega
 by_cases hj:j < off
 ·rw [if_neg om,List.getElem?_append_left om,List.getElem?_take_of_lt hj]; simp
 ·by_cases Se:j < off + v.size
  ·rw [if_pos om,List.getElem?_append_right om,hl,List.getElem?_append_left om]
  ·rw [if_neg om,List.getElem?_append_right om,List.getElem?_append_right om,hl,List.getElem?_drop]
   have:off + v.size + (j - off - v.toList.length) = j:=by omega
   rw [this]; simp
section
variable {P:Program} {N:fo} {G:Ctx} {E:Env} {RR:Own -> List Nat} {st:St} {a:Act}
theorem su(hi : Inv G E RR st a)(place : Nat → Option (Nat × Nat)) : ∀ (parts : List (Nat × Operand)) (xs : List X) (cs : Array Value) (Dy : List (Nat × X)) (ys : List X), b6 E xs cs.toList [] → qF st parts = some Dy →
  vN place xs Dy = some ys -> ∃ dp,Instr.fill place cs (parts.map fun p=>(p.1,a.eval p.2)) = some dp /\ b6 E ys dp.toList []
 | [],xs,cs,Dy,ys,h,hp,hf=>by
  simp only [qF,Option.some.injEq] at hp
  subst hp
  simp only [vN,Option.some.injEq] at hf
  subst hf
  exact ⟨cs,rfl,h⟩
 | (i,x) :: r,xs,cs,Dy,ys,h,hp,hf=>by
  simp only [qF] at hp
  cases hx:bV st x with
  | none=>simp [hx] at hp
  | some y =>
   cases hr:qF st r with
   | none=>simp [hx,hr] at hp
   | some l =>
    rw [hx,hr] at hp
    simp only at hp
    cases nk:y.free with
    | false=>simp [nk] at hp
    | true =>
     rw [nk] at hp
     simp only [cond_true,Option.some.injEq] at hp
     subst hp
     simp only [vN] at hf
     cases Dz:place i with
     | none=>simp [Dz] at hf
     | some os =>
      obtain ⟨off,size⟩:=os
      cases x9:y.flat with
      | none=>simp [Dz,x9] at hf
      | some zs =>
       rw [Dz,x9] at hf
       simp only at hf
       cases hb:Nat.beq zs.length size && Nat.ble (off + size) xs.length with
       | false=>simp [hb] at hf
       | true =>
        rw [hb] at hf
        simp only [cond_true] at hf
        simp only [Bool.and_eq_true] at hb
        have fY:zs.length = size:=Nat.eq_of_beq_eq_true hb.1
        have hle:off + size <= xs.length:=Nat.le_of_ble_eq_true hb.2
        obtain ⟨R,hv⟩:=hi.eval hx
        have h0:=RX.free nk hv
        subst h0
        have yY:=hv.flat x9
        have vx:(a.eval x).cells.size = size:=by have:=b6.length yY; simp at this; omega
        have tE:cs.size = xs.length:=by have:=b6.length h; simpa using this
        have zB:=b6.iT (k:=off) h yY
        have Ni:=zA off (a.eval x).cells cs om
        obtain ⟨dp,wJ,Cw⟩:=su hi place r (ly xs off zs) ((a.eval x).cells.zipIdx.foldl (fun cs (p:Value × Nat)=>cs.setIfInBounds (off + p.2) p.1) cs) l ys (by rw [Ni]; exact zB) hr hf
        refine ⟨dp,?_,Cw⟩
        simp only [List.map_cons,Instr.fill,Dz,vx]
        rw [if_neg (by simp; omega)]
        exact wJ
def TY.gI(P:Program)(t:TypeId):Option (List (Nat × Nat)) :=
 match P.underlying t with
 | some (.struct fs)=>fs.toList.mapM fun f=>(P.info? f.type).map fun i=>(f.offset,i.size)
 | _=>none
theorem xB{fs : List Field}{pl : List (Nat × Nat)}(h : (fs.mapM fun f => (P.info? f.type).map fun i => (f.offset, i.size)) = some pl)(w : World) :
  (fs.mapM fun f=>(do pure (f.offset,<- sizeOf f.type):Sem (Nat × Nat))).run P w = .ok pl w:=by
 induction fs generalizing pl with
 | nil=>simp at h; subst h; rfl
 | cons f r ih =>
  rw [List.mapM_cons] at h
  cases hf:P.info? f.type with
  | none=>simp [hf] at h
  | some i =>
   rw [hf] at h
   cases hr:(r.mapM fun f=>(P.info? f.type).map fun i=>(f.offset,i.size)) with
   | none=>simp [hr] at h
   | some l =>
    rw [hr] at h
    simp at h
    subst h
    rw [List.mapM_cons]
    simp only [Sem.run_bind,run_sizeOf hf,Result.andThen_ok,Sem.run_pure,ih hr]
theorem Y.qh{dst : Option Nat}{ty : TypeId}{pos : String}{af : Array Edge}{g : Option (Nat × Bool)}{t : TypeId}{parts : Array (Nat × Operand)}{pl : List (Nat × Nat)}{z : List Value}{Dy : List (Nat × X)}{ys : List X}
  (hp:TY.gI P t = some pl) (hz:TY.zero P t = some z) (h1:X.v5 (z.map X.v) = true) (hx:qF st parts.toList = some Dy) (hf:vN (pl[·]?) (z.map X.v) Dy = some ys) :
  Yields P N st ⟨dst,.build t parts,ty,pos,af,g⟩ (.agg ys):=by
 intro G E RR a _ hi
 obtain ⟨i,z0,rp,Dw,Dx⟩:=TY.gH hz
 have xA:z0.cells = z.toArray:=by rw [<- Dx]
 have gN:b6 E (z.map X.v) z0.cells.toList []:=by rw [Dx]; exact vM h1
 obtain ⟨dp,wJ,Cw⟩:=su hi (pl[·]?) parts.toList _ z0.cells Dy ys gN hx hf
 refine ⟨.agg dp,?_,by simp only [RX]; exact ⟨dp,rfl,Cw⟩⟩
 show (do let v <- Instr.build t (parts.map fun (i,x)=>(i,a.eval x)); Pure.pure (Next.value v):Sem Next).run P E.w = _
 refine eb ?_
 unfold TY.gI at hp
 cases hu:P.underlying t with
 | none=>simp [hu] at hp
 | some d =>
  cases d with
  | struct fs =>
   rw [hu] at hp
   simp only at hp
   have hm:=xB hp E.w
   have Nj:(fs.mapM fun f=>(do Pure.pure (f.offset,<- sizeOf f.type):Sem (Nat × Nat))).run P E.w = .ok pl.toArray E.w:=by
    rw [Array.mapM_eq_mapM_toList]
    simp only [Sem.run_map,hm]
    rfl
   have Dz:(fun (i:Nat)=>pl.toArray[i]?) = fun i=>pl[i]?:=by funext i; simp
   have QS:(parts.map fun (i,x)=>(i,a.eval x)).toList = parts.toList.map fun p=>(p.1,a.eval p.2):=by simp
   simp only [Instr.build,Sem.run_bind,zeroValue,typeInfo,run_program,rp,Dw,Result.andThen_ok,Sem.run_pure,run_underlying hu,Nj,Dz,QS,wJ]
  | _=>simp [hu] at hp
end
end Go.AW
namespace Go.AW
open Go
section
variable {P:Program} {N:fo} {st:St} {Q:Exit -> St -> Prop} {all:Array Oper} {rest:List Oper} {d:Nat} {ty:TypeId} {pos:String} {af:Array Edge}
theorem cE.zC{E : Env}{s : Nat}{cs : Array Value} : ∀ {rs : List (List X)} {off : Nat}, cz s rs →
  (∀ i row,rs[i]? = some row -> X.iQ row = true /\ RO E row cs (off + i * s) []) -> cE E rs cs off []
 | [],_,_,_=>by simp [cE]
 | r :: rs,off,hu,h=>by
  simp only [cE]
  have h0:=h 0 r rfl
  refine ⟨[],[],h0.1,by simpa using h0.2,?_,rfl⟩
  rw [hu r (by simp)]
  refine cE.zC (fun q hq=>hu q (by simp [hq])) fun i row hr=>?_
  have:=h (i + 1) row (by simpa using hr)
  rw [show off + s + i * s = off + (i + 1) * s by rw [Nat.add_mul]; omega]
  exact this
theorem b6.Kr{E:Env}{xs:List X}{vs:List Value}{cs:Array Value}{off:Nat}{R:List Nat}(h:b6 E xs vs R)(hv:∀ j,j < xs.length -> cs[off + j]? = vs[j]?):RO E xs cs off R :=
 RO.of h fun j v hj=>by
  have oG:j < xs.length:=by
   rw [<- b6.length h]
   rcases Nat.lt_or_ge j vs.length with h' | h'
   ·exact h'
   ·simp [List.getElem?_eq_none h'] at hj
  rw [hv j oG]; exact hj
theorem Inv.newRow{G : Ctx}{E : Env}{RR : Own → List Nat}{a : Act}(hi : Inv G E RR st a){cs : Array Value}{e : TypeId}{s cap : Nat}{rows : List (List X)}(hu : cz s rows)(hl : rows.length ≤ cap)(hc : cap * s ≤ cs.size)
  (hr:cE { E with w:=E.w.alloc (.cells cs e) } rows cs 0 []) (hd:d < G.fn.n) :
  ∃ gG,Inv G { E with w:=E.w.alloc (.cells cs e) } gG (st.put d (.dH s rows)) (a.put (some d) (.slice (some ⟨E.w.heap.size,0,none⟩) rows.length cap)):=by
 have iS:=hi.Bi (dg.alloc G E (.cells cs e)) rfl
 refine ⟨_,iS.put (R:=[E.w.heap.size]) hd ?_ (by simp) ?_⟩
 ·simp only [RX]
  refine ⟨hu,_,_,rfl,.inr ⟨E.w.heap.size,0,cs,e,[],rfl,heap_alloc _ _,hl,om,fun i=>?_,hr,rfl⟩⟩
  show E.φ E.w.heap.size i = none
  cases h:E.φ E.w.heap.size i with
  | none=>rfl
  | some v=>exact absurd (World.block_lt_of_cell? E.w _ (hi.nM _ _ _ h)) (by simp)
 ·intro b hb
  simp only [List.mem_singleton] at hb
  subst hb
  refine ⟨by simp,fun hK=>?_,fun p _ hb=>?_⟩
  ·have:=hi.small _ hK
   have:=hi.size
   omega
  ·exact absurd (hi.own p _ hb).1 (by simp)
theorem DR{i k s:Nat}(hk:k < s):(i * s + k) % s = k:=by
 rw [Nat.mul_comm,Nat.mul_add_mod,Nat.mod_eq_of_lt hk]
theorem aQ.makeSlice{t e s de n : Nat}{l c : Operand}{k k' : IntKind}{z : List Value}(ht : TY.slice P t = some (e, s, de))(hz : TY.zero P e = some z)(sZ : z.length = s)(h1 : X.v5 (z.map X.v) = true)
  (hl:bV st l = some (.v (.int k (n:Int)))) (hc:bV st c = some (.v (.int k' (n:Int)))) (hb:de * n <= 281474976710656) (XU:n <= 9223372036854775807) (hd:d < N.n)
  (kk:aQ P N all rest (st.put d (.dH s (List.replicate n (z.map X.v)))) Q):aQ P N all (⟨some d,.makeSlice t l c,ty,pos,af,none⟩ :: rest) st Q:=by
 refine aQ.DQ (fun G E RR a hn hi=>?_) kk
 obtain ⟨hu,i,iV,hs,Jl⟩:=TY.dT ht
 obtain ⟨i',z0,rp,Dw,Dx⟩:=TY.gH hz
 rw [iV] at rp
 obtain rfl:=Option.some.inj rp
 have xA:z0.cells = z.toArray:=by rw [<- Dx]
 have jC:=run_make (P:=P) E.w t e i z0 hu iV Dw k k' (n:Int) (n:Int) om om (by rw [Jl]; have:=Int.ofNat_le.2 hb; rw [Int.natCast_mul] at this; exact this) om
 simp only [Int.toNat_natCast,hs,xA] at jC
 have fY:=size_madeCells z.toArray (n * s)
 have hU:cz s (List.replicate n (z.map X.v)):=by
  intro r hr
  rw [(List.mem_replicate.1 hr).2]; simpa using sZ
 obtain ⟨gG,iS⟩:=hi.newRow (cs:=madeCells z.toArray (n * s)) (e:=e) (s:=s) (cap:=n) (d:=d) hU (Nat.le_of_eq List.length_replicate) (by rw [fY]; exact Nat.le_refl _) (by
  refine cE.zC hU fun j row hr=>?_
  have hj:j < n:=by
   rcases Nat.lt_or_ge j n with h' | h'
   ·exact h'
   ·rw [List.getElem?_eq_none (by rw [List.length_replicate]; exact h')] at hr; cases hr
  have:row = z.map X.v:=by
   have:=List.mem_of_getElem? hr
   exact (List.mem_replicate.1 this).2
  subst this
  refine ⟨DP z,b6.Kr (vM h1) fun q hq=>?_⟩
  have C6:q < s:=by simpa [sZ] using hq
  have gQ:j * s + q < n * s:=by
   have:(j + 1) * s <= n * s:=Nat.mul_le_mul_right s hj
   rw [Nat.add_mul] at this; omega
  have Ks:q < z.length:=by omega
  simp only [Nat.zero_add,madeCells]
  rw [Array.getElem?_map,Array.getElem?_range,if_pos gQ]
  simp only [Option.map_some,List.size_toArray,sZ,DR C6]
  rw [List.getElem?_eq_getElem Ks]
  simp [Ks]) (by rw [hn]; exact hd)
 simp only [List.length_replicate] at iS
 refine ⟨_,_,_,?_,iS⟩
 show (do let v <- Instr.makeSlice t (a.eval l) (a.eval c); Pure.pure (Next.value v):Sem Next).run P E.w = _
 rw [hi.val hl,hi.val hc]
 exact eb jC
theorem aQ.buildSlice{t e s de len : Nat}{parts : Array (Nat × Operand)}{z : List Value}{Dy : List (Nat × X)}{flat : List X}(rows : List (List X))(ht : TY.slice P t = some (e, s, de))(hz : TY.zero P e = some z)(sZ : Nat.beq z.length s = true)
  (h1:X.v5 (z.map X.v) = true) (hx:qF st parts.toList = some Dy) (hf:vN (fun i=>some (i * s,s)) ((List.replicate len (z.map X.v)).flatten) Dy = some flat) (hr:rows.flatten = flat) (hU:cz s rows) (hlen:rows.length = len)
  (Cz:X.iQ flat = true) (Wi:Nat.ble (len * s) 16777216 = true) (hd:d < N.n)
  (kk:aQ P N all rest (st.put d (.dH s rows)) Q):aQ P N all (⟨some d,.buildSlice t len parts,ty,pos,af,none⟩ :: rest) st Q:=by
 refine aQ.DQ (fun G E RR a hn hi=>?_) kk
 obtain ⟨hu,i,iV,hs,Jl⟩:=TY.dT ht
 obtain ⟨i',z0,rp,Dw,Dx⟩:=TY.gH hz
 rw [iV] at rp
 obtain rfl:=Option.some.inj rp
 have xA:z0.cells = z.toArray:=by rw [<- Dx]
 have Kt:z.length = s:=Nat.eq_of_beq_eq_true sZ
 let z1:Array Value:=(Array.range (len * s)).map fun i=>z.toArray[i % z.toArray.size]!
 have QT:z1.toList = (List.replicate len z).flatten:=by
  apply List.ext_getElem?
  intro j
  have XV:((List.replicate len z).flatten).length = len * s:=by simp [Kt]
  by_cases hj:j < len * s
  ·have QU:0 < s:=by
    rcases Nat.eq_zero_or_pos s with h' | h'
    ·subst h'; simp at hj
    ·exact h'
   have hq:j % s < s:=Nat.mod_lt _ QU
   have XW:j / s < len:=by rw [Nat.div_lt_iff_lt_mul QU]; exact hj
   have h2:((List.replicate len z).flatten)[j]? = z[j % s]?:=by
    have:∀ (n j:Nat),j < n * s -> ((List.replicate n z).flatten)[j]? = z[j % s]?:=by
     intro n
     induction n with
     | zero=>intro j hj; simp at hj
     | succ n ih =>
      intro j hj
      rw [List.replicate_succ,List.flatten_cons]
      by_cases Mt:j < s
      ·rw [List.getElem?_append_left om,Nat.mod_eq_of_lt Mt]
      ·rw [List.getElem?_append_right om,Kt,ih (j - s) (by rw [Nat.add_mul] at hj; omega)]
       rw [Nat.mod_eq_sub_mod (by omega:j ≥ s)]
    exact this len j hj
   rw [h2]
   have Ks:j % s < z.length:=by omega
   have Nk:z[j % s]? = some z[j % s]:=List.getElem?_eq_getElem Ks
   simp [z1,hj,Kt,Nk]
  ·have e1:((List.replicate len z).flatten)[j]? = none:=List.getElem?_eq_none (by rw [XV]; omega)
   have e2:z1.toList[j]? = none:=List.getElem?_eq_none (by rw [Array.length_toList]; simp only [z1,Array.size_map,Array.size_range]; omega)
   rw [e1,e2]
 have XX:b6 E ((List.replicate len (z.map X.v)).flatten) z1.toList []:=by
  rw [QT]
  clear hf QT z1 hlen Wi
  induction len with
  | zero=>simp [b6]
  | succ n ih=>rw [List.replicate_succ,List.flatten_cons,List.replicate_succ,List.flatten_cons]; exact b6.app (vM h1) ih
 obtain ⟨dp,wJ,Cw⟩:=su hi (fun i=>some (i * s,s)) parts.toList _ z1 Dy flat XX hx hf
 have x9:flat.length = len * s:=by rw [<- hr,length_flatten hU,hlen]
 have XY:dp.size = len * s:=by have:=b6.length Cw; simp at this; omega
 obtain ⟨gG,iS⟩:=hi.newRow (cs:=dp) (e:=e) (s:=s) (cap:=len) (d:=d) hU om om (by
  have Nl:b6 { E with w:=E.w.alloc (.cells dp e) } flat dp.toList []:=b6.mono (E:=E) _ _ _ ⟨fun _ _ _ h=>h,fun _ h=>by cases h⟩ (fun _ _=>rfl) Cw
  have v7:RO { E with w:=E.w.alloc (.cells dp e) } flat dp 0 []:=RO.of Nl fun j v hj=>by simpa using hj
  rw [<- hr] at v7 Cz
  clear hr wJ Cw Nl x9 hf hlen
  have key:∀ (rs:List (List X)) (off:Nat),X.iQ rs.flatten = true -> RO { E with w:=E.w.alloc (.cells dp e) } rs.flatten dp off [] -> cE { E with w:=E.w.alloc (.cells dp e) } rs dp off []:=by
   intro rs
   induction rs with
   | nil=>intro off _ _; simp [cE]
   | cons r rs ih =>
    intro off hn h
    rw [List.flatten_cons] at h hn
    obtain ⟨R₁,R₂,h1,h2,hR⟩:=RO.r1 h
    have Kq:=List.append_eq_nil_iff.1 hR.symm
    obtain ⟨rfl,rfl⟩:=Kq
    have XZ:∀ (xs ys:List X),X.iQ (xs ++ ys) = true -> X.iQ xs = true /\ X.iQ ys = true:=by
     intro xs
     induction xs with
     | nil=>intro ys h; exact ⟨rfl,h⟩
     | cons x r ih=>intro ys h; simp only [List.cons_append,X.iQ,Bool.and_eq_true] at h ⊢; exact ⟨⟨h.1,(ih ys h.2).1⟩,(ih ys h.2).2⟩
    obtain ⟨Nm,Nn⟩:=XZ _ _ hn
    simp only [cE]
    exact ⟨[],[],Nm,h1,ih _ Nn h2,rfl⟩
  exact key rows 0 Cz v7) (by rw [hn]; exact hd)
 rw [hlen] at iS
 refine ⟨_,_,_,?_,iS⟩
 show (do let v <- Instr.buildSlice t len (parts.map fun (i,x)=>(i,a.eval x)); Pure.pure (Next.value v):Sem Next).run P E.w = _
 refine eb ?_
 have QS:(parts.map fun (i,x)=>(i,a.eval x)).toList = parts.toList.map fun p=>(p.1,a.eval p.2):=by simp
 have Sf:¬ (len * s > 2 ^ 24):=by have:=Nat.le_of_ble_eq_true Wi; simp; omega
 by_cases h0:len * s = 0
 ·have Sg:z1 = (Array.range (len * s)).map (fun i=>(#[]:Array Value)[i % (#[]:Array Value).size]!):=by simp [z1,h0]
  have xu:¬ ((0:Nat) > 2 ^ 24):=by decide
  rw [Sg,h0] at wJ
  simp only [Instr.buildSlice,Sem.run_bind,run_underlying hu,Result.andThen_ok,run_sizeOf iV,hs,h0,xu,if_false,if_true,Sem.run_pure,QS,wJ,Go.newRow,run_newObj_alloc]
 ·simp only [z1] at wJ
  simp only [Instr.buildSlice,Sem.run_bind,run_underlying hu,Result.andThen_ok,run_sizeOf iV,hs,Sf,if_false,h0,zeroValue,typeInfo,run_program,iV,Dw,Sem.run_pure,xA,QS,wJ,Go.newRow,run_newObj_alloc]
end
end Go.AW
namespace Go.AW
open Go
def TY.size(P:Program)(t:TypeId):Option Nat:=(P.info? t).map (·.size)
section
variable {P:Program} {N:fo} {st:St} {Q:Exit -> St -> Prop} {all:Array Oper} {rest:List Oper} {d:Nat} {ty:TypeId} {pos:String} {af:Array Edge}
theorem oL{t : TypeId}{m b off : Nat}{v : Value}{cs : Array Value}{tb : TypeId}{w : World}(ht : TY.size P t = some m)(hm : v.cells.size = m)(hw : w.heap[b]? = some (.cells cs tb (0, 0)))(oK : off + m ≤ cs.size)
  (h1:∀ u ∈ v.cells.toList,u.oneCell' = true):(Instr.storeAt t (.pointer (some ⟨b,off,none⟩)) v).run P w = .ok () (w.setRow b (lG cs off v.cells.toList)):=by
 unfold TY.size at ht
 cases hi:P.info? t with
 | none=>simp [hi] at ht
 | some i =>
  rw [hi] at ht
  simp only [Option.map_some,Option.some.injEq] at ht
  have DS:=run_storeCells_at P b off tb v.cells.toList 0 cs w hw (by simp; omega) h1
  simp only [Nat.add_zero] at DS
  simp only [Instr.storeAt,Instr.sureAddr,storeVar,Sem.run_bind,Sem.run_pure,Result.andThen_ok,run_sizeOf hi,ht,hm,ne_eq,not_true_eq_false,if_false]
  exact DS
theorem Inv.v8{G:Ctx}{E:Env}{RR:Own -> List Nat}{a:Act}(hi:Inv G E RR st a){p:Own}{b:Nat}(h:b ∈ RR p):¬ G.K b:=(hi.own p b h).2
theorem aQ.ai{t : TypeId}{x y : Operand}{o s k m : Nat}{v : X}{ys xs : List X}(ht : TY.size P t = some m)(hx : bV st x = some (.ptr o s 0 k))(hy : bV st y = some v)(x9 : v.flat = some ys)(hf : X.bu ys = true)(hm : ys.length = m)
  (ho:look st.aF o = some (.cells xs)) (hk:k + m <= xs.length) (Mu:X.bu (ly xs k ys) = true) (kk:aQ P N all rest (st.cV o (.cells (ly xs k ys))) Q) :
  aQ P N all (⟨none,.store t x y,ty,pos,af,none⟩ :: rest) st Q:=by
 refine aQ.Ko (fun G E RR a hn hi=>?_) kk
 obtain ⟨R,hv⟩:=hi.eval hy
 have yY:=hv.flat x9
 have h0:=b6.free hf yY
 subst h0
 obtain ⟨R',hp⟩:=hi.eval hx
 simp only [RX] at hp
 obtain ⟨_,B,hB,hc⟩:=hp
 simp only [Nat.zero_mul,Nat.zero_add] at hc
 have aW:=hi.aF o _ ho
 simp only [dK] at aW
 obtain ⟨sX,B',cs,tb,iU,hw,hφ,hlen,jS,iI⟩:=aW
 rw [hB] at iU
 obtain rfl:=Option.some.inj iU
 have xC:=b6.length yY
 have fY:(a.eval y).cells.size = m:=by simp at xC; omega
 have jC:=oL (P:=P) (off:=B.off + k) ht fY hw om (b6.p6 yY)
 have oM:B.b ∈ RR (.obj o):=by rw [iI]; simp
 have GS:=dg.setRow G E B.b (lG cs (B.off + k) (a.eval y).cells.toList) hφ (hi.v8 oM)
 have im:E.On { E with w:=E.w.setRow B.b (lG cs (B.off + k) (a.eval y).cells.toList) } []:=⟨fun _ _ _ h=>h,fun _ h=>by cases h⟩
 have DT:=b6.mono _ _ _ im (fun _ _=>rfl) yY
 have zD:=RO.mono _ _ _ _ im (fun _ _=>rfl) jS
 obtain ⟨R₁,zB,dR,_⟩:=RO.put (k:=k) zD om DT om
 have Ya:R₁ = []:=by
  cases R₁ with
  | nil=>rfl
  | cons b r=>rcases dR b (by simp) with h | h <;> cases h
 subst Ya
 refine ⟨_,_,?_,hi.DO (E':={ E with w:=E.w.setRow B.b (lG cs (B.off + k) (a.eval y).cells.toList) }) GS (o:=o) (R:=[B.b]) (fun b h=>by subst h; exact oM) rfl ?_ (by simp) ?_⟩
 ·show (do Instr.storeAt t (a.eval x) (a.eval y); Pure.pure Next.skip:Sem Next).run P E.w = _
  rw [hc]
  exact DL jC
 ·simp only [dK]
  have No:(ly xs k ys).length = xs.length:=m9 om
  exact ⟨Mu,B,_,tb,hB,setRow_heap E.w B.b cs _ tb _ hw,hφ,by rw [No,p5 (by simp at xC ⊢; omega)]; exact hlen,zB,rfl⟩
 ·intro b hb
  simp only [List.mem_singleton] at hb
  subst hb
  exact ⟨by simpa using (hi.own _ _ oM).1,hi.v8 oM,hi.x7 (.inl oM)⟩
theorem aQ.Ku{t : TypeId}{x y : Operand}{o s i k m : Nat}{v : X}{ys row : List X}{rs : List (List X)}(ht : TY.size P t = some m)(hx : bV st x = some (.ptr o s i k))(hy : bV st y = some v)(x9 : v.flat = some ys)(hf : X.bu ys = true)
  (hn:X.iQ ys = true) (hm:ys.length = m) (ho:look st.aF o = some (.rows s rs)) (hr:rs[i]? = some row) (hk:k + m <= row.length) (kk:aQ P N all rest (st.cV o (.rows s (rs.set i (ly row k ys)))) Q) :
  aQ P N all (⟨none,.store t x y,ty,pos,af,none⟩ :: rest) st Q:=by
 refine aQ.Ko (fun G E RR a Yb hi=>?_) kk
 obtain ⟨R,hv⟩:=hi.eval hy
 have yY:=hv.flat x9
 have h0:=b6.free hf yY
 subst h0
 obtain ⟨R',hp⟩:=hi.eval hx
 simp only [RX] at hp
 obtain ⟨_,B,hB,hc⟩:=hp
 have aW:=hi.aF o _ ho
 have jB:=hi.nodup (.obj o)
 simp only [dK] at aW
 obtain ⟨hu,aW⟩:=aW
 rcases aW with ⟨_,h,_⟩ | ⟨B',cs,tb,R',iU,hw,hφ,lx,hlen,jS,iI⟩
 ·subst h; simp at hr
 rw [hB] at iU
 obtain rfl:=Option.some.inj iU
 have xC:=b6.length yY
 have fY:(a.eval y).cells.size = m:=by simp at xC; omega
 have Kv:rs.length * s <= B.cap * s:=Nat.mul_le_mul_right s lx
 have zE:i < rs.length:=by
  rcases Nat.lt_or_ge i rs.length with h' | h'
  ·exact h'
  ·simp [List.getElem?_eq_none h'] at hr
 have qE:row.length = s:=hu row (List.mem_of_getElem? hr)
 have QR:i * s + s <= rs.length * s:=by
  have:(i + 1) * s <= rs.length * s:=Nat.mul_le_mul_right s zE
  rw [Nat.add_mul] at this; omega
 have jC:=oL (P:=P) (off:=B.off + (i * s + k)) ht fY hw om (b6.p6 yY)
 have oM:B.b ∈ RR (.obj o):=by rw [iI]; simp
 have GS:=dg.setRow G E B.b (lG cs (B.off + (i * s + k)) (a.eval y).cells.toList) hφ (hi.v8 oM)
 rw [iI] at jB
 have nj:=List.nodup_cons.1 jB
 have im:E.On { E with w:=E.w.setRow B.b (lG cs (B.off + (i * s + k)) (a.eval y).cells.toList) } R' :=
  ⟨fun _ _ _ h=>h,fun b hb=>⟨setRow_other E.w B.b b _ (fun e=>nj.1 (by rw [<- e]; exact hb)),fun h=>h⟩⟩
 have DT:=b6.mono _ _ _ (im.sub (fun _ h=>by cases h)) (fun _ _=>rfl) yY
 have zD:=cE.mono _ _ _ _ im jS
 obtain ⟨R₁,zB,dR,sv⟩:=cE.set (i:=i) (k:=k) hu zD hr om DT hn om
 have Jm:∀ b ∈ R₁,b ∈ R':=fun b hb=>(dR b hb).resolve_right (fun h=>by cases h)
 refine ⟨_,_,?_,hi.DO (E':={ E with w:=E.w.setRow B.b (lG cs (B.off + (i * s + k)) (a.eval y).cells.toList) }) GS (o:=o) (R:=B.b :: R₁) (fun b h=>by subst h; exact oM) rfl ?_ ?_ ?_⟩
 ·show (do Instr.storeAt t (a.eval x) (a.eval y); Pure.pure Next.skip:Sem Next).run P E.w = _
  rw [hc]
  exact DL jC
 ·simp only [dK]
  refine ⟨hu.set (by rw [m9 om]; exact qE),.inr ⟨B,_,tb,R₁,hB,setRow_heap E.w B.b cs _ tb _ hw,hφ,by simpa using lx,by rw [p5 (by simp at xC ⊢; omega)]; exact hlen,zB,rfl⟩⟩
 ·exact List.nodup_cons.2 ⟨fun h=>nj.1 (Jm _ h),sv (by simpa using nj.2)⟩
 ·intro b hb
  have iG:b ∈ RR (.obj o):=by
   rw [iI]
   rcases List.mem_cons.1 hb with h | h
   ·simp [h]
   ·exact List.mem_cons.2 (.inr (Jm b h))
  exact ⟨by simpa using (hi.own _ _ iG).1,hi.v8 iG,hi.x7 (.inl iG)⟩
theorem aQ.Kw{t : TypeId}{x : Operand}{o s i k Mv tv : Nat}{rows row : List (List X)}{Hm : List X}{rs : List (List X)}(ht : TY.size P t = some 1)(hx : bV st x = some (.ptr o s i k))(hy : look st.aE tv = some (.dH Mv rows))(_h : row = row)
  (ho:look st.aF o = some (.rows s rs)) (hr:rs[i]? = some Hm) (hk:k + 1 <= Hm.length) (kk:aQ P N all rest ((st.put tv .no).cV o (.rows s (rs.set i (ly Hm k [.dH Mv rows])))) Q) :
  aQ P N all (⟨none,.store t x (.tmp tv),ty,pos,af,none⟩ :: rest) st Q:=by
 refine aQ.Ko (fun G E RR a Yb hi=>?_) kk
 have hv:=hi.aE tv _ hy
 have yY:b6 E [X.dH Mv rows] (a.eval (.tmp tv)).cells.toList (RR (.slot tv)):=hv.flat rfl
 obtain ⟨R',hp⟩:=hi.eval hx
 simp only [RX] at hp
 obtain ⟨_,B,hB,hc⟩:=hp
 have aW:=hi.aF o _ ho
 have jB:=hi.nodup (.obj o)
 simp only [dK] at aW
 obtain ⟨hu,aW⟩:=aW
 rcases aW with ⟨_,h,_⟩ | ⟨B',cs,tb,R',iU,hw,hφ,lx,hlen,jS,iI⟩
 ·subst h; simp at hr
 rw [hB] at iU
 obtain rfl:=Option.some.inj iU
 have xC:=b6.length yY
 have fY:(a.eval (.tmp tv)).cells.size = 1:=by simpa using xC
 have Kv:rs.length * s <= B.cap * s:=Nat.mul_le_mul_right s lx
 have zE:i < rs.length:=by
  rcases Nat.lt_or_ge i rs.length with h' | h'
  ·exact h'
  ·simp [List.getElem?_eq_none h'] at hr
 have qE:Hm.length = s:=hu Hm (List.mem_of_getElem? hr)
 have QR:i * s + s <= rs.length * s:=by
  have:(i + 1) * s <= rs.length * s:=Nat.mul_le_mul_right s zE
  rw [Nat.add_mul] at this; omega
 have jC:=oL (P:=P) (off:=B.off + (i * s + k)) ht fY hw om (b6.p6 yY)
 have oM:B.b ∈ RR (.obj o):=by rw [iI]; simp
 have GS:=dg.setRow G E B.b (lG cs (B.off + (i * s + k)) (a.eval (.tmp tv)).cells.toList) hφ (hi.v8 oM)
 rw [iI] at jB
 have nj:=List.nodup_cons.1 jB
 have DU:∀ b ∈ RR (.slot tv),b ∉ RR (.obj o):=fun b hb iG=>hi.apart _ _ (by simp) b hb iG
 have im:∀ C7,(∀ b ∈ C7,b ≠ B.b) -> E.On { E with w:=E.w.setRow B.b (lG cs (B.off + (i * s + k)) (a.eval (.tmp tv)).cells.toList) } C7 :=
  fun C7 h=>⟨fun _ _ _ h=>h,fun b hb=>⟨setRow_other E.w B.b b _ (h b hb),fun h=>h⟩⟩
 have DT:=b6.mono _ _ _ (im (RR (.slot tv)) (fun b hb e=>DU b hb (by rw [e]; exact oM))) (fun _ _=>rfl) yY
 have zD:=cE.mono _ _ _ _ (im R' (fun b hb e=>nj.1 (by rw [<- e]; exact hb))) jS
 obtain ⟨R₁,zB,dR,sv⟩:=cE.set (i:=i) (k:=k) hu zD hr (by simpa using hk) DT rfl om
 have mw:=hi.no tv
 have Np:(R' ++ RR (.slot tv)).Nodup:=by
  rw [List.nodup_append]
  refine ⟨nj.2,hi.nodup _,fun x hx y hy e=>DU y hy ?_⟩
  rw [<- e,iI]; exact List.mem_cons.2 (.inr hx)
 have xv:fI RR (.slot tv) [] (.obj o) = RR (.obj o):=by simp [fI]
 refine ⟨_,_,?_,mw.DO (E':={ E with w:=E.w.setRow B.b (lG cs (B.off + (i * s + k)) (a.eval (.tmp tv)).cells.toList) }) GS (o:=o) (R:=B.b :: R₁) (fun b h=>by subst h; rw [xv]; exact oM) rfl ?_ ?_ ?_⟩
 ·show (do Instr.storeAt t (a.eval x) (a.eval (.tmp tv)); Pure.pure Next.skip:Sem Next).run P E.w = _
  rw [hc]
  exact DL jC
 ·simp only [dK]
  refine ⟨hu.set (by rw [m9 (by simpa using hk)]; exact qE),.inr ⟨B,_,tb,R₁,hB,setRow_heap E.w B.b cs _ tb _ hw,hφ,by simpa using lx,by rw [p5 (by simp at xC ⊢; omega)]; exact hlen,zB,rfl⟩⟩
 ·refine List.nodup_cons.2 ⟨fun h=>?_,sv Np⟩
  rcases dR _ h with h' | h'
  ·exact nj.1 h'
  ·exact DU _ h' oM
 ·intro b hb
  have cU:b ∈ RR (.obj o) \/ b ∈ RR (.slot tv):=by
   rw [iI]
   rcases List.mem_cons.1 hb with h | h
   ·exact .inl (by simp [h])
   ·rcases dR b h with h' | h'
    ·exact .inl (List.mem_cons.2 (.inr h'))
    ·exact .inr h'
  have Jn:b < E.w.heap.size /\ ¬ G.K b:=by rcases cU with h | h <;> exact hi.own _ _ h
  refine ⟨by simpa using Jn.1,Jn.2,fun p hp Bl=>?_⟩
  have Kx:p ≠ .slot tv /\ b ∈ RR p:=by
   unfold fI at Bl
   split at Bl
   ·cases Bl
   ·rename_i h; exact ⟨h,Bl⟩
  rcases cU with h | h
  ·exact hi.apart _ _ hp b Kx.2 h
  ·exact hi.apart _ _ Kx.1 b Kx.2 h
theorem Sh.Nq{s:Nat}{rows:List (List X)}(o:Nat)(hx:look st.aE d = some (.dH s rows))(hF:N.F.elem o = false):Sh N st (((st.kill o).cV o (.rows s rows)).put d (.aL o s 0 rows.length)):=by
 intro G hn a w hh
 obtain ⟨E,RR,rfl,hi⟩:=hh
 have hv:=hi.aE d _ hx
 have jB:=hi.nodup (.slot d)
 simp only [RX] at hv
 obtain ⟨hu,base,cap,hc,cU⟩:=hv
 have mw:=hi.no d
 have Jo : ∀ (E' : Env) (gG : Own → List Nat), Inv G E' gG (((st.put d .no).kill o).cV o (.rows s rows)) a → (∃ R, R = [] ∧ RX E' (.aL o s 0 rows.length) (a.tmps.getD d undef) R) →
   cK G (((st.kill o).cV o (.rows s rows)).put d (.aL o s 0 rows.length)) a E'.w:=by
  intro E' gG h3 ⟨R,hR,j8⟩
  subst hR
  have h4:=h3.relabel (d:=d) j8 List.nodup_nil (fun _ h=>by cases h)
  refine ⟨E',fI gG (.slot d) [],rfl,?_⟩
  refine { h4 with aE:=fun q y hy=>h4.aE q y ?_,aF:=fun q y hy=>h4.aF q y hy }
  simp only [St.put,St.cV,St.kill,uh,List.map_cons,look] at hy ⊢
  cases hb:Nat.beq d q with
  | true=>rw [hb] at hy; simpa using hy
  | false=>rw [hb] at hy; simpa using hy
 have hβ:∀ (bk:Option Bg),dg G E { E with β:=fun q=>if q = o then bk else E.β q } (fun _=>False):=fun _ =>
  ⟨rfl,fun _ h=>h.elim,fun _ h=>h.elim,fun _ _ _=>rfl,Nat.le_refl _,rfl,rfl,rfl⟩
 rcases cU with ⟨h1,h2,h3⟩ | ⟨b,off,cs,ty,R',hb,hw,hl,ho,hφ,jS,iI⟩
 ·have h4 := mw.lF (hβ none) (o := o) (ob := .rows s rows) (R := []) (fun _ h => h.elim) (fun q hq => by simp [hq]) (fun h => by rw [hn, hF] at h; cases h)
   (by simp only [dK]; exact ⟨hu,.inl ⟨by simp,h1,trivial⟩⟩) List.nodup_nil (fun _ h=>by cases h)
  refine Jo { E with β:=fun q=>if q = o then none else E.β q } _ h4 ⟨[],rfl,?_⟩
  simp only [RX]
  exact ⟨trivial,base,cap,hc,.inl ⟨by simp,trivial,by simp [h1],h2⟩⟩
 ·rw [iI] at jB
  have nj:=List.nodup_cons.1 jB
  have im:E.On { E with β:=fun q=>if q = o then some ⟨b,off,cap⟩ else E.β q } R':=⟨fun _ _ _ h=>h,fun _ _=>⟨rfl,fun h=>h⟩⟩
  have h4 := mw.lF (hβ (some ⟨b, off, cap⟩)) (o := o) (ob := .rows s rows) (R := b :: R') (fun _ h => h.elim) (fun q hq => by simp [hq]) (fun h => by rw [hn, hF] at h; cases h)
   (by simp only [dK]; exact ⟨hu,.inr ⟨⟨b,off,cap⟩,cs,ty,R',by simp,hw,hφ,hl,ho,cE.mono _ _ _ _ im jS,rfl⟩⟩) jB
   (fun c rz=>by
    have hm:c ∈ RR (.slot d):=by rw [iI]; exact rz
    refine ⟨(hi.own _ _ hm).1,(hi.own _ _ hm).2,fun p hp mx=>?_⟩
    unfold fI at mx
    split at mx
    ·cases mx
    ·rename_i h; exact hi.apart _ _ h c mx hm)
  refine Jo { E with β:=fun q=>if q = o then some ⟨b,off,cap⟩ else E.β q } _ h4 ⟨[],rfl,?_⟩
  simp only [RX]
  exact ⟨trivial,base,cap,hc,.inr ⟨⟨b,off,cap⟩,by simp,by simp,hl,.inr (by simpa using hb)⟩⟩
theorem Sh.dA{s o n : Nat}{rows : List (List X)}(hx : look st.aE d = some (.aL o s 0 n))(ho : look st.aF o = some (.rows s rows))(hl : n = rows.length)(hF : N.F.elem o = false) :
  Sh N st (((st.kill o).cV o (.rows 0 [])).put d (.dH s rows)):=by
 intro G hn a w hh
 obtain ⟨E,RR,rfl,hi⟩:=hh
 subst hl
 have hv:=hi.aE d _ hx
 have aW:=hi.aF o _ ho
 have jB:=hi.nodup (.obj o)
 simp only [RX] at hv
 obtain ⟨_,base,cap,hc,cU⟩:=hv
 simp only [dK] at aW
 obtain ⟨hu,aW⟩:=aW
 have hβ:dg G E { E with β:=fun q=>if q = o then none else E.β q } (fun _=>False) :=
  ⟨rfl,fun _ h=>h.elim,fun _ h=>h.elim,fun _ _ _=>rfl,Nat.le_refl _,rfl,rfl,rfl⟩
 have h4 := hi.lF hβ (o := o) (ob := .rows 0 []) (R := []) (fun _ h => h.elim) (fun q hq => by simp [hq]) (fun h => by rw [hn, hF] at h; cases h)
  (by simp only [dK]; exact ⟨fun _ h=>(by cases h),.inl ⟨by simp,trivial,trivial⟩⟩) List.nodup_nil (fun _ h=>by cases h)
 have Nr:∀ c ∈ RR (.obj o),c < E.w.heap.size /\ ¬ G.K c /\ ∀ p,p ≠ .slot d -> c ∉ fq st RR o [] p:=by
  intro c rz
  refine ⟨(hi.own _ _ rz).1,(hi.own _ _ rz).2,fun p _ mx=>?_⟩
  cases p with
  | obj q =>
   by_cases hq:q = o
   ·subst hq; simp [fq] at mx
   ·have:c ∈ RR (.obj q):=by simpa [fq,hq] using mx
    exact hi.apart (.obj q) (.obj o) (by simpa using hq) c this rz
  | slot q =>
   rcases ji st RR o [] q with h | h
   ·rw [h] at mx; cases mx
   ·rw [h] at mx; exact hi.apart (.slot q) (.obj o) (by simp) c mx rz
 have Ns:∃ R,RX { E with β:=fun q=>if q = o then none else E.β q } (.dH s rows) (a.tmps.getD d undef) R /\ R.Nodup /\ ∀ b ∈ R,b ∈ RR (.obj o):=by
  simp only [RX]
  rcases aW with ⟨h1,h2,h3⟩ | ⟨B,cs,ty,R',hB,hw,hφ,lx,fY,jS,iI⟩
  ·rcases cU with ⟨_,_,_,h5⟩ | ⟨B,hB,_⟩
   ·exact ⟨[],⟨hu,base,cap,hc,.inl ⟨h2,h5,rfl⟩⟩,List.nodup_nil,fun _ h=>by cases h⟩
   ·rw [h1] at hB; cases hB
  ·rcases cU with ⟨h1,_⟩ | ⟨B',iU,x6,tD,hb⟩
   ·rw [hB] at h1; cases h1
   ·rw [hB] at iU
    obtain rfl:=Option.some.inj iU
    have im:E.On { E with β:=fun q=>if q = o then none else E.β q } R':=⟨fun _ _ _ h=>h,fun _ _=>⟨rfl,fun h=>h⟩⟩
    rcases hb with hb | hb
    ·refine ⟨[],⟨hu,base,cap,hc,.inl ⟨List.eq_nil_of_length_eq_zero om,hb,rfl⟩⟩,List.nodup_nil,fun _ h=>by cases h⟩
    ·refine ⟨RR (.obj o),⟨hu,base,cap,hc,.inr ⟨B.b,B.off,cs,ty,R',by simpa using hb,hw,om,by rw [show cap = B.cap by omega]; exact fY,hφ,cE.mono _ _ _ _ im jS,iI⟩⟩,jB,fun _ h=>h⟩
 obtain ⟨R,sw,xD,Hn⟩:=Ns
 exact ⟨{ E with β:=fun q=>if q = o then none else E.β q },_,rfl,h4.relabel sw xD (fun c hc=>Nr c (Hn c hc))⟩
end
end Go.AW
namespace Go.AW
open Go
structure Src(E:Env)(s:Nat)(new:List (List X))(c:Value)(R:List Nat):Prop where
 ex : ∃ base cap, ∃ vs : List Value, c = .slice (some base) new.length cap ∧ vs.length = new.length * s ∧ (∀ j v, vs[j]? = some v → E.w.cell? (base.add j) = some v) ∧ (∀ v ∈ vs, v.oneCell' = true) ∧
  ∀ (E':Env) (cs:Array Value) (off:Nat),E.On E' R -> (∀ j,j < vs.length -> cs[off + j]? = vs[j]?) -> cE E' new cs off R
 dH:cz s new
theorem cE.tF{E : Env} : ∀ {rs : List (List X)} {cs : Array Value} {off : Nat} {R : List Nat}, cE E rs cs off R → ∃ vs : List Value, vs.length = rs.flatten.length ∧ (∀ j v, vs[j]? = some v → cs[off + j]? = some v) ∧ (∀ v ∈ vs, v.oneCell' = true)
 | [],_,_,_,_=>⟨[],rfl,by simp,by simp⟩
 | r :: rs,cs,off,R,h=>by
  simp only [cE] at h
  obtain ⟨R₁,R₂,_,h1,h2,_⟩:=h
  obtain ⟨vs,hl,hv,hx⟩:=RO.cells h1
  obtain ⟨Si,x5,Nt,nJ⟩:=cE.tF h2
  refine ⟨vs ++ Si,by simp [hl,x5],?_,?_⟩
  ·intro j v hj
   by_cases oG:j < vs.length
   ·rw [List.getElem?_append_left oG] at hj; exact hv j v hj
   ·rw [List.getElem?_append_right om] at hj
    have:=Nt _ v hj
    rw [show off + j = off + r.length + (j - vs.length) by omega]; exact this
  ·intro v QV
   rcases List.mem_append.1 QV with h' | h'
   ·exact b6.p6 hx v h'
   ·exact nJ v h'
theorem kX.tF{E : Env} : ∀ {rs : List (List X)} {b off : Nat}, kX E rs b off → ∃ vs : List Value, vs.length = rs.flatten.length ∧ (∀ j v, vs[j]? = some v → E.φ b (off + j) = some v) ∧ (∀ v ∈ vs, v.oneCell' = true) ∧
   ∀ (E':Env) (cs:Array Value) (o:Nat),E.On E' [] -> (∀ j,j < vs.length -> cs[o + j]? = vs[j]?) -> cE E' rs cs o []
 | [],_,_,_=>⟨[],rfl,by simp,by simp,fun _ _ _ _ _=>by simp [cE]⟩
 | r :: rs,b,off,h=>by
  simp only [kX] at h
  obtain ⟨vs,hl,hv,hx⟩:=RF.cells h.1
  obtain ⟨Si,x5,Nt,nJ,Yc⟩:=kX.tF h.2
  have Cz:∀ (row:List X) (b off:Nat),RF E row b off -> X.iQ row = true:=by
   intro row
   induction row with
   | nil=>intro _ _ _; rfl
   | cons x t ih =>
    intro b off h
    simp only [RF] at h
    obtain ⟨⟨_,_,_,hn,_⟩,h2⟩:=h
    simp only [X.iQ,hn,ih b _ h2,Bool.and_self]
  refine ⟨vs ++ Si,by simp [hl,x5],?_,?_,?_⟩
  ·intro j v hj
   by_cases oG:j < vs.length
   ·rw [List.getElem?_append_left oG] at hj; exact hv j v hj
   ·rw [List.getElem?_append_right om] at hj
    have:=Nt _ v hj
    rw [show off + j = off + r.length + (j - vs.length) by omega]; exact this
  ·intro v QV
   rcases List.mem_append.1 QV with h' | h'
   ·exact b6.p6 hx v h'
   ·exact nJ v h'
  ·intro E' cs o hE tE
   simp only [cE]
   refine ⟨[],[],Cz r b off h.1,?_,?_,rfl⟩
   ·refine b6.Kr (b6.mono _ _ _ hE (fun q hq=>by rw [X.gx (Cz r b off h.1)] at hq; cases hq) hx) fun j hj=>?_
    rw [tE j (by simp; omega),List.getElem?_append_left om]
   ·refine Yc E' cs _ hE fun j hj=>?_
    have:=tE (vs.length + j) (by simp; omega)
    rw [List.getElem?_append_right om] at this
    rw [<- hl,Nat.add_assoc,this]
    congr 1
    omega
section
variable {P:Program} {N:fo} {G:Ctx} {E:Env} {RR:Own -> List Nat} {st:St} {a:Act}
theorem Src.Nu{s:Nat}{new:List (List X)}{c:Value}{R:List Nat}(h:RX E (.dH s new) c R)(fH:0 < new.length):∃ R',Src E s new c R' /\ (∀ b ∈ R',b ∈ R) /\ (R.Nodup -> R'.Nodup):=by
 simp only [RX] at h
 obtain ⟨hu,base,cap,hc,h⟩:=h
 rcases h with ⟨h1,_⟩ | ⟨b,off,cs,ty,R',hb,hw,hl,ho,hφ,jS,hR⟩
 ·subst h1; simp at fH
 obtain ⟨vs,Nh,hv,zF⟩:=cE.tF jS
 refine ⟨R',⟨⟨⟨b,off,none⟩,cap,vs,by rw [hc,hb],by rw [Nh,length_flatten hu],fun j v hj=>by rw [iH,dq hw]; exact hv j v hj,zF,?_⟩,hu⟩,fun c hc=>by rw [hR]; simp [hc],fun h=>by rw [hR] at h; exact (List.nodup_cons.1 h).2⟩
 intro E' dp uj hE tE
 have h1:=cE.mono _ _ _ _ hE jS
 -- move the cells from off to uj
 have key:∀ (rs:List (List X)) (o1 o2:Nat) (R:List Nat),(∀ j,j < rs.flatten.length -> dp[o2 + j]? = cs[o1 + j]?) -> cE E' rs cs o1 R -> cE E' rs dp o2 R:=by
  have Ky:∀ (xs:List X) (o1 o2:Nat) (R:List Nat),(∀ j,j < xs.length -> dp[o2 + j]? = cs[o1 + j]?) -> RO E' xs cs o1 R -> RO E' xs dp o2 R:=by
   intro xs
   induction xs with
   | nil=>intro _ _ _ _ h; simpa [RO] using h
   | cons x r ih =>
    intro o1 o2 R he h
    simp only [RO] at h ⊢
    obtain ⟨u,R₁,R₂,hu,hs,h1,h2,hR⟩:=h
    refine ⟨u,R₁,R₂,?_,hs,h1,ih _ _ _ (fun j hj=>?_) h2,hR⟩
    ·have:=he 0 (by simp)
     simp only [Nat.add_zero] at this
     rw [this]; exact hu
    ·have:=he (j + 1) (by simp; omega)
     rw [show o2 + 1 + j = o2 + (j + 1) by omega,show o1 + 1 + j = o1 + (j + 1) by omega]; exact this
  intro rs
  induction rs with
  | nil=>intro _ _ _ _ h; simpa [cE] using h
  | cons x r ih =>
   intro o1 o2 R he h
   simp only [cE] at h ⊢
   obtain ⟨R₁,R₂,hn,h1,h2,hR⟩:=h
   refine ⟨R₁,R₂,hn,Ky _ _ _ _ (fun j hj=>he j (by simp; omega)) h1,ih _ _ _ (fun j hj=>?_) h2,hR⟩
   have:=he (x.length + j) (by simp at hj ⊢; omega)
   rw [Nat.add_assoc,Nat.add_assoc]; exact this
 refine key new off uj R' (fun j hj=>?_) h1
 rw [tE j om]
 have oG:j < vs.length:=by omega
 rw [List.getElem?_eq_getElem oG]
 exact (hv j _ (List.getElem?_eq_getElem oG)).symm
theorem Src.Sj(hi:Inv G E RR st a){s:Nat}{new:List (List X)}{c:Value}{R:List Nat}(h:RX E (.fz s new) c R)(fH:0 < new.length):Src E s new c []:=by
 simp only [RX] at h
 obtain ⟨_,hu,base,cap,hc,h⟩:=h
 rcases h with ⟨h1,_⟩ | ⟨b,off,hb,hl,hf⟩
 ·subst h1; simp at fH
 obtain ⟨vs,Nh,hv,zF,hr⟩:=kX.tF hf
 exact ⟨⟨⟨b,off,none⟩,cap,vs,by rw [hc,hb],by rw [Nh,length_flatten hu],fun j v hj=>by rw [iH]; exact hi.nM _ _ _ (hv j v hj),zF,hr⟩,hu⟩
theorem uk{t e s de n cap m ty : Nat}{base : Option Addr}{b2 : Addr}{c2 : Nat}{kY news z : List Value}(ht : TY.slice P t = some (e, s, de))(hz : TY.zero P e = some z)(sZ : z.length = s)(hm : 0 < m)
  (ta:kY.length = n * s) (hold:∀ j v,kY[j]? = some v -> ∃ b off,base = some ⟨b,off,none⟩ /\ E.w.cell? ⟨b,off + j,none⟩ = some v) (Ho:base = none -> n = 0 /\ cap = 0)
  (zG:news.length = m * s) (oI:∀ j v,news[j]? = some v -> E.w.cell? (b2.add j) = some v) (zF:∀ v ∈ news,v.oneCell' = true) (sx:(n + m) * de <= 140737488355328) (DA:n + m <= 4611686018427387904)
  (Bm:n + m <= cap -> ∃ b off cs tb,base = some ⟨b,off,none⟩ /\ E.w.heap[b]? = some (.cells cs tb (0,0)) /\ off + cap * s <= cs.size) :
  (∃ b off cs tb, base = some ⟨b, off, none⟩ ∧ E.w.heap[b]? = some (.cells cs tb (0, 0)) ∧ n + m ≤ cap ∧ off + cap * s ≤ cs.size ∧
   (Builtin.append_ #[t,t] ty #[.slice base n cap,.slice (some b2) m c2]).run P E.w = .ok (.slice base (n + m) cap) (E.w.setRow b (lG cs (off + n * s) news))) \/
  (∃ um rest, n + m ≤ um ∧ rest.size = (um - (n + m)) * s ∧
   (Builtin.append_ #[t,t] ty #[.slice base n cap,.slice (some b2) m c2]).run P E.w = .ok (.slice (some ⟨E.w.heap.size,0,none⟩) (n + m) um) (E.w.drew.alloc (.cells ((kY ++ news).toArray ++ rest) e))):=by
 obtain ⟨hu,i,iV,hs,Jl⟩:=TY.dT ht
 obtain ⟨i',z0,rp,Dw,Dx⟩:=TY.gH hz
 rw [iV] at rp
 obtain rfl:=Option.some.inj rp
 have Sk:z0.cells.size = s:=by
  have:z0.cells.toList.length = z.length:=by rw [Dx]
  simpa [sZ] using this
 by_cases hr:n + m <= cap
 ·obtain ⟨b,off,cs,tb,hb,hw,fY⟩:=Bm hr
  refine .inl ⟨b,off,cs,tb,hb,hw,hr,fY,?_⟩
  have Sl:(n + m) * s <= cap * s:=Nat.mul_le_mul_right s hr
  rw [Nat.add_mul] at Sl
  have hf:=run_firstCells_some (P:=P) E.w i.size m b2 m c2 news (by rw [hs]; exact zG) oI
  have DS:=run_storeCells_at P b (off + n * s) tb news 0 cs E.w hw om zF
  simp only [Nat.add_zero] at DS
  subst hb
  rw [hs] at hf
  simp [Builtin.append_,run_underlying hu,sizeOf,typeInfo,iV,Builtin.lenOf,hr,hf,iH,hs,DS,lG]
 ·refine .inr ?_
  have oK:Builtin.nextslicecap (n + m) cap * i.bytes <= 281474976710656:=growslice_fits om (by rw [Jl]; omega)
  have QW:∀ k,(Builtin.zeroCells z0.cells k).size = k * s:=fun k=>by rw [size_zeroCells,Sk]
  cases vQ:base with
  | none =>
   obtain ⟨rfl,rfl⟩:=Ho vQ
   have holds:kY = []:=List.eq_nil_of_length_eq_zero (by simpa using ta)
   subst holds
   refine ⟨grownCap E.w m 0 e,_,by have:=grownCap_ge E.w m 0 e; omega,QW _,?_⟩
   have:=run_append_nil (P:=P) E.w t ty e i z0 hu iV Dw b2 m c2 news (by rw [hs]; exact zG) oI hm om (by
    have:m * de <= 140737488355328:=by simpa using sx
    rw [Jl]; omega)
   simpa using this
  | some bb =>
   have Nv:∀ j v,kY[j]? = some v -> E.w.cell? (bb.add j) = some v:=by
    intro j v hj
    obtain ⟨b,off,hb,hc⟩:=hold j v hj
    rw [vQ] at hb
    obtain rfl:=Option.some.inj hb
    rw [iH]; exact hc
   refine ⟨grownCap E.w (n + m) cap e,_,grownCap_ge E.w (n + m) cap e,QW _,?_⟩
   have:=run_append_grow (P:=P) E.w t ty e i z0 hu iV Dw bb n cap kY (by rw [hs]; exact ta) Nv b2 m c2 news (by rw [hs]; exact zG) oI om om oK
   rw [this]
   simp
theorem cE.zH{E : Env}{rs : List (List X)}{cs : Array Value}{off s lo n : Nat}{R : List Nat}(hu : cz s rs)(h : cE E rs cs off R)(hl : lo + n ≤ rs.length) :
  ∃ R',cE E ((rs.drop lo).take n) cs (off + lo * s) R' /\ (∀ b ∈ R',b ∈ R) /\ (R.Nodup -> R'.Nodup):=by
 have h0:rs = rs.take lo ++ ((rs.drop lo).take n ++ rs.drop (lo + n)):=by
  conv=>lhs; rw [<- List.take_append_drop lo rs,<- List.take_append_drop n (rs.drop lo),List.drop_drop]
 rw [h0] at h
 obtain ⟨R₁,R₂,h1,h2,rfl⟩:=cE.r1 h
 obtain ⟨R₃,R₄,h3,h4,rfl⟩:=cE.r1 h2
 rw [length_flatten (hu.take lo),List.length_take,Nat.min_eq_left om] at h3
 refine ⟨R₃,h3,fun b hb=>by simp [hb],fun hn=>?_⟩
 have:=(List.nodup_append.1 hn).2.1
 exact (List.nodup_append.1 this).1
theorem Inv.append(hi : Inv G E RR st a){t e s de ty : Nat}{z : List Value}{o lo n : Nat}{rs new : List (List X)}{c c2 : Value}{R2 : List Nat}(ht : TY.slice P t = some (e, s, de))(hz : TY.zero P e = some z)(sZ : z.length = s)
  (hx:RX E (.aL o s lo n) c []) (ho:look st.aF o = some (.rows s rs)) (qG:lo + n <= rs.length) (DV:Src E s new c2 R2) (hm:0 < new.length) (xD:R2.Nodup) (np:∀ b ∈ R2,b < E.w.heap.size /\ ¬ G.K b /\ ∀ p,b ∉ RR p)
  (sx:(n + new.length) * de <= 140737488355328) (DA:n + new.length <= 4611686018427387904) (hF:G.fn.F.elem o = false) :
  ∃ u E' gG,(Builtin.append_ #[t,t] ty #[c,c2]).run P E.w = .ok u E'.w /\ Inv G E' gG ((st.kill o).cV o (.rows s (((rs.drop lo).take n) ++ new))) a /\ RX E' (.aL o s 0 (n + new.length)) u []:=by
 have aW:=hi.aF o _ ho
 have jB:=hi.nodup (.obj o)
 simp only [RX] at hx
 obtain ⟨_,base,cap,rfl,cU⟩:=hx
 simp only [dK] at aW
 obtain ⟨hu,aW⟩:=aW
 obtain ⟨⟨b2,Yd,news,rfl,zG,oI,zF,Nw⟩,yW⟩:=DV
 have vy:((rs.drop lo).take n).length = n:=by simp; omega
 have hU:cz s (((rs.drop lo).take n) ++ new):=by
  intro r hr
  rcases List.mem_append.1 hr with h | h
  ·exact (hu.drop lo).take n r h
  ·exact yW r h
 have Nx:∀ b ∈ R2,b ∉ RR (.obj o):=fun b hb=>(np b hb).2.2 _
 -- the Sm cells, as values, and what lies in them
 have hold : ∃ (kY : List Value) (R1 : List Nat), kY.length = n * s ∧ (∀ j v, kY[j]? = some v → ∃ b off, base = some ⟨b, off, none⟩ ∧ E.w.cell? ⟨b, off + j, none⟩ = some v) ∧ (∀ b ∈ R1, b ∈ RR (.obj o)) ∧ R1.Nodup ∧
   (base = none -> n = 0 /\ cap = 0) /\
   (∀ (E':Env) (dp:Array Value) (uj:Nat),E.On E' R1 -> (∀ j,j < kY.length -> dp[uj + j]? = kY[j]?) -> cE E' ((rs.drop lo).take n) dp uj R1) /\
   (n + new.length <= cap -> ∃ B cs tb,E.β o = some B /\ base = some ⟨B.b,B.off + lo * s,none⟩ /\ E.w.heap[B.b]? = some (.cells cs tb (0,0)) /\ B.off + lo * s + cap * s <= cs.size /\ (∀ i,E.φ B.b i = none) /\ B.b ∈ RR (.obj o) /\ B.b ∉ R1):=by
  by_cases oN:cap = 0
  ·have Ho:n = 0:=by rcases cU with ⟨_,_,h,_⟩ | ⟨_,_,_,h,_⟩ <;> omega
   subst Ho
   refine ⟨[],[],by simp,by simp,by simp,List.nodup_nil,fun _=>⟨rfl,oN⟩,fun _ _ _ _ _=>by simp [cE],fun h=>by omega⟩
  ·rcases cU with ⟨_,_,_,h⟩ | ⟨B,hB,Nb,tD,hb⟩
   ·exact absurd h oN
   have iG:=hb.resolve_left oN
   rcases aW with ⟨h1,_⟩ | ⟨B',cs,tb,R',iU,hw,hφ,mx,fY,jS,iI⟩
   ·rw [hB] at h1; cases h1
   rw [hB] at iU
   obtain rfl:=Option.some.inj iU
   rw [iI] at jB
   obtain ⟨sy,nj⟩:=List.nodup_cons.1 jB
   obtain ⟨R1,C8,dR,C9⟩:=cE.zH hu jS qG
   obtain ⟨kY,ta,Ny,_⟩:=cE.tF C8
   rw [length_flatten ((hu.drop lo).take n),vy] at ta
   refine ⟨kY,R1,ta,fun j v hj=>⟨B.b,B.off + lo * s,iG,by rw [dq hw]; exact Ny j v hj⟩,fun b hb=>by rw [iI]; simp [dR b hb],C9 nj,(fun h=>by rw [iG] at h; cases h),?_,?_⟩
   ·intro E' dp uj hE tE
    have h1:=cE.mono _ _ _ _ hE C8
    have key:∀ (rs:List (List X)) (o1 o2:Nat) (R:List Nat),(∀ j,j < rs.flatten.length -> dp[o2 + j]? = cs[o1 + j]?) -> cE E' rs cs o1 R -> cE E' rs dp o2 R:=by
     have Ky:∀ (xs:List X) (o1 o2:Nat) (R:List Nat),(∀ j,j < xs.length -> dp[o2 + j]? = cs[o1 + j]?) -> RO E' xs cs o1 R -> RO E' xs dp o2 R:=by
      intro xs
      induction xs with
      | nil=>intro _ _ _ _ h; simpa [RO] using h
      | cons x r ih =>
       intro o1 o2 R he h
       simp only [RO] at h ⊢
       obtain ⟨u,R₁,R₂,hu,hs,h1,h2,hR⟩:=h
       refine ⟨u,R₁,R₂,?_,hs,h1,ih _ _ _ (fun j hj=>?_) h2,hR⟩
       ·have:=he 0 (by simp)
        simp only [Nat.add_zero] at this
        rw [this]; exact hu
       ·have:=he (j + 1) (by simp; omega)
        rw [show o2 + 1 + j = o2 + (j + 1) by omega,show o1 + 1 + j = o1 + (j + 1) by omega]; exact this
     intro rs
     induction rs with
     | nil=>intro _ _ _ _ h; simpa [cE] using h
     | cons x r ih =>
      intro o1 o2 R he h
      simp only [cE] at h ⊢
      obtain ⟨R₁,R₂,hn,h1,h2,hR⟩:=h
      refine ⟨R₁,R₂,hn,Ky _ _ _ _ (fun j hj=>he j (by simp; omega)) h1,ih _ _ _ (fun j hj=>?_) h2,hR⟩
      have:=he (x.length + j) (by simp at hj ⊢; omega)
      rw [Nat.add_assoc,Nat.add_assoc]; exact this
    refine key _ (B.off + lo * s) uj R1 (fun j hj=>?_) h1
    have oG:j < kY.length:=by
     rw [length_flatten ((hu.drop lo).take n),vy] at hj
     omega
    rw [tE j oG,List.getElem?_eq_getElem oG]
    exact (Ny j _ (List.getElem?_eq_getElem oG)).symm
   ·intro _
    refine ⟨B,cs,tb,hB,iG,hw,?_,hφ,by rw [iI]; simp,fun h=>sy (dR _ h)⟩
    have:B.cap = lo + cap:=Nb.symm
    rw [this,Nat.add_mul] at fY
    omega
 obtain ⟨kY,R1,ta,Ny,sw,So,Ho,Jp,Bm⟩:=hold
 have sv:(R1 ++ R2).Nodup:=by
  rw [List.nodup_append]
  exact ⟨So,xD,fun x hx y hy e=>Nx y hy (by rw [<- e]; exact sw x hx)⟩
 rcases uk (P:=P) (E:=E) (ty:=ty) ht hz sZ hm ta Ny Ho zG oI zF sx DA (fun h=>by
   obtain ⟨B,cs,tb,_,h2,h3,h4,_⟩:=Bm h
   exact ⟨B.b,B.off + lo * s,cs,tb,h2,h3,h4⟩) with ⟨b,off,cs,tb,vQ,hw,oK,fY,jC⟩ | ⟨um,rest,Wj,Nz,jC⟩
 ·-- in place
  obtain ⟨B,Wl,tb1,hB,zI,rq,NA,hφ,oM,NB⟩:=Bm oK
  rw [vQ] at zI
  simp only [Option.some.injEq,Addr.mk.injEq,and_true] at zI
  obtain ⟨rfl,rfl⟩:=zI
  rw [hw] at rq
  simp only [Option.some.injEq,Go.Obj.cells.injEq] at rq
  obtain ⟨rfl,rfl,_⟩:=rq
  have Sl:(n + new.length) * s <= cap * s:=Nat.mul_le_mul_right s oK
  rw [Nat.add_mul] at Sl
  have Sp:B.off + lo * s + n * s + news.length <= cs.size:=by omega
  let E':Env:={ E with w:=E.w.setRow B.b (lG cs (B.off + lo * s + n * s) news),β:=fun q=>if q = o then some ⟨B.b,B.off + lo * s,cap⟩ else E.β q }
  have NC:B.b ∉ R2:=fun h=>Nx _ h oM
  have im:∀ C7,(∀ b ∈ C7,b ≠ B.b) -> E.On E' C7:=fun C7 h=>⟨fun _ _ _ h=>h,fun b hb=>⟨setRow_other E.w B.b b _ (h b hb),fun h=>h⟩⟩
  have GS:dg G E E' (fun c=>c = B.b):={ dg.setRow G E B.b (lG cs (B.off + lo * s + n * s) news) hφ (hi.v8 oM) with φ:=rfl }
  have DW:cE E' (((rs.drop lo).take n) ++ new) (lG cs (B.off + lo * s + n * s) news) (B.off + lo * s) (R1 ++ R2):=by
   refine cE.app (Jp E' _ _ (im R1 (fun b hb e=>NB (by rw [<- e]; exact hb))) fun j hj=>?_) ?_
   ·rw [oJ Sp (.inl om)]
    have:=Ny j _ (List.getElem?_eq_getElem hj)
    obtain ⟨b,off,hb,hc⟩:=this
    rw [vQ] at hb
    simp only [Option.some.injEq,Addr.mk.injEq,and_true] at hb
    obtain ⟨rfl,rfl⟩:=hb
    rw [dq hw] at hc
    rw [hc,List.getElem?_eq_getElem hj]
   ·rw [length_flatten ((hu.drop lo).take n),vy]
    exact Nw E' _ _ (im R2 (fun b hb e=>NC (by rw [<- e]; exact hb))) fun j hj=>Bj Sp hj
  refine ⟨_,E',_,jC,hi.lF GS (o:=o) (R:=B.b :: (R1 ++ R2)) (fun b h=>by subst h; exact oM) (fun q hq=>by simp [E',hq]) (fun h=>by rw [hF] at h; cases h) ?_ ?_ ?_,?_⟩
  ·simp only [dK]
   refine ⟨hU,.inr ⟨⟨B.b,B.off + lo * s,cap⟩,_,tb,R1 ++ R2,by simp [E'],setRow_heap E.w B.b cs _ tb _ hw,hφ,by simp [vy]; omega,by rw [p5 Sp]; exact fY,DW,rfl⟩⟩
  ·refine List.nodup_cons.2 ⟨fun h=>?_,sv⟩
   rcases List.mem_append.1 h with h | h
   ·exact NB h
   ·exact NC h
  ·intro b hb
   have hs:E'.w.heap.size = E.w.heap.size:=by simp [E']
   rw [hs]
   rcases List.mem_cons.1 hb with h | h
   ·subst h; exact ⟨(hi.own _ _ oM).1,hi.v8 oM,hi.x7 (.inl oM)⟩
   ·rcases List.mem_append.1 h with h | h
    ·exact ⟨(hi.own _ _ (sw b h)).1,hi.v8 (sw b h),hi.x7 (.inl (sw b h))⟩
    ·exact ⟨(np b h).1,(np b h).2.1,fun p _=>(np b h).2.2 p⟩
  ·simp only [RX]
   exact ⟨trivial,_,cap,rfl,.inr ⟨⟨B.b,B.off + lo * s,cap⟩,by simp [E'],by simp,om,.inr (by simpa using vQ)⟩⟩
 ·-- in a new block
  let E':Env:={ E with w:=E.w.drew.alloc (.cells ((kY ++ news).toArray ++ rest) e),β:=fun q=>if q = o then some ⟨E.w.heap.size,0,um⟩ else E.β q }
  have GS:dg G E E' (fun _=>False):=by
   have h1:=(dg.drew G E).trans (dg.alloc G { E with w:=E.w.drew } (.cells ((kY ++ news).toArray ++ rest) e)) (fun _ h=>h.elim)
   exact { h1 with φ:=rfl }
  have im:∀ C7,(∀ b ∈ C7,b < E.w.heap.size) -> E.On E' C7:=fun C7 h=>⟨fun _ _ _ h=>h,fun b hb=>⟨GS.same b (h b hb) (fun h=>h),fun h=>h⟩⟩
  have nK:∀ j,j < (kY ++ news).length -> ((kY ++ news).toArray ++ rest)[0 + j]? = (kY ++ news)[j]?:=by
   intro j hj
   rw [Nat.zero_add,Array.getElem?_append_left (by simpa using hj)]
   simp
  have fY:((kY ++ news).toArray ++ rest).size = um * s:=by
   simp [Nz,ta,zG]
   have:um * s = (n + new.length) * s + (um - (n + new.length)) * s:=by rw [<- Nat.add_mul]; congr 1; omega
   rw [this,Nat.add_mul]
  have DW:cE E' (((rs.drop lo).take n) ++ new) ((kY ++ news).toArray ++ rest) 0 (R1 ++ R2):=by
   refine cE.app (Jp E' _ _ (im R1 (fun b hb=>(hi.own _ _ (sw b hb)).1)) fun j hj=>?_) ?_
   ·rw [nK j (by simp; omega),List.getElem?_append_left hj]
   ·rw [length_flatten ((hu.drop lo).take n),vy]
    refine Nw E' _ _ (im R2 (fun b hb=>(np b hb).1)) fun j hj=>?_
    have:=nK (kY.length + j) (by simp; omega)
    rw [List.getElem?_append_right om] at this
    rw [show 0 + n * s + j = 0 + (kY.length + j) by omega,this]
    congr 1; omega
  have ND:E.w.heap.size ∉ R1 ++ R2:=by
   intro h
   rcases List.mem_append.1 h with h | h
   ·have:=(hi.own _ _ (sw _ h)).1; omega
   ·have:=(np _ h).1; omega
  have Na:E'.w.heap.size = E.w.heap.size + 1:=by simp [E']
  refine ⟨_,E',_,jC,hi.lF GS (o:=o) (R:=E.w.heap.size :: (R1 ++ R2)) (fun _ h=>h.elim) (fun q hq=>by simp [E',hq]) (fun h=>by rw [hF] at h; cases h) ?_ ?_ ?_,?_⟩
  ·simp only [dK]
   refine ⟨hU,.inr ⟨⟨E.w.heap.size,0,um⟩,_,e,R1 ++ R2,by simp [E'],?_,fun i=>?_,by simp [vy]; omega,by rw [fY]; simp,DW,rfl⟩⟩
   ·have:=heap_alloc E.w.drew (.cells ((kY ++ news).toArray ++ rest) e)
    exact this
   ·show E.φ E.w.heap.size i = none
    cases h:E.φ E.w.heap.size i with
    | none=>rfl
    | some v=>exact absurd (World.block_lt_of_cell? E.w _ (hi.nM _ _ _ h)) (by simp)
  ·exact List.nodup_cons.2 ⟨ND,sv⟩
  ·intro b hb
   rw [Na]
   rcases List.mem_cons.1 hb with h | h
   ·subst h
    refine ⟨om,fun hK=>?_,hi.x7 (.inr (Nat.le_refl _))⟩
    have:=hi.small _ hK
    have:=hi.size
    omega
   ·rcases List.mem_append.1 h with h | h
    ·exact ⟨by have:=(hi.own _ _ (sw b h)).1; omega,hi.v8 (sw b h),hi.x7 (.inl (sw b h))⟩
    ·exact ⟨by have:=(np b h).1; omega,(np b h).2.1,fun p _=>(np b h).2.2 p⟩
  ·simp only [RX]
   exact ⟨trivial,_,um,rfl,.inr ⟨⟨E.w.heap.size,0,um⟩,by simp [E'],by simp,om,.inr (by simp)⟩⟩
end
end Go.AW
namespace Go.AW
open Go
section
variable {P:Program} {N:fo} {G:Ctx} {E:Env} {RR:Own -> List Nat} {st:St} {a:Act}
theorem Inv.trim(hi : Inv G E RR st a){o s lo n : Nat}{rs : List (List X)}{c : Value}(hx : RX E (.aL o s lo n) c [])(ho : look st.aF o = some (.rows s rs))(qG : lo + n ≤ rs.length)(hF : G.fn.F.elem o = false) :
  ∃ E' gG,E'.w = E.w /\ Inv G E' gG ((st.kill o).cV o (.rows s ((rs.drop lo).take n))) a /\ RX E' (.aL o s 0 n) c []:=by
 have aW:=hi.aF o _ ho
 have jB:=hi.nodup (.obj o)
 simp only [RX] at hx
 obtain ⟨_,base,cap,rfl,cU⟩:=hx
 simp only [dK] at aW
 obtain ⟨hu,aW⟩:=aW
 have hβ:∀ (bk:Option Bg),dg G E { E with β:=fun q=>if q = o then bk else E.β q } (fun _=>False):=fun _ =>
  ⟨rfl,fun _ h=>h.elim,fun _ h=>h.elim,fun _ _ _=>rfl,Nat.le_refl _,rfl,rfl,rfl⟩
 have vy:((rs.drop lo).take n).length = n:=by simp; omega
 by_cases oN:cap = 0
 ·have Ho:n = 0:=by rcases cU with ⟨_,_,h,_⟩ | ⟨_,_,_,h,_⟩ <;> omega
  subst Ho
  refine ⟨{ E with β:=fun q=>if q = o then none else E.β q },_,rfl,hi.lF (hβ none) (o:=o) (R:=[]) (fun _ h=>h.elim) (fun q hq=>by simp [hq]) (fun h=>by rw [hF] at h; cases h) ?_ List.nodup_nil (fun _ h=>by cases h),?_⟩
  ·simp only [dK]; exact ⟨fun _ h=>(by simp at h),.inl ⟨by simp,by simp,trivial⟩⟩
  ·simp only [RX]; exact ⟨trivial,base,cap,rfl,.inl ⟨by simp,trivial,trivial,oN⟩⟩
 ·rcases cU with ⟨_,_,_,h⟩ | ⟨B,hB,Nb,tD,hb⟩
  ·exact absurd h oN
  have iG:=hb.resolve_left oN
  rcases aW with ⟨h1,_⟩ | ⟨B',cs,tb,R',iU,hw,hφ,mx,fY,jS,iI⟩
  ·rw [hB] at h1; cases h1
  rw [hB] at iU
  obtain rfl:=Option.some.inj iU
  rw [iI] at jB
  obtain ⟨sy,nj⟩:=List.nodup_cons.1 jB
  obtain ⟨R1,C8,dR,C9⟩:=cE.zH hu jS qG
  have im:E.On { E with β:=fun q=>if q = o then some ⟨B.b,B.off + lo * s,cap⟩ else E.β q } R1:=⟨fun _ _ _ h=>h,fun _ _=>⟨rfl,fun h=>h⟩⟩
  refine ⟨{ E with β:=fun q=>if q = o then some ⟨B.b,B.off + lo * s,cap⟩ else E.β q },_,rfl,hi.lF (hβ (some ⟨B.b,B.off + lo * s,cap⟩)) (o:=o) (R:=B.b :: R1) (fun _ h=>h.elim) (fun q hq=>by simp [hq]) (fun h=>by rw [hF] at h; cases h) ?_ (List.nodup_cons.2 ⟨fun h=>sy (dR _ h),C9 nj⟩) ?_,?_⟩
  ·simp only [dK]
   refine ⟨(hu.drop lo).take n,.inr ⟨⟨B.b,B.off + lo * s,cap⟩,cs,tb,R1,by simp,hw,hφ,by simp [vy]; omega,?_,cE.mono _ _ _ _ im C8,rfl⟩⟩
   have:B.cap = lo + cap:=Nb.symm
   rw [this,Nat.add_mul] at fY
   simp only; omega
  ·intro b DX
   have hm:b ∈ RR (.obj o):=by
    rw [iI]
    rcases List.mem_cons.1 DX with h | h
    ·simp [h]
    ·simp [dR b h]
   exact ⟨(hi.own _ _ hm).1,hi.v8 hm,hi.x7 (.inl hm)⟩
  ·simp only [RX]
   exact ⟨trivial,base,cap,rfl,.inr ⟨⟨B.b,B.off + lo * s,cap⟩,by simp,by simp,tD,.inr (by simpa using iG)⟩⟩
theorem Sh.trim{d o s lo n : Nat}{rs : List (List X)}(hx : look st.aE d = some (.aL o s lo n))(ho : look st.aF o = some (.rows s rs))(qG : lo + n ≤ rs.length)(hF : N.F.elem o = false) :
  Sh N st (((st.kill o).cV o (.rows s ((rs.drop lo).take n))).put d (.aL o s 0 n)):=by
 intro G hn a w hh
 obtain ⟨E,RR,rfl,hi⟩:=hh
 have hv:=hi.aE d _ hx
 have h0:RR (.slot d) = []:=RX.free (x:=.aL o s lo n) rfl hv
 rw [h0] at hv
 obtain ⟨E',gG,hw,h1,h2⟩:=hi.trim hv ho qG (by rw [hn]; exact hF)
 exact ⟨E',_,hw,h1.relabel h2 List.nodup_nil (fun _ h=>by cases h)⟩
theorem Inv.nil(hi:Inv G E RR st a)(o s:Nat)(hF:G.fn.F.elem o = false):∃ E' gG,E'.w = E.w /\ Inv G E' gG ((st.kill o).cV o (.rows s [])) a /\ RX E' (.aL o s 0 0) (.slice none 0 0) []:=by
 have hβ:dg G E { E with β:=fun q=>if q = o then none else E.β q } (fun _=>False) :=
  ⟨rfl,fun _ h=>h.elim,fun _ h=>h.elim,fun _ _ _=>rfl,Nat.le_refl _,rfl,rfl,rfl⟩
 refine ⟨{ E with β:=fun q=>if q = o then none else E.β q },_,rfl,hi.lF hβ (o:=o) (R:=[]) (fun _ h=>h.elim) (fun q hq=>by simp [hq]) (fun h=>by rw [hF] at h; cases h) ?_ List.nodup_nil (fun _ h=>by cases h),?_⟩
 ·simp only [dK]; exact ⟨fun _ h=>(by cases h),.inl ⟨by simp,trivial,trivial⟩⟩
 ·simp only [RX]; exact ⟨trivial,none,0,rfl,.inl ⟨by simp,by trivial,by trivial,by trivial⟩⟩
theorem Sh.nil{d:Nat}(o s:Nat)(hx:look st.aE d = some (.v (.slice none 0 0)))(hF:N.F.elem o = false):Sh N st (((st.kill o).cV o (.rows s [])).put d (.aL o s 0 0)):=by
 intro G hn a w hh
 obtain ⟨E,RR,rfl,hi⟩:=hh
 have hv:=hi.aE d _ hx
 simp only [RX] at hv
 obtain ⟨E',gG,hw,h1,h2⟩:=hi.nil o s (by rw [hn]; exact hF)
 refine ⟨E',_,hw,h1.relabel (d:=d) (by rw [hv.1]; exact h2) List.nodup_nil (fun _ h=>by cases h)⟩
theorem Sh.Sq{d:Nat}(s:Nat)(hx:look st.aE d = some (.v (.slice none 0 0))):Sh N st (st.put d (.fz s [])):=by
 intro G hn a w hh
 obtain ⟨E,RR,rfl,hi⟩:=hh
 have hv:=hi.aE d _ hx
 simp only [RX] at hv
 refine ⟨E,_,rfl,hi.relabel (d:=d) (R:=[]) ?_ List.nodup_nil (fun _ h=>by cases h)⟩
 rw [hv.1]
 simp only [RX]
 exact ⟨trivial,fun _ h=>(by cases h),none,0,rfl,.inl ⟨by trivial,by trivial⟩⟩
theorem Sh.v9{d:Nat}(s:Nat)(hx:look st.aE d = some (.v (.slice none 0 0))):Sh N st (st.put d (.dH s [])):=by
 intro G hn a w hh
 obtain ⟨E,RR,rfl,hi⟩:=hh
 have hv:=hi.aE d _ hx
 simp only [RX] at hv
 refine ⟨E,_,rfl,hi.relabel (d:=d) (R:=[]) ?_ List.nodup_nil (fun _ h=>by cases h)⟩
 rw [hv.1]
 simp only [RX]
 exact ⟨fun _ h=>(by cases h),none,0,rfl,.inl ⟨by trivial,by trivial,by trivial⟩⟩
theorem oy{t e s de ty n cap : Nat}{base b2 : Option Addr}{c2 : Nat}(ht : TY.slice P t = some (e, s, de))(hc : n ≤ cap)(w : World) :
  (Builtin.append_ #[t,t] ty #[.slice base n cap,.slice b2 0 c2]).run P w = .ok (.slice base n cap) w:=by
 obtain ⟨hu,i,iV,hs,Jl⟩:=TY.dT ht
 have h0:∀ a:Addr,(storeCells a []).run P w = .ok () w:=fun _=>rfl
 cases b2 with
 | none =>
  cases base with
  | none=>simp [Builtin.append_,run_underlying hu,sizeOf,typeInfo,iV,Builtin.lenOf,hc,Builtin.firstCells]
  | some b=>simp [Builtin.append_,run_underlying hu,sizeOf,typeInfo,iV,Builtin.lenOf,hc,Builtin.firstCells,h0]
 | some b' =>
  have hl:∀ a:Addr,(loadCells a 0).run P w = .ok #[] w:=fun _=>rfl
  cases base with
  | none=>simp [Builtin.append_,run_underlying hu,sizeOf,typeInfo,iV,Builtin.lenOf,hc,Builtin.firstCells,hl]
  | some b=>simp [Builtin.append_,run_underlying hu,sizeOf,typeInfo,iV,Builtin.lenOf,hc,Builtin.firstCells,h0,hl]
variable {Q:Exit -> St -> Prop} {all:Array Oper} {rest:List Oper} {d:Nat} {ty:TypeId} {pos:String} {af:Array Edge}
theorem jD{x y : Operand}{t : Nat}{w w' : World}{u : Value}(h : (Builtin.append_ #[t, t] ty #[a.eval x, a.eval y]).run P w = .ok u w') :
  (execOp a.eval ⟨some d,.call ⟨.builtin .append,#[x,y],#[t,t]⟩,ty,pos,af,none⟩).run P w = .ok (.value u) w':=by
 refine iu (g:=none) ?_
 have e:(#[x,y]:Array Operand).map a.eval = #[a.eval x,a.eval y]:=by simp
 rw [e]
 exact eb h
theorem aQ.append{t e s de tv : Nat}{z : List Value}{x : Operand}{o lo n : Nat}{rs new : List (List X)}(ht : TY.slice P t = some (e, s, de))(hz : TY.zero P e = some z)(sZ : Nat.beq z.length s = true)
  (hy:look st.aE tv = some (.dH s new)) (hx:bV (st.put tv .no) x = some (.aL o s lo n)) (ho:look st.aF o = some (.rows s rs)) (qG:lo + n <= rs.length)
  (sx:(n + new.length) * de <= 140737488355328) (DA:n + new.length <= 4611686018427387904) (hF:N.F.elem o = false) (hd:d < N.n)
  (k:aQ P N all rest (((((st.put tv .no).kill o).cV o (.rows s (((rs.drop lo).take n) ++ new)))).put d (.aL o s 0 (n + new.length))) Q) :
  aQ P N all (⟨some d,.call ⟨.builtin .append,#[x,.tmp tv],#[t,t]⟩,ty,pos,af,none⟩ :: rest) st Q:=by
 refine aQ.DQ (fun G E RR a hn hi=>?_) k
 have hv:=hi.aE tv _ hy
 have mw:=hi.no tv
 obtain ⟨R,C5⟩:=mw.eval hx
 have h0:R = []:=RX.free (x:=.aL o s lo n) rfl C5
 subst h0
 have NF:G.fn.F.elem o = false:=by rw [hn]; exact hF
 by_cases hm:0 < new.length
 ·obtain ⟨R2,DV,dR,jB⟩:=Src.Nu hv hm
  obtain ⟨u,E',gG,jC,h1,h2⟩:=mw.append (ty:=ty) ht hz (Nat.eq_of_beq_eq_true sZ) C5 ho qG DV hm (jB (hi.nodup _)) (fun b hb=>by
   have iG:=dR b hb
   refine ⟨(hi.own _ _ iG).1,(hi.own _ _ iG).2,fun p hp=>?_⟩
   unfold fI at hp
   split at hp
   ·cases hp
   ·rename_i h; exact hi.apart _ _ h b hp iG) sx DA NF
  exact ⟨u,E',_,jD jC,h1.iT (by rw [hn]; exact hd) h2⟩
 ·have oI:new = []:=List.eq_nil_of_length_eq_zero om
  subst oI
  obtain ⟨E',gG,hw,h1,h2⟩:=mw.trim C5 ho qG NF
  simp only [List.append_nil,List.length_nil,Nat.add_zero]
  refine ⟨a.eval x,E',_,?_,h1.iT (by rw [hn]; exact hd) h2⟩
  rw [hw]
  refine jD ?_
  simp only [RX] at C5 hv
  obtain ⟨_,base,cap,hc,cU⟩:=C5
  obtain ⟨_,b2,c2,Sr,_⟩:=hv
  have Ss:a.eval (.tmp tv) = .slice b2 0 c2:=Sr
  rw [hc,Ss]
  exact oy ht (by rcases cU with ⟨_,_,h3,h4⟩ | ⟨_,_,_,h3,_⟩ <;> omega) E.w
theorem aQ.Hp{t e s de : Nat}{z : List Value}{x y : Operand}{o lo n : Nat}{rs new : List (List X)}(ht : TY.slice P t = some (e, s, de))(hz : TY.zero P e = some z)(sZ : Nat.beq z.length s = true)
  (hy:bV st y = some (.fz s new)) (hx:bV st x = some (.aL o s lo n)) (ho:look st.aF o = some (.rows s rs)) (qG:lo + n <= rs.length)
  (sx:(n + new.length) * de <= 140737488355328) (DA:n + new.length <= 4611686018427387904) (hF:N.F.elem o = false) (hd:d < N.n)
  (k:aQ P N all rest ((((st.kill o).cV o (.rows s (((rs.drop lo).take n) ++ new)))).put d (.aL o s 0 (n + new.length))) Q) :
  aQ P N all (⟨some d,.call ⟨.builtin .append,#[x,y],#[t,t]⟩,ty,pos,af,none⟩ :: rest) st Q:=by
 refine aQ.DQ (fun G E RR a hn hi=>?_) k
 obtain ⟨R',hv⟩:=hi.eval hy
 obtain ⟨R,C5⟩:=hi.eval hx
 have h0:R = []:=RX.free (x:=.aL o s lo n) rfl C5
 subst h0
 have NF:G.fn.F.elem o = false:=by rw [hn]; exact hF
 by_cases hm:0 < new.length
 ·have DV:=Src.Sj hi hv hm
  obtain ⟨u,E',gG,jC,h1,h2⟩:=hi.append (ty:=ty) ht hz (Nat.eq_of_beq_eq_true sZ) C5 ho qG DV hm List.nodup_nil (fun _ h=>by cases h) sx DA NF
  exact ⟨u,E',_,jD jC,h1.iT (by rw [hn]; exact hd) h2⟩
 ·have oI:new = []:=List.eq_nil_of_length_eq_zero om
  subst oI
  obtain ⟨E',gG,hw,h1,h2⟩:=hi.trim C5 ho qG NF
  simp only [List.append_nil,List.length_nil,Nat.add_zero]
  refine ⟨a.eval x,E',_,?_,h1.iT (by rw [hn]; exact hd) h2⟩
  rw [hw]
  refine jD ?_
  simp only [RX] at C5 hv
  obtain ⟨_,base,cap,hc,cU⟩:=C5
  obtain ⟨_,_,b2,c2,Sr,_⟩:=hv
  rw [hc,Sr]
  exact oy ht (by rcases cU with ⟨_,_,h3,h4⟩ | ⟨_,_,_,h3,_⟩ <;> omega) E.w
end
end Go.AW
namespace Go.AW
open Go
def dU{α : Type} : Nat → List α → List (Nat × α)
 | _,[]=>[]
 | i,x :: r=>(i,x) :: dU (i + 1) r
theorem uo{α : Type} : ∀ (l : List α) (i s : Nat), look (dU i l) s = if i ≤ s then l[s - i]? else none
 | [],i,s=>by simp [dU,look]
 | x :: r,i,s=>by
  simp only [dU,look]
  cases hb:Nat.beq i s with
  | true=>have:=Nat.eq_of_beq_eq_true hb; subst this; simp
  | false =>
   have fH:=Nat.ne_of_beq_eq_false hb
   simp only [cond_false]
   rw [uo r (i + 1) s]
   by_cases h:i <= s
   ·rw [if_pos h,if_pos om,show s - i = (s - (i + 1)) + 1 by omega]; simp
   ·rw [if_neg h,if_neg om]
theorem iv{α:Type}(l:List α)(s:Nat):look (dU 0 l) s = l[s]?:=by
 rw [uo]; simp
def r3(K:Nat -> Prop)(E:Env)(fn:fo):Ctx:=⟨K,E.w,E.φ,E.β,fn,[]⟩
def aw(P:Program)(f:FuncId)(args:List X)(aF:List Obj)(F:List Nat)(Q:X -> List Obj -> Prop):Prop :=
 ∀ (K : Nat → Prop) (E : Env) (RR : Own → List Nat) (dy : Array Value), Inv (r3 K E ⟨args.length, F⟩) E RR ⟨dU 0 args, dU 0 aF⟩ ⟨dy, []⟩ →
  Calls P f dy E.w fun e w'=>∃ v r aJ,e = .returned v /\ Q r aJ /\ aJ.length = aF.length /\ ∃ E' gG,E'.w = w' /\ Inv (r3 K E ⟨1,F⟩) E' gG ⟨[(0,r)],dU 0 aJ⟩ ⟨#[v],[]⟩
theorem aw.mono{P:Program}{f:FuncId}{args:List X}{aF:List Obj}{F:List Nat}{Q Q':X -> List Obj -> Prop}(h:aw P f args aF F Q)(hq:∀ r o,Q r o -> Q' r o):aw P f args aF F Q' :=
 fun K E RR dy hi=>Calls.mono (h K E RR dy hi) fun _ _ ⟨v,r,aJ,he,hQ,hl,hx⟩=>⟨v,r,aJ,he,hq _ _ hQ,hl,hx⟩
def wK(P : Program)(st : St) : ResultVar → Option X
 | .tmp t=>look st.aE t
 | .cell a t=>match look st.aE a with
  | some p=>match rowAt st p with
   | some row=>match TY.shape P t with
    | some none=>match row[mR p]? with
     | some y=>bif y.free then some y else none
     | none=>none
    | some (some m)=>bif Nat.ble (mR p + m) row.length && X.bu ((row.drop (mR p)).take m) then some (.agg ((row.drop (mR p)).take m)) else none
    | none=>none
   | none=>none
  | none=>none
def lH(P : Program)(st : St) : List ResultVar → Option (List X)
 | []=>some []
 | r :: rs=>match wK P st r,lH P st rs with
  | some x,some xs=>some (x :: xs)
  | _,_=>none
def jE : List ResultVar → List Nat
 | []=>[]
 | .tmp t :: r=>t :: jE r
 | .cell _ _ :: r=>jE r
def r4 : List X → X
 | [x]=>x
 | xs=>.tup xs
section
variable {P:Program} {N:fo} {G:Ctx} {E:Env} {RR:Own -> List Nat} {st:St} {a:Act}
def qH(tmps:Array Value)(rv:ResultVar):Sem Value :=
 match rv with
 | .tmp t=>pure (tmps.getD t undef)
 | .cell a t=>do loadVar t (<- asAddr (tmps.getD a undef))
theorem Hq(hi : Inv G E RR st a){rv : ResultVar}{x : X}(h : wK P st rv = some x) :
  ∃ c R,(qH a.tmps rv).run P E.w = .ok c E.w /\ RX E x c R /\ ((∃ t,rv = .tmp t /\ R = RR (.slot t)) \/ R = []):=by
 cases rv with
 | tmp t=>exact ⟨_,_,rfl,hi.aE t x h,.inl ⟨t,rfl,rfl⟩⟩
 | cell ad t =>
  simp only [wK] at h
  cases hp:look st.aE ad with
  | none=>simp [hp] at h
  | some p =>
   rw [hp] at h
   simp only at h
   cases qE:rowAt st p with
   | none=>simp [qE] at h
   | some row =>
    rw [qE] at h
    simp only at h
    obtain ⟨b,off,hc,j9⟩:=hi.behind (hi.aE ad p hp) qE
    cases hs:TY.shape P t with
    | none=>simp [hs] at h
    | some sh =>
     rw [hs] at h
     cases sh with
     | none =>
      simp only at h
      cases hk:row[mR p]? with
      | none=>simp [hk] at h
      | some y =>
       rw [hk] at h
       simp only at h
       cases hf:y.free with
       | false=>simp [hf] at h
       | true =>
        rw [hf] at h
        simp only [cond_true,Option.some.injEq] at h
        subst h
        have DY:mR p < row.length:=by
         rcases Nat.lt_or_ge (mR p) row.length with h' | h'
         ·exact h'
         ·simp [List.getElem?_eq_none h'] at hk
        obtain ⟨vs,R',hl,hv,gN⟩:=j9 (mR p) 1 om
        rw [getElem?_drop_take_one hk] at gN
        simp only [b6] at gN
        obtain ⟨c,dp,R₁,R₂,Kk,_,h1,⟨rfl,rfl⟩,rfl⟩:=gN
        subst Kk
        have h0:=RX.free hf h1
        subst h0
        refine ⟨c,[],?_,h1,.inr rfl⟩
        have jA:=hv 0 c rfl
        simp only [Nat.add_zero] at jA
        simp [qH,hc,asAddr,loadVar,(TY.kb hs E.w).1,jA]
     | some m =>
      simp only at h
      cases hb:Nat.ble (mR p + m) row.length && X.bu ((row.drop (mR p)).take m) with
      | false=>simp [hb] at h
      | true =>
       rw [hb] at h
       simp only [cond_true,Option.some.injEq] at h
       subst h
       simp only [Bool.and_eq_true] at hb
       obtain ⟨vs,R',hl,hv,gN⟩:=j9 (mR p) m (Nat.le_of_ble_eq_true hb.1)
       have h0:=b6.free hb.2 gN
       subst h0
       refine ⟨.agg vs.toArray,[],?_,by simp only [RX]; exact ⟨_,rfl,gN⟩,.inr rfl⟩
       obtain ⟨h1,h2⟩:=TY.nP hs E.w
       have h3:(loadCells ⟨b,off + mR p,none⟩ m).run P E.w = .ok vs.toArray E.w:=by
        rw [<- hl]
        exact run_loadCells_list (w:=E.w) _ vs fun j v hj=>by rw [iH,Nat.add_assoc]; exact hv j v hj
       simp [qH,hc,asAddr,loadVar,h1,h2,h3]
theorem wM(hi : Inv G E RR st a) : ∀ {q3 : List ResultVar} {xs : List X}, lH P st q3 = some xs → (jE q3).Nodup →
  ∃ cs R,(q3.mapM (qH a.tmps)).run P E.w = .ok cs E.w /\ eV E xs cs R /\ R.Nodup /\ (∀ b ∈ R,∃ t ∈ jE q3,b ∈ RR (.slot t))
 | [],xs,h,_=>by
  simp only [lH,Option.some.injEq] at h
  subst h
  exact ⟨[],[],rfl,by simp [eV],List.nodup_nil,fun _ h=>by cases h⟩
 | rv :: q3,xs,h,hn=>by
  simp only [lH] at h
  cases h1:wK P st rv with
  | none=>simp [h1] at h
  | some x =>
   cases h2:lH P st q3 with
   | none=>simp [h1,h2] at h
   | some ys =>
    rw [h1,h2] at h
    simp only [Option.some.injEq] at h
    subst h
    have tD:(jE q3).Nodup:=by
     cases rv with
     | tmp t=>exact (List.nodup_cons.1 hn).2
     | cell _ _=>exact hn
    obtain ⟨c,R1,Ye,Wm,sw⟩:=Hq hi h1
    obtain ⟨cs,R2,QX,Su,xE,xD⟩:=wM hi h2 tD
    refine ⟨c :: cs,R1 ++ R2,?_,?_,?_,?_⟩
    ·rw [List.mapM_cons]
     refine kE Ye ?_
     refine kE QX rfl
    ·simp only [eV]; exact ⟨c,cs,R1,R2,rfl,Wm,Su,rfl⟩
    ·rcases sw with ⟨t,rfl,rfl⟩ | rfl
     ·rw [List.nodup_append]
      refine ⟨hi.nodup _,xE,fun b hb b' iG e=>?_⟩
      subst e
      obtain ⟨t',Sv,DX⟩:=xD b iG
      have fH:t ≠ t':=fun e=>by subst e; exact (List.nodup_cons.1 hn).1 Sv
      exact hi.apart (.slot t) (.slot t') (by simpa using fH) b hb DX
     ·simpa using xE
    ·intro b hb
     rcases List.mem_append.1 hb with hb | hb
     ·rcases sw with ⟨t,rfl,rfl⟩ | rfl
      ·exact ⟨t,by simp [jE],hb⟩
      ·cases hb
     ·obtain ⟨t,ht,iG⟩:=xD b hb
      refine ⟨t,?_,iG⟩
      cases rv with
      | tmp t'=>exact List.mem_cons.2 (.inr ht)
      | cell _ _=>exact ht
def lz(l : List (Nat × Obj)) : Nat → Nat → Option (List Obj)
 | _,0=>some []
 | i,k + 1=>match look l i,lz l (i + 1) k with
  | some ob,some r=>some (ob :: r)
  | _,_=>none
theorem nQ : ∀ {l : List (Nat × Obj)} {k i : Nat} {r : List Obj}, lz l i k = some r → r.length = k ∧ ∀ j, j < k → look l (i + j) = r[j]?
 | _,0,_,r,h=>by simp only [lz,Option.some.injEq] at h; subst h; exact ⟨rfl,fun j hj=>by omega⟩
 | l,k + 1,i,r,h=>by
  simp only [lz] at h
  cases h1:look l i with
  | none=>simp [h1] at h
  | some ob =>
   cases h2:lz l (i + 1) k with
   | none=>simp [h1,h2] at h
   | some r' =>
    rw [h1,h2] at h
    simp only [Option.some.injEq] at h
    subst h
    obtain ⟨hl,hg⟩:=nQ h2
    refine ⟨by simp [hl],fun j hj=>?_⟩
    cases j with
    | zero=>simpa using h1
    | succ j =>
     have:=hg j om
     rw [show i + (j + 1) = i + 1 + j by omega,this]; simp
def Ends(P : Program)(q3 : List ResultVar)(k : Nat)(Q : X → List Obj → Prop) : Exit → St → Prop
 | .normal,st | .ret,st=>∃ xs aJ,lH P st q3 = some xs /\ lz st.aF 0 k = some aJ /\ Q (r4 xs) aJ
 | _,_=>False
theorem Inv.enter{fn : Func}{args : List X}{aF : List Obj}{F : List Nat}{n : Nat}{K : Nat → Prop}{E : Env}{RR : Own → List Nat}{dy : Array Value}(hn : fn.ntmps = n)(hle : args.length ≤ n)(hi : Inv (r3 K E ⟨args.length, F⟩) E RR ⟨dU 0 args, dU 0 aF⟩ ⟨dy, []⟩) :
  Inv (r3 K E ⟨n,F⟩) E RR ⟨dU 0 args,dU 0 aF⟩ ⟨dy ++ Array.replicate (fn.ntmps - dy.size) undef,[]⟩:=by
 have tE:dy.size = args.length:=hi.tmps
 refine { hi with aE:=?_,tmps:=?_,defers:=rfl }
 ·intro s x hx
  have h0:=hi.aE s x hx
  have hs:s < dy.size:=by
   rw [tE]
   have j8:look (dU 0 args) s = some x:=hx
   rw [iv] at j8
   rcases Nat.lt_or_ge s args.length with h' | h'
   ·exact h'
   ·simp [List.getElem?_eq_none h'] at j8
  have:(dy ++ Array.replicate (fn.ntmps - dy.size) undef).getD s undef = dy.getD s undef:=by
   simp only [Array.getD_eq_getD_getElem?,Array.getElem?_append_left hs]
  show RX E x ((dy ++ Array.replicate (fn.ntmps - dy.size) undef).getD s undef) (RR (.slot s))
  rw [this]; exact h0
 ·show (dy ++ Array.replicate (fn.ntmps - dy.size) undef).size = n
  simp; omega
theorem DZ{fn : Func}{aF : List Obj}{F : List Nat}{Q : X → List Obj → Prop}{n : Nat}{q3 : List ResultVar}{K : Nat → Prop}{E E' : Env}{gG : Own → List Nat}{st : St}{a : Act}(hr : fn.results.toList = q3)(jB : (jE q3).Nodup)(h1 : Inv (r3 K E ⟨n, F⟩) E' gG st a) :
  (∃ xs aJ, lH P st q3 = some xs ∧ lz st.aF 0 aF.length = some aJ ∧ Q (r4 xs) aJ) → a.defers = [] ∧ ∃ v, (results fn a.tmps).run P E'.w = .ok v E'.w ∧
   ∃ v' r aJ,Ending.returned v = .returned v' /\ Q r aJ /\ aJ.length = aF.length /\ ∃ m8 uq,m8.w = E'.w /\ Inv (r3 K E ⟨1,F⟩) m8 uq ⟨[(0,r)],dU 0 aJ⟩ ⟨#[v'],[]⟩:=by
 rintro ⟨xs,aJ,Ea,kG,hQ⟩
 obtain ⟨hlen,Eb⟩:=nQ kG
 have kF:∀ j,j < aF.length -> look st.aF j = aJ[j]?:=fun j hj=>by have:=Eb j hj; rwa [Nat.zero_add] at this
 refine ⟨h1.defers,?_⟩
 obtain ⟨cs,R,jC,hx,Kz,QY⟩:=wM h1 Ea jB
 have ur:(results fn a.tmps).run P E'.w = .ok (if h:cs.toArray.size = 1 then cs.toArray[0] else .tuple cs.toArray) E'.w:=by
  have e:results fn a.tmps = (do let vs <- fn.results.mapM (qH a.tmps); Pure.pure (if h:vs.size = 1 then vs[0] else .tuple vs):Sem Value):=rfl
  rw [e,show fn.results = q3.toArray by rw [<- hr]]
  refine kE (u:=cs.toArray) ?_ rfl
  rw [List.mapM_toArray]
  simp only [Sem.run_map,jC]
  rfl
 refine ⟨_,ur,_,r4 xs,aJ,rfl,hQ,hlen,?_⟩
 have Sw:RX E' (r4 xs) (if h:cs.toArray.size = 1 then cs.toArray[0] else .tuple cs.toArray) R:=by
  cases xs with
  | nil =>
   simp only [eV] at hx
   obtain ⟨rfl,rfl⟩:=hx
   simp only [r4,RX]
   exact ⟨#[],by simp,by simp [eV]⟩
  | cons x xs =>
   cases xs with
   | nil =>
    simp only [eV] at hx
    obtain ⟨c,dp,R₁,R₂,rfl,h1,⟨rfl,rfl⟩,rfl⟩:=hx
    simpa [r4] using h1
   | cons y ys =>
    have j8:=hx
    simp only [eV] at hx
    obtain ⟨c,dp,R₁,R₂,rfl,_,⟨c',K0,R₃,R₄,rfl,_⟩,_⟩:=hx
    simp only [r4,RX]
    exact ⟨(c :: c' :: K0).toArray,by simp,by simpa using j8⟩
 let pU:Own -> List Nat:=fun p=>match p with
  | .slot s=>if s = 0 then R else []
  | .obj o=>if o < aF.length then gG (.obj o) else []
 have nK:∀ p b,b ∈ pU p -> ∃ q,b ∈ gG q /\ ((∃ o,p = .obj o /\ q = .obj o) \/ (p = .slot 0 /\ ∃ t,q = .slot t)):=by
  intro p b hb
  cases p with
  | slot s =>
   by_cases hs:s = 0
   ·subst hs
    simp only [pU,if_true] at hb
    obtain ⟨t,_,ht⟩:=QY b hb
    exact ⟨.slot t,ht,.inr ⟨rfl,t,rfl⟩⟩
   ·simp [pU,hs] at hb
  | obj o =>
   by_cases ho:o < aF.length
   ·simp only [pU,ho,if_true] at hb
    exact ⟨.obj o,hb,.inl ⟨o,rfl,rfl⟩⟩
   ·simp [pU,ho] at hb
 refine ⟨E',pU,rfl,{ h1 with aE:=?_,aF:=?_,nodup:=?_,apart:=?_,own:=?_,tmps:=?_,defers:=rfl }⟩
 ·intro s x j8
  simp only [look] at j8
  cases xu:Nat.beq 0 s with
  | false=>simp [xu] at j8
  | true =>
   have:=Nat.eq_of_beq_eq_true xu
   subst this
   simp only [xu,cond_true,Option.some.injEq] at j8
   subst j8
   simpa [pU] using Sw
 ·intro o ob ho
  have nJ:look (dU 0 aJ) o = some ob:=ho
  rw [iv] at nJ
  have gQ:o < aF.length:=by
   rcases Nat.lt_or_ge o aF.length with h' | h'
   ·exact h'
   ·rw [List.getElem?_eq_none om] at nJ; cases nJ
  have:=h1.aF o ob (by rw [kF o gQ]; exact nJ)
  simpa [pU,gQ] using this
 ·intro p
  cases p with
  | slot s=>by_cases hs:s = 0 <;> simp [pU,hs,Kz]
  | obj o=>by_cases ho:o < aF.length <;> simp [pU,ho,h1.nodup]
 ·intro p q nO b hb iG
  obtain ⟨p',Jq,Sx⟩:=nK p b hb
  obtain ⟨q',C6,NG⟩:=nK q b iG
  have fH:p' ≠ q':=by
   rcases Sx with ⟨o,rfl,rfl⟩ | ⟨rfl,t,rfl⟩
   ·rcases NG with ⟨o',rfl,rfl⟩ | ⟨rfl,t',rfl⟩
    ·exact nO
    ·simp
   ·rcases NG with ⟨o',rfl,rfl⟩ | ⟨rfl,t',rfl⟩
    ·simp
    ·exact absurd rfl nO
  exact h1.apart p' q' fH b Jq C6
 ·intro p b hb
  obtain ⟨q,C6,_⟩:=nK p b hb
  exact h1.own q b C6
 ·rfl
theorem aw.of{f : FuncId}{fn : Func}{c : Code}{args : List X}{aF : List Obj}{F : List Nat}{Q : X → List Obj → Prop}{n : Nat}{q3 : List ResultVar}(hf : P.funcs[f]? = some fn)(hb : fn.body = some c)(hn : fn.ntmps = n)(hr : fn.results.toList = q3)
  (jB:(jE q3).Nodup) (hle:args.length <= n) (h:dx P ⟨n,F⟩ c ⟨dU 0 args,dU 0 aF⟩ (Ends P q3 aF.length Q)):aw P f args aF F Q:=by
 intro K E RR dy hi
 refine calls_of_wp hf hb ?_
 refine wp_mono (h (r3 K E ⟨n,F⟩) rfl _ _ ⟨E,RR,rfl,hi.enter hn hle⟩) ?_
 rintro e a w ⟨st,⟨E',gG,rfl,h1⟩,hq⟩
 have key:=DZ (P:=P) (aF:=aF) (Q:=Q) hr jB h1
 cases e with
 | normal=>exact key hq
 | ret=>exact key hq
 | _=>exact hq.elim
end
end Go.AW
