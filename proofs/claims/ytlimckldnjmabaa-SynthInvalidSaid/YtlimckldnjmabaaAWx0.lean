/- Part of the abstract walk: values as trees, objects by name, and what they say of the model's values and memory. -/
import Derived.WalkKit
set_option linter.unusedSimpArgs false
set_option linter.unusedVariables false
set_option linter.unusedSectionVars false
namespace Go.AW
open Go
theorem U.{u}{α:Sort u}{a:α}:a = a:=rfl
theorem om{p:Prop}(h:p:=by omega):p:=h
theorem au{p:Prop}(h:p:=by kernel_rfl):p:=h
theorem ab{p:Prop}(h:p:=by decide):p:=h
theorem bO{p:Prop}(h:p:=by assumption):p:=h
theorem Zm{p:Prop}(h:p:=by (simp only [List.length_append,List.length_cons,List.length_nil]; omega)):p:=h
theorem j1{p:Prop}(h:p:=by first | rfl | simp_all):p:=h
theorem aY{p:Prop}(h:p:=by first | rfl | omega):p:=h
theorem aJ{p:Prop}(h:p:=by first | omega | simp [-List.getD_eq_getElem?_getD] <;> omega):p:=h
theorem pP{p:Prop}(h:p:=by first | omega | (simp [-List.getD_eq_getElem?_getD]; done) | (simp [-List.getD_eq_getElem?_getD]; omega)):p:=h
theorem ov{p:Prop}(h:p:=by (constructor <;> (simp only [List.length_append,List.length_cons,List.length_nil]; omega))):p:=h
inductive X where
 | v (u:Value)
 | no
 | fz (s:Nat) (rows:List (List X))
 | dK (s:Nat) (rows:List (List X))
 | ptr (o s i k:Nat)
 | aN (o s lo n:Nat)
 | mref (o:Nat)
 | fp (row:List X) (k:Nat)
 | agg (xs:List X)
 | tup (xs:List X)
 | jQ (fn:Fn) (first rV:List X)
mutual
def X.nr : X → Bool
 | .v _ | .no | .fz .. | .dK .. | .fp ..=>true
 | .ptr .. | .aN .. | .mref _=>false
 | .agg xs=>X.iH xs
 | .tup xs=>X.iH xs
 | .jQ _ a b=>X.iH a && X.iH b
def X.iH : List X → Bool
 | []=>true
 | x :: r=>x.nr && X.iH r
end
mutual
def X.eM(o : Nat) : X → Bool
 | .v _ | .no | .fz .. | .dK .. | .fp ..=>false
 | .ptr p ..=>Nat.beq p o
 | .aN p ..=>Nat.beq p o
 | .mref p=>Nat.beq p o
 | .agg xs=>X.ct o xs
 | .tup xs=>X.ct o xs
 | .jQ _ a b=>X.ct o a || X.ct o b
def X.ct(o : Nat) : List X → Bool
 | []=>false
 | x :: r=>x.eM o || X.ct o r
end
mutual
def X.free : X → Bool
 | .v _ | .no | .fz .. | .ptr .. | .aN .. | .mref _ | .fp .. | .jQ ..=>true
 | .dK ..=>false
 | .agg xs=>X.b6 xs
 | .tup xs=>X.b6 xs
def X.b6 : List X → Bool
 | []=>true
 | x :: r=>x.free && X.b6 r
end
structure AX where
 b:Nat
 off:Nat
 cap:Nat
abbrev Fz:=Nat -> Nat -> Option Value
structure Env where
 φ:Fz
 β:Nat -> Option AX
 w:World
def jW : Value → Prop
 | .agg _ | .tuple _=>False
 | _=>True
def cA(s:Nat)(rows:List (List X)):Prop:=∀ r ∈ rows,r.length = s
mutual
def RX(E : Env) : X → Value → List Nat → Prop
 | .v u,c,R=>c = u /\ R = []
 | .no,_,R=>R = []
 | .fz s rows, c, R => R = [] ∧ cA s rows ∧ ∃ base cap, c = .slice base rows.length cap ∧
   ((rows = [] /\ cap = 0) \/ ∃ b off,base = some ⟨b,off,none⟩ /\ rows.length <= cap /\ kT E rows b off)
 | .dK s rows, c, R => cA s rows ∧ ∃ base cap, c = .slice base rows.length cap ∧
   ((rows = [] ∧ cap = 0 ∧ R = []) ∨ ∃ b off cs ty R', base = some ⟨b, off, none⟩ ∧ E.w.heap[b]? = some (.cells cs ty (0, 0)) ∧
    rows.length <= cap /\ off + cap * s <= cs.size /\ (∀ i,E.φ b i = none) /\ cG E rows cs off R' /\ R = b :: R')
 | .ptr o s i k,c,R=>R = [] /\ ∃ B,E.β o = some B /\ c = .pointer (some ⟨B.b,B.off + (i * s + k),none⟩)
 | .aN o s lo n, c, R => R = [] ∧ ∃ base cap, c = .slice base n cap ∧
   ((E.β o = none /\ lo = 0 /\ n = 0 /\ cap = 0) \/ ∃ B,E.β o = some B /\ lo + cap = B.cap /\ n <= cap /\ (cap = 0 \/ base = some ⟨B.b,B.off + lo * s,none⟩))
 | .mref o,c,R=>R = [] /\ ∃ B,E.β o = some B /\ c = .map (some B.b)
 | .fp row k,c,R=>R = [] /\ ∃ b off,c = .pointer (some ⟨b,off + k,none⟩) /\ RF E row b off
 | .agg xs,c,R=>∃ cs,c = .agg cs /\ bA E xs cs.toList R
 | .tup xs,c,R=>∃ cs,c = .tuple cs /\ eT E xs cs.toList R
 | .jQ fn first rV,c,R=>R = [] /\ ∃ f cc,c = .func fn f cc /\ eT E first f.toList [] /\ eT E rV cc.toList []
def bA(E : Env) : List X → List Value → List Nat → Prop
 | [],cs,R=>cs = [] /\ R = []
 | x :: r,cs,R=>∃ c dv R₁ R₂,cs = c :: dv /\ jW c /\ RX E x c R₁ /\ bA E r dv R₂ /\ R = R₁ ++ R₂
def eT(E : Env) : List X → List Value → List Nat → Prop
 | [],cs,R=>cs = [] /\ R = []
 | x :: r,cs,R=>∃ c dv R₁ R₂,cs = c :: dv /\ RX E x c R₁ /\ eT E r dv R₂ /\ R = R₁ ++ R₂
def RF(E : Env) : List X → Nat → Nat → Prop
 | [],_,_=>True
 | x :: r,b,off=>(∃ u,E.φ b off = some u /\ jW u /\ x.nr = true /\ RX E x u []) /\ RF E r b (off + 1)
def kT(E : Env) : List (List X) → Nat → Nat → Prop
 | [],_,_=>True
 | r :: rs,b,off=>RF E r b off /\ kT E rs b (off + r.length)
def RO(E : Env) : List X → Array Value → Nat → List Nat → Prop
 | [],_,_,R=>R = []
 | x :: r,cs,off,R=>∃ u R₁ R₂,cs[off]? = some u /\ jW u /\ RX E x u R₁ /\ RO E r cs (off + 1) R₂ /\ R = R₁ ++ R₂
def cG(E : Env) : List (List X) → Array Value → Nat → List Nat → Prop
 | [],_,_,R=>R = []
 | r :: rs,cs,off,R=>∃ R₁ R₂,X.iH r = true /\ RO E r cs off R₁ /\ cG E rs cs (off + r.length) R₂ /\ R = R₁ ++ R₂
end
inductive Obj where
 | cells (xs:List X)
 | rows (s:Nat) (rs:List (List X))
 | yH (es:List (Value × Value))
 | gone
 | hole (rs:List (List X)) (i q s n:Nat)
def Obj.ct(q : Nat) : Obj → Bool
 | .cells xs=>X.ct q xs
 | .hole _ _ p _ _=>Nat.beq p q
 | _=>false
end Go.AW
namespace Go.AW
open Go
theorem cT{α}{a:α}{l r:List α}(h:a ∈ l):a ∈ l ++ r:=List.mem_append.2 (.inl h)
theorem cD{α}{a:α}{l r:List α}(h:a ∈ r):a ∈ l ++ r:=List.mem_append.2 (.inr h)
def Env.On(E E':Env)(R:List Nat):Prop :=
 (∀ b i v,E.φ b i = some v -> E'.φ b i = some v) /\ ∀ b ∈ R,E'.w.heap[b]? = E.w.heap[b]? /\ ((∀ i,E.φ b i = none) -> ∀ i,E'.φ b i = none)
theorem Env.On.sub{E E':Env}{R R':List Nat}(h:E.On E' R)(hs:∀ b ∈ R',b ∈ R):E.On E' R':=⟨h.1,fun b hb=>h.2 b (hs b hb)⟩
mutual
theorem X.q3 : ∀ {x : X}, x.nr = true → ∀ o, x.eM o = false
 | .v _,_,_ | .no,_,_ | .fz ..,_,_ | .dK ..,_,_ | .fp ..,_,_=>rfl
 | .agg xs,h,o=>X.gv (xs:=xs) h o
 | .tup xs,h,o=>X.gv (xs:=xs) h o
 | .jQ _ a b,h,o=>by
  simp only [X.nr,Bool.and_eq_true] at h
  simp only [X.eM,X.gv h.1 o,X.gv h.2 o,Bool.or_self]
theorem X.gv : ∀ {xs : List X}, X.iH xs = true → ∀ o, X.ct o xs = false
 | [],_,_=>rfl
 | x :: r,h,o=>by
  simp only [X.iH,Bool.and_eq_true] at h
  simp only [X.ct,X.q3 h.1 o,X.gv h.2 o,Bool.or_self]
end
mutual
theorem RX.mono{E E' : Env} : ∀ (x : X) (c : Value) (R : List Nat), E.On E' R → (∀ o, x.eM o = true → E'.β o = E.β o) → RX E x c R → RX E' x c R
 | .v u,c,R,_,_,h=>by simpa [RX] using h
 | .no,c,R,_,_,h=>by simpa [RX] using h
 | .fz s rows,c,R,hE,_,h=>by
  simp only [RX] at h ⊢
  obtain ⟨hR,hu,base,cap,hc,hh⟩:=h
  refine ⟨hR,hu,base,cap,hc,?_⟩
  rcases hh with hh | ⟨b,off,hb,hl,hf⟩
  ·exact .inl hh
  ·exact .inr ⟨b,off,hb,hl,kT.mono rows b off (hE.sub (by simp)) hf⟩
 | .dK s rows,c,R,hE,_,h=>by
  simp only [RX] at h ⊢
  obtain ⟨hu,base,cap,hc,hh⟩:=h
  refine ⟨hu,base,cap,hc,?_⟩
  rcases hh with hh | ⟨b,off,cs,ty,R',hb,hw,hl,ho,hf,hr,hR⟩
  ·exact .inl hh
  ·subst hR
   have h2:=hE.2 b (by simp)
   exact .inr ⟨b,off,cs,ty,R',hb,h2.1.trans hw,hl,ho,h2.2 hf,cG.mono rows cs off R' (hE.sub (fun _ h=>by simp [h])) hr,rfl⟩
 | .ptr o s i k,c,R,_,hβ,h=>by
  simp only [RX] at h ⊢
  rw [hβ o (by simp [X.eM])]; exact h
 | .aN o s lo n,c,R,_,hβ,h=>by
  simp only [RX] at h ⊢
  rw [hβ o (by simp [X.eM])]; exact h
 | .mref o,c,R,_,hβ,h=>by
  simp only [RX] at h ⊢
  rw [hβ o (by simp [X.eM])]; exact h
 | .fp row k,c,R,hE,_,h=>by
  simp only [RX] at h ⊢
  obtain ⟨hR,b,off,hc,hf⟩:=h
  exact ⟨hR,b,off,hc,RF.mono row b off (hE.sub (by simp)) hf⟩
 | .agg xs,c,R,hE,hβ,h=>by
  simp only [RX] at h ⊢
  obtain ⟨cs,hc,hs⟩:=h
  exact ⟨cs,hc,bA.mono xs _ R hE (fun o ho=>hβ o (by simp [X.eM,ho])) hs⟩
 | .tup xs,c,R,hE,hβ,h=>by
  simp only [RX] at h ⊢
  obtain ⟨cs,hc,hs⟩:=h
  exact ⟨cs,hc,eT.mono xs _ R hE (fun o ho=>hβ o (by simp [X.eM,ho])) hs⟩
 | .jQ fn a b,c,R,hE,hβ,h=>by
  simp only [RX] at h ⊢
  obtain ⟨hR,f,cc,hc,h1,h2⟩:=h
  exact ⟨hR,f,cc,hc,eT.mono a _ [] (hE.sub (by simp)) (fun o ho=>hβ o (by simp [X.eM,ho])) h1,eT.mono b _ [] (hE.sub (by simp)) (fun o ho=>hβ o (by simp [X.eM,ho])) h2⟩
theorem bA.mono{E E' : Env} : ∀ (xs : List X) (cs : List Value) (R : List Nat), E.On E' R → (∀ o, X.ct o xs = true → E'.β o = E.β o) → bA E xs cs R → bA E' xs cs R
 | [],_,_,_,_,h=>by simpa [bA] using h
 | x :: r,cs,R,hE,hβ,h=>by
  simp only [bA] at h ⊢
  obtain ⟨c,dv,R₁,R₂,hc,hs,h1,h2,hR⟩:=h
  subst hR
  exact ⟨c, dv, R₁, R₂, hc, hs, RX.mono x c R₁ (hE.sub (fun _ h => cT h)) (fun o ho => hβ o (by simp [X.ct, ho])) h1,
   bA.mono r dv R₂ (hE.sub (fun _ h=>cD h)) (fun o ho=>hβ o (by simp [X.ct,ho])) h2,rfl⟩
theorem eT.mono{E E' : Env} : ∀ (xs : List X) (cs : List Value) (R : List Nat), E.On E' R → (∀ o, X.ct o xs = true → E'.β o = E.β o) → eT E xs cs R → eT E' xs cs R
 | [],_,_,_,_,h=>by simpa [eT] using h
 | x :: r,cs,R,hE,hβ,h=>by
  simp only [eT] at h ⊢
  obtain ⟨c,dv,R₁,R₂,hc,h1,h2,hR⟩:=h
  subst hR
  exact ⟨c, dv, R₁, R₂, hc, RX.mono x c R₁ (hE.sub (fun _ h => cT h)) (fun o ho => hβ o (by simp [X.ct, ho])) h1,
   eT.mono r dv R₂ (hE.sub (fun _ h=>cD h)) (fun o ho=>hβ o (by simp [X.ct,ho])) h2,rfl⟩
theorem RF.mono{E E' : Env} : ∀ (xs : List X) (b off : Nat), E.On E' [] → RF E xs b off → RF E' xs b off
 | [],_,_,_,_=>by simp [RF]
 | x :: r,b,off,hE,h=>by
  simp only [RF] at h ⊢
  obtain ⟨⟨u,hu,hs,hn,hx⟩,hr⟩:=h
  exact ⟨⟨u,hE.1 _ _ _ hu,hs,hn,RX.mono x u [] hE (fun o ho=>by rw [X.q3 hn] at ho; cases ho) hx⟩,RF.mono r b (off + 1) hE hr⟩
theorem kT.mono{E E' : Env} : ∀ (rs : List (List X)) (b off : Nat), E.On E' [] → kT E rs b off → kT E' rs b off
 | [],_,_,_,_=>by simp [kT]
 | r :: rs,b,off,hE,h=>by
  simp only [kT] at h ⊢
  exact ⟨RF.mono r b off hE h.1,kT.mono rs b _ hE h.2⟩
theorem RO.mono{E E' : Env} : ∀ (xs : List X) (cs : Array Value) (off : Nat) (R : List Nat), E.On E' R → (∀ o, X.ct o xs = true → E'.β o = E.β o) → RO E xs cs off R → RO E' xs cs off R
 | [],_,_,_,_,_,h=>by simpa [RO] using h
 | x :: r,cs,off,R,hE,hβ,h=>by
  simp only [RO] at h ⊢
  obtain ⟨u,R₁,R₂,hu,hs,h1,h2,hR⟩:=h
  subst hR
  exact ⟨u, R₁, R₂, hu, hs, RX.mono x u R₁ (hE.sub (fun _ h => cT h)) (fun o ho => hβ o (by simp [X.ct, ho])) h1,
   RO.mono r cs (off + 1) R₂ (hE.sub (fun _ h=>cD h)) (fun o ho=>hβ o (by simp [X.ct,ho])) h2,rfl⟩
theorem cG.mono{E E' : Env} : ∀ (rs : List (List X)) (cs : Array Value) (off : Nat) (R : List Nat), E.On E' R → cG E rs cs off R → cG E' rs cs off R
 | [],_,_,_,_,h=>by simpa [cG] using h
 | r :: rs,cs,off,R,hE,h=>by
  simp only [cG] at h ⊢
  obtain ⟨R₁,R₂,hn,h1,h2,hR⟩:=h
  subst hR
  exact ⟨R₁, R₂, hn, RO.mono r cs off R₁ (hE.sub (fun _ h => cT h)) (fun o ho => by rw [X.gv hn] at ho; cases ho) h1,
   cG.mono rs cs _ R₂ (hE.sub (fun _ h=>cD h)) h2,rfl⟩
end
end Go.AW
namespace Go.AW
open Go
def look{α : Type} : List (Nat × α) → Nat → Option α
 | [],_=>none
 | (t,x) :: r,s=>bif Nat.beq t s then some x else look r s
structure St where
 aF:List (Nat × X)
 aG:List (Nat × Obj)
def dR(E : Env)(o : Nat) : Obj → List Nat → Prop
 | .cells xs,R=>X.b6 xs = true /\ ∃ B cs ty,E.β o = some B /\ E.w.heap[B.b]? = some (.cells cs ty (0,0)) /\ (∀ i,E.φ B.b i = none) /\ B.off + xs.length <= cs.size /\ RO E xs cs B.off [] /\ R = [B.b]
 | .rows s rs, R => cA s rs ∧ ((E.β o = none ∧ rs = [] ∧ R = []) ∨ ∃ B cs ty R', E.β o = some B ∧ E.w.heap[B.b]? = some (.cells cs ty (0, 0)) ∧ (∀ i, E.φ B.b i = none) ∧
   rs.length <= B.cap /\ B.off + B.cap * s <= cs.size /\ cG E rs cs B.off R' /\ R = B.b :: R')
 | .yH es,R=>∃ B tc clock,E.β o = some B /\ E.w.heap[B.b]? = some (.map tc clock) /\ (∀ i,E.φ B.b i = none) /\ tc.toList.map (fun e=>(e.key,e.val)) = es /\ R = [B.b]
 | .gone,R=>R = []
 | .hole rs i q s n, R => cA 1 rs ∧ ∃ B cs ty R' u, E.β o = some B ∧ E.w.heap[B.b]? = some (.cells cs ty (0, 0)) ∧ (∀ i, E.φ B.b i = none) ∧
   rs.length <= B.cap /\ B.off + B.cap <= cs.size /\ cG E rs cs B.off R' /\ R = B.b :: R' /\ i < rs.length /\ cs[B.off + i]? = some u /\ jW u /\ RX E (.aN q s 0 n) u []
inductive Own where
 | slot (s:Nat)
 | obj (o:Nat)
 deriving DecidableEq
structure fA where
 n:Nat
 F:List Nat
structure Ctx where
 K:Nat -> Prop
 w0:World
 φ0:Fz
 β0:Nat -> Option AX
 fn:fA
 ds:List Deferred
structure Inv(G:Ctx)(E:Env)(RR:Own -> List Nat)(st:St)(a:Act):Prop where
 ox:∀ b i v,E.φ b i = some v -> E.w.cell? ⟨b,i,none⟩ = some v
 aF:∀ s x,look st.aF s = some x -> RX E x (a.tmps.getD s undef) (RR (.slot s))
 aG:∀ o ob,look st.aG o = some ob -> dR E o ob (RR (.obj o))
 nodup:∀ p,(RR p).Nodup
 apart:∀ p q,p ≠ q -> ∀ b ∈ RR p,b ∉ RR q
 own:∀ p b,b ∈ RR p -> b < E.w.heap.size /\ ¬ G.K b
 ai:∀ b,G.K b -> E.w.heap[b]? = G.w0.heap[b]?
 size:G.w0.heap.size <= E.w.heap.size
 small:∀ b,G.K b -> b < G.w0.heap.size
 os:E.w.os = G.w0.os
 tape:E.w.tape = G.w0.tape
 output:E.w.output = G.w0.output
 φ0:∀ b i v,G.φ0 b i = some v -> E.φ b i = some v
 grow:∀ b i v,E.φ b i = some v -> G.φ0 b i = some v \/ ¬ G.K b
 fixed:∀ o,G.fn.F.elem o = true -> E.β o = G.β0 o
 tmps:a.tmps.size = G.fn.n
 defers:a.defers = G.ds
def cI(G:Ctx)(st:St)(a:Act)(w:World):Prop:=∃ E RR,E.w = w /\ Inv G E RR st a
def od(G:Ctx)(Q:Exit -> St -> Prop)(e:Exit)(a:Act)(w:World):Prop:=∃ st,cI G st a w /\ Q e st
def dA(P:Program)(N:fA)(c:Code)(st:St)(Q:Exit -> St -> Prop):Prop :=
 ∀ G:Ctx,G.fn = N -> ∀ a w,cI G st a w -> c.wp P (od G Q) a w
def aU(P:Program)(N:fA)(all:Array Oper)(rest:List Oper)(st:St)(Q:Exit -> St -> Prop):Prop :=
 ∀ G:Ctx,G.fn = N -> ∀ a w,cI G st a w -> wpList P all (od G Q) rest a w
def jz(K : St → Prop)(Q : Exit → St → Prop) : Exit → St → Prop
 | .normal,st=>K st
 | e,st=>Q e st
def pf(id : Nat)(Q : Exit → St → Prop) : Exit → St → Prop
 | .exit id',st=>bif Nat.beq id' id then Q .normal st else Q (.exit id') st
 | e,st=>Q e st
def bV(st : St) : Operand → Option X
 | .tmp t=>look st.aF t
 | .const v=>some (.v v)
 | .func f=>some (.v (.func (.func f) #[] #[]))
 | .global _=>none
def Le(st ba:St):Prop :=
 (∀ s x,look ba.aF s = some x -> look st.aF s = some x) /\ (∀ o x,look ba.aG o = some x -> look st.aG o = some x)
theorem Le.refl(st:St):Le st st:=⟨fun _ _ h=>h,fun _ _ h=>h⟩
theorem Le.holds{G:Ctx}{st ba:St}{a:Act}{w:World}(h:Le st ba)(hh:cI G st a w):cI G ba a w:=by
 obtain ⟨E,RR,hw,hi⟩:=hh
 exact ⟨E,RR,hw,{ hi with aF:=fun s x hx=>hi.aF s x (h.1 s x hx),aG:=fun o x hx=>hi.aG o x (h.2 o x hx) }⟩
def ie{α:Type}(l l':List (Nat × α)):Prop:=∀ s x,look l' s = some x -> look l s = some x
theorem ie.nil{α:Type}{l:List (Nat × α)}:ie l []:=fun _ _ h=>by cases h
theorem ie.cons{α:Type}{l l':List (Nat × α)}{s:Nat}{x:α}(h:look l s = some x)(hr:ie l l'):ie l ((s,x) :: l'):=by
 intro t y hy
 unfold look at hy
 cases hb:Nat.beq s t with
 | true=>rw [hb] at hy; simp at hy; subst hy; rw [Nat.eq_of_beq_eq_true hb] at h; exact h
 | false=>rw [hb] at hy; exact hr t y hy
theorem Le.mk{st:St}{sl:List (Nat × X)}{ob:List (Nat × Obj)}(h:ie st.aF sl)(h':ie st.aG ob):Le st ⟨sl,ob⟩:=⟨h,h'⟩
section control
variable {P:Program} {N:fA} {st ba:St} {Q Q':Exit -> St -> Prop}
theorem od.mono{G:Ctx}{e:Exit}{a:Act}{w:World}(h:∀ st,Q e st -> Q' e st)(hp:od G Q e a w):od G Q' e a w :=
 let ⟨st,hh,hq⟩:=hp; ⟨st,hh,h st hq⟩
theorem dA.mono{c:Code}(h:dA P N c st Q)(hq:∀ e st,Q e st -> Q' e st):dA P N c st Q' :=
 fun G hn a w hh=>wp_mono (h G hn a w hh) fun e _ _ hp=>od.mono (hq e) hp
theorem dA.le{c:Code}(hl:Le st ba)(h:dA P N c ba Q):dA P N c st Q :=
 fun G hn a w hh=>h G hn a w (hl.holds hh)
theorem aU.le{all:Array Oper}{rest:List Oper}(hl:Le st ba)(h:aU P N all rest ba Q):aU P N all rest st Q :=
 fun G hn a w hh=>h G hn a w (hl.holds hh)
theorem dA.skip(h:Q .normal st):dA P N .skip st Q:=fun _ _ _ _ hh=>wp_skip ⟨st,hh,h⟩
theorem dA.exit{id:Nat}(h:Q (.exit id) st):dA P N (.exit id) st Q:=fun _ _ _ _ hh=>wp_exit ⟨st,hh,h⟩
theorem dA.ret(h:Q .ret st):dA P N .ret st Q:=fun _ _ _ _ hh=>wp_ret ⟨st,hh,h⟩
theorem dA.seq{x y:Code}(h:dA P N x st (jz (fun ba=>dA P N y ba Q) Q)):dA P N (.seq x y) st Q:=by
 intro G hn a w hh
 refine wp_seq (wp_mono (h G hn a w hh) ?_)
 rintro e a' w' ⟨ba,iI,hq⟩
 cases e <;> first | exact hq G hn a' w' iI | exact ⟨ba,iI,hq⟩
theorem dA.block{id:Nat}{c:Code}(h:dA P N c st (pf id Q)):dA P N (.block id c) st Q:=by
 intro G hn a w hh
 refine wp_block (wp_mono (h G hn a w hh) ?_)
 rintro e a' w' ⟨ba,iI,hq⟩
 cases e with
 | exit id' =>
  simp only [pf] at hq
  simp only [Exit.inBlock]
  cases hb:Nat.beq id' id with
  | true =>
   rw [hb] at hq
   rw [if_pos (Nat.eq_of_beq_eq_true hb)]
   exact ⟨ba,iI,hq⟩
  | false =>
   rw [hb] at hq
   rw [if_neg (Nat.ne_of_beq_eq_false hb)]
   exact ⟨ba,iI,hq⟩
 | _=>exact ⟨ba,iI,hq⟩
theorem Inv.eval{G:Ctx}{E:Env}{RR:Own -> List Nat}{a:Act}(hi:Inv G E RR st a){o:Operand}{x:X}(h:bV st o = some x):∃ R,RX E x (a.eval o) R:=by
 cases o with
 | tmp t=>exact ⟨_,hi.aF t x h⟩
 | const v=>simp only [bV,Option.some.injEq] at h; subst h; exact ⟨[],by simp [RX,Act.eval]⟩
 | func f=>simp only [bV,Option.some.injEq] at h; subst h; exact ⟨[],by simp [RX,Act.eval]⟩
 | global g=>cases h
theorem Inv.val{G:Ctx}{E:Env}{RR:Own -> List Nat}{a:Act}(hi:Inv G E RR st a){o:Operand}{u:Value}(h:bV st o = some (.v u)):a.eval o = u:=by
 obtain ⟨R,hR⟩:=hi.eval h
 simp only [RX] at hR
 exact hR.1
theorem dA.cond{c : Operand}{x y : Code}{b : Bool}(hc : bV st c = some (.v (.bool b)))(ht : b = true → dA P N x st Q)(hf : b = false → dA P N y st Q) :
  dA P N (.cond c x y) st Q:=by
 intro G hn a w hh
 obtain ⟨E,RR,rfl,hi⟩:=hh
 exact wp_cond_split (hi.val hc) (fun h=>ht h G hn a E.w ⟨E,RR,rfl,hi⟩) (fun h=>hf h G hn a E.w ⟨E,RR,rfl,hi⟩)
theorem tK{c : Code}{ι : Type}{R : Exit → Act → World → Prop}(J : ι → Act → World → Prop)(μ : ι → Nat)
  (round:∀ i a w,J i a w -> c.wp P (Exit.then (fun a' w'=>∃ j,J j a' w' /\ μ j < μ i) R) a w) {i:ι} {a:Act} {w:World} (h₀:J i a w):(Code.loop c).wp P R a w:=by
 intro b k cs
 have key : ∀ n i a w, μ i = n → J i a w →
   ∃ e a' w',R e a' w' /\ Arrives P (lone (b.at a (.code c :: .inLoop c :: k)) cs w) b k cs e a' w':=by
  intro n
  induction n using Nat.strongRecOn with
  | _ n ih =>
   intro i a w hn hI
   obtain ⟨e,a₁,w₁,hq,xn⟩:=round i a w hI b (.inLoop c :: k) cs
   cases e with
   | normal =>
    obtain ⟨j,WN,gP⟩:=hq
    obtain ⟨e₂,a₂,w₂,WO,MG⟩:=ih (μ j) (hn ▸ gP) j a₁ w₁ rfl WN
    exact ⟨e₂,a₂,w₂,WO,.of_steps (Steps.trans xn (.one step_inLoop)) MG⟩
   | exit id=>exact ⟨_,a₁,w₁,hq,.pass (x:=.inLoop c) rfl (fun _ _=>.inl (by simp)) xn⟩
   | goto l=>exact ⟨_,a₁,w₁,hq,.pass (x:=.inLoop c) rfl (fun _ _=>.inl (by simp)) xn⟩
   | ret=>exact ⟨_,a₁,w₁,hq,.pass (x:=.inLoop c) rfl (fun _ _=>.inl (by simp)) xn⟩
   | panic ch=>exact ⟨_,a₁,w₁,hq,.pass (x:=.inLoop c) rfl (fun _ _=>.inl (by simp)) xn⟩
   | outgrown=>exact ⟨_,a₁,w₁,hq,.pass (x:=.inLoop c) rfl (fun _ _=>.inl (by simp)) xn⟩
 obtain ⟨e,a',w',hq,xn⟩:=key _ i a w rfl h₀
 exact ⟨e,a',w',hq,.of_steps (.one step_loop) xn⟩
theorem dA.loop{ι : Type}{c : Code}(S : ι → St)(I : ι → Prop)(μ : ι → Nat)(i : ι)(hi : I i)(hs : Le st (S i))
  (round:∀ i,I i -> dA P N c (S i) (jz (fun ba=>∃ j,I j /\ μ j < μ i /\ Le ba (S j)) Q)):dA P N (.loop c) st Q:=by
 intro G hn a w hh
 refine tK (fun i a w=>I i /\ cI G (S i) a w) μ ?_ ⟨hi,hs.holds hh⟩
 rintro i a w ⟨hI,hh⟩
 refine wp_mono (round i hI G hn a w hh) ?_
 rintro e a' w' ⟨ba,iI,hq⟩
 cases e with
 | normal=>obtain ⟨j,hj,gP,hle⟩:=hq; exact ⟨j,⟨hj,hle.holds iI⟩,gP⟩
 | _=>exact ⟨ba,iI,hq⟩
theorem dA.region{id:Nat}{l:List Oper}(h:aU P N l.toArray l st Q):dA P N (.region id l.toArray false) st Q :=
 fun G hn a w hh=>wp_region_lit (h G hn a w hh)
theorem aU.nil{all:Array Oper}(h:Q .normal st):aU P N all [] st Q:=fun _ _ _ _ hh=>⟨st,hh,h⟩
end control
end Go.AW
namespace Go.AW
open Go
def TY.shape(P:Program)(t:TypeId):Option (Option Nat) :=
 match P.underlying t,P.info? t with
 | some (.struct _),some i=>some (some i.size)
 | some (.array _ _),some i=>some (some i.size)
 | some _,some _=>some none
 | _,_=>none
def TY.slice(P:Program)(t:TypeId):Option (Nat × Nat × Nat) :=
 match P.underlying t with
 | some (.slice e)=>(P.info? e).map fun i=>(e,i.size,i.bytes)
 | _=>none
def TY.array(P:Program)(t:TypeId):Option (Nat × Nat × Nat) :=
 match P.underlying t with
 | some (.array n e)=>(P.info? e).map fun i=>(n,e,i.size)
 | _=>none
def TY.kC(P:Program)(t:TypeId)(f:Nat):Option (Nat × TypeId) :=
 match P.underlying t with
 | some (.struct fs)=>match fs[f]? with
  | some fd=>match P.info? fd.type with
   | some i=>bif Nat.beq i.size 0 then none else some (fd.offset,fd.type)
   | none=>none
  | none=>none
 | _=>none
def TY.zero(P:Program)(t:TypeId):Option (List Value):=(P.info? t).bind fun i=>i.zero.map (·.cells.toList)
def TY.isInt(P:Program)(t:TypeId):Option IntKind:=match P.underlying t with | some (.int k)=>some k | _=>none
def St.put(st:St)(d:Nat)(x:X):St:={ st with aF:=(d,x) :: st.aF }
mutual
theorem RX.free{E : Env} : ∀ {x : X} {c : Value} {R : List Nat}, x.free = true → RX E x c R → R = []
 | .v _,_,_,_,h=>by simp only [RX] at h; exact h.2
 | .no,_,_,_,h=>by simpa [RX] using h
 | .fz ..,_,_,_,h=>by simp only [RX] at h; exact h.1
 | .ptr ..,_,_,_,h=>by simp only [RX] at h; exact h.1
 | .aN ..,_,_,_,h=>by simp only [RX] at h; exact h.1
 | .mref _,_,_,_,h=>by simp only [RX] at h; exact h.1
 | .fp ..,_,_,_,h=>by simp only [RX] at h; exact h.1
 | .jQ ..,_,_,_,h=>by simp only [RX] at h; exact h.1
 | .dK ..,_,_,hf,_=>by simp [X.free] at hf
 | .agg xs,_,_,hf,h=>by
  simp only [RX] at h
  obtain ⟨_,_,h⟩:=h
  exact bA.free (xs:=xs) hf h
 | .tup xs,_,_,hf,h=>by
  simp only [RX] at h
  obtain ⟨_,_,h⟩:=h
  exact eT.free (xs:=xs) hf h
theorem bA.free{E : Env} : ∀ {xs : List X} {cs : List Value} {R : List Nat}, X.b6 xs = true → bA E xs cs R → R = []
 | [],_,_,_,h=>by simp only [bA] at h; exact h.2
 | x :: r,_,_,hf,h=>by
  simp only [bA] at h
  obtain ⟨c,dv,R₁,R₂,_,_,h1,h2,hR⟩:=h
  simp only [X.b6,Bool.and_eq_true] at hf
  rw [hR,RX.free hf.1 h1,bA.free hf.2 h2]; rfl
theorem eT.free{E : Env} : ∀ {xs : List X} {cs : List Value} {R : List Nat}, X.b6 xs = true → eT E xs cs R → R = []
 | [],_,_,_,h=>by simp only [eT] at h; exact h.2
 | x :: r,_,_,hf,h=>by
  simp only [eT] at h
  obtain ⟨c,dv,R₁,R₂,_,h1,h2,hR⟩:=h
  simp only [X.b6,Bool.and_eq_true] at hf
  rw [hR,RX.free hf.1 h1,eT.free hf.2 h2]; rfl
end
theorem RO.free{E : Env} : ∀ {xs : List X} {cs : Array Value} {off : Nat} {R : List Nat}, X.b6 xs = true → RO E xs cs off R → R = []
 | [],_,_,_,_,h=>by simpa [RO] using h
 | x :: r,_,_,_,hf,h=>by
  simp only [RO] at h
  obtain ⟨c,R₁,R₂,_,_,h1,h2,hR⟩:=h
  simp only [X.b6,Bool.and_eq_true] at hf
  rw [hR,RX.free hf.1 h1,RO.free hf.2 h2]; rfl
def gg(RR:Own -> List Nat)(p:Own)(R:List Nat):Own -> List Nat:=fun q=>if q = p then R else RR q
theorem DG{a:Act}{d:Nat}{u:Value}(hd:d < a.tmps.size):(a.put (some d) u).tmps.getD d undef = u:=by
 simp [Act.put,Array.getD,hd]
theorem xo{a:Act}{d s:Nat}{u:Value}(h:d ≠ s):(a.put (some d) u).tmps.getD s undef = a.tmps.getD s undef:=by
 simp only [Act.put,Array.getD_eq_getD_getElem?,Array.getElem?_setIfInBounds_ne h]
section
variable {P:Program} {N:fA} {G:Ctx} {E:Env} {RR:Own -> List Nat} {st:St} {a:Act} {Q:Exit -> St -> Prop}
theorem Inv.put(hi : Inv G E RR st a){d : Nat}{x : X}{u : Value}{R : List Nat}(hd : d < G.fn.n)(hx : RX E x u R)(hn : R.Nodup)
  (hR:∀ b ∈ R,b < E.w.heap.size /\ ¬ G.K b /\ ∀ p,p ≠ .slot d -> b ∉ RR p):Inv G E (gg RR (.slot d) R) (st.put d x) (a.put (some d) u):=by
 refine { hi with aF:=?_,aG:=?_,nodup:=?_,apart:=?_,own:=?_,tmps:=?_,defers:=?_ }
 ·intro s y hy
  simp only [St.put,look] at hy
  cases hb:Nat.beq d s with
  | true =>
   have:=Nat.eq_of_beq_eq_true hb
   subst this
   rw [hb] at hy
   simp only [cond_true,Option.some.injEq] at hy
   subst hy
   rw [DG (by rw [hi.tmps]; exact hd)]
   simpa [gg] using hx
  | false =>
   have fN:=Nat.ne_of_beq_eq_false hb
   rw [hb] at hy
   rw [xo fN]
   have:gg RR (.slot d) R (.slot s) = RR (.slot s):=by simp [gg,Ne.symm fN]
   rw [this]
   exact hi.aF s y hy
 ·intro o ob ho
  have:gg RR (.slot d) R (.obj o) = RR (.obj o):=by simp [gg]
  rw [this]; exact hi.aG o ob ho
 ·intro p
  unfold gg
  split
  ·exact hn
  ·exact hi.nodup p
 ·intro p q ny b hb
  unfold gg at hb ⊢
  split at hb
  ·rename_i hp
   subst hp
   rw [if_neg (Ne.symm ny)]
   exact (hR b hb).2.2 q (Ne.symm ny)
  ·split
   ·rename_i hp hq
    subst hq
    intro iy
    exact (hR b iy).2.2 p ny hb
   ·exact hi.apart p q ny b hb
 ·intro p b hb
  unfold gg at hb
  split at hb
  ·exact ⟨(hR b hb).1,(hR b hb).2.1⟩
  ·exact hi.own p b hb
 ·simp [Act.put,hi.tmps]
 ·simp [Act.put,hi.defers]
theorem Inv.iK(hi:Inv G E RR st a){d:Nat}{x:X}{u:Value}(hd:d < G.fn.n)(hx:RX E x u []):Inv G E (gg RR (.slot d) []) (st.put d x) (a.put (some d) u) :=
 hi.put hd hx List.nodup_nil (fun _ hb=>by cases hb)
def Yields(P:Program)(N:fA)(st:St)(o:Oper)(x:X):Prop :=
 ∀ (G:Ctx) (E:Env) (RR:Own -> List Nat) (a:Act),G.fn = N -> Inv G E RR st a -> ∃ u,(execOp a.eval o).run P E.w = .ok (.value u) E.w /\ RX E x u []
theorem aU.val{all : Array Oper}{rest : List Oper}{d : Nat}{op : Op}{ty : TypeId}{pos : String}{af : Array Edge}{x : X}
  (hy:Yields P N st ⟨some d,op,ty,pos,af,none⟩ x) (hd:d < N.n) (k:aU P N all rest (st.put d x) Q):aU P N all (⟨some d,op,ty,pos,af,none⟩ :: rest) st Q:=by
 intro G hn a w hh
 obtain ⟨E,RR,rfl,hi⟩:=hh
 obtain ⟨u,hr,hx⟩:=hy G E RR a hn hi
 refine wpList_plain rfl fun K hK=>?_
 simp only [Oper.wp,hr,Oper.upon_value]
 exact hK _ _ (k G hn _ _ ⟨E,_,rfl,hi.iK (hn ▸ hd) hx⟩)
theorem aU.split{all : Array Oper}{rest : List Oper}{d : Nat}{b : Bool}(hx : look st.aF d = some (.v (.bool b)))
  (ht:b = true -> aU P N all rest (st.put d (.v (.bool true))) Q) (hf:b = false -> aU P N all rest (st.put d (.v (.bool false))) Q):aU P N all rest st Q:=by
 have:Le st (st.put d (.v (.bool b))):=⟨ie.cons hx (fun _ _ h=>h),fun _ _ h=>h⟩
 cases b
 ·exact (hf rfl).le this
 ·exact (ht rfl).le this
theorem aU.aC{all : Array Oper}{rest : List Oper}{dst : Option Nat}{op : Op}{ty : TypeId}{pos : String}{af : Array Edge}{j d : Nat}{want : Bool}
  (hj:(all[j]?).bind (·.dst) = some d) (hd:d < N.n) (hx:look st.aF d = some (.v (.bool want)))
  (k:aU P N all (⟨dst,op,ty,pos,af,none⟩ :: rest) st Q):aU P N all (⟨dst,op,ty,pos,af,some (j,want)⟩ :: rest) st Q:=by
 intro G hn a w hh
 have hk:=k G hn a w hh
 obtain ⟨E,RR,rfl,hi⟩:=hh
 have hs:=hi.aF d _ hx
 simp only [RX] at hs
 have fP:d < a.tmps.size:=by rw [hi.tmps,hn]; exact hd
 have hv:a.tmps[d]? = some (.bool want):=by
  have:=hs.1
  simp only [Array.getD,fP,dif_pos] at this
  rw [Array.getElem?_eq_getElem fP]
  exact congrArg some this
 have hw:Region.wanted ⟨dst,op,ty,pos,af,some (j,want)⟩ (yielded all a.tmps) = true:=by
  simp [Region.wanted,yielded,hj,hv]
 unfold wpList at hk ⊢
 rw [if_pos hw]
 rw [if_pos (by simp [Region.wanted])] at hk
 exact hk
end
end Go.AW
namespace Go.AW
open Go
section
variable {P:Program} {N:fA} {st:St} {dst:Option Nat} {ty:TypeId} {pos:String} {af:Array Edge} {g:Option (Nat × Bool)}
theorem kD{α β:Type}{s:Sem α}{f:α -> Sem β}{w w':World}{u:α}{r:Result β}(h:s.run P w = .ok u w')(h':(f u).run P w' = r):(s.bind f).run P w = r:=by
 rw [show (s.bind f) = (s >>= f) from rfl,Sem.run_bind,h]; exact h'
theorem ek{s:Sem Value}{w w':World}{u:Value}(h:s.run P w = .ok u w'):(do let x <- s; pure (Next.value x):Sem Next).run P w = .ok (.value u) w' :=
 kD h rfl
theorem DH{s:Sem Unit}{w w':World}(h:s.run P w = .ok () w'):(do s; pure Next.skip:Sem Next).run P w = .ok .skip w' :=
 kD h rfl
theorem Y.zf{x:Operand}{y:X}(hx:bV st x = some y)(hf:y.free = true):Yields P N st ⟨dst,.move x,ty,pos,af,g⟩ y:=by
 intro G E RR a _ hi
 obtain ⟨R,h⟩:=hi.eval hx
 have:=RX.free hf h
 subst this
 exact ⟨_,rfl,h⟩
theorem Y.qf{x:Operand}{y:X}(hx:bV st x = some y)(hf:y.free = true):Yields P N st ⟨dst,.assign x,ty,pos,af,g⟩ y:=by
 intro G E RR a _ hi
 obtain ⟨R,h⟩:=hi.eval hx
 have:=RX.free hf h
 subst this
 exact ⟨_,rfl,h⟩
theorem Y.zm{c x y : Operand}{b : Bool}{z : X}(hc : bV st c = some (.v (.bool b)))(hz : bV st (if b then x else y) = some z)(hf : z.free = true) :
  Yields P N st ⟨dst,.pick c x y,ty,pos,af,g⟩ z:=by
 intro G E RR a _ hi
 obtain ⟨R,h⟩:=hi.eval hz
 have:=RX.free hf h
 subst this
 refine ⟨a.eval (if b then x else y),?_,h⟩
 have qY:=hi.val hc
 simp only [execOp,qY]
 cases b <;> rfl
theorem Y.qg{op : BinOp}{t t' : TypeId}{x y : Operand}{u v r : Value}(hx : bV st x = some (.v u))(hy : bV st y = some (.v v))
  (hr:∀ w,(do eqGuard op t x y u v; binOp op t u v:Sem Value).run P w = .ok r w):Yields P N st ⟨dst,.binOp op t x y t',ty,pos,af,g⟩ (.v r):=by
 intro G E RR a _ hi
 refine ⟨r,?_,by simp [RX]⟩
 show (do let x <- (do eqGuard op t x y (a.eval x) (a.eval y); binOp op t (a.eval x) (a.eval y):Sem Value); pure (Next.value x):Sem Next).run P E.w = _
 rw [hi.val hx,hi.val hy]
 exact ek (hr _)
section ints
variable {t t':TypeId} {x y:Operand} {k:IntKind} {a b r:Int}
theorem Y.qa(hx:bV st x = some (.v (.int k a)))(hy:bV st y = some (.v (.int k b)))(hr:k.wrap (a + b) = r):Yields P N st ⟨dst,.binOp .add t x y t',ty,pos,af,g⟩ (.v (.int k r)) :=
 Y.qg hx hy fun w=>by subst hr; simp [eqGuard,binOp,Op.intArith]
theorem Y.zz(hx:bV st x = some (.v (.int k a)))(hy:bV st y = some (.v (.int k b)))(hr:k.wrap (a - b) = r):Yields P N st ⟨dst,.binOp .sub t x y t',ty,pos,af,g⟩ (.v (.int k r)) :=
 Y.qg hx hy fun w=>by subst hr; simp [eqGuard,binOp,Op.intArith]
theorem Y.zg(hx:bV st x = some (.v (.int k a)))(hy:bV st y = some (.v (.int k b)))(hr:k.wrap (a * b) = r):Yields P N st ⟨dst,.binOp .mul t x y t',ty,pos,af,g⟩ (.v (.int k r)) :=
 Y.qg hx hy fun w=>by subst hr; simp [eqGuard,binOp,Op.intArith]
theorem Y.zn(hx:bV st x = some (.v (.int k a)))(hy:bV st y = some (.v (.int k b)))(h0:b ≠ 0)(hr:k.wrap (a.tdiv b) = r):Yields P N st ⟨dst,.binOp .quo t x y t',ty,pos,af,g⟩ (.v (.int k r)) :=
 Y.qg hx hy fun w=>by subst hr; simp [eqGuard,binOp,Op.intDiv,h0]
theorem Y.zq(hx:bV st x = some (.v (.int k a)))(hy:bV st y = some (.v (.int k b)))(h0:b ≠ 0)(hr:a.tmod b = r):Yields P N st ⟨dst,.binOp .rem t x y t',ty,pos,af,g⟩ (.v (.int k r)) :=
 Y.qg hx hy fun w=>by subst hr; simp [eqGuard,binOp,Op.intDiv,h0]
theorem Y.qd(hx:bV st x = some (.v (.int k a)))(hy:bV st y = some (.v (.int k b)))(hr:k.wrap (BitVec.ofInt k.bits a &&& BitVec.ofInt k.bits b).toNat = r):Yields P N st ⟨dst,.binOp .and t x y t',ty,pos,af,g⟩ (.v (.int k r)) :=
 Y.qg hx hy fun w=>by subst hr; simp [eqGuard,binOp,Op.intBits]
theorem Y.or(hx:bV st x = some (.v (.int k a)))(hy:bV st y = some (.v (.int k b)))(hr:k.wrap (BitVec.ofInt k.bits a ||| BitVec.ofInt k.bits b).toNat = r):Yields P N st ⟨dst,.binOp .or t x y t',ty,pos,af,g⟩ (.v (.int k r)) :=
 Y.qg hx hy fun w=>by subst hr; simp [eqGuard,binOp,Op.intBits]
theorem Y.wb(hx:bV st x = some (.v (.int k a)))(hy:bV st y = some (.v (.int k b)))(hr:k.wrap (BitVec.ofInt k.bits a ^^^ BitVec.ofInt k.bits b).toNat = r):Yields P N st ⟨dst,.binOp .xor t x y t',ty,pos,af,g⟩ (.v (.int k r)) :=
 Y.qg hx hy fun w=>by subst hr; simp [eqGuard,binOp,Op.intBits]
theorem Y.zt{k':IntKind}(hx:bV st x = some (.v (.int k a)))(hy:bV st y = some (.v (.int k' b)))(h0:0 <= b)(hr:k.wrap (a * 2 ^ (min b.toNat k.bits)) = r):Yields P N st ⟨dst,.binOp .shl t x y t',ty,pos,af,g⟩ (.v (.int k r)) :=
 Y.qg hx hy fun w=>by subst hr; simp [eqGuard,binOp,Op.shift,Int.not_lt.2 h0]
theorem Y.zu{k':IntKind}(hx:bV st x = some (.v (.int k a)))(hy:bV st y = some (.v (.int k' b)))(h0:0 <= b)(hr:a.fdiv (2 ^ (min b.toNat k.bits)) = r):Yields P N st ⟨dst,.binOp .shr t x y t',ty,pos,af,g⟩ (.v (.int k r)) :=
 Y.qg hx hy fun w=>by subst hr; simp [eqGuard,binOp,Op.shift,Int.not_lt.2 h0]
theorem Y.zb(hx:bV st x = some (.v (.int k a)))(hy:bV st y = some (.v (.int k b))):Yields P N st ⟨dst,.binOp .lss t x y t',ty,pos,af,g⟩ (.v (.bool (decide (a < b)))) :=
 Y.qg hx hy fun w=>by simp [eqGuard,binOp,Op.intCmp]
theorem Y.qy(hx:bV st x = some (.v (.int k a)))(hy:bV st y = some (.v (.int k b))):Yields P N st ⟨dst,.binOp .leq t x y t',ty,pos,af,g⟩ (.v (.bool (decide (a <= b)))) :=
 Y.qg hx hy fun w=>by simp [eqGuard,binOp,Op.intCmp]
theorem Y.qq(hx:bV st x = some (.v (.int k a)))(hy:bV st y = some (.v (.int k b))):Yields P N st ⟨dst,.binOp .gtr t x y t',ty,pos,af,g⟩ (.v (.bool (decide (b < a)))) :=
 Y.qg hx hy fun w=>by simp [eqGuard,binOp,Op.intCmp]
theorem Y.qp(hx:bV st x = some (.v (.int k a)))(hy:bV st y = some (.v (.int k b))):Yields P N st ⟨dst,.binOp .geq t x y t',ty,pos,af,g⟩ (.v (.bool (decide (b <= a)))) :=
 Y.qg hx hy fun w=>by simp [eqGuard,binOp,Op.intCmp]
theorem Y.ql(hx:bV st x = some (.v (.int k a)))(hy:bV st y = some (.v (.int k b))):Yields P N st ⟨dst,.binOp .eql t x y t',ty,pos,af,g⟩ (.v (.bool (decide (a = b)))) :=
 Y.qg hx hy fun w=>by simp [eqGuard,binOp,Op.intCmp,BEq.beq]
theorem Y.zj(hx:bV st x = some (.v (.int k a)))(hy:bV st y = some (.v (.int k b))):Yields P N st ⟨dst,.binOp .neq t x y t',ty,pos,af,g⟩ (.v (.bool (decide (a ≠ b)))) :=
 Y.qg hx hy fun w=>by simp [eqGuard,binOp,Op.intCmp,bne,BEq.beq]
end ints
theorem run_equal_bool{t:TypeId}{a b:Bool}(ht:P.underlying t = some .bool)(w:World):(Op.equal t (.bool a) (.bool b)).run P w = .ok (a == b) w:=by
 show (Op.equalIn (9999 + 1) t (.bool a) (.bool b)).run P w = _
 generalize 9999 = d
 simp [Op.equalIn,run_underlying ht]
theorem Y.qm{t t' : TypeId}{x y : Operand}{a b : Bool}(ht : P.underlying t = some .bool)(hx : bV st x = some (.v (.bool a)))(hy : bV st y = some (.v (.bool b))) :
  Yields P N st ⟨dst,.binOp .eql t x y t',ty,pos,af,g⟩ (.v (.bool (a == b))) :=
 Y.qg hx hy fun w=>by
  show (do let z <- Op.equal t (.bool a) (.bool b); pure (Value.bool z):Sem Value).run P w = _
  exact kD (run_equal_bool ht w) rfl
theorem Y.un{op:UnOp}{t:TypeId}{x:Operand}{u r:Value}(hx:bV st x = some (.v u))(hr:∀ w,(Op.unary op u).run P w = .ok r w):Yields P N st ⟨dst,.unOp op t x,ty,pos,af,g⟩ (.v r):=by
 intro G E RR a _ hi
 refine ⟨r,?_,by simp [RX]⟩
 show (do let x <- Op.unary op (a.eval x); pure (Next.value x):Sem Next).run P E.w = _
 rw [hi.val hx]
 exact ek (hr _)
theorem Y.zl{t:TypeId}{x:Operand}{b:Bool}(hx:bV st x = some (.v (.bool b))):Yields P N st ⟨dst,.unOp .not t x,ty,pos,af,g⟩ (.v (.bool (!b))) :=
 Y.un hx fun _=>rfl
theorem Y.qj{s d : TypeId}{x : Operand}{k k' : IntKind}{n r : Int}(hs : TY.isInt P s = some k')(hd : TY.isInt P d = some k)(hx : bV st x = some (.v (.int k' n)))(hr : k.wrap n = r) :
  Yields P N st ⟨dst,.convert s d x,ty,pos,af,g⟩ (.v (.int k r)):=by
 intro G E RR a _ hi
 refine ⟨.int k r,?_,by simp [RX]⟩
 show (do let x <- convert s d (a.eval x); pure (Next.value x):Sem Next).run P E.w = _
 rw [hi.val hx]
 refine ek ?_
 have h1:P.underlying s = some (.int k'):=by unfold TY.isInt at hs; split at hs <;> simp_all
 have h2:P.underlying d = some (.int k):=by unfold TY.isInt at hd; split at hd <;> simp_all
 simp [convert,run_underlying h1,run_underlying h2,Conv.intToInt,hr]
end
end Go.AW
namespace Go.AW
open Go
theorem dw{w:World}{b i:Nat}{cs:Array Value}{ty:TypeId}{fr:Nat × Nat}(h:w.heap[b]? = some (.cells cs ty fr)):w.cell? ⟨b,i,none⟩ = cs[i]?:=by
 simp [World.cell?,h]
theorem iz(b off n:Nat):(⟨b,off,none⟩:Addr).add n = ⟨b,off + n,none⟩:=by
 unfold Addr.add
 split
 ·rename_i h; subst h; rfl
 ·rfl
section
variable {E:Env}
theorem RF.get : ∀ {row : List X} {b off k : Nat} {x : X}, RF E row b off → row[k]? = some x → ∃ u, E.φ b (off + k) = some u ∧ jW u ∧ x.nr = true ∧ RX E x u []
 | [],_,_,_,_,_,h=>by simp at h
 | y :: r,b,off,0,x,h,hx=>by
  simp only [RF] at h
  simp only [List.getElem?_cons_zero,Option.some.injEq] at hx
  subst hx
  exact h.1
 | y :: r,b,off,k + 1,x,h,hx=>by
  simp only [RF] at h
  obtain ⟨u,hu⟩:=RF.get (k:=k) h.2 (by simpa using hx)
  exact ⟨u,by rw [show off + (k + 1) = off + 1 + k by omega]; exact hu⟩
theorem RF.drop : ∀ {row : List X} {b off : Nat} (k : Nat), RF E row b off → RF E (row.drop k) b (off + k)
 | [],_,_,_,_=>by simp [RF]
 | y :: r,b,off,0,h=>h
 | y :: r,b,off,k + 1,h=>by
  simp only [RF] at h
  simp only [List.drop_succ_cons]
  rw [show off + (k + 1) = off + 1 + k by omega]
  exact RF.drop k h.2
theorem RF.take : ∀ {row : List X} {b off : Nat} (k : Nat), RF E row b off → RF E (row.take k) b off
 | [],_,_,_,_=>by simp [RF]
 | y :: r,b,off,0,h=>by simp [RF]
 | y :: r,b,off,k + 1,h=>by
  simp only [RF,List.take_succ_cons] at h ⊢
  exact ⟨h.1,RF.take k h.2⟩
theorem RF.cells : ∀ {row : List X} {b off : Nat}, RF E row b off → ∃ cs : List Value, cs.length = row.length ∧ (∀ j v, cs[j]? = some v → E.φ b (off + j) = some v) ∧ bA E row cs []
 | [],_,_,_=>⟨[],rfl,by simp,by simp [bA]⟩
 | y :: r,b,off,h=>by
  simp only [RF] at h
  obtain ⟨⟨u,hu,hs,_,hx⟩,hr⟩:=h
  obtain ⟨cs,hl,hc,gQ⟩:=RF.cells hr
  refine ⟨u :: cs,by simp [hl],?_,?_⟩
  ·intro j v hv
   cases j with
   | zero=>simp at hv; subst hv; exact hu
   | succ j=>rw [show off + (j + 1) = off + 1 + j by omega]; exact hc j v (by simpa using hv)
  ·simp only [bA]
   exact ⟨u,cs,[],[],rfl,hs,hx,gQ,rfl⟩
theorem kT.get : ∀ {rows : List (List X)} {s b off i : Nat} {row : List X}, cA s rows → kT E rows b off → rows[i]? = some row → RF E row b (off + i * s)
 | [],_,_,_,_,_,_,_,h=>by simp at h
 | r :: rs,s,b,off,0,row,hu,h,hr=>by
  simp only [kT] at h
  simp only [List.getElem?_cons_zero,Option.some.injEq] at hr
  subst hr
  simpa using h.1
 | r :: rs,s,b,off,i + 1,row,hu,h,hr=>by
  simp only [kT] at h
  have h1:=hu r (by simp)
  have:=kT.get (i:=i) (s:=s) (fun q hq=>hu q (by simp [hq])) h.2 (by simpa using hr)
  rw [h1] at this
  rw [show off + (i + 1) * s = off + s + i * s by rw [Nat.add_mul]; omega]
  exact this
theorem kT.drop : ∀ {rows : List (List X)} {s b off : Nat} (k : Nat), cA s rows → k ≤ rows.length → kT E rows b off → kT E (rows.drop k) b (off + k * s)
 | _,_,_,_,0,_,_,h=>by simpa using h
 | [],_,_,_,k + 1,_,hk,_=>by simp at hk
 | r :: rs,s,b,off,k + 1,hu,hk,h=>by
  simp only [kT] at h
  have h1:=hu r (by simp)
  rw [h1] at h
  simp only [List.drop_succ_cons]
  rw [show off + (k + 1) * s = off + s + k * s by rw [Nat.add_mul]; omega]
  exact kT.drop k (fun q hq=>hu q (by simp [hq])) (by simpa using hk) h.2
theorem kT.take : ∀ {rows : List (List X)} {b off : Nat} (k : Nat), kT E rows b off → kT E (rows.take k) b off
 | [],_,_,_,_=>by simp [kT]
 | _ :: _,_,_,0,_=>by simp [kT]
 | r :: rs,b,off,k + 1,h=>by
  simp only [kT,List.take_succ_cons] at h ⊢
  exact ⟨h.1,kT.take k h.2⟩
theorem cA.drop{s:Nat}{rows:List (List X)}(k:Nat)(h:cA s rows):cA s (rows.drop k):=fun r hr=>h r (List.mem_of_mem_drop hr)
theorem cA.take{s:Nat}{rows:List (List X)}(k:Nat)(h:cA s rows):cA s (rows.take k):=fun r hr=>h r (List.mem_of_mem_take hr)
theorem RO.get : ∀ {xs : List X} {cs : Array Value} {off k : Nat} {R : List Nat} {x : X}, RO E xs cs off R → xs[k]? = some x →
  ∃ u R₁,cs[off + k]? = some u /\ jW u /\ RX E x u R₁ /\ ∀ b ∈ R₁,b ∈ R
 | [],_,_,_,_,_,_,h=>by simp at h
 | y :: r,cs,off,0,R,x,h,hx=>by
  simp only [RO] at h
  simp only [List.getElem?_cons_zero,Option.some.injEq] at hx
  subst hx
  obtain ⟨u,R₁,R₂,hu,hs,h1,_,rfl⟩:=h
  exact ⟨u,R₁,hu,hs,h1,fun b hb=>cT hb⟩
 | y :: r,cs,off,k + 1,R,x,h,hx=>by
  simp only [RO] at h
  obtain ⟨_,R₁,R₂,_,_,_,h2,rfl⟩:=h
  obtain ⟨u,R₃,hu,hs,h3,dS⟩:=RO.get (k:=k) h2 (by simpa using hx)
  exact ⟨u,R₃,by rw [show off + (k + 1) = off + 1 + k by omega]; exact hu,hs,h3,fun b hb=>cD (dS b hb)⟩
theorem RO.drop : ∀ {xs : List X} {cs : Array Value} {off : Nat} {R : List Nat} (k : Nat), RO E xs cs off R → ∃ R', RO E (xs.drop k) cs (off + k) R' ∧ ∀ b ∈ R', b ∈ R
 | [],cs,off,R,k,h=>⟨[],by simp [RO],by simp⟩
 | y :: r,cs,off,R,0,h=>⟨R,h,fun _ h=>h⟩
 | y :: r,cs,off,R,k + 1,h=>by
  simp only [RO] at h
  obtain ⟨_,R₁,R₂,_,_,_,h2,rfl⟩:=h
  obtain ⟨R',h',hs⟩:=RO.drop k h2
  refine ⟨R',?_,fun b hb=>cD (hs b hb)⟩
  simp only [List.drop_succ_cons]
  rw [show off + (k + 1) = off + 1 + k by omega]; exact h'
theorem RO.take : ∀ {xs : List X} {cs : Array Value} {off : Nat} {R : List Nat} (k : Nat), RO E xs cs off R → ∃ R', RO E (xs.take k) cs off R' ∧ ∀ b ∈ R', b ∈ R
 | [],cs,off,R,k,h=>⟨[],by simp [RO],by simp⟩
 | y :: r,cs,off,R,0,h=>⟨[],by simp [RO],by simp⟩
 | y :: r,cs,off,R,k + 1,h=>by
  simp only [RO] at h
  obtain ⟨u,R₁,R₂,hu,hs,h1,h2,rfl⟩:=h
  obtain ⟨R',h',MH⟩:=RO.take k h2
  refine ⟨R₁ ++ R',?_,?_⟩
  ·simp only [List.take_succ_cons,RO]
   exact ⟨u,R₁,R',hu,hs,h1,h',rfl⟩
  ·intro b hb
   rcases List.mem_append.1 hb with hb | hb
   ·exact cT hb
   ·exact cD (MH b hb)
theorem RO.cells : ∀ {xs : List X} {cs : Array Value} {off : Nat} {R : List Nat}, RO E xs cs off R → ∃ vs : List Value, vs.length = xs.length ∧ (∀ j v, vs[j]? = some v → cs[off + j]? = some v) ∧ bA E xs vs R
 | [],_,_,R,h=>⟨[],rfl,by simp,by simp only [RO] at h; simp [bA,h]⟩
 | y :: r,cs,off,R,h=>by
  simp only [RO] at h
  obtain ⟨u,R₁,R₂,hu,hs,h1,h2,rfl⟩:=h
  obtain ⟨vs,hl,hc,gQ⟩:=RO.cells h2
  refine ⟨u :: vs,by simp [hl],?_,?_⟩
  ·intro j v hv
   cases j with
   | zero=>simp at hv; subst hv; exact hu
   | succ j=>rw [show off + (j + 1) = off + 1 + j by omega]; exact hc j v (by simpa using hv)
  ·simp only [bA]
   exact ⟨u,vs,R₁,R₂,rfl,hs,h1,gQ,rfl⟩
theorem cG.get : ∀ {rows : List (List X)} {s : Nat} {cs : Array Value} {off i : Nat} {R : List Nat} {row : List X}, cA s rows → cG E rows cs off R → rows[i]? = some row →
  ∃ R₁,X.iH row = true /\ RO E row cs (off + i * s) R₁ /\ ∀ b ∈ R₁,b ∈ R
 | [],_,_,_,_,_,_,_,_,h=>by simp at h
 | r :: rs,s,cs,off,0,R,row,hu,h,hr=>by
  simp only [cG] at h
  simp only [List.getElem?_cons_zero,Option.some.injEq] at hr
  subst hr
  obtain ⟨R₁,R₂,hn,h1,_,rfl⟩:=h
  exact ⟨R₁,hn,by simpa using h1,fun b hb=>cT hb⟩
 | r :: rs,s,cs,off,i + 1,R,row,hu,h,hr=>by
  simp only [cG] at h
  obtain ⟨R₁,R₂,hn,_,h2,rfl⟩:=h
  have h1:=hu r (by simp)
  obtain ⟨R₃,td,h3,hs⟩:=cG.get (i:=i) (s:=s) (fun q hq=>hu q (by simp [hq])) h2 (by simpa using hr)
  rw [h1] at h3
  exact ⟨R₃,td,by rw [show off + (i + 1) * s = off + s + i * s by rw [Nat.add_mul]; omega]; exact h3,fun b hb=>cD (hs b hb)⟩
end
def rowAt(st : St) : X → Option (List X)
 | .fp row _=>some row
 | .ptr o s i _=>match look st.aG o with
  | some (.cells xs)=>bif Nat.beq i 0 then some xs else none
  | some (.rows s' rs)=>bif Nat.beq s s' then rs[i]? else none
  | some (.hole _ i' q s' n)=>bif Nat.beq s 1 && Nat.beq i i' then some [.aN q s' 0 n] else none
  | _=>none
 | _=>none
def my : X → Nat
 | .fp _ k=>k
 | .ptr _ _ _ k=>k
 | _=>0
theorem yZ{st:St}{o i q s n:Nat}{rs:List (List X)}{k:Nat}(h:look st.aG o = some (.hole rs i q s n)):rowAt st (.ptr o 1 i k) = some [.aN q s 0 n]:=by
 simp only [rowAt,h,Nat.beq_refl,Bool.and_self,cond_true]
section
variable {P:Program} {N:fA} {G:Ctx} {E:Env} {RR:Own -> List Nat} {st:St} {a:Act}
theorem Inv.behind(hi : Inv G E RR st a){p : X}{c : Value}{R : List Nat}{row : List X}(hp : RX E p c R)(hr : rowAt st p = some row) :
  ∃ b off, c = .pointer (some ⟨b, off + my p, none⟩) ∧ ∀ k m, k + m ≤ row.length →
   ∃ vs:List Value,∃ R',vs.length = m /\ (∀ j v,vs[j]? = some v -> E.w.cell? ⟨b,off + (k + j),none⟩ = some v) /\ bA E ((row.drop k).take m) vs R':=by
 cases p with
 | fp row' k' =>
  simp only [rowAt,Option.some.injEq] at hr
  subst hr
  simp only [RX] at hp
  obtain ⟨_,b,off,hc,hf⟩:=hp
  refine ⟨b,off,hc,fun k m Qv=>?_⟩
  obtain ⟨vs,hl,hv,hx⟩:=RF.cells (RF.take m (RF.drop k hf))
  refine ⟨vs,[],by rw [hl]; simp; omega,fun j v hj=>?_,hx⟩
  rw [<- Nat.add_assoc]
  exact hi.ox _ _ _ (hv j v hj)
 | ptr o s i k' =>
  simp only [RX] at hp
  obtain ⟨_,B,hB,hc⟩:=hp
  simp only [rowAt] at hr
  split at hr
  ·rename_i xs ho
   have h0:=hi.aG o _ ho
   simp only [dR] at h0
   obtain ⟨_,B',cs,ty,iL,hw,_,_,jX,_⟩:=h0
   rw [hB] at iL
   obtain rfl:=Option.some.inj iL
   cases qT:Nat.beq i 0 with
   | false=>simp [qT] at hr
   | true =>
    have:=Nat.eq_of_beq_eq_true qT
    subst this
    simp only [qT,cond_true,Option.some.injEq] at hr
    subst hr
    refine ⟨B.b,B.off,by simpa [my] using hc,fun k m Qv=>?_⟩
    obtain ⟨R₁,h1,_⟩:=RO.drop k jX
    obtain ⟨R₂,h2,_⟩:=RO.take m h1
    obtain ⟨vs,hl,hv,hx⟩:=RO.cells h2
    refine ⟨vs,R₂,by rw [hl]; simp; omega,fun j v hj=>?_,hx⟩
    rw [dw hw,<- Nat.add_assoc]
    exact hv j v hj
  ·rename_i s' rs ho
   have h0:=hi.aG o _ ho
   simp only [dR] at h0
   obtain ⟨hu,h0⟩:=h0
   cases JE:Nat.beq s s' with
   | false=>simp [JE] at hr
   | true =>
    have:=Nat.eq_of_beq_eq_true JE
    subst this
    simp only [JE,cond_true] at hr
    rcases h0 with ⟨_,h0,_⟩ | ⟨B',cs,ty,R',iL,hw,_,_,_,jX,_⟩
    ·subst h0; simp at hr
    ·rw [hB] at iL
     obtain rfl:=Option.some.inj iL
     obtain ⟨R₁,_,h1,_⟩:=cG.get hu jX hr
     refine ⟨B.b,B.off + i * s,by rw [hc]; simp [my,Nat.add_assoc],fun k m Qv=>?_⟩
     obtain ⟨R₂,h2,_⟩:=RO.drop k h1
     obtain ⟨R₃,h3,_⟩:=RO.take m h2
     obtain ⟨vs,hl,hv,hx⟩:=RO.cells h3
     refine ⟨vs,R₃,by rw [hl]; simp; omega,fun j v hj=>?_,hx⟩
     rw [dw hw,<- Nat.add_assoc]
     exact hv j v hj
  ·rename_i rs i' q s' n ho
   have h0:=hi.aG o _ ho
   simp only [dR] at h0
   obtain ⟨_,B',cs,ty,R',u,iL,hw,_,_,_,_,_,_,yI,WQ,hx⟩:=h0
   rw [hB] at iL
   obtain rfl:=Option.some.inj iL
   cases hb:(Nat.beq s 1 && Nat.beq i i') with
   | false=>simp [hb] at hr
   | true =>
    rw [hb] at hr
    simp only [cond_true,Option.some.injEq] at hr
    subst hr
    simp only [Bool.and_eq_true] at hb
    obtain rfl:=Nat.eq_of_beq_eq_true hb.1
    obtain rfl:=Nat.eq_of_beq_eq_true hb.2
    refine ⟨B.b,B.off + i,by rw [hc]; simp [my,Nat.add_assoc],fun k m Qv=>?_⟩
    have jX:RO E [X.aN q s' 0 n] cs (B.off + i) []:=by simp only [RO]; exact ⟨u,[],[],yI,WQ,hx,rfl,rfl⟩
    obtain ⟨R₁,h1,_⟩:=RO.drop k jX
    obtain ⟨R₂,h2,_⟩:=RO.take m h1
    obtain ⟨vs,hl,hv,hx⟩:=RO.cells h2
    refine ⟨vs,R₂,by rw [hl]; simp at Qv ⊢; omega,fun j v hj=>?_,hx⟩
    rw [dw hw,<- Nat.add_assoc]
    exact hv j v hj
  ·cases hr
 | _=>simp [rowAt] at hr
end
end Go.AW
namespace Go.AW
open Go
section
variable {P:Program} {N:fA} {st:St} {dst:Option Nat} {ty:TypeId} {pos:String} {af:Array Edge} {g:Option (Nat × Bool)}
theorem TY.l5{t:TypeId}(h:TY.shape P t = some none)(w:World):(isAgg t).run P w = .ok false w /\ ∃ d,P.underlying t = some d:=by
 unfold TY.shape at h
 cases hu:P.underlying t with
 | none=>simp [hu] at h
 | some d =>
  refine ⟨?_,d,rfl⟩
  rw [hu] at h
  simp only [isAgg,Sem.run_bind,run_underlying hu,Result.andThen_ok]
  cases d <;> first | rfl | (cases hi:P.info? t <;> simp [hi] at h)
theorem TY.nz{t:TypeId}{m:Nat}(h:TY.shape P t = some (some m))(w:World):(isAgg t).run P w = .ok true w /\ (sizeOf t).run P w = .ok m w:=by
 unfold TY.shape at h
 cases hu:P.underlying t with
 | none=>simp [hu] at h
 | some d =>
  cases hi:P.info? t with
  | none=>rw [hu,hi] at h; cases d <;> simp at h
  | some i =>
   rw [hu,hi] at h
   have hs:(sizeOf t).run P w = .ok i.size w:=by simp [sizeOf,typeInfo,hi]
   have ha:∀ d',P.underlying t = some d' -> (match d' with | .struct _ | .array _ _=>true | _=>false) = true -> (isAgg t).run P w = .ok true w:=by
    intro d' WR hm
    simp only [isAgg,Sem.run_bind,run_underlying WR,Result.andThen_ok]
    cases d' <;> simp at hm <;> rfl
   cases d <;> simp at h <;> subst h <;> exact ⟨ha _ hu rfl,hs⟩
theorem getElem?_drop_take_one{α:Type}{l:List α}{k:Nat}{x:α}(h:l[k]? = some x):(l.drop k).take 1 = [x]:=by
 have hk:k < l.length:=by
  rcases Nat.lt_or_ge k l.length with h' | h'
  ·exact h'
  ·simp [List.getElem?_eq_none h'] at h
 rw [List.drop_eq_getElem_cons hk]
 simp only [List.take_succ_cons,List.take_zero]
 rw [List.getElem?_eq_getElem hk] at h
 rw [Option.some.inj h]
theorem Y.qz{t : TypeId}{x : Operand}{p y : X}{row : List X}(ht : TY.shape P t = some none)(hx : bV st x = some p)(hr : rowAt st p = some row)(hy : row[my p]? = some y)(hf : y.free = true) :
  Yields P N st ⟨dst,.load t x,ty,pos,af,g⟩ y:=by
 intro G E RR a _ hi
 obtain ⟨R,hp⟩:=hi.eval hx
 obtain ⟨b,off,hc,j3⟩:=hi.behind hp hr
 have hk:my p < row.length:=by
  rcases Nat.lt_or_ge (my p) row.length with h' | h'
  ·exact h'
  ·simp [List.getElem?_eq_none h'] at hy
 obtain ⟨vs,R',hl,hv,gQ⟩:=j3 (my p) 1 om
 rw [getElem?_drop_take_one hy] at gQ
 simp only [bA] at gQ
 obtain ⟨c,dv,R₁,R₂,JF,_,h1,⟨rfl,rfl⟩,rfl⟩:=gQ
 subst JF
 have h0:=RX.free hf h1
 subst h0
 refine ⟨c,?_,h1⟩
 show (do let z <- Instr.loadAt t (a.eval x); pure (Next.value z):Sem Next).run P E.w = _
 rw [hc]
 refine ek ?_
 have j4:=hv 0 c rfl
 simp only [Instr.loadAt,Instr.sureAddr,loadVar,Sem.run_bind,Sem.run_pure,Result.andThen_ok,(TY.l5 ht E.w).1]
 simp only [Nat.add_zero] at j4
 simp [j4]
theorem Y.za{t : TypeId}{x : Operand}{p : X}{row : List X}{m : Nat}{ys : List X}(ht : TY.shape P t = some (some m))(hx : bV st x = some p)(hr : rowAt st p = some row)(hm : my p + m ≤ row.length)
  (Cm:(row.drop (my p)).take m = ys) (hf:X.b6 ys = true):Yields P N st ⟨dst,.load t x,ty,pos,af,g⟩ (.agg ys):=by
 intro G E RR a _ hi
 obtain ⟨R,hp⟩:=hi.eval hx
 obtain ⟨b,off,hc,j3⟩:=hi.behind hp hr
 obtain ⟨vs,R',hl,hv,gQ⟩:=j3 (my p) m hm
 rw [Cm] at gQ
 have h0:=bA.free hf gQ
 subst h0
 refine ⟨.agg vs.toArray,?_,by simp only [RX]; exact ⟨_,rfl,gQ⟩⟩
 show (do let z <- Instr.loadAt t (a.eval x); pure (Next.value z):Sem Next).run P E.w = _
 rw [hc]
 refine ek ?_
 obtain ⟨h1,h2⟩:=TY.nz ht E.w
 have h3:(loadCells ⟨b,off + my p,none⟩ m).run P E.w = .ok vs.toArray E.w:=by
  rw [<- hl]
  exact run_loadCells_list (w:=E.w) _ vs fun j v hj=>by rw [iz,Nat.add_assoc]; exact hv j v hj
 simp only [Instr.loadAt,Instr.sureAddr,loadVar,Sem.run_bind,Sem.run_pure,Result.andThen_ok,h1,if_true,h2,h3]
theorem run_sizeOf{t:TypeId}{i:TypeInfo}(h:P.info? t = some i)(w:World):(sizeOf t).run P w = .ok i.size w:=by simp [sizeOf,typeInfo,h]
theorem TY.AY{t : TypeId}{f off : Nat}{ft : TypeId}(h : TY.kC P t f = some (off, ft))(b o : Nat)(w : World) :
  (Instr.fieldAt t (.pointer (some ⟨b,o,none⟩)) f).run P w = .ok (.pointer (some ⟨b,o + off,none⟩)) w:=by
 unfold TY.kC at h
 cases hu:P.underlying t with
 | none=>simp [hu] at h
 | some d =>
  rw [hu] at h
  cases d with
  | struct fs =>
   simp only at h
   cases hf:fs[f]? with
   | none=>simp [hf] at h
   | some fd =>
    rw [hf] at h
    simp only at h
    cases hi:P.info? fd.type with
    | none=>simp [hi] at h
    | some i =>
     rw [hi] at h
     simp only at h
     cases hz:Nat.beq i.size 0 with
     | true=>simp [hz] at h
     | false =>
      have WS:i.size ≠ 0:=Nat.ne_of_beq_eq_false hz
      rw [hz] at h
      simp only [cond_false,Option.some.injEq,Prod.mk.injEq] at h
      simp only [Instr.fieldAt,Sem.run_bind,run_underlying hu,Result.andThen_ok,hf,Instr.sureAddr,Sem.run_pure,fieldPlace,run_sizeOf hi,WS,if_false,iz,h.1]
  | _=>simp at h
def X.on(n : Nat) : X → Option X
 | .fp row k=>some (.fp row (k + n))
 | .ptr o s i k=>some (.ptr o s i (k + n))
 | _=>none
theorem RX.on{E:Env}{p q:X}{n:Nat}{c:Value}{R:List Nat}(hq:p.on n = some q)(h:RX E p c R):∃ b off,c = .pointer (some ⟨b,off,none⟩) /\ RX E q (.pointer (some ⟨b,off + n,none⟩)) []:=by
 cases p with
 | fp row k =>
  simp only [X.on,Option.some.injEq] at hq
  subst hq
  simp only [RX] at h ⊢
  obtain ⟨_,b,off,hc,hf⟩:=h
  exact ⟨b,_,hc,trivial,b,off,by rw [Nat.add_assoc],hf⟩
 | ptr o s i k =>
  simp only [X.on,Option.some.injEq] at hq
  subst hq
  simp only [RX] at h ⊢
  obtain ⟨_,B,hB,hc⟩:=h
  exact ⟨_,_,hc,trivial,B,hB,by simp only [Nat.add_assoc]⟩
 | _=>simp [X.on] at hq
theorem Y.qo{t : TypeId}{x : Operand}{p q : X}{f off : Nat}{ft : TypeId}(ht : TY.kC P t f = some (off, ft))(hx : bV st x = some p)(hq : p.on off = some q) :
  Yields P N st ⟨dst,.fieldAddr t x f,ty,pos,af,g⟩ q:=by
 intro G E RR a _ hi
 obtain ⟨R,hp⟩:=hi.eval hx
 obtain ⟨b,o,hc,h⟩:=hp.on hq
 refine ⟨_,?_,h⟩
 show (do let z <- Instr.fieldAt t (a.eval x) f; pure (Next.value z):Sem Next).run P E.w = _
 rw [hc]
 exact ek (TY.AY ht b o E.w)
theorem TY.dV{t e s dO:Nat}(h:TY.slice P t = some (e,s,dO)):P.underlying t = some (.slice e) /\ ∃ i,P.info? e = some i /\ i.size = s /\ i.bytes = dO:=by
 unfold TY.slice at h
 split at h
 ·rename_i e' hu
  cases hi:P.info? e' with
  | none=>simp [hi] at h
  | some i =>
   simp only [hi,Option.map_some,Option.some.injEq,Prod.mk.injEq] at h
   obtain ⟨rfl,h2,h3⟩:=h
   exact ⟨hu,i,hi,h2,h3⟩
 ·cases h
theorem TY.tL{t n e s:Nat}(h:TY.array P t = some (n,e,s)):P.underlying t = some (.array n e) /\ ∃ i,P.info? e = some i /\ i.size = s:=by
 unfold TY.array at h
 split at h
 ·rename_i n' e' hu
  cases hi:P.info? e' with
  | none=>simp [hi] at h
  | some i =>
   simp only [hi,Option.map_some,Option.some.injEq,Prod.mk.injEq] at h
   obtain ⟨rfl,rfl,h3⟩:=h
   exact ⟨hu,i,hi,h3⟩
 ·cases h
theorem lZ{t e s dO : Nat}(ht : TY.slice P t = some (e, s, dO)){b off len cap m : Nat}{k : IntKind}{n : Int}(hn : n = (m : Int))(hm : m < len)(w : World) :
  (Instr.indexAt t (.slice (some ⟨b,off,none⟩) len cap) (.int k n)).run P w = .ok (.pointer (some ⟨b,off + m * s,none⟩)) w:=by
 obtain ⟨hu,i,hi,hs,_⟩:=TY.dV ht
 subst hn
 simp [Instr.indexAt,asIntOf,run_underlying hu,hm,run_sizeOf hi,hs,iz]
theorem Y.qr{t e s dO : Nat}{x ix : Operand}{rows : List (List X)}{row : List X}{k : IntKind}{n : Int}{m : Nat}(ht : TY.slice P t = some (e, s, dO))(hx : bV st x = some (.fz s rows))
  (z2:bV st ix = some (.v (.int k n))) (hn:n = (m:Int)) (hr:rows[m]? = some row):Yields P N st ⟨dst,.indexAddr t x ix,ty,pos,af,g⟩ (.fp row 0):=by
 intro G E RR a _ hi
 obtain ⟨R,hp⟩:=hi.eval hx
 have hm:m < rows.length:=by
  rcases Nat.lt_or_ge m rows.length with h' | h'
  ·exact h'
  ·simp [List.getElem?_eq_none h'] at hr
 simp only [RX] at hp
 obtain ⟨_,hu,base,cap,hc,h⟩:=hp
 rcases h with ⟨h,_⟩ | ⟨b,off,rfl,hl,hf⟩
 ·subst h; simp at hr
 ·refine ⟨.pointer (some ⟨b,off + m * s,none⟩),?_,?_⟩
  ·show (do let z <- Instr.indexAt t (a.eval x) (a.eval ix); pure (Next.value z):Sem Next).run P E.w = _
   rw [hc,hi.val z2]
   exact ek (lZ ht hn hm E.w)
  ·simp only [RX]
   exact ⟨trivial,b,off + m * s,rfl,kT.get hu hf hr⟩
theorem Y.qs{t e s dO : Nat}{x ix : Operand}{o lo len : Nat}{k : IntKind}{n : Int}{m : Nat}(ht : TY.slice P t = some (e, s, dO))(hx : bV st x = some (.aN o s lo len))
  (z2:bV st ix = some (.v (.int k n))) (hn:n = (m:Int)) (hm:m < len):Yields P N st ⟨dst,.indexAddr t x ix,ty,pos,af,g⟩ (.ptr o s (lo + m) 0):=by
 intro G E RR a _ hi
 obtain ⟨R,hp⟩:=hi.eval hx
 simp only [RX] at hp
 obtain ⟨_,base,cap,hc,h⟩:=hp
 rcases h with ⟨_,_,h,_⟩ | ⟨B,hB,_,hl,hb⟩
 ·omega
 ·have iy:base = some ⟨B.b,B.off + lo * s,none⟩:=hb.resolve_left om
  subst iy
  refine ⟨.pointer (some ⟨B.b,B.off + lo * s + m * s,none⟩),?_,?_⟩
  ·show (do let z <- Instr.indexAt t (a.eval x) (a.eval ix); pure (Next.value z):Sem Next).run P E.w = _
   rw [hc,hi.val z2]
   exact ek (lZ ht hn hm E.w)
  ·simp only [RX]
   exact ⟨trivial,B,hB,by rw [Nat.add_mul]; simp [Nat.add_assoc]⟩
theorem Y.qt{t len e s : Nat}{x ix : Operand}{p q : X}{k : IntKind}{n : Int}{m : Nat}(ht : TY.array P t = some (len, e, s))(hx : bV st x = some p)
  (z2:bV st ix = some (.v (.int k n))) (hn:n = (m:Int)) (hm:m < len) (hq:p.on (m * s) = some q):Yields P N st ⟨dst,.indexAddr t x ix,ty,pos,af,g⟩ q:=by
 intro G E RR a _ hi
 obtain ⟨R,hp⟩:=hi.eval hx
 obtain ⟨b,o,hc,h⟩:=hp.on hq
 refine ⟨_,?_,h⟩
 show (do let z <- Instr.indexAt t (a.eval x) (a.eval ix); pure (Next.value z):Sem Next).run P E.w = _
 rw [hc,hi.val z2]
 refine ek ?_
 obtain ⟨hu,i,iM,hs⟩:=TY.tL ht
 subst hn
 simp [Instr.indexAt,Instr.sureAddr,asIntOf,run_underlying hu,hm,run_sizeOf iM,hs,iz]
theorem bA.get{E : Env} : ∀ {xs : List X} {cs : List Value} {R : List Nat} {k : Nat} {x : X}, bA E xs cs R → xs[k]? = some x → ∃ u R₁, cs[k]? = some u ∧ jW u ∧ RX E x u R₁
 | [],_,_,_,_,_,h=>by simp at h
 | y :: r,cs,R,0,x,h,hx=>by
  simp only [bA] at h
  simp only [List.getElem?_cons_zero,Option.some.injEq] at hx
  subst hx
  obtain ⟨c,dv,R₁,R₂,rfl,hs,h1,_,_⟩:=h
  exact ⟨c,R₁,rfl,hs,h1⟩
 | y :: r,cs,R,k + 1,x,h,hx=>by
  simp only [bA] at h
  obtain ⟨c,dv,R₁,R₂,rfl,_,_,h2,_⟩:=h
  obtain ⟨u,R₃,hu,hs,h3⟩:=bA.get (k:=k) h2 (by simpa using hx)
  exact ⟨u,R₃,by simpa using hu,hs,h3⟩
theorem bA.length{E : Env} : ∀ {xs : List X} {cs : List Value} {R : List Nat}, bA E xs cs R → cs.length = xs.length
 | [],_,_,h=>by simp only [bA] at h; rw [h.1]; rfl
 | x :: r,_,_,h=>by
  simp only [bA] at h
  obtain ⟨c,dv,R₁,R₂,rfl,_,_,h2,_⟩:=h
  simp [bA.length h2]
theorem bA.drop{E : Env} : ∀ {xs : List X} {cs : List Value} {R : List Nat} (k : Nat), bA E xs cs R → ∃ R', bA E (xs.drop k) (cs.drop k) R'
 | [],cs,R,k,h=>by simp only [bA] at h; exact ⟨[],by simp [bA,h.1]⟩
 | y :: r,cs,R,0,h=>⟨R,h⟩
 | y :: r,cs,R,k + 1,h=>by
  simp only [bA] at h
  obtain ⟨c,dv,R₁,R₂,rfl,_,_,h2,_⟩:=h
  simpa using bA.drop k h2
theorem bA.take{E : Env} : ∀ {xs : List X} {cs : List Value} {R : List Nat} (k : Nat), bA E xs cs R → ∃ R', bA E (xs.take k) (cs.take k) R'
 | [],cs,R,k,h=>by simp only [bA] at h; exact ⟨[],by simp [bA,h.1]⟩
 | y :: r,cs,R,0,h=>⟨[],by simp [bA]⟩
 | y :: r,cs,R,k + 1,h=>by
  simp only [bA] at h
  obtain ⟨c,dv,R₁,R₂,rfl,hs,h1,h2,_⟩:=h
  obtain ⟨R',h'⟩:=bA.take k h2
  exact ⟨R₁ ++ R',by simp only [List.take_succ_cons,bA]; exact ⟨c,_,R₁,R',rfl,hs,h1,h',rfl⟩⟩
theorem Y.qu{t : TypeId}{x ix : Operand}{b : ByteArray}{k : IntKind}{n : Int}{m : Nat}(ht : P.underlying t = some .string)(hx : bV st x = some (.v (.string b)))
  (z2:bV st ix = some (.v (.int k n))) (hn:n = (m:Int)) (hm:m < b.size):Yields P N st ⟨dst,.index t x ix,ty,pos,af,g⟩ (.v (.int .u8 (b[m].toNat:Int))):=by
 intro G E RR a _ hi
 refine ⟨.int .u8 (b[m].toNat:Int),?_,by simp [RX]⟩
 show (do let z <- Instr.index t (a.eval x) (a.eval ix); pure (Next.value z):Sem Next).run P E.w = _
 rw [hi.val hx,hi.val z2]
 refine ek ?_
 subst hn
 have h0:(0:Int) <= (m:Int):=by omega
 simp [Instr.index,asIntOf,run_underlying ht,h0,getElem?_pos b m hm]
end
end Go.AW
namespace Go.AW
open Go
section
variable {P:Program} {N:fA} {st:St} {dst:Option Nat} {ty:TypeId} {pos:String} {af:Array Edge} {g:Option (Nat × Bool)}
theorem jn{b : Builtin}{args : Array Operand}{pQ : Array TypeId}{a : Act}{w w' : World}{r : Next}
  (h:(builtin b pQ ty (args.map fun | .const _=>true | _=>false) (args.map a.eval)).run P w = .ok r w') :
  (execOp a.eval ⟨dst,.call ⟨.builtin b,args,pQ⟩,ty,pos,af,g⟩).run P w = .ok r w':=h
def X.len : X → Option Nat
 | .fz _ rows=>some rows.length
 | .dK _ rows=>some rows.length
 | .aN _ _ _ n=>some n
 | .v (.slice none n _)=>some n
 | _=>none
theorem RX.len{E:Env}{x:X}{c:Value}{R:List Nat}{n:Nat}(hn:x.len = some n)(h:RX E x c R):∃ base cap,c = .slice base n cap:=by
 cases x with
 | fz s rows =>
  simp only [X.len,Option.some.injEq] at hn; subst hn
  simp only [RX] at h
  obtain ⟨_,_,base,cap,hc,_⟩:=h
  exact ⟨base,cap,hc⟩
 | dK s rows =>
  simp only [X.len,Option.some.injEq] at hn; subst hn
  simp only [RX] at h
  obtain ⟨_,base,cap,hc,_⟩:=h
  exact ⟨base,cap,hc⟩
 | aN o s lo m =>
  simp only [X.len,Option.some.injEq] at hn; subst hn
  simp only [RX] at h
  obtain ⟨_,base,cap,hc,_⟩:=h
  exact ⟨base,cap,hc⟩
 | v u =>
  simp only [RX] at h
  cases u with
  | slice b m c' =>
   cases b with
   | none=>simp only [X.len,Option.some.injEq] at hn; subst hn; exact ⟨none,c',h.1⟩
   | some b=>simp [X.len] at hn
  | _=>simp [X.len] at hn
 | _=>simp [X.len] at hn
theorem Y.qw{t e s dO : Nat}{x : Operand}{y : X}{n : Nat}(ht : TY.slice P t = some (e, s, dO))(hx : bV st x = some y)(hn : y.len = some n) :
  Yields P N st ⟨dst,.call ⟨.builtin .len,#[x],#[t]⟩,ty,pos,af,g⟩ (.v (.int .i64 (n:Int))):=by
 intro G E RR a _ hi
 obtain ⟨R,hp⟩:=hi.eval hx
 obtain ⟨base,cap,hc⟩:=hp.len hn
 refine ⟨.int .i64 (n:Int),jn ?_,by simp [RX]⟩
 obtain ⟨hu,_⟩:=TY.dV ht
 simp [builtin,Builtin.len_,hc,run_underlying hu,goInt]
theorem Y.qx{t : TypeId}{x : Operand}{b : ByteArray}(ht : P.underlying t = some .string)(hx : bV st x = some (.v (.string b))) :
  Yields P N st ⟨dst,.call ⟨.builtin .len,#[x],#[t]⟩,ty,pos,af,g⟩ (.v (.int .i64 (b.size:Int))):=by
 intro G E RR a _ hi
 refine ⟨.int .i64 (b.size:Int),jn ?_,by simp [RX]⟩
 have hc:=hi.val hx
 simp [builtin,Builtin.len_,hc,run_underlying ht,goInt]
def bound(st : St)(d : Nat) : Option Operand → Option Nat → Prop
 | none,m=>m = none \/ m = some d
 | some x,some m=>∃ k,bV st x = some (.v (.int k (m:Int)))
 | some _,none=>False
theorem run_sliceBound{k:IntKind}{m y:Nat}{code:BoundsCode}(h:m <= y)(w:World):(Instr.sliceBound (.int k (m:Int)) y code).run P w = .ok m w:=by
 have h1:(0:Int) <= (m:Int) /\ (m:Int) <= (y:Int):=by omega
 simp only [Instr.sliceBound,asIntOf,Sem.run_bind,Sem.run_pure,Result.andThen_ok,h1,and_self,if_true,Int.toNat_natCast]
inductive Bd (st:St):Option Operand -> Nat -> Nat -> Prop where
 | none (d:Nat):Bd st none d d
 | some {x:Operand} {k:IntKind} {m d:Nat} (h:bV st x = some (.v (.int k (m:Int)))):Bd st (some x) d m
theorem iW{G : Ctx}{E : Env}{RR : Own → List Nat}{a : Act}(hi : Inv G E RR st a){lo iJ : Option Operand}{len cap l h : Nat}
  (hl:Bd st lo 0 l) (hh:Bd st iJ len h) (h1:l <= h) (h2:h <= cap) (WT:Bool) (w:World) :
  (Instr.sliceBounds WT len cap (lo.map a.eval) (iJ.map a.eval) none).run P w = .ok (l,h,cap) w:=by
 cases hl with
 | none =>
  cases hh with
  | none=>simp [Instr.sliceBounds]
  | some hx=>simp [Instr.sliceBounds,hi.val hx,run_sliceBound h2]
 | some hy =>
  cases hh with
  | none=>simp [Instr.sliceBounds,hi.val hy,run_sliceBound h1]
  | some hx=>simp [Instr.sliceBounds,hi.val hx,hi.val hy,run_sliceBound h1,run_sliceBound h2]
theorem Y.zw{t e s dO : Nat}{x : Operand}{lo iJ : Option Operand}{rows : List (List X)}{l h : Nat}{mO : List (List X)}(ht : TY.slice P t = some (e, s, dO))(hx : bV st x = some (.fz s rows))
  (hl:Bd st lo 0 l) (hh:Bd st iJ rows.length h) (h1:l <= h) (h2:h <= rows.length) (hr:(rows.take h).drop l = mO) :
  Yields P N st ⟨dst,.slice t x lo iJ none,ty,pos,af,g⟩ (.fz s mO):=by
 intro G E RR a _ hi
 obtain ⟨R,hp⟩:=hi.eval hx
 simp only [RX] at hp
 obtain ⟨_,hu,base,cap,hc,cZ⟩:=hp
 obtain ⟨AZ,i,iM,fP,_⟩:=TY.dV ht
 subst hr
 have lV:h <= cap:=by
  rcases cZ with ⟨h',lW⟩ | ⟨_,_,_,xp,_⟩
  ·subst h'; simp at h2; omega
  ·omega
 refine ⟨.slice (if cap = l then base else base.map (·.add (l * s))) (h - l) (cap - l),?_,?_⟩
 ·show (do let z <- Instr.sliceAt t (a.eval x) (lo.map a.eval) (iJ.map a.eval) none; pure (Next.value z):Sem Next).run P E.w = _
  rw [hc]
  refine ek ?_
  simp only [Instr.sliceAt,Sem.run_bind,run_underlying AZ,Result.andThen_ok,Instr.slice,iW hi hl hh h1 lV,run_sizeOf iM,fP]
  rfl
 ·have hlen:((rows.take h).drop l).length = h - l:=by simp; omega
  simp only [RX,hlen]
  refine ⟨trivial,(hu.take h).drop l,_,_,rfl,?_⟩
  rcases cZ with ⟨h',lW⟩ | ⟨b,off,hb,xp,hf⟩
  ·exact .inl ⟨by subst h'; simp,om⟩
  ·refine .inr ?_
   subst hb
   by_cases vh:cap = l
   ·refine ⟨b,off,by rw [if_pos vh],om,?_⟩
    have:(rows.take h).drop l = []:=by
     apply List.eq_nil_of_length_eq_zero
     rw [hlen]; omega
    rw [this]; simp [kT]
   ·refine ⟨b,off + l * s,by rw [if_neg vh]; simp [iz],om,?_⟩
    exact kT.drop l (hu.take h) (by simp; omega) (hf.take h)
theorem Y.zy{t e s dO : Nat}{x : Operand}{lo iJ : Option Operand}{o Vg n l h : Nat}(ht : TY.slice P t = some (e, s, dO))(hx : bV st x = some (.aN o s Vg n))
  (hl:Bd st lo 0 l) (hh:Bd st iJ n h) (h1:l <= h) (h2:h <= n):Yields P N st ⟨dst,.slice t x lo iJ none,ty,pos,af,g⟩ (.aN o s (Vg + l) (h - l)):=by
 intro G E RR a _ hi
 obtain ⟨R,hp⟩:=hi.eval hx
 simp only [RX] at hp
 obtain ⟨_,base,cap,hc,cZ⟩:=hp
 obtain ⟨AZ,i,iM,fP,_⟩:=TY.dV ht
 have lV:h <= cap:=by
  rcases cZ with ⟨_,_,h',_⟩ | ⟨_,_,_,h',_⟩ <;> omega
 refine ⟨.slice (if cap = l then base else base.map (·.add (l * s))) (h - l) (cap - l),?_,?_⟩
 ·show (do let z <- Instr.sliceAt t (a.eval x) (lo.map a.eval) (iJ.map a.eval) none; pure (Next.value z):Sem Next).run P E.w = _
  rw [hc]
  refine ek ?_
  simp only [Instr.sliceAt,Sem.run_bind,run_underlying AZ,Result.andThen_ok,Instr.slice,iW hi hl hh h1 lV,run_sizeOf iM,fP]
  rfl
 ·simp only [RX]
  refine ⟨trivial,_,_,rfl,?_⟩
  rcases cZ with ⟨hβ,z3,hn,lW⟩ | ⟨B,hβ,MI,hn,hb⟩
  ·exact .inl ⟨hβ,om,om,om⟩
  ·refine .inr ⟨B,hβ,om,om,?_⟩
   by_cases vh:cap = l
   ·left; omega
   ·right
    have:=hb.resolve_left om
    rw [if_neg vh,this]
    simp only [Option.map_some,iz,Nat.add_mul,Nat.add_assoc]
theorem eT.get{E : Env} : ∀ {xs : List X} {cs : List Value} {R : List Nat} {k : Nat} {x : X}, eT E xs cs R → xs[k]? = some x → ∃ u R₁, cs[k]? = some u ∧ RX E x u R₁
 | [],_,_,_,_,_,h=>by simp at h
 | y :: r,cs,R,0,x,h,hx=>by
  simp only [eT] at h
  simp only [List.getElem?_cons_zero,Option.some.injEq] at hx
  subst hx
  obtain ⟨c,dv,R₁,R₂,rfl,h1,_,_⟩:=h
  exact ⟨c,R₁,rfl,h1⟩
 | y :: r,cs,R,k + 1,x,h,hx=>by
  simp only [eT] at h
  obtain ⟨c,dv,R₁,R₂,rfl,_,h2,_⟩:=h
  obtain ⟨u,R₃,hu,h3⟩:=eT.get (k:=k) h2 (by simpa using hx)
  exact ⟨u,R₃,by simpa using hu,h3⟩
theorem Y.qn{x:Operand}{xs:List X}{y:X}{k:Nat}(hx:bV st x = some (.tup xs))(hy:xs[k]? = some y)(hf:y.free = true):Yields P N st ⟨dst,.extract x k,ty,pos,af,g⟩ y:=by
 intro G E RR a _ hi
 obtain ⟨R,hp⟩:=hi.eval hx
 simp only [RX] at hp
 obtain ⟨cs,hc,gQ⟩:=hp
 obtain ⟨u,R₁,hu,h1⟩:=eT.get gQ hy
 have h0:=RX.free hf h1
 subst h0
 refine ⟨u,?_,h1⟩
 show (do let z <- Instr.extract (a.eval x) k; pure (Next.value z):Sem Next).run P E.w = _
 rw [hc]
 refine ek ?_
 have DI:cs[k]? = some u:=by simpa using hu
 simp only [Instr.extract,DI]; rfl
theorem Y.zk{x:Operand}{p q:X}(hx:bV st x = some p)(hq:p.on 0 = some q):Yields P N st ⟨dst,.nilCheck x,ty,pos,af,g⟩ q:=by
 intro G E RR a _ hi
 obtain ⟨R,hp⟩:=hi.eval hx
 obtain ⟨b,off,hc,h⟩:=hp.on hq
 refine ⟨_,?_,h⟩
 simp only [execOp,hc]; rfl
def X.one : X → Bool
 | .v (.agg _) | .v (.tuple _)=>false
 | .v _ | .fz .. | .dK .. | .ptr .. | .aN .. | .mref _ | .fp .. | .jQ ..=>true
 | .no | .agg _ | .tup _=>false
theorem RX.one{E:Env}{x:X}{c:Value}{R:List Nat}(ho:x.one = true)(h:RX E x c R):jW c:=by
 cases x with
 | v u =>
  simp only [RX] at h
  rw [h.1]
  cases u <;> first | trivial | (simp [X.one] at ho)
 | fz s rows=>simp only [RX] at h; obtain ⟨_,_,_,_,rfl,_⟩:=h; trivial
 | dK s rows=>simp only [RX] at h; obtain ⟨_,_,_,rfl,_⟩:=h; trivial
 | ptr o s i k=>simp only [RX] at h; obtain ⟨_,_,_,rfl⟩:=h; trivial
 | aN o s lo n=>simp only [RX] at h; obtain ⟨_,_,_,rfl,_⟩:=h; trivial
 | mref o=>simp only [RX] at h; obtain ⟨_,_,_,rfl⟩:=h; trivial
 | fp row k=>simp only [RX] at h; obtain ⟨_,_,_,rfl,_⟩:=h; trivial
 | jQ fn f c=>simp only [RX] at h; obtain ⟨_,_,_,rfl,_⟩:=h; trivial
 | _=>simp [X.one] at ho
def X.flat : X → Option (List X)
 | .agg xs=>some xs
 | x=>bif x.one then some [x] else none
theorem wy{c:Value}(h:jW c):c.cells = #[c]:=by
 cases c <;> first | rfl | exact h.elim
theorem RX.flat{E:Env}{x:X}{c:Value}{R:List Nat}{ys:List X}(hf:x.flat = some ys)(h:RX E x c R):bA E ys c.cells.toList R:=by
 by_cases hx:∃ xs,x = .agg xs
 ·obtain ⟨xs,rfl⟩:=hx
  simp only [X.flat,Option.some.injEq] at hf
  subst hf
  simp only [RX] at h
  obtain ⟨cs,rfl,h⟩:=h
  exact h
 ·have h1:x.one = true /\ ys = [x]:=by
   unfold X.flat at hf
   split at hf
   ·exact absurd ⟨_,rfl⟩ hx
   ·cases ho:x.one with
    | false=>simp [ho] at hf
    | true=>simp [ho] at hf; exact ⟨rfl,hf.symm⟩
  obtain ⟨ho,rfl⟩:=h1
  have hs:=h.one ho
  rw [wy hs]
  simp only [bA]
  exact ⟨c,[],R,[],rfl,hs,h,⟨rfl,rfl⟩,by simp⟩
end
end Go.AW
namespace Go.AW
open Go
theorem dR.mono{E E':Env}{o:Nat}{ob:Obj}{R:List Nat}(hE:E.On E' R)(ho:E'.β o = E.β o)(hm:∀ q,ob.ct q = true -> E'.β q = E.β q)(h:dR E o ob R):dR E' o ob R:=by
 cases ob with
 | cells xs =>
  simp only [dR] at h ⊢
  obtain ⟨tp,B,cs,ty,hB,hw,hf,hl,hR,rfl⟩:=h
  have h2:=hE.2 B.b (by simp)
  exact ⟨tp,B,cs,ty,ho.trans hB,h2.1.trans hw,h2.2 hf,hl,RO.mono xs cs _ [] (hE.sub (fun _ h=>by cases h)) hm hR,rfl⟩
 | rows s rs =>
  simp only [dR] at h ⊢
  obtain ⟨hu,h⟩:=h
  refine ⟨hu,?_⟩
  rcases h with ⟨h1,h2,h3⟩ | ⟨B,cs,ty,R',hB,hw,hf,hl,hc,hR,rfl⟩
  ·exact .inl ⟨ho.trans h1,h2,h3⟩
  ·have h2:=hE.2 B.b (by simp)
   exact .inr ⟨B,cs,ty,R',ho.trans hB,h2.1.trans hw,h2.2 hf,hl,hc,cG.mono rs cs _ R' (hE.sub (fun _ h=>by simp [h])) hR,rfl⟩
 | yH es =>
  simp only [dR] at h ⊢
  obtain ⟨B,tc,clock,hB,hw,hf,he,rfl⟩:=h
  have h2:=hE.2 B.b (by simp)
  exact ⟨B,tc,clock,ho.trans hB,h2.1.trans hw,h2.2 hf,he,rfl⟩
 | gone=>simpa [dR] using h
 | hole rs i q s n =>
  simp only [dR] at h ⊢
  obtain ⟨hu,B,cs,ty,R',u,hB,hw,hf,hl,hc,hR,rfl,hi,yI,hs,hx⟩:=h
  have h2:=hE.2 B.b (by simp)
  exact ⟨hu, B, cs, ty, R', u, ho.trans hB, h2.1.trans hw, h2.2 hf, hl, hc, cG.mono rs cs _ R' (hE.sub (fun _ h => by simp [h])) hR, rfl, hi, yI, hs,
   RX.mono _ u [] (hE.sub (fun _ h=>by cases h)) (fun p hp=>hm p hp) hx⟩
structure di(G:Ctx)(E E':Env)(T:Nat -> Prop):Prop where
 φ:E'.φ = E.φ
 free:∀ b,T b -> ∀ i,E.φ b i = none
 out:∀ b,T b -> ¬ G.K b
 same:∀ b,b < E.w.heap.size -> ¬ T b -> E'.w.heap[b]? = E.w.heap[b]?
 size:E.w.heap.size <= E'.w.heap.size
 os:E'.w.os = E.w.os
 tape:E'.w.tape = E.w.tape
 output:E'.w.output = E.w.output
section
variable {G:Ctx} {E E':Env} {RR:Own -> List Nat} {st:St} {a:Act} {T:Nat -> Prop}
theorem di.on(hm:di G E E' T)(hi:Inv G E RR st a){p:Own}(hT:∀ b ∈ RR p,¬ T b):E.On E' (RR p) :=
 ⟨fun b i v h=>by rw [hm.φ]; exact h,fun b hb=>⟨hm.same b (hi.own p b hb).1 (hT b hb),fun h=>by rw [hm.φ]; exact h⟩⟩
theorem di.ox(hm:di G E E' T)(hi:Inv G E RR st a):∀ b i v,E'.φ b i = some v -> E'.w.cell? ⟨b,i,none⟩ = some v:=by
 intro b i v h
 rw [hm.φ] at h
 have h0:=hi.ox b i v h
 have gP:=World.block_lt_of_cell? E.w _ h0
 have hT:¬ T b:=fun hT=>by rw [hm.free b hT i] at h; cases h
 have:=hm.same b gP hT
 rw [World.cell?_of_block this]; exact h0
theorem di.ai(hm:di G E E' T)(hi:Inv G E RR st a):∀ b,G.K b -> E'.w.heap[b]? = G.w0.heap[b]?:=by
 intro b hK
 have gP:b < E.w.heap.size:=Nat.lt_of_lt_of_le (hi.small b hK) hi.size
 rw [hm.same b gP (fun hT=>hm.out b hT hK)]
 exact hi.ai b hK
theorem di.slot(hm : di G E E' T)(hi : Inv G E RR st a){s : Nat}{x : X}(hx : look st.aF s = some x)(hT : ∀ b ∈ RR (.slot s), ¬ T b)(hβ : ∀ o, x.eM o = true → E'.β o = E.β o) :
  RX E' x (a.tmps.getD s undef) (RR (.slot s)) :=
 RX.mono x _ _ (hm.on hi hT) hβ (hi.aF s x hx)
theorem di.obj(hm : di G E E' T)(hi : Inv G E RR st a){o : Nat}{ob : Obj}(hx : look st.aG o = some ob)(hT : ∀ b ∈ RR (.obj o), ¬ T b)(ho : E'.β o = E.β o)
  (hβ:∀ q,ob.ct q = true -> E'.β q = E.β q):dR E' o ob (RR (.obj o)) :=
 dR.mono (hm.on hi hT) ho hβ (hi.aG o ob hx)
theorem di.own(hm:di G E E' T)(hi:Inv G E RR st a):∀ p b,b ∈ RR p -> b < E'.w.heap.size /\ ¬ G.K b :=
 fun p b hb=>⟨Nat.lt_of_lt_of_le (hi.own p b hb).1 hm.size,(hi.own p b hb).2⟩
theorem Inv.Ba(hi:Inv G E RR st a)(hm:di G E E' (fun _=>False))(hβ:E'.β = E.β):Inv G E' RR st a :=
 {hi with
  ox:=hm.ox hi
  aF:=fun s x hx=>hm.slot hi hx (fun _ _ h=>h) (fun o _=>by rw [hβ])
  aG:=fun o ob ho=>hm.obj hi ho (fun _ _ h=>h) (by rw [hβ]) (fun _ _=>by rw [hβ])
  own:=hm.own hi
  ai:=hm.ai hi
  size:=Nat.le_trans hi.size hm.size
  os:=hm.os.trans hi.os
  tape:=hm.tape.trans hi.tape
  output:=hm.output.trans hi.output
  φ0:=fun b i v h=>by rw [hm.φ]; exact hi.φ0 b i v h
  grow:=fun b i v h=>by rw [hm.φ] at h; exact hi.grow b i v h
  fixed:=fun o h=>by rw [hβ]; exact hi.fixed o h }
theorem di.alloc(G:Ctx)(E:Env)(o:Go.Obj):di G E { E with w:=E.w.alloc o } (fun _=>False) where
 φ:=rfl
 free:=fun _ h=>h.elim
 out:=fun _ h=>h.elim
 same:=fun b hb _=>by
  show (E.w.heap.push o)[b]? = _
  rw [Array.getElem?_push,if_neg om]
 size:=by simp
 os:=rfl
 tape:=rfl
 output:=rfl
theorem di.drew(G:Ctx)(E:Env):di G E { E with w:=E.w.drew } (fun _=>False) where
 φ:=rfl
 free:=fun _ h=>h.elim
 out:=fun _ h=>h.elim
 same:=fun _ _ _=>rfl
 size:=Nat.le_refl _
 os:=rfl
 tape:=rfl
 output:=rfl
theorem di.trans{ma:Env}{T':Nat -> Prop}(h:di G E E' T)(h':di G E' ma T')(dS:∀ b,T' b -> T b \/ (E.w.heap.size <= b)):di G E ma T where
 φ:=h'.φ.trans h.φ
 free:=h.free
 out:=h.out
 same:=fun b hb hT=>by
  have h1:=h.same b hb hT
  rw [<- h1]
  refine h'.same b (Nat.lt_of_lt_of_le hb h.size) (fun WU=>?_)
  rcases dS b WU with h2 | h2
  ·exact hT h2
  ·omega
 size:=Nat.le_trans h.size h'.size
 os:=h'.os.trans h.os
 tape:=h'.tape.trans h.tape
 output:=h'.output.trans h.output
theorem di.setRow(G:Ctx)(E:Env)(b:Nat)(cs:Array Value)(hf:∀ i,E.φ b i = none)(hK:¬ G.K b):di G E { E with w:=E.w.setRow b cs } (fun c=>c = b) where
 φ:=rfl
 free:=fun c h=>by subst h; exact hf
 out:=fun c h=>by subst h; exact hK
 same:=fun c _ h=>setRow_other E.w b c cs h
 size:=by simp
 os:=rfl
 tape:=rfl
 output:=rfl
theorem Inv.relabel(hi : Inv G E RR st a){d : Nat}{x : X}{R : List Nat}(hx : RX E x (a.tmps.getD d undef) R)(hn : R.Nodup)
  (hR:∀ b ∈ R,b < E.w.heap.size /\ ¬ G.K b /\ ∀ p,p ≠ .slot d -> b ∉ RR p):Inv G E (gg RR (.slot d) R) (st.put d x) a:=by
 refine { hi with aF:=?_,aG:=?_,nodup:=?_,apart:=?_,own:=?_ }
 ·intro s y hy
  simp only [St.put,look] at hy
  cases hb:Nat.beq d s with
  | true =>
   have:=Nat.eq_of_beq_eq_true hb
   subst this
   rw [hb] at hy
   simp only [cond_true,Option.some.injEq] at hy
   subst hy
   simpa [gg] using hx
  | false =>
   have fN:=Nat.ne_of_beq_eq_false hb
   rw [hb] at hy
   have:gg RR (.slot d) R (.slot s) = RR (.slot s):=by simp [gg,Ne.symm fN]
   rw [this]
   exact hi.aF s y hy
 ·intro o ob ho
  have:gg RR (.slot d) R (.obj o) = RR (.obj o):=by simp [gg]
  rw [this]; exact hi.aG o ob ho
 ·intro p
  unfold gg
  split
  ·exact hn
  ·exact hi.nodup p
 ·intro p q ny b hb
  unfold gg at hb ⊢
  split at hb
  ·rename_i hp
   subst hp
   rw [if_neg (Ne.symm ny)]
   exact (hR b hb).2.2 q (Ne.symm ny)
  ·split
   ·rename_i hp hq
    subst hq
    intro iy
    exact (hR b iy).2.2 p ny hb
   ·exact hi.apart p q ny b hb
 ·intro p b hb
  unfold gg at hb
  split at hb
  ·exact ⟨(hR b hb).1,(hR b hb).2.1⟩
  ·exact hi.own p b hb
theorem Inv.no(hi:Inv G E RR st a)(d:Nat):Inv G E (gg RR (.slot d) []) (st.put d .no) a :=
 hi.relabel (by simp [RX]) List.nodup_nil (fun _ h=>by cases h)
def St.dC(st:St)(o:Nat)(ob:Obj):St:={ st with aG:=(o,ob) :: st.aG }
theorem Inv.dC(hi : Inv G E RR st a){o : Nat}{ob : Obj}{R : List Nat}(hx : dR E o ob R)(hn : R.Nodup)
  (hR:∀ b ∈ R,b < E.w.heap.size /\ ¬ G.K b /\ ∀ p,p ≠ .obj o -> b ∉ RR p):Inv G E (gg RR (.obj o) R) (st.dC o ob) a:=by
 refine { hi with aF:=?_,aG:=?_,nodup:=?_,apart:=?_,own:=?_ }
 ·intro s y hy
  have:gg RR (.obj o) R (.slot s) = RR (.slot s):=by simp [gg]
  rw [this]; exact hi.aF s y hy
 ·intro q yJ ho
  simp only [St.dC,look] at ho
  cases hb:Nat.beq o q with
  | true =>
   have:=Nat.eq_of_beq_eq_true hb
   subst this
   rw [hb] at ho
   simp only [cond_true,Option.some.injEq] at ho
   subst ho
   simpa [gg] using hx
  | false =>
   have fN:=Nat.ne_of_beq_eq_false hb
   rw [hb] at ho
   have:gg RR (.obj o) R (.obj q) = RR (.obj q):=by simp [gg,Ne.symm fN]
   rw [this]
   exact hi.aG q yJ ho
 ·intro p
  unfold gg
  split
  ·exact hn
  ·exact hi.nodup p
 ·intro p q ny b hb
  unfold gg at hb ⊢
  split at hb
  ·rename_i hp
   subst hp
   rw [if_neg (Ne.symm ny)]
   exact (hR b hb).2.2 q (Ne.symm ny)
  ·split
   ·rename_i hp hq
    subst hq
    intro iy
    exact (hR b iy).2.2 p ny hb
   ·exact hi.apart p q ny b hb
 ·intro p b hb
  unfold gg at hb
  split at hb
  ·exact ⟨(hR b hb).1,(hR b hb).2.1⟩
  ·exact hi.own p b hb
end
def nU(o:Nat)(x:X):X:=bif x.eM o then .no else x
def tM(o:Nat)(l:List (Nat × X)):List (Nat × X):=l.map fun p=>(p.1,nU o p.2)
def Obj.sH(o : Nat) : Obj → Obj
 | .cells xs=>.cells (xs.map (nU o))
 | .hole rs i q s n=>bif Nat.beq q o then .rows 1 rs else .hole rs i q s n
 | ob=>ob
def wz(o:Nat)(l:List (Nat × Obj)):List (Nat × Obj):=l.map fun p=>(p.1,p.2.sH o)
def St.kill(st:St)(o:Nat):St:=⟨tM o st.aF,wz o st.aG⟩
theorem oz{α β : Type}(f : α → β) : ∀ (l : List (Nat × α)) (s : Nat), look (l.map fun p => (p.1, f p.2)) s = (look l s).map f
 | [],_=>rfl
 | (t,x) :: r,s=>by
  simp only [List.map_cons,look]
  cases Nat.beq t s with
  | true=>rfl
  | false=>exact oz f r s
theorem z5(o:Nat){x:X}(h:x.free = true):(nU o x).free = true:=by
 unfold nU
 cases x.eM o with
 | true=>rfl
 | false=>exact h
theorem tN(o : Nat) : ∀ {xs : List X}, X.b6 xs = true → X.b6 (xs.map (nU o)) = true
 | [],_=>rfl
 | x :: r,h=>by
  simp only [X.b6,Bool.and_eq_true] at h
  simp only [List.map_cons,X.b6,z5 o h.1,tN o h.2,Bool.and_self]
theorem RO.kill{E : Env}{o : Nat} : ∀ {xs : List X} {cs : Array Value} {off : Nat}, X.b6 xs = true → RO E xs cs off [] → RO E (xs.map (nU o)) cs off []
 | [],_,_,_,h=>h
 | x :: r,cs,off,hf,h=>by
  simp only [RO] at h
  obtain ⟨u,R₁,R₂,hu,hs,h1,h2,hR⟩:=h
  simp only [X.b6,Bool.and_eq_true] at hf
  have Rf:=RX.free hf.1 h1
  have Rg:=RO.free hf.2 h2
  subst Rf; subst Rg
  have h3:=RO.kill (o:=o) hf.2 h2
  simp only [List.map_cons,RO]
  refine ⟨u,[],[],hu,hs,?_,h3,rfl⟩
  unfold nU
  cases x.eM o with
  | true=>simp [RX]
  | false=>exact h1
theorem q4(o : Nat) : ∀ (xs : List X) (q : Nat), X.ct q (xs.map (nU o)) = true → q ≠ o ∧ X.ct q xs = true
 | [],_,h=>by simp [X.ct] at h
 | x :: r,q,h=>by
  simp only [List.map_cons,X.ct,Bool.or_eq_true] at h ⊢
  rcases h with h | h
  ·unfold nU at h
   cases hk:x.eM o with
   | true=>simp [hk,X.eM] at h
   | false =>
    rw [hk] at h
    simp only [cond_false] at h
    exact ⟨fun hq=>by (subst hq; rw [hk] at h; cases h),.inl h⟩
  ·exact ⟨(q4 o r q h).1,.inr (q4 o r q h).2⟩
theorem dR.w4{E:Env}{o i q s n:Nat}{rs:List (List X)}{R:List Nat}(h:dR E o (.hole rs i q s n) R):dR E o (.rows 1 rs) R:=by
 simp only [dR] at h ⊢
 obtain ⟨hu,B,cs,ty,R',u,hB,hw,hf,hl,hc,hR,jd,_⟩:=h
 exact ⟨hu,.inr ⟨B,cs,ty,R',hB,hw,hf,hl,by simpa using hc,hR,jd⟩⟩
section
variable {G:Ctx} {E E':Env} {RR:Own -> List Nat} {st:St} {a:Act} {T:Nat -> Prop}
theorem Inv.xq(hi:Inv G E RR st a){o b:Nat}(h:b ∈ RR (.obj o) \/ E.w.heap.size <= b):∀ p,p ≠ .obj o -> b ∉ RR p:=by
 intro p hp hb
 rcases h with h | h
 ·exact hi.apart p _ hp b hb h
 ·have:=(hi.own p b hb).1; omega
def fh(st : St)(RR : Own → List Nat)(o : Nat)(R : List Nat) : Own → List Nat
 | .obj q=>if q = o then R else RR (.obj q)
 | .slot s=>match look st.aF s with
  | some x=>bif x.eM o then [] else RR (.slot s)
  | none=>RR (.slot s)
theorem je(st:St)(RR:Own -> List Nat)(o:Nat)(R:List Nat)(s:Nat):fh st RR o R (.slot s) = [] \/ fh st RR o R (.slot s) = RR (.slot s):=by
 cases hs:look st.aF s with
 | none=>exact .inr (by simp [fh,hs])
 | some x=>cases hk:x.eM o with
  | true=>exact .inl (by simp [fh,hs,hk])
  | false=>exact .inr (by simp [fh,hs,hk])
theorem Inv.l8(hi : Inv G E RR st a)(hm : di G E E' T){o : Nat}{ob : Obj}{R : List Nat}(hT : ∀ b, T b → b ∈ RR (.obj o))(hβ : ∀ q, q ≠ o → E'.β q = E.β q)(Rh : G.fn.F.elem o = true → E'.β o = E.β o)
  (hx:dR E' o ob R) (hn:R.Nodup) (hR:∀ b ∈ R,b < E'.w.heap.size /\ ¬ G.K b /\ ∀ p,p ≠ .obj o -> b ∉ RR p) :
  Inv G E' (fh st RR o R) ((st.kill o).dC o ob) a:=by
 have hold:∀ p,p ≠ .obj o -> ∀ b ∈ RR p,¬ T b:=fun p hp b hb IE=>hi.apart p (.obj o) hp b hb (hT b IE)
 have dS:∀ p,p ≠ .obj o -> ∀ b ∈ fh st RR o R p,b ∈ RR p:=by
  intro p hp b hb
  cases p with
  | obj q =>
   have:q ≠ o:=fun e=>hp (by rw [e])
   simpa [fh,this] using hb
  | slot s =>
   rcases je st RR o R s with h | h
   ·rw [h] at hb; cases hb
   ·rw [h] at hb; exact hb
 have xr:fh st RR o R (.obj o) = R:=by simp [fh]
 have o0:∀ p,p ≠ .obj o -> ∀ b ∈ RR p,b ∉ R:=by
  intro p hp b hb JG
  exact (hR b JG).2.2 p hp hb
 have Ri:∀ b i v,G.φ0 b i = some v -> E'.φ b i = some v:=fun b i v h=>by rw [hm.φ]; exact hi.φ0 b i v h
 have DJ:∀ b i v,E'.φ b i = some v -> G.φ0 b i = some v \/ ¬ G.K b:=fun b i v h=>by rw [hm.φ] at h; exact hi.grow b i v h
 refine { hi with ox:=hm.ox hi,aF:=?_,aG:=?_,nodup:=?_,apart:=?_,own:=?_,ai:=hm.ai hi,size:=Nat.le_trans hi.size hm.size,os:=hm.os.trans hi.os,tape:=hm.tape.trans hi.tape,output:=hm.output.trans hi.output,φ0:=Ri,grow:=DJ,fixed:=?_ }
 ·intro s y hy
  have hl:look (tM o st.aF) s = some y:=hy
  unfold tM at hl
  rw [oz (nU o)] at hl
  cases hs:look st.aF s with
  | none=>simp [hs] at hl
  | some x =>
   rw [hs] at hl
   simp only [Option.map_some,Option.some.injEq] at hl
   subst hl
   cases hk:x.eM o with
   | true=>simp [fh,hs,hk,nU,RX]
   | false =>
    have:fh st RR o R (.slot s) = RR (.slot s):=by simp [fh,hs,hk]
    rw [this]
    simp only [nU,hk,cond_false]
    exact hm.slot hi hs (hold _ (by simp)) (fun q hq=>hβ q (fun e=>by subst e; rw [hk] at hq; cases hq))
 ·intro q yJ ho
  simp only [St.dC,look] at ho
  cases hb:Nat.beq o q with
  | true =>
   have:=Nat.eq_of_beq_eq_true hb
   subst this
   rw [hb] at ho
   simp only [cond_true,Option.some.injEq] at ho
   subst ho
   rw [xr]; exact hx
  | false =>
   have fN:=Nat.ne_of_beq_eq_false hb
   rw [hb] at ho
   have hl:look (wz o st.aG) q = some yJ:=ho
   unfold wz at hl
   rw [oz (Obj.sH o)] at hl
   have hr:fh st RR o R (.obj q) = RR (.obj q):=by simp [fh,Ne.symm fN]
   rw [hr]
   cases hs:look st.aG q with
   | none=>simp [hs] at hl
   | some MJ =>
    rw [hs] at hl
    simp only [Option.map_some,Option.some.injEq] at hl
    subst hl
    have kE:=hi.aG q MJ hs
    have iA:=hm.on hi (p:=.obj q) (hold _ (by simpa using Ne.symm fN))
    cases MJ with
    | cells xs =>
     simp only [Obj.sH,dR] at kE ⊢
     obtain ⟨tp,B,cs,ty,hB,hw,hf,hlen,jX,jd⟩:=kE
     have h2:=iA.2 B.b (by rw [jd]; simp)
     exact ⟨tN o tp, B, cs, ty, (hβ q (Ne.symm fN)).trans hB, h2.1.trans hw, h2.2 hf, by simpa using hlen,
      RO.mono _ cs _ [] (iA.sub (fun _ h=>by cases h)) (fun p hp=>hβ p (q4 o xs p hp).1) (RO.kill tp jX),jd⟩
    | rows s rs=>exact dR.mono iA (hβ q (Ne.symm fN)) (fun p h=>by cases h) kE
    | yH es=>exact dR.mono iA (hβ q (Ne.symm fN)) (fun p h=>by cases h) kE
    | gone=>simpa [dR,Obj.sH] using kE
    | hole rs i p s n =>
     cases hb:Nat.beq p o with
     | false =>
      rw [show (Obj.hole rs i p s n).sH o = .hole rs i p s n by simp [Obj.sH,hb]]
      refine dR.mono iA (hβ q (Ne.symm fN)) (fun x hx=>hβ x fun e=>?_) kE
      have h1:=Nat.eq_of_beq_eq_true (show Nat.beq p x = true from hx)
      subst h1; subst e; simp at hb
     | true =>
      rw [show (Obj.hole rs i p s n).sH o = .rows 1 rs by simp [Obj.sH,hb]]
      exact dR.mono iA (hβ q (Ne.symm fN)) (fun p h=>by cases h) kE.w4
 ·intro p
  by_cases hp:p = .obj o
  ·subst hp; rw [xr]; exact hn
  ·cases p with
   | obj q =>
    have:q ≠ o:=fun e=>hp (by rw [e])
    simpa [fh,this] using hi.nodup (.obj q)
   | slot s =>
    rcases je st RR o R s with h | h
    ·rw [h]; exact List.nodup_nil
    ·rw [h]; exact hi.nodup _
 ·intro p q ny b hb iy
  by_cases hp:p = .obj o
  ·subst hp
   rw [xr] at hb
   have hq:q ≠ .obj o:=Ne.symm ny
   exact o0 q hq b (dS q hq b iy) hb
  ·by_cases hq:q = .obj o
   ·subst hq
    rw [xr] at iy
    exact o0 p hp b (dS p hp b hb) iy
   ·exact hi.apart p q ny b (dS p hp b hb) (dS q hq b iy)
 ·intro p b hb
  by_cases hp:p = .obj o
  ·subst hp
   rw [xr] at hb
   exact ⟨(hR b hb).1,(hR b hb).2.1⟩
  ·exact hm.own hi p b (dS p hp b hb)
 ·intro q hq
  by_cases MK:q = o
  ·subst MK; rw [Rh hq]; exact hi.fixed q hq
  ·rw [hβ q MK]; exact hi.fixed q hq
theorem Inv.DK(hi : Inv G E RR st a)(hm : di G E E' T){o : Nat}{ob : Obj}{R : List Nat}(hT : ∀ b, T b → b ∈ RR (.obj o))(hβ : E'.β = E.β)
  (hx:dR E' o ob R) (hn:R.Nodup) (hR:∀ b ∈ R,b < E'.w.heap.size /\ ¬ G.K b /\ ∀ p,p ≠ .obj o -> b ∉ RR p) :
  Inv G E' (gg RR (.obj o) R) (st.dC o ob) a:=by
 have hold:∀ p,p ≠ .obj o -> ∀ b ∈ RR p,¬ T b:=fun p hp b hb IE=>hi.apart p (.obj o) hp b hb (hT b IE)
 have o0:∀ p,p ≠ .obj o -> ∀ b ∈ RR p,b ∉ R:=by
  intro p hp b hb JG
  exact (hR b JG).2.2 p hp hb
 have Ri:∀ b i v,G.φ0 b i = some v -> E'.φ b i = some v:=fun b i v h=>by rw [hm.φ]; exact hi.φ0 b i v h
 have DJ:∀ b i v,E'.φ b i = some v -> G.φ0 b i = some v \/ ¬ G.K b:=fun b i v h=>by rw [hm.φ] at h; exact hi.grow b i v h
 refine { hi with ox:=hm.ox hi,aF:=?_,aG:=?_,nodup:=?_,apart:=?_,own:=?_,ai:=hm.ai hi,size:=Nat.le_trans hi.size hm.size,os:=hm.os.trans hi.os,tape:=hm.tape.trans hi.tape,output:=hm.output.trans hi.output,φ0:=Ri,grow:=DJ,fixed:=fun q hq=>by rw [hβ]; exact hi.fixed q hq }
 ·intro s y hy
  have:gg RR (.obj o) R (.slot s) = RR (.slot s):=by simp [gg]
  rw [this]
  exact hm.slot hi hy (hold _ (by simp)) (fun q _=>by rw [hβ])
 ·intro q yJ ho
  simp only [St.dC,look] at ho
  cases hb:Nat.beq o q with
  | true =>
   have:=Nat.eq_of_beq_eq_true hb
   subst this
   rw [hb] at ho
   simp only [cond_true,Option.some.injEq] at ho
   subst ho
   simpa [gg] using hx
  | false =>
   have fN:=Nat.ne_of_beq_eq_false hb
   rw [hb] at ho
   have:gg RR (.obj o) R (.obj q) = RR (.obj q):=by simp [gg,Ne.symm fN]
   rw [this]
   exact hm.obj hi ho (hold _ (by simpa using Ne.symm fN)) (by rw [hβ]) (fun _ _=>by rw [hβ])
 ·intro p
  unfold gg
  split
  ·exact hn
  ·exact hi.nodup p
 ·intro p q ny b hb iy
  unfold gg at hb iy
  split at hb
  ·rename_i hp
   subst hp
   rw [if_neg (Ne.symm ny)] at iy
   exact o0 q (Ne.symm ny) b iy hb
  ·rename_i hp
   split at iy
   ·exact o0 p hp b hb iy
   ·exact hi.apart p q ny b hb iy
 ·intro p b hb
  unfold gg at hb
  split at hb
  ·exact ⟨(hR b hb).1,(hR b hb).2.1⟩
  ·exact hm.own hi p b hb
end
end Go.AW
namespace Go.AW
open Go
section
variable {E:Env}
theorem RO.ext : ∀ {xs : List X} {cs dv : Array Value} {off : Nat} {R : List Nat}, (∀ j, j < xs.length → dv[off + j]? = cs[off + j]?) → RO E xs cs off R → RO E xs dv off R
 | [],_,_,_,_,_,h=>by simpa [RO] using h
 | x :: r,cs,dv,off,R,he,h=>by
  simp only [RO] at h ⊢
  obtain ⟨u,R₁,R₂,hu,hs,h1,h2,hR⟩:=h
  refine ⟨u,R₁,R₂,?_,hs,h1,RO.ext (fun j hj=>?_) h2,hR⟩
  ·have:=he 0 (by simp)
   rw [Nat.add_zero] at this
   rw [this]; exact hu
  ·have:=he (j + 1) (by simp; omega)
   rw [show off + 1 + j = off + (j + 1) by omega]; exact this
theorem cG.ext : ∀ {rs : List (List X)} {cs dv : Array Value} {off : Nat} {R : List Nat}, (∀ j, j < rs.flatten.length → dv[off + j]? = cs[off + j]?) → cG E rs cs off R → cG E rs dv off R
 | [],_,_,_,_,_,h=>by simpa [cG] using h
 | x :: r,cs,dv,off,R,he,h=>by
  simp only [cG] at h ⊢
  obtain ⟨R₁,R₂,hn,h1,h2,hR⟩:=h
  refine ⟨R₁,R₂,hn,RO.ext (fun j hj=>he j (by simp; omega)) h1,cG.ext (fun j hj=>?_) h2,hR⟩
  have:=he (x.length + j) (by simp at hj ⊢; omega)
  rw [Nat.add_assoc]; exact this
theorem RO.app : ∀ {xs ys : List X} {cs : Array Value} {off : Nat} {R₁ R₂ : List Nat}, RO E xs cs off R₁ → RO E ys cs (off + xs.length) R₂ → RO E (xs ++ ys) cs off (R₁ ++ R₂)
 | [],ys,cs,off,R₁,R₂,h,h'=>by simp only [RO] at h; subst h; simpa using h'
 | x :: r,ys,cs,off,R₁,R₂,h,h'=>by
  simp only [RO] at h
  obtain ⟨u,R₃,R₄,hu,hs,h1,h2,rfl⟩:=h
  simp only [List.cons_append,RO]
  refine ⟨u,R₃,R₄ ++ R₂,hu,hs,h1,RO.app h2 ?_,by simp⟩
  rw [show off + 1 + r.length = off + (x :: r).length by simp; omega]; exact h'
theorem RO.qZ : ∀ {xs ys : List X} {cs : Array Value} {off : Nat} {R : List Nat}, RO E (xs ++ ys) cs off R → ∃ R₁ R₂, RO E xs cs off R₁ ∧ RO E ys cs (off + xs.length) R₂ ∧ R = R₁ ++ R₂
 | [],ys,cs,off,R,h=>⟨[],R,by simp [RO],by simpa using h,rfl⟩
 | x :: r,ys,cs,off,R,h=>by
  simp only [List.cons_append,RO] at h
  obtain ⟨u,R₃,R₄,hu,hs,h1,h2,rfl⟩:=h
  obtain ⟨R₁,R₂,h3,h4,rfl⟩:=RO.qZ h2
  refine ⟨R₃ ++ R₁,R₂,?_,?_,by simp⟩
  ·simp only [RO]; exact ⟨u,R₃,R₁,hu,hs,h1,h3,rfl⟩
  ·rw [show off + (x :: r).length = off + 1 + r.length by simp; omega]; exact h4
theorem cG.app : ∀ {xs ys : List (List X)} {cs : Array Value} {off : Nat} {R₁ R₂ : List Nat}, cG E xs cs off R₁ → cG E ys cs (off + xs.flatten.length) R₂ → cG E (xs ++ ys) cs off (R₁ ++ R₂)
 | [],ys,cs,off,R₁,R₂,h,h'=>by simp only [cG] at h; subst h; simpa using h'
 | x :: r,ys,cs,off,R₁,R₂,h,h'=>by
  simp only [cG] at h
  obtain ⟨R₃,R₄,hn,h1,h2,rfl⟩:=h
  simp only [List.cons_append,cG]
  refine ⟨R₃,R₄ ++ R₂,hn,h1,cG.app h2 ?_,by simp⟩
  rw [show off + x.length + r.flatten.length = off + (x :: r).flatten.length by simp; omega]; exact h'
theorem cG.qZ : ∀ {xs ys : List (List X)} {cs : Array Value} {off : Nat} {R : List Nat}, cG E (xs ++ ys) cs off R → ∃ R₁ R₂, cG E xs cs off R₁ ∧ cG E ys cs (off + xs.flatten.length) R₂ ∧ R = R₁ ++ R₂
 | [],ys,cs,off,R,h=>⟨[],R,by simp [cG],by simpa using h,rfl⟩
 | x :: r,ys,cs,off,R,h=>by
  simp only [List.cons_append,cG] at h
  obtain ⟨R₃,R₄,hn,h1,h2,rfl⟩:=h
  obtain ⟨R₁,R₂,h3,h4,rfl⟩:=cG.qZ h2
  refine ⟨R₃ ++ R₁,R₂,?_,?_,by simp⟩
  ·simp only [cG]; exact ⟨R₃,R₁,hn,h1,h3,rfl⟩
  ·rw [show off + (x :: r).flatten.length = off + x.length + r.flatten.length by simp; omega]; exact h4
theorem RO.of : ∀ {xs : List X} {vs : List Value} {cs : Array Value} {off : Nat} {R : List Nat}, bA E xs vs R → (∀ j v, vs[j]? = some v → cs[off + j]? = some v) → RO E xs cs off R
 | [],_,_,_,_,h,_=>by simp only [bA] at h; simp [RO,h.2]
 | x :: r,vs,cs,off,R,h,hv=>by
  simp only [bA] at h
  obtain ⟨c,dv,R₁,R₂,rfl,hs,h1,h2,rfl⟩:=h
  simp only [RO]
  refine ⟨c,R₁,R₂,?_,hs,h1,RO.of h2 (fun j v hj=>?_),rfl⟩
  ·simpa using hv 0 c rfl
  ·rw [show off + 1 + j = off + (j + 1) by omega]; exact hv (j + 1) v (by simpa using hj)
theorem length_flatten{s : Nat} : ∀ {rs : List (List X)}, cA s rs → rs.flatten.length = rs.length * s
 | [],_=>by simp
 | r :: rs,h=>by
  have h1:=h r (by simp)
  have:=length_flatten (rs:=rs) (fun q hq=>h q (by simp [hq]))
  simp only [List.flatten_cons,List.length_append,h1,this,List.length_cons,Nat.add_mul]
  omega
end
def lg{α:Type}(xs:List α)(k:Nat)(ys:List α):List α:=xs.take k ++ ys ++ xs.drop (k + ys.length)
theorem mb{α:Type}{xs ys:List α}{k:Nat}(h:k + ys.length <= xs.length):(lg xs k ys).length = xs.length:=by
 simp [lg]; omega
def l9(cs:Array Value)(k:Nat)(vs:List Value):Array Value:=(cs.toList.take k ++ vs ++ cs.toList.drop (k + vs.length)).toArray
theorem pg{cs:Array Value}{k:Nat}{vs:List Value}(h:k + vs.length <= cs.size):(l9 cs k vs).size = cs.size:=by
 simp [l9]; omega
theorem Bb{cs:Array Value}{k j:Nat}{vs:List Value}(h:k + vs.length <= cs.size)(hj:j < vs.length):(l9 cs k vs)[k + j]? = vs[j]?:=by
 have hk:k <= cs.toList.length:=by simp; omega
 simp only [l9,List.getElem?_toArray,List.append_assoc]
 rw [List.getElem?_append_right (by simp; omega)]
 have:k + j - (List.take k cs.toList).length = j:=by simp; omega
 rw [this,List.getElem?_append_left hj]
theorem o3{cs:Array Value}{k j:Nat}{vs:List Value}(h:k + vs.length <= cs.size)(hj:j < k \/ k + vs.length <= j):(l9 cs k vs)[j]? = cs[j]?:=by
 have hk:k <= cs.toList.length:=by simp; omega
 have hl:(List.take k cs.toList).length = k:=by simp; omega
 simp only [l9,List.getElem?_toArray,List.append_assoc]
 rcases hj with hj | hj
 ·rw [List.getElem?_append_left om,List.getElem?_take_of_lt hj]; simp
 ·rw [List.getElem?_append_right om,List.getElem?_append_right om,hl,List.getElem?_drop]
  have:k + vs.length + (j - k - vs.length) = j:=by omega
  rw [this]; simp
section
variable {E:Env}
theorem RO.put{xs ys : List X}{cs : Array Value}{off k : Nat}{R R₂ : List Nat}{vs : List Value}(h : RO E xs cs off R)(hk : k + ys.length ≤ xs.length)(hy : bA E ys vs R₂)(hc : off + xs.length ≤ cs.size) :
  ∃ R₁,RO E (lg xs k ys) (l9 cs (off + k) vs) off R₁ /\ (∀ b ∈ R₁,b ∈ R \/ b ∈ R₂) /\ ((R ++ R₂).Nodup -> R₁.Nodup):=by
 have hl:=bA.length hy
 have o4:off + k + vs.length <= cs.size:=by omega
 have h0:xs = xs.take k ++ ((xs.drop k).take ys.length ++ xs.drop (k + ys.length)):=by
  conv=>lhs; rw [<- List.take_append_drop k xs,<- List.take_append_drop ys.length (xs.drop k),List.drop_drop]
 rw [h0] at h
 obtain ⟨Ra,Rb,h1,h2,rfl⟩:=RO.qZ h
 obtain ⟨Rc,Rd,h3,h4,rfl⟩:=RO.qZ h2
 have Vh:(xs.take k).length = k:=by simp; omega
 have Rj:((xs.drop k).take ys.length).length = ys.length:=by simp; omega
 rw [Vh,Rj] at h4
 refine ⟨Ra ++ R₂ ++ Rd,?_,?_,?_⟩
 ·unfold lg
  refine RO.app (RO.app (RO.ext (fun j hj=>o3 o4 (.inl om)) h1) ?_) ?_
  ·rw [Vh]
   refine RO.of hy fun j v hj=>?_
   have oy:j < vs.length:=by
    rcases Nat.lt_or_ge j vs.length with h' | h'
    ·exact h'
    ·simp [List.getElem?_eq_none h'] at hj
   rw [Bb o4 oy]; exact hj
  ·have:off + (List.take k xs ++ ys).length = off + k + ys.length:=by simp; omega
   rw [this]
   exact RO.ext (fun j _=>o3 o4 (.inr om)) h4
 ·intro b hb
  simp only [List.mem_append] at hb ⊢
  rcases hb with (hb | hb) | hb
  ·exact .inl (.inl hb)
  ·exact .inr hb
  ·exact .inl (.inr (.inr hb))
 ·intro hn
  simp only [List.nodup_append,List.mem_append] at hn ⊢
  obtain ⟨⟨ha,⟨qY,hd,JH⟩,JI⟩,Rl,hx⟩:=hn
  refine ⟨⟨ha,Rl,fun a z6 b hb=>hx a (.inl z6) b hb⟩,hd,?_⟩
  intro a z6 b hb
  rcases z6 with z6 | z6
  ·exact JI a z6 b (.inr hb)
  ·intro e; subst e; exact hx a (.inr (.inr hb)) a z6 rfl
theorem cG.set{rs : List (List X)}{row ys : List X}{cs : Array Value}{off s i k : Nat}{R R₂ : List Nat}{vs : List Value}(hu : cA s rs)(h : cG E rs cs off R)(hr : rs[i]? = some row)
  (hk:k + ys.length <= row.length) (hy:bA E ys vs R₂) (hn:X.iH ys = true) (hc:off + rs.length * s <= cs.size) :
  ∃ R₁,cG E (rs.set i (lg row k ys)) (l9 cs (off + (i * s + k)) vs) off R₁ /\ (∀ b ∈ R₁,b ∈ R \/ b ∈ R₂) /\ ((R ++ R₂).Nodup -> R₁.Nodup):=by
 have hi:i < rs.length:=by
  rcases Nat.lt_or_ge i rs.length with h' | h'
  ·exact h'
  ·simp [List.getElem?_eq_none h'] at hr
 have hl:=bA.length hy
 have q5:row.length = s:=hu row (List.mem_of_getElem? hr)
 have WW:rs[i] = row:=by rw [List.getElem?_eq_getElem hi] at hr; exact Option.some.inj hr
 have h0:rs = rs.take i ++ (row :: rs.drop (i + 1)):=by
  conv=>lhs; rw [<- List.take_append_drop i rs,List.drop_eq_getElem_cons hi,WW]
 have w5:rs.set i (lg row k ys) = rs.take i ++ (lg row k ys :: rs.drop (i + 1)):=by
  rw [List.set_eq_take_append_cons_drop,if_pos hi]
 rw [h0] at h
 obtain ⟨Ra,Rb,h1,h2,rfl⟩:=cG.qZ h
 have xt:(rs.take i).flatten.length = i * s:=by
  rw [length_flatten (hu.take i),List.length_take,Nat.min_eq_left (Nat.le_of_lt hi)]
 rw [xt] at h2
 simp only [cG] at h2
 obtain ⟨Rc,Rd,Co,h3,h4,rfl⟩:=h2
 have Qw:i * s + s <= rs.length * s:=by
  have:(i + 1) * s <= rs.length * s:=Nat.mul_le_mul_right s hi
  rw [Nat.add_mul] at this; omega
 have o4:off + (i * s + k) + vs.length <= cs.size:=by omega
 obtain ⟨Re,h5,dS,jR⟩:=RO.put h3 hk hy om
 rw [w5]
 refine ⟨Ra ++ (Re ++ Rd),?_,?_,?_⟩
 ·refine cG.app (cG.ext (fun j hj=>o3 o4 (.inl om)) h1) ?_
  rw [xt]
  simp only [cG]
  have WX:(lg row k ys).length = row.length:=mb hk
  refine ⟨Re,Rd,?_,?_,?_,rfl⟩
  ·have h7:∀ (xs ys:List X),X.iH xs = true -> X.iH ys = true -> X.iH (xs ++ ys) = true:=by
    intro xs
    induction xs with
    | nil=>intro ys _ h; exact h
    | cons x r ih=>intro ys hx hy; simp only [X.iH,Bool.and_eq_true,List.cons_append] at hx ⊢; exact ⟨hx.1,ih ys hx.2 hy⟩
   have h8:∀ (xs:List X) (n:Nat),X.iH xs = true -> X.iH (xs.take n) = true:=by
    intro xs
    induction xs with
    | nil=>intro n _; simp [X.iH]
    | cons x r ih =>
     intro n hx
     cases n with
     | zero=>simp [X.iH]
     | succ n=>simp only [X.iH,Bool.and_eq_true,List.take_succ_cons] at hx ⊢; exact ⟨hx.1,ih n hx.2⟩
   have h9:∀ (xs:List X) (n:Nat),X.iH xs = true -> X.iH (xs.drop n) = true:=by
    intro xs
    induction xs with
    | nil=>intro n _; simp [X.iH]
    | cons x r ih =>
     intro n hx
     cases n with
     | zero=>simpa using hx
     | succ n=>simp only [X.iH,Bool.and_eq_true,List.drop_succ_cons] at hx ⊢; exact ih n hx.2
   exact h7 _ _ (h7 _ _ (h8 _ _ Co) hn) (h9 _ _ Co)
  ·rw [Nat.add_assoc] at h5; exact h5
  ·rw [WX]
   exact cG.ext (fun j _=>o3 o4 (.inr om)) h4
 ·intro b hb
  simp only [List.mem_append] at hb ⊢
  rcases hb with hb | hb | hb
  ·exact .inl (.inl hb)
  ·rcases dS b hb with h' | h'
   ·exact .inl (.inr (.inl h'))
   ·exact .inr h'
  ·exact .inl (.inr (.inr hb))
 ·intro n5
  simp only [List.nodup_append,List.mem_append] at n5 jR ⊢
  obtain ⟨⟨ha,⟨qY,hd,JH⟩,JI⟩,Rl,hx⟩:=n5
  have WY:=jR ⟨qY,Rl,fun a z6 b hb=>hx a (.inr (.inl z6)) b hb⟩
  refine ⟨ha,⟨WY,hd,?_⟩,?_⟩
  ·intro a z6 b hb
   rcases dS a z6 with h' | h'
   ·exact JH a h' b hb
   ·intro e; subst e; exact hx a (.inr (.inr hb)) a h' rfl
  ·intro a z6 b hb
   rcases hb with hb | hb
   ·rcases dS b hb with h' | h'
    ·exact JI a z6 b (.inl h')
    ·exact hx a (.inl z6) b h'
   ·exact JI a z6 b (.inr hb)
theorem cA.set{s i:Nat}{rs:List (List X)}{row:List X}(hu:cA s rs)(h:row.length = s):cA s (rs.set i row):=by
 intro r hr
 rcases List.mem_or_eq_of_mem_set hr with h' | h'
 ·exact hu r h'
 ·rw [h']; exact h
end
end Go.AW
namespace Go.AW
open Go
def X.vo : List X → Bool
 | []=>true
 | x :: r=>x.one && X.vo r
theorem Bc : ∀ (z : List Value), X.b6 (z.map X.v) = true
 | []=>rfl
 | _ :: r=>by simp [X.b6,X.free,Bc r]
theorem DL : ∀ (z : List Value), X.iH (z.map X.v) = true
 | []=>rfl
 | _ :: r=>by simp [X.iH,X.nr,DL r]
theorem v8{E : Env} : ∀ {z : List Value}, X.vo (z.map X.v) = true → bA E (z.map X.v) z []
 | [],_=>by simp [bA]
 | c :: r,h=>by
  simp only [List.map_cons,X.vo,Bool.and_eq_true] at h
  simp only [List.map_cons,bA]
  have hx:RX E (X.v c) c []:=by simp [RX]
  exact ⟨c,r,[],[],rfl,hx.one h.1,hx,v8 h.2,rfl⟩
theorem bA.ph{E : Env} : ∀ {xs : List X} {vs : List Value} {R : List Nat}, bA E xs vs R → ∀ v ∈ vs, v.oneCell' = true
 | [],_,_,h,v,hv=>by simp only [bA] at h; rw [h.1] at hv; cases hv
 | x :: r,_,_,h,v,hv=>by
  simp only [bA] at h
  obtain ⟨c,dv,R₁,R₂,rfl,hs,_,h2,_⟩:=h
  rcases List.mem_cons.1 hv with h' | h'
  ·subst h'; cases v <;> first | rfl | exact hs.elim
  ·exact bA.ph h2 v h'
def Sh(N:fA)(st ba:St):Prop:=∀ G:Ctx,G.fn = N -> ∀ a w,cI G st a w -> cI G ba a w
section
variable {P:Program} {N:fA} {st ba:St} {Q:Exit -> St -> Prop} {all:Array Oper} {rest:List Oper} {d:Nat} {ty:TypeId} {pos:String} {af:Array Edge}
theorem aU.sh(h:Sh N st ba)(k:aU P N all rest ba Q):aU P N all rest st Q:=fun G hn a w hh=>k G hn a w (h G hn a w hh)
theorem dA.sh{c:Code}(h:Sh N st ba)(k:dA P N c ba Q):dA P N c st Q:=fun G hn a w hh=>k G hn a w (h G hn a w hh)
theorem aU.DM{op : Op}(h : ∀ (G : Ctx) (E : Env) (RR : Own → List Nat) (a : Act), G.fn = N → Inv G E RR st a →
   ∃ u E' gG,(execOp a.eval ⟨some d,op,ty,pos,af,none⟩).run P E.w = .ok (.value u) E'.w /\ Inv G E' gG ba (a.put (some d) u))
  (k:aU P N all rest ba Q):aU P N all (⟨some d,op,ty,pos,af,none⟩ :: rest) st Q:=by
 intro G hn a w hh
 obtain ⟨E,RR,rfl,hi⟩:=hh
 obtain ⟨u,E',gG,hr,iJ⟩:=h G E RR a hn hi
 refine wpList_plain rfl fun K hK=>?_
 simp only [Oper.wp,hr,Oper.upon_value]
 exact hK _ _ (k G hn _ _ ⟨E',gG,rfl,iJ⟩)
theorem aU.JJ{op : Op}(h : ∀ (G : Ctx) (E : Env) (RR : Own → List Nat) (a : Act), G.fn = N → Inv G E RR st a →
   ∃ E' gG,(execOp a.eval ⟨none,op,ty,pos,af,none⟩).run P E.w = .ok .skip E'.w /\ Inv G E' gG ba a)
  (k:aU P N all rest ba Q):aU P N all (⟨none,op,ty,pos,af,none⟩ :: rest) st Q:=by
 intro G hn a w hh
 obtain ⟨E,RR,rfl,hi⟩:=hh
 obtain ⟨E',gG,hr,iJ⟩:=h G E RR a hn hi
 refine wpList_plain rfl fun K hK=>?_
 simp only [Oper.wp,hr,Oper.upon_skip]
 exact hK _ _ (k G hn _ _ ⟨E',gG,rfl,iJ⟩)
theorem TY.gH{t:TypeId}{z:List Value}(h:TY.zero P t = some z):∃ i z0,P.info? t = some i /\ i.zero = some z0 /\ z0.cells.toList = z:=by
 unfold TY.zero at h
 cases hi:P.info? t with
 | none=>simp [hi] at h
 | some i =>
  rw [hi] at h
  simp only [Option.bind_some] at h
  cases hz:i.zero with
  | none=>simp [hz] at h
  | some z0 =>
   rw [hz] at h
   simp only [Option.map_some,Option.some.injEq] at h
   exact ⟨i,z0,rfl,hz,h⟩
def Env.withVar(E:Env)(o:Nat)(cs:Array Value)(t:TypeId):Env :=
 {E with w:=E.w.alloc (.cells cs t),β:=fun q=>if q = o then some ⟨E.w.heap.size,0,0⟩ else E.β q }
theorem heap_alloc(w:World)(o:Go.Obj):(w.alloc o).heap[w.heap.size]? = some o:=by
 show (w.heap.push o)[w.heap.size]? = _
 simp
theorem Inv.newVar{G : Ctx}{E : Env}{RR : Own → List Nat}{a : Act}(hi : Inv G E RR st a){o : Nat}{ys : List X}{vs : List Value}{t : TypeId}(hF : G.fn.F.elem o = false)(hy : bA E ys vs [])(hf : X.b6 ys = true)(hm : X.ct o ys = false) :
  ∃ gG,Inv G (E.withVar o vs.toArray t) gG ((st.kill o).dC o (.cells ys)) a:=by
 refine ⟨_,hi.l8 (E':=E.withVar o vs.toArray t) (T:=fun _=>False) (o:=o) (R:=[E.w.heap.size]) ?_ (fun _ h=>h.elim) (fun q hq=>by simp [Env.withVar,hq]) (fun h=>by rw [hF] at h; cases h) ?_ (by simp) ?_⟩
 ·exact { di.alloc G E (.cells vs.toArray t) with φ:=rfl }
 ·have iA:E.On (E.withVar o vs.toArray t) []:=⟨fun _ _ _ h=>h,fun _ h=>by cases h⟩
  have GB:bA (E.withVar o vs.toArray t) ys vs []:=bA.mono ys vs [] iA (fun q hq=>by
   have:q ≠ o:=fun e=>by subst e; rw [hm] at hq; cases hq
   simp [Env.withVar,this]) hy
  simp only [dR]
  refine ⟨hf,⟨E.w.heap.size,0,0⟩,vs.toArray,t,by simp [Env.withVar],heap_alloc _ _,fun i=>?_,by simp [bA.length hy],?_,rfl⟩
  ·show E.φ E.w.heap.size i = none
   cases h:E.φ E.w.heap.size i with
   | none=>rfl
   | some v=>exact absurd (World.block_lt_of_cell? E.w _ (hi.ox _ _ _ h)) (by simp)
  ·exact RO.of GB (fun j v hj=>by simpa using hj)
 ·intro b hb
  simp only [List.mem_singleton] at hb
  subst hb
  refine ⟨by simp [Env.withVar],fun hK=>?_,hi.xq (.inr (Nat.le_refl _))⟩
  have:=hi.small _ hK
  have:=hi.size
  omega
theorem aU.alloc{t : TypeId}{z : List Value}(o : Nat)(hz : TY.zero P t = some z)(h1 : X.vo (z.map X.v) = true)(hF : N.F.elem o = false)(hd : d < N.n)
  (k:aU P N all rest (((st.kill o).dC o (.cells (z.map X.v))).put d (.ptr o 0 0 0)) Q):aU P N all (⟨some d,.alloc t,ty,pos,af,none⟩ :: rest) st Q:=by
 refine aU.DM (fun G E RR a hn hi=>?_) k
 have hm:∀ z:List Value,X.ct o (z.map X.v) = false:=by
  intro z
  induction z with
  | nil=>rfl
  | cons c r ih=>simp [X.ct,X.eM,ih]
 obtain ⟨gG,iJ⟩:=hi.newVar (o:=o) (t:=t) (by rw [hn]; exact hF) (v8 h1) (Bc z) (hm z)
 refine ⟨.pointer (some ⟨E.w.heap.size,0,none⟩),_,_,?_,iJ.iK (x:=.ptr o 0 0 0) (by rw [hn]; exact hd) ?_⟩
 ·obtain ⟨i,z0,qT,Dr,Ds⟩:=TY.gH hz
  show (do let x <- Instr.alloc t true (.tuple #[]); pure (Next.value x):Sem Next).run P E.w = _
  refine ek ?_
  have xu:z0.cells = z.toArray:=by rw [<- Ds]
  simp [Instr.alloc,zeroValue,typeInfo,qT,Dr,Go.newVar,newRow,Env.withVar,xu]
 ·simp only [RX]
  exact ⟨trivial,⟨E.w.heap.size,0,0⟩,by simp [Env.withVar],by simp⟩
theorem aU.box{t : TypeId}{x : Operand}{y : X}{ys : List X}(o : Nat)(hx : bV st x = some y)(hy : y.flat = some ys)(hf : X.b6 ys = true)(hm : X.ct o ys = false)(hF : N.F.elem o = false)(hd : d < N.n)
  (k:aU P N all rest (((st.kill o).dC o (.cells ys)).put d (.ptr o 0 0 0)) Q):aU P N all (⟨some d,.box t x,ty,pos,af,none⟩ :: rest) st Q:=by
 refine aU.DM (fun G E RR a hn hi=>?_) k
 obtain ⟨R,Cp⟩:=hi.eval hx
 have xt:=Cp.flat hy
 have h0:=bA.free hf xt
 subst h0
 obtain ⟨gG,iJ⟩:=hi.newVar (o:=o) (t:=t) (by rw [hn]; exact hF) xt hf hm
 refine ⟨.pointer (some ⟨E.w.heap.size,0,none⟩),_,_,?_,iJ.iK (x:=.ptr o 0 0 0) (by rw [hn]; exact hd) ?_⟩
 ·show (do let z <- Instr.box t (a.eval x); pure (Next.value z):Sem Next).run P E.w = _
  refine ek ?_
  simp [Instr.box,Go.newVar,newRow,Env.withVar]
 ·simp only [RX]
  exact ⟨trivial,⟨E.w.heap.size,0,0⟩,by simp [Env.withVar],by simp⟩
end
end Go.AW
namespace Go.AW
open Go
section
variable {E:Env}
theorem bA.app : ∀ {xs ys : List X} {cs ds : List Value} {R₁ R₂ : List Nat}, bA E xs cs R₁ → bA E ys ds R₂ → bA E (xs ++ ys) (cs ++ ds) (R₁ ++ R₂)
 | [],_,_,_,_,_,h,h'=>by simp only [bA] at h; obtain ⟨rfl,rfl⟩:=h; simpa using h'
 | x :: r,ys,cs,ds,R₁,R₂,h,h'=>by
  simp only [bA] at h
  obtain ⟨c,dv,R₃,R₄,rfl,hs,h1,h2,rfl⟩:=h
  simp only [List.cons_append,bA]
  exact ⟨c,dv ++ ds,R₃,R₄ ++ R₂,rfl,hs,h1,bA.app h2 h',by simp⟩
theorem bA.ML{xs:List X}{cs:List Value}(k:Nat)(h:bA E xs cs []):bA E (xs.take k) (cs.take k) []:=by
 induction xs generalizing cs k with
 | nil=>simp only [bA] at h; simp [bA,h.1]
 | cons x r ih =>
  simp only [bA] at h
  obtain ⟨c,dv,R₁,R₂,rfl,hs,h1,h2,hR⟩:=h
  have JK:=List.append_eq_nil_iff.1 hR.symm
  obtain ⟨rfl,rfl⟩:=JK
  cases k with
  | zero=>simp [bA]
  | succ k=>simp only [List.take_succ_cons,bA]; exact ⟨c,_,[],[],rfl,hs,h1,ih k h2,rfl⟩
theorem bA.MM{xs:List X}{cs:List Value}(k:Nat)(h:bA E xs cs []):bA E (xs.drop k) (cs.drop k) []:=by
 induction xs generalizing cs k with
 | nil=>simp only [bA] at h; simp [bA,h.1]
 | cons x r ih =>
  have h':=h
  simp only [bA] at h
  obtain ⟨c,dv,R₁,R₂,rfl,hs,h1,h2,hR⟩:=h
  have JK:=List.append_eq_nil_iff.1 hR.symm
  obtain ⟨rfl,rfl⟩:=JK
  cases k with
  | zero=>exact h'
  | succ k=>simp only [List.drop_succ_cons]; exact ih k h2
theorem bA.iK{xs ys:List X}{cs vs:List Value}{k:Nat}(h:bA E xs cs [])(h':bA E ys vs []):bA E (lg xs k ys) (lg cs k vs) []:=by
 unfold lg
 rw [<- bA.length h']
 have:=bA.app (bA.app (bA.ML k h) h') (bA.MM (k + vs.length) h)
 simpa using this
end
def v9(place : Nat → Option (Nat × Nat))(cells : List X) : List (Nat × X) → Option (List X)
 | []=>some cells
 | (i,x) :: rest =>
  match place i,x.flat with
  | some (off,size),some ys=>bif Nat.beq ys.length size && Nat.ble (off + size) cells.length then v9 place (lg cells off ys) rest else none
  | _,_=>none
def q6(st : St) : List (Nat × Operand) → Option (List (Nat × X))
 | []=>some []
 | (i,x) :: r=>match bV st x,q6 st r with
  | some y,some l=>bif y.free then some ((i,y) :: l) else none
  | _,_=>none
theorem vA(off : Nat) : ∀ (l : List Value) (k : Nat) (cs : Array Value), ((l.zipIdx k).foldl (fun cs (p : Value × Nat) => cs.setIfInBounds (off + p.2) p.1) cs).size = cs.size ∧
  ∀ j,((l.zipIdx k).foldl (fun cs (p:Value × Nat)=>cs.setIfInBounds (off + p.2) p.1) cs)[j]? = if off + k <= j /\ j < off + k + l.length /\ j < cs.size then l[j - off - k]? else cs[j]?
 | [],k,cs=>by
  refine ⟨rfl,fun j=>?_⟩
  rw [if_neg (by simp; omega)]
  rfl
 | v :: r,k,cs=>by
  obtain ⟨h1,h2⟩:=vA off r (k + 1) (cs.setIfInBounds (off + k) v)
  simp only [List.zipIdx_cons,List.foldl_cons]
  refine ⟨by rw [h1]; simp,fun j=>?_⟩
  rw [h2 j]
  simp only [Array.size_setIfInBounds,List.length_cons]
  by_cases hj:off + (k + 1) <= j /\ j < off + (k + 1) + r.length /\ j < cs.size
  ·rw [if_pos hj,if_pos om,show j - off - k = (j - off - (k + 1)) + 1 by omega]
   simp
  ·rw [if_neg hj]
   by_cases vB:j = off + k
   ·subst vB
    by_cases gP:off + k < cs.size
    ·rw [if_pos om,show off + k - off - k = 0 by omega]
     simp [Array.getElem?_setIfInBounds_self_of_lt gP]
    ·rw [if_neg om]
     simp [gP]
   ·rw [if_neg om,Array.getElem?_setIfInBounds_ne om]
theorem z7(off:Nat)(v cs:Array Value)(h:off + v.size <= cs.size):(v.zipIdx.foldl (fun cs (p:Value × Nat)=>cs.setIfInBounds (off + p.2) p.1) cs).toList = lg cs.toList off v.toList:=by
 have hf:v.zipIdx.foldl (fun cs (p:Value × Nat)=>cs.setIfInBounds (off + p.2) p.1) cs = (v.toList.zipIdx 0).foldl (fun cs (p:Value × Nat)=>cs.setIfInBounds (off + p.2) p.1) cs:=by
  rw [<- Array.foldl_toList,Array.toList_zipIdx]
 rw [hf]
 obtain ⟨h1,h2⟩:=vA off v.toList 0 cs
 apply List.ext_getElem?
 intro j
 rw [Array.getElem?_toList,h2 j]
 have MN:v.toList.length = v.size:=by simp
 simp only [Nat.add_zero,Nat.sub_zero,MN,lg,List.append_assoc]
 have hl:(List.take off cs.toList).length = off:=by simp; omega
 by_cases hj:j < off
 ·rw [if_neg om,List.getElem?_append_left om,List.getElem?_take_of_lt hj]; simp
 ·by_cases Rm:j < off + v.size
  ·rw [if_pos om,List.getElem?_append_right om,hl,List.getElem?_append_left om]
  ·rw [if_neg om,List.getElem?_append_right om,List.getElem?_append_right om,hl,List.getElem?_drop]
   have:off + v.size + (j - off - v.toList.length) = j:=by omega
   rw [this]; simp
section
variable {P:Program} {N:fA} {G:Ctx} {E:Env} {RR:Own -> List Nat} {st:St} {a:Act}
theorem rW(hi : Inv G E RR st a)(place : Nat → Option (Nat × Nat)) : ∀ (parts : List (Nat × Operand)) (xs : List X) (cs : Array Value) (Dt : List (Nat × X)) (ys : List X), bA E xs cs.toList [] → q6 st parts = some Dt →
  v9 place xs Dt = some ys -> ∃ dv,Instr.fill place cs (parts.map fun p=>(p.1,a.eval p.2)) = some dv /\ bA E ys dv.toList []
 | [],xs,cs,Dt,ys,h,hp,hf=>by
  simp only [q6,Option.some.injEq] at hp
  subst hp
  simp only [v9,Option.some.injEq] at hf
  subst hf
  exact ⟨cs,rfl,h⟩
 | (i,x) :: r,xs,cs,Dt,ys,h,hp,hf=>by
  simp only [q6] at hp
  cases hx:bV st x with
  | none=>simp [hx] at hp
  | some y =>
   cases hr:q6 st r with
   | none=>simp [hx,hr] at hp
   | some l =>
    rw [hx,hr] at hp
    simp only at hp
    cases mP:y.free with
    | false=>simp [mP] at hp
    | true =>
     rw [mP] at hp
     simp only [cond_true,Option.some.injEq] at hp
     subst hp
     simp only [v9] at hf
     cases Du:place i with
     | none=>simp [Du] at hf
     | some os =>
      obtain ⟨off,size⟩:=os
      cases xt:y.flat with
      | none=>simp [Du,xt] at hf
      | some zs =>
       rw [Du,xt] at hf
       simp only at hf
       cases hb:Nat.beq zs.length size && Nat.ble (off + size) xs.length with
       | false=>simp [hb] at hf
       | true =>
        rw [hb] at hf
        simp only [cond_true] at hf
        simp only [Bool.and_eq_true] at hb
        have fP:zs.length = size:=Nat.eq_of_beq_eq_true hb.1
        have hle:off + size <= xs.length:=Nat.le_of_ble_eq_true hb.2
        obtain ⟨R,hv⟩:=hi.eval hx
        have h0:=RX.free mP hv
        subst h0
        have yK:=hv.flat xt
        have vh:(a.eval x).cells.size = size:=by have:=bA.length yK; simp at this; omega
        have te:cs.size = xs.length:=by have:=bA.length h; simpa using this
        have z8:=bA.iK (k:=off) h yK
        have MO:=z7 off (a.eval x).cells cs om
        obtain ⟨dv,w6,Cm⟩:=rW hi place r (lg xs off zs) ((a.eval x).cells.zipIdx.foldl (fun cs (p:Value × Nat)=>cs.setIfInBounds (off + p.2) p.1) cs) l ys (by rw [MO]; exact z8) hr hf
        refine ⟨dv,?_,Cm⟩
        simp only [List.map_cons,Instr.fill,Du,vh]
        rw [if_neg (by simp; omega)]
        exact w6
def TY.j5(P:Program)(t:TypeId):Option (List (Nat × Nat)) :=
 match P.underlying t with
 | some (.struct fs)=>fs.toList.mapM fun f=>(P.info? f.type).map fun i=>(f.offset,i.size)
 | _=>none
theorem xv{fs : List Field}{pl : List (Nat × Nat)}(h : (fs.mapM fun f => (P.info? f.type).map fun i => (f.offset, i.size)) = some pl)(w : World) :
  (fs.mapM fun f=>(do pure (f.offset,<- sizeOf f.type):Sem (Nat × Nat))).run P w = .ok pl w:=by
 induction fs generalizing pl with
 | nil=>simp at h; subst h; rfl
 | cons f r ih =>
  rw [List.mapM_cons] at h
  cases hf:P.info? f.type with
  | none=>simp [hf] at h
  | some i =>
   rw [hf] at h
   cases hr:(r.mapM fun f=>(P.info? f.type).map fun i=>(f.offset,i.size)) with
   | none=>simp [hr] at h
   | some l =>
    rw [hr] at h
    simp at h
    subst h
    rw [List.mapM_cons]
    simp only [Sem.run_bind,run_sizeOf hf,Result.andThen_ok,Sem.run_pure,ih hr]
theorem Y.qh{dst : Option Nat}{ty : TypeId}{pos : String}{af : Array Edge}{g : Option (Nat × Bool)}{t : TypeId}{parts : Array (Nat × Operand)}{pl : List (Nat × Nat)}{z : List Value}{Dt : List (Nat × X)}{ys : List X}
  (hp:TY.j5 P t = some pl) (hz:TY.zero P t = some z) (h1:X.vo (z.map X.v) = true) (hx:q6 st parts.toList = some Dt) (hf:v9 (pl[·]?) (z.map X.v) Dt = some ys) :
  Yields P N st ⟨dst,.build t parts,ty,pos,af,g⟩ (.agg ys):=by
 intro G E RR a _ hi
 obtain ⟨i,z0,qT,Dr,Ds⟩:=TY.gH hz
 have xu:z0.cells = z.toArray:=by rw [<- Ds]
 have gQ:bA E (z.map X.v) z0.cells.toList []:=by rw [Ds]; exact v8 h1
 obtain ⟨dv,w6,Cm⟩:=rW hi (pl[·]?) parts.toList _ z0.cells Dt ys gQ hx hf
 refine ⟨.agg dv,?_,by simp only [RX]; exact ⟨dv,rfl,Cm⟩⟩
 show (do let v <- Instr.build t (parts.map fun (i,x)=>(i,a.eval x)); Pure.pure (Next.value v):Sem Next).run P E.w = _
 refine ek ?_
 unfold TY.j5 at hp
 cases hu:P.underlying t with
 | none=>simp [hu] at hp
 | some d =>
  cases d with
  | struct fs =>
   rw [hu] at hp
   simp only at hp
   have hm:=xv hp E.w
   have MP:(fs.mapM fun f=>(do Pure.pure (f.offset,<- sizeOf f.type):Sem (Nat × Nat))).run P E.w = .ok pl.toArray E.w:=by
    rw [Array.mapM_eq_mapM_toList]
    simp only [Sem.run_map,hm]
    rfl
   have Du:(fun (i:Nat)=>pl.toArray[i]?) = fun i=>pl[i]?:=by funext i; simp
   have Qx:(parts.map fun (i,x)=>(i,a.eval x)).toList = parts.toList.map fun p=>(p.1,a.eval p.2):=by simp
   simp only [Instr.build,Sem.run_bind,zeroValue,typeInfo,run_program,qT,Dr,Result.andThen_ok,Sem.run_pure,run_underlying hu,MP,Du,Qx,w6]
  | _=>simp [hu] at hp
end
end Go.AW
namespace Go.AW
open Go
section
variable {P:Program} {N:fA} {st:St} {Q:Exit -> St -> Prop} {all:Array Oper} {rest:List Oper} {d:Nat} {ty:TypeId} {pos:String} {af:Array Edge}
theorem cG.z9{E : Env}{s : Nat}{cs : Array Value} : ∀ {rs : List (List X)} {off : Nat}, cA s rs →
  (∀ i row,rs[i]? = some row -> X.iH row = true /\ RO E row cs (off + i * s) []) -> cG E rs cs off []
 | [],_,_,_=>by simp [cG]
 | r :: rs,off,hu,h=>by
  simp only [cG]
  have h0:=h 0 r rfl
  refine ⟨[],[],h0.1,by simpa using h0.2,?_,rfl⟩
  rw [hu r (by simp)]
  refine cG.z9 (fun q hq=>hu q (by simp [hq])) fun i row hr=>?_
  have:=h (i + 1) row (by simpa using hr)
  rw [show off + s + i * s = off + (i + 1) * s by rw [Nat.add_mul]; omega]
  exact this
theorem bA.JL{E:Env}{xs:List X}{vs:List Value}{cs:Array Value}{off:Nat}{R:List Nat}(h:bA E xs vs R)(hv:∀ j,j < xs.length -> cs[off + j]? = vs[j]?):RO E xs cs off R :=
 RO.of h fun j v hj=>by
  have oy:j < xs.length:=by
   rw [<- bA.length h]
   rcases Nat.lt_or_ge j vs.length with h' | h'
   ·exact h'
   ·simp [List.getElem?_eq_none h'] at hj
  rw [hv j oy]; exact hj
theorem Inv.newRow{G : Ctx}{E : Env}{RR : Own → List Nat}{a : Act}(hi : Inv G E RR st a){cs : Array Value}{e : TypeId}{s cap : Nat}{rows : List (List X)}(hu : cA s rows)(hl : rows.length ≤ cap)(hc : cap * s ≤ cs.size)
  (hr:cG { E with w:=E.w.alloc (.cells cs e) } rows cs 0 []) (hd:d < G.fn.n) :
  ∃ gG,Inv G { E with w:=E.w.alloc (.cells cs e) } gG (st.put d (.dK s rows)) (a.put (some d) (.slice (some ⟨E.w.heap.size,0,none⟩) rows.length cap)):=by
 have iJ:=hi.Ba (di.alloc G E (.cells cs e)) rfl
 refine ⟨_,iJ.put (R:=[E.w.heap.size]) hd ?_ (by simp) ?_⟩
 ·simp only [RX]
  refine ⟨hu,_,_,rfl,.inr ⟨E.w.heap.size,0,cs,e,[],rfl,heap_alloc _ _,hl,om,fun i=>?_,hr,rfl⟩⟩
  show E.φ E.w.heap.size i = none
  cases h:E.φ E.w.heap.size i with
  | none=>rfl
  | some v=>exact absurd (World.block_lt_of_cell? E.w _ (hi.ox _ _ _ h)) (by simp)
 ·intro b hb
  simp only [List.mem_singleton] at hb
  subst hb
  refine ⟨by simp,fun hK=>?_,fun p _ hb=>?_⟩
  ·have:=hi.small _ hK
   have:=hi.size
   omega
  ·exact absurd (hi.own p _ hb).1 (by simp)
theorem DN{i k s:Nat}(hk:k < s):(i * s + k) % s = k:=by
 rw [Nat.mul_comm,Nat.mul_add_mod,Nat.mod_eq_of_lt hk]
theorem aU.makeSlice{t e s dO n : Nat}{l c : Operand}{k k' : IntKind}{z : List Value}(ht : TY.slice P t = some (e, s, dO))(hz : TY.zero P e = some z)(sI : z.length = s)(h1 : X.vo (z.map X.v) = true)
  (hl:bV st l = some (.v (.int k (n:Int)))) (hc:bV st c = some (.v (.int k' (n:Int)))) (hb:dO * n <= 281474976710656) (WZ:n <= 9223372036854775807) (hd:d < N.n)
  (kk:aU P N all rest (st.put d (.dK s (List.replicate n (z.map X.v)))) Q):aU P N all (⟨some d,.makeSlice t l c,ty,pos,af,none⟩ :: rest) st Q:=by
 refine aU.DM (fun G E RR a hn hi=>?_) kk
 obtain ⟨hu,i,iM,hs,IF⟩:=TY.dV ht
 obtain ⟨i',z0,qT,Dr,Ds⟩:=TY.gH hz
 rw [iM] at qT
 obtain rfl:=Option.some.inj qT
 have xu:z0.cells = z.toArray:=by rw [<- Ds]
 have j6:=run_make (P:=P) E.w t e i z0 hu iM Dr k k' (n:Int) (n:Int) om om (by rw [IF]; have:=Int.ofNat_le.2 hb; rw [Int.natCast_mul] at this; exact this) om
 simp only [Int.toNat_natCast,hs,xu] at j6
 have fP:=size_madeCells z.toArray (n * s)
 have hU:cA s (List.replicate n (z.map X.v)):=by
  intro r hr
  rw [(List.mem_replicate.1 hr).2]; simpa using sI
 obtain ⟨gG,iJ⟩:=hi.newRow (cs:=madeCells z.toArray (n * s)) (e:=e) (s:=s) (cap:=n) (d:=d) hU (Nat.le_of_eq List.length_replicate) (by rw [fP]; exact Nat.le_refl _) (by
  refine cG.z9 hU fun j row hr=>?_
  have hj:j < n:=by
   rcases Nat.lt_or_ge j n with h' | h'
   ·exact h'
   ·rw [List.getElem?_eq_none (by rw [List.length_replicate]; exact h')] at hr; cases hr
  have:row = z.map X.v:=by
   have:=List.mem_of_getElem? hr
   exact (List.mem_replicate.1 this).2
  subst this
  refine ⟨DL z,bA.JL (v8 h1) fun q hq=>?_⟩
  have Cq:q < s:=by simpa [sI] using hq
  have gP:j * s + q < n * s:=by
   have:(j + 1) * s <= n * s:=Nat.mul_le_mul_right s hj
   rw [Nat.add_mul] at this; omega
  have JM:q < z.length:=by omega
  simp only [Nat.zero_add,madeCells]
  rw [Array.getElem?_map,Array.getElem?_range,if_pos gP]
  simp only [Option.map_some,List.size_toArray,sI,DN Cq]
  rw [List.getElem?_eq_getElem JM]
  simp [JM]) (by rw [hn]; exact hd)
 simp only [List.length_replicate] at iJ
 refine ⟨_,_,_,?_,iJ⟩
 show (do let v <- Instr.makeSlice t (a.eval l) (a.eval c); Pure.pure (Next.value v):Sem Next).run P E.w = _
 rw [hi.val hl,hi.val hc]
 exact ek j6
theorem aU.buildSlice{t e s dO len : Nat}{parts : Array (Nat × Operand)}{z : List Value}{Dt : List (Nat × X)}{flat : List X}(rows : List (List X))(ht : TY.slice P t = some (e, s, dO))(hz : TY.zero P e = some z)(sI : Nat.beq z.length s = true)
  (h1:X.vo (z.map X.v) = true) (hx:q6 st parts.toList = some Dt) (hf:v9 (fun i=>some (i * s,s)) ((List.replicate len (z.map X.v)).flatten) Dt = some flat) (hr:rows.flatten = flat) (hU:cA s rows) (hlen:rows.length = len)
  (Co:X.iH flat = true) (Vi:Nat.ble (len * s) 16777216 = true) (hd:d < N.n)
  (kk:aU P N all rest (st.put d (.dK s rows)) Q):aU P N all (⟨some d,.buildSlice t len parts,ty,pos,af,none⟩ :: rest) st Q:=by
 refine aU.DM (fun G E RR a hn hi=>?_) kk
 obtain ⟨hu,i,iM,hs,IF⟩:=TY.dV ht
 obtain ⟨i',z0,qT,Dr,Ds⟩:=TY.gH hz
 rw [iM] at qT
 obtain rfl:=Option.some.inj qT
 have xu:z0.cells = z.toArray:=by rw [<- Ds]
 have JN:z.length = s:=Nat.eq_of_beq_eq_true sI
 let z1:Array Value:=(Array.range (len * s)).map fun i=>z.toArray[i % z.toArray.size]!
 have Qy:z1.toList = (List.replicate len z).flatten:=by
  apply List.ext_getElem?
  intro j
  have Rn:((List.replicate len z).flatten).length = len * s:=by simp [JN]
  by_cases hj:j < len * s
  ·have Qz:0 < s:=by
    rcases Nat.eq_zero_or_pos s with h' | h'
    ·subst h'; simp at hj
    ·exact h'
   have hq:j % s < s:=Nat.mod_lt _ Qz
   have Xa:j / s < len:=by rw [Nat.div_lt_iff_lt_mul Qz]; exact hj
   have h2:((List.replicate len z).flatten)[j]? = z[j % s]?:=by
    have:∀ (n j:Nat),j < n * s -> ((List.replicate n z).flatten)[j]? = z[j % s]?:=by
     intro n
     induction n with
     | zero=>intro j hj; simp at hj
     | succ n ih =>
      intro j hj
      rw [List.replicate_succ,List.flatten_cons]
      by_cases LU:j < s
      ·rw [List.getElem?_append_left om,Nat.mod_eq_of_lt LU]
      ·rw [List.getElem?_append_right om,JN,ih (j - s) (by rw [Nat.add_mul] at hj; omega)]
       rw [Nat.mod_eq_sub_mod (by omega:j ≥ s)]
    exact this len j hj
   rw [h2]
   have JM:j % s < z.length:=by omega
   have MQ:z[j % s]? = some z[j % s]:=List.getElem?_eq_getElem JM
   simp [z1,hj,JN,MQ]
  ·have e1:((List.replicate len z).flatten)[j]? = none:=List.getElem?_eq_none (by rw [Rn]; omega)
   have e2:z1.toList[j]? = none:=List.getElem?_eq_none (by rw [Array.length_toList]; simp only [z1,Array.size_map,Array.size_range]; omega)
   rw [e1,e2]
 have Xb:bA E ((List.replicate len (z.map X.v)).flatten) z1.toList []:=by
  rw [Qy]
  clear hf Qy z1 hlen Vi
  induction len with
  | zero=>simp [bA]
  | succ n ih=>rw [List.replicate_succ,List.flatten_cons,List.replicate_succ,List.flatten_cons]; exact bA.app (v8 h1) ih
 obtain ⟨dv,w6,Cm⟩:=rW hi (fun i=>some (i * s,s)) parts.toList _ z1 Dt flat Xb hx hf
 have xt:flat.length = len * s:=by rw [<- hr,length_flatten hU,hlen]
 have Xc:dv.size = len * s:=by have:=bA.length Cm; simp at this; omega
 obtain ⟨gG,iJ⟩:=hi.newRow (cs:=dv) (e:=e) (s:=s) (cap:=len) (d:=d) hU om om (by
  have MR:bA { E with w:=E.w.alloc (.cells dv e) } flat dv.toList []:=bA.mono (E:=E) _ _ _ ⟨fun _ _ _ h=>h,fun _ h=>by cases h⟩ (fun _ _=>rfl) Cm
  have vp:RO { E with w:=E.w.alloc (.cells dv e) } flat dv 0 []:=RO.of MR fun j v hj=>by simpa using hj
  rw [<- hr] at vp Co
  clear hr w6 Cm MR xt hf hlen
  have key:∀ (rs:List (List X)) (off:Nat),X.iH rs.flatten = true -> RO { E with w:=E.w.alloc (.cells dv e) } rs.flatten dv off [] -> cG { E with w:=E.w.alloc (.cells dv e) } rs dv off []:=by
   intro rs
   induction rs with
   | nil=>intro off _ _; simp [cG]
   | cons r rs ih =>
    intro off hn h
    rw [List.flatten_cons] at h hn
    obtain ⟨R₁,R₂,h1,h2,hR⟩:=RO.qZ h
    have JK:=List.append_eq_nil_iff.1 hR.symm
    obtain ⟨rfl,rfl⟩:=JK
    have Xd:∀ (xs ys:List X),X.iH (xs ++ ys) = true -> X.iH xs = true /\ X.iH ys = true:=by
     intro xs
     induction xs with
     | nil=>intro ys h; exact ⟨rfl,h⟩
     | cons x r ih=>intro ys h; simp only [List.cons_append,X.iH,Bool.and_eq_true] at h ⊢; exact ⟨⟨h.1,(ih ys h.2).1⟩,(ih ys h.2).2⟩
    obtain ⟨MS,MT⟩:=Xd _ _ hn
    simp only [cG]
    exact ⟨[],[],MS,h1,ih _ MT h2,rfl⟩
  exact key rows 0 Co vp) (by rw [hn]; exact hd)
 rw [hlen] at iJ
 refine ⟨_,_,_,?_,iJ⟩
 show (do let v <- Instr.buildSlice t len (parts.map fun (i,x)=>(i,a.eval x)); Pure.pure (Next.value v):Sem Next).run P E.w = _
 refine ek ?_
 have Qx:(parts.map fun (i,x)=>(i,a.eval x)).toList = parts.toList.map fun p=>(p.1,a.eval p.2):=by simp
 have Ro:¬ (len * s > 2 ^ 24):=by have:=Nat.le_of_ble_eq_true Vi; simp; omega
 by_cases h0:len * s = 0
 ·have Rp:z1 = (Array.range (len * s)).map (fun i=>(#[]:Array Value)[i % (#[]:Array Value).size]!):=by simp [z1,h0]
  have xe:¬ ((0:Nat) > 2 ^ 24):=by decide
  rw [Rp,h0] at w6
  simp only [Instr.buildSlice,Sem.run_bind,run_underlying hu,Result.andThen_ok,run_sizeOf iM,hs,h0,xe,if_false,if_true,Sem.run_pure,Qx,w6,Go.newRow,run_newObj_alloc]
 ·simp only [z1] at w6
  simp only [Instr.buildSlice,Sem.run_bind,run_underlying hu,Result.andThen_ok,run_sizeOf iM,hs,Ro,if_false,h0,zeroValue,typeInfo,run_program,iM,Dr,Sem.run_pure,xu,Qx,w6,Go.newRow,run_newObj_alloc]
end
end Go.AW
namespace Go.AW
open Go
def TY.size(P:Program)(t:TypeId):Option Nat:=(P.info? t).map (·.size)
section
variable {P:Program} {N:fA} {st:St} {Q:Exit -> St -> Prop} {all:Array Oper} {rest:List Oper} {d:Nat} {ty:TypeId} {pos:String} {af:Array Edge}
theorem o5{t : TypeId}{m b off : Nat}{v : Value}{cs : Array Value}{tb : TypeId}{w : World}(ht : TY.size P t = some m)(hm : v.cells.size = m)(hw : w.heap[b]? = some (.cells cs tb (0, 0)))(o4 : off + m ≤ cs.size)
  (h1:∀ u ∈ v.cells.toList,u.oneCell' = true):(Instr.storeAt t (.pointer (some ⟨b,off,none⟩)) v).run P w = .ok () (w.setRow b (l9 cs off v.cells.toList)):=by
 unfold TY.size at ht
 cases hi:P.info? t with
 | none=>simp [hi] at ht
 | some i =>
  rw [hi] at ht
  simp only [Option.map_some,Option.some.injEq] at ht
  have xw:=run_storeCells_at P b off tb v.cells.toList 0 cs w hw (by simp; omega) h1
  simp only [Nat.add_zero] at xw
  simp only [Instr.storeAt,Instr.sureAddr,storeVar,Sem.run_bind,Sem.run_pure,Result.andThen_ok,run_sizeOf hi,ht,hm,ne_eq,not_true_eq_false,if_false]
  exact xw
theorem Inv.vq{G:Ctx}{E:Env}{RR:Own -> List Nat}{a:Act}(hi:Inv G E RR st a){p:Own}{b:Nat}(h:b ∈ RR p):¬ G.K b:=(hi.own p b h).2
theorem aU.aj{t : TypeId}{x y : Operand}{o s k m : Nat}{v : X}{ys xs : List X}(ht : TY.size P t = some m)(hx : bV st x = some (.ptr o s 0 k))(hy : bV st y = some v)(xt : v.flat = some ys)(hf : X.b6 ys = true)(hm : ys.length = m)
  (ho:look st.aG o = some (.cells xs)) (hk:k + m <= xs.length) (LV:X.b6 (lg xs k ys) = true) (kk:aU P N all rest (st.dC o (.cells (lg xs k ys))) Q) :
  aU P N all (⟨none,.store t x y,ty,pos,af,none⟩ :: rest) st Q:=by
 refine aU.JJ (fun G E RR a hn hi=>?_) kk
 obtain ⟨R,hv⟩:=hi.eval hy
 have yK:=hv.flat xt
 have h0:=bA.free hf yK
 subst h0
 obtain ⟨R',hp⟩:=hi.eval hx
 simp only [RX] at hp
 obtain ⟨_,B,hB,hc⟩:=hp
 simp only [Nat.zero_mul,Nat.zero_add] at hc
 have aZ:=hi.aG o _ ho
 simp only [dR] at aZ
 obtain ⟨tp,B',cs,tb,iL,hw,hφ,hlen,jX,jd⟩:=aZ
 rw [hB] at iL
 obtain rfl:=Option.some.inj iL
 have zA:=bA.length yK
 have fP:(a.eval y).cells.size = m:=by simp at zA; omega
 have j6:=o5 (P:=P) (off:=B.off + k) ht fP hw om (bA.ph yK)
 have o6:B.b ∈ RR (.obj o):=by rw [jd]; simp
 have GC:=di.setRow G E B.b (l9 cs (B.off + k) (a.eval y).cells.toList) hφ (hi.vq o6)
 have iA:E.On { E with w:=E.w.setRow B.b (l9 cs (B.off + k) (a.eval y).cells.toList) } []:=⟨fun _ _ _ h=>h,fun _ h=>by cases h⟩
 have DO:=bA.mono _ _ _ iA (fun _ _=>rfl) yK
 have zB:=RO.mono _ _ _ _ iA (fun _ _=>rfl) jX
 obtain ⟨R₁,z8,dS,_⟩:=RO.put (k:=k) zB om DO om
 have Xe:R₁ = []:=by
  cases R₁ with
  | nil=>rfl
  | cons b r=>rcases dS b (by simp) with h | h <;> cases h
 subst Xe
 refine ⟨_,_,?_,hi.DK (E':={ E with w:=E.w.setRow B.b (l9 cs (B.off + k) (a.eval y).cells.toList) }) GC (o:=o) (R:=[B.b]) (fun b h=>by subst h; exact o6) rfl ?_ (by simp) ?_⟩
 ·show (do Instr.storeAt t (a.eval x) (a.eval y); Pure.pure Next.skip:Sem Next).run P E.w = _
  rw [hc]
  exact DH j6
 ·simp only [dR]
  have MU:(lg xs k ys).length = xs.length:=mb om
  exact ⟨LV,B,_,tb,hB,setRow_heap E.w B.b cs _ tb _ hw,hφ,by rw [MU,pg (by simp at zA ⊢; omega)]; exact hlen,z8,rfl⟩
 ·intro b hb
  simp only [List.mem_singleton] at hb
  subst hb
  exact ⟨by simpa using (hi.own _ _ o6).1,hi.vq o6,hi.xq (.inl o6)⟩
theorem aU.JO{t : TypeId}{x y : Operand}{o s i k m : Nat}{v : X}{ys row : List X}{rs : List (List X)}(ht : TY.size P t = some m)(hx : bV st x = some (.ptr o s i k))(hy : bV st y = some v)(xt : v.flat = some ys)(hf : X.b6 ys = true)
  (hn:X.iH ys = true) (hm:ys.length = m) (ho:look st.aG o = some (.rows s rs)) (hr:rs[i]? = some row) (hk:k + m <= row.length) (kk:aU P N all rest (st.dC o (.rows s (rs.set i (lg row k ys)))) Q) :
  aU P N all (⟨none,.store t x y,ty,pos,af,none⟩ :: rest) st Q:=by
 refine aU.JJ (fun G E RR a Xf hi=>?_) kk
 obtain ⟨R,hv⟩:=hi.eval hy
 have yK:=hv.flat xt
 have h0:=bA.free hf yK
 subst h0
 obtain ⟨R',hp⟩:=hi.eval hx
 simp only [RX] at hp
 obtain ⟨_,B,hB,hc⟩:=hp
 have aZ:=hi.aG o _ ho
 have jR:=hi.nodup (.obj o)
 simp only [dR] at aZ
 obtain ⟨hu,aZ⟩:=aZ
 rcases aZ with ⟨_,h,_⟩ | ⟨B',cs,tb,R',iL,hw,hφ,lV,hlen,jX,jd⟩
 ·subst h; simp at hr
 rw [hB] at iL
 obtain rfl:=Option.some.inj iL
 have zA:=bA.length yK
 have fP:(a.eval y).cells.size = m:=by simp at zA; omega
 have LW:rs.length * s <= B.cap * s:=Nat.mul_le_mul_right s lV
 have zC:i < rs.length:=by
  rcases Nat.lt_or_ge i rs.length with h' | h'
  ·exact h'
  ·simp [List.getElem?_eq_none h'] at hr
 have q5:row.length = s:=hu row (List.mem_of_getElem? hr)
 have Qw:i * s + s <= rs.length * s:=by
  have:(i + 1) * s <= rs.length * s:=Nat.mul_le_mul_right s zC
  rw [Nat.add_mul] at this; omega
 have j6:=o5 (P:=P) (off:=B.off + (i * s + k)) ht fP hw om (bA.ph yK)
 have o6:B.b ∈ RR (.obj o):=by rw [jd]; simp
 have GC:=di.setRow G E B.b (l9 cs (B.off + (i * s + k)) (a.eval y).cells.toList) hφ (hi.vq o6)
 rw [jd] at jR
 have n5:=List.nodup_cons.1 jR
 have iA:E.On { E with w:=E.w.setRow B.b (l9 cs (B.off + (i * s + k)) (a.eval y).cells.toList) } R' :=
  ⟨fun _ _ _ h=>h,fun b hb=>⟨setRow_other E.w B.b b _ (fun e=>n5.1 (by rw [<- e]; exact hb)),fun h=>h⟩⟩
 have DO:=bA.mono _ _ _ (iA.sub (fun _ h=>by cases h)) (fun _ _=>rfl) yK
 have zB:=cG.mono _ _ _ _ iA jX
 obtain ⟨R₁,z8,dS,rX⟩:=cG.set (i:=i) (k:=k) hu zB hr om DO hn om
 have IG:∀ b ∈ R₁,b ∈ R':=fun b hb=>(dS b hb).resolve_right (fun h=>by cases h)
 refine ⟨_,_,?_,hi.DK (E':={ E with w:=E.w.setRow B.b (l9 cs (B.off + (i * s + k)) (a.eval y).cells.toList) }) GC (o:=o) (R:=B.b :: R₁) (fun b h=>by subst h; exact o6) rfl ?_ ?_ ?_⟩
 ·show (do Instr.storeAt t (a.eval x) (a.eval y); Pure.pure Next.skip:Sem Next).run P E.w = _
  rw [hc]
  exact DH j6
 ·simp only [dR]
  refine ⟨hu.set (by rw [mb om]; exact q5),.inr ⟨B,_,tb,R₁,hB,setRow_heap E.w B.b cs _ tb _ hw,hφ,by simpa using lV,by rw [pg (by simp at zA ⊢; omega)]; exact hlen,z8,rfl⟩⟩
 ·exact List.nodup_cons.2 ⟨fun h=>n5.1 (IG _ h),rX (by simpa using n5.2)⟩
 ·intro b hb
  have iy:b ∈ RR (.obj o):=by
   rw [jd]
   rcases List.mem_cons.1 hb with h | h
   ·simp [h]
   ·exact List.mem_cons.2 (.inr (IG b h))
  exact ⟨by simpa using (hi.own _ _ iy).1,hi.vq iy,hi.xq (.inl iy)⟩
theorem aU.JP{t : TypeId}{x : Operand}{o s i k LX tv : Nat}{rows row : List (List X)}{GU : List X}{rs : List (List X)}(ht : TY.size P t = some 1)(hx : bV st x = some (.ptr o s i k))(hy : look st.aF tv = some (.dK LX rows))(_h : row = row)
  (ho:look st.aG o = some (.rows s rs)) (hr:rs[i]? = some GU) (hk:k + 1 <= GU.length) (kk:aU P N all rest ((st.put tv .no).dC o (.rows s (rs.set i (lg GU k [.dK LX rows])))) Q) :
  aU P N all (⟨none,.store t x (.tmp tv),ty,pos,af,none⟩ :: rest) st Q:=by
 refine aU.JJ (fun G E RR a Xf hi=>?_) kk
 have hv:=hi.aF tv _ hy
 have yK:bA E [X.dK LX rows] (a.eval (.tmp tv)).cells.toList (RR (.slot tv)):=hv.flat rfl
 obtain ⟨R',hp⟩:=hi.eval hx
 simp only [RX] at hp
 obtain ⟨_,B,hB,hc⟩:=hp
 have aZ:=hi.aG o _ ho
 have jR:=hi.nodup (.obj o)
 simp only [dR] at aZ
 obtain ⟨hu,aZ⟩:=aZ
 rcases aZ with ⟨_,h,_⟩ | ⟨B',cs,tb,R',iL,hw,hφ,lV,hlen,jX,jd⟩
 ·subst h; simp at hr
 rw [hB] at iL
 obtain rfl:=Option.some.inj iL
 have zA:=bA.length yK
 have fP:(a.eval (.tmp tv)).cells.size = 1:=by simpa using zA
 have LW:rs.length * s <= B.cap * s:=Nat.mul_le_mul_right s lV
 have zC:i < rs.length:=by
  rcases Nat.lt_or_ge i rs.length with h' | h'
  ·exact h'
  ·simp [List.getElem?_eq_none h'] at hr
 have q5:GU.length = s:=hu GU (List.mem_of_getElem? hr)
 have Qw:i * s + s <= rs.length * s:=by
  have:(i + 1) * s <= rs.length * s:=Nat.mul_le_mul_right s zC
  rw [Nat.add_mul] at this; omega
 have j6:=o5 (P:=P) (off:=B.off + (i * s + k)) ht fP hw om (bA.ph yK)
 have o6:B.b ∈ RR (.obj o):=by rw [jd]; simp
 have GC:=di.setRow G E B.b (l9 cs (B.off + (i * s + k)) (a.eval (.tmp tv)).cells.toList) hφ (hi.vq o6)
 rw [jd] at jR
 have n5:=List.nodup_cons.1 jR
 have DP:∀ b ∈ RR (.slot tv),b ∉ RR (.obj o):=fun b hb iy=>hi.apart _ _ (by simp) b hb iy
 have iA:∀ Cr,(∀ b ∈ Cr,b ≠ B.b) -> E.On { E with w:=E.w.setRow B.b (l9 cs (B.off + (i * s + k)) (a.eval (.tmp tv)).cells.toList) } Cr :=
  fun Cr h=>⟨fun _ _ _ h=>h,fun b hb=>⟨setRow_other E.w B.b b _ (h b hb),fun h=>h⟩⟩
 have DO:=bA.mono _ _ _ (iA (RR (.slot tv)) (fun b hb e=>DP b hb (by rw [e]; exact o6))) (fun _ _=>rfl) yK
 have zB:=cG.mono _ _ _ _ (iA R' (fun b hb e=>n5.1 (by rw [<- e]; exact hb))) jX
 obtain ⟨R₁,z8,dS,rX⟩:=cG.set (i:=i) (k:=k) hu zB hr (by simpa using hk) DO rfl om
 have mN:=hi.no tv
 have MV:(R' ++ RR (.slot tv)).Nodup:=by
  rw [List.nodup_append]
  refine ⟨n5.2,hi.nodup _,fun x hx y hy e=>DP y hy ?_⟩
  rw [<- e,jd]; exact List.mem_cons.2 (.inr hx)
 have xf:gg RR (.slot tv) [] (.obj o) = RR (.obj o):=by simp [gg]
 refine ⟨_,_,?_,mN.DK (E':={ E with w:=E.w.setRow B.b (l9 cs (B.off + (i * s + k)) (a.eval (.tmp tv)).cells.toList) }) GC (o:=o) (R:=B.b :: R₁) (fun b h=>by subst h; rw [xf]; exact o6) rfl ?_ ?_ ?_⟩
 ·show (do Instr.storeAt t (a.eval x) (a.eval (.tmp tv)); Pure.pure Next.skip:Sem Next).run P E.w = _
  rw [hc]
  exact DH j6
 ·simp only [dR]
  refine ⟨hu.set (by rw [mb (by simpa using hk)]; exact q5),.inr ⟨B,_,tb,R₁,hB,setRow_heap E.w B.b cs _ tb _ hw,hφ,by simpa using lV,by rw [pg (by simp at zA ⊢; omega)]; exact hlen,z8,rfl⟩⟩
 ·refine List.nodup_cons.2 ⟨fun h=>?_,rX MV⟩
  rcases dS _ h with h' | h'
  ·exact n5.1 h'
  ·exact DP _ h' o6
 ·intro b hb
  have cZ:b ∈ RR (.obj o) \/ b ∈ RR (.slot tv):=by
   rw [jd]
   rcases List.mem_cons.1 hb with h | h
   ·exact .inl (by simp [h])
   ·rcases dS b h with h' | h'
    ·exact .inl (List.mem_cons.2 (.inr h'))
    ·exact .inr h'
  have IH:b < E.w.heap.size /\ ¬ G.K b:=by rcases cZ with h | h <;> exact hi.own _ _ h
  refine ⟨by simpa using IH.1,IH.2,fun p hp Cs=>?_⟩
  have JQ:p ≠ .slot tv /\ b ∈ RR p:=by
   unfold gg at Cs
   split at Cs
   ·cases Cs
   ·rename_i h; exact ⟨h,Cs⟩
  rcases cZ with h | h
  ·exact hi.apart _ _ hp b JQ.2 h
  ·exact hi.apart _ _ JQ.1 b JQ.2 h
theorem Sh.MW{s:Nat}{rows:List (List X)}(o:Nat)(hx:look st.aF d = some (.dK s rows))(hF:N.F.elem o = false):Sh N st (((st.kill o).dC o (.rows s rows)).put d (.aN o s 0 rows.length)):=by
 intro G hn a w hh
 obtain ⟨E,RR,rfl,hi⟩:=hh
 have hv:=hi.aF d _ hx
 have jR:=hi.nodup (.slot d)
 simp only [RX] at hv
 obtain ⟨hu,base,cap,hc,cZ⟩:=hv
 have mN:=hi.no d
 have II : ∀ (E' : Env) (gG : Own → List Nat), Inv G E' gG (((st.put d .no).kill o).dC o (.rows s rows)) a → (∃ R, R = [] ∧ RX E' (.aN o s 0 rows.length) (a.tmps.getD d undef) R) →
   cI G (((st.kill o).dC o (.rows s rows)).put d (.aN o s 0 rows.length)) a E'.w:=by
  intro E' gG h3 ⟨R,hR,j2⟩
  subst hR
  have h4:=h3.relabel (d:=d) j2 List.nodup_nil (fun _ h=>by cases h)
  refine ⟨E',gg gG (.slot d) [],rfl,?_⟩
  refine { h4 with aF:=fun q y hy=>h4.aF q y ?_,aG:=fun q y hy=>h4.aG q y hy }
  simp only [St.put,St.dC,St.kill,tM,List.map_cons,look] at hy ⊢
  cases hb:Nat.beq d q with
  | true=>rw [hb] at hy; simpa using hy
  | false=>rw [hb] at hy; simpa using hy
 have hβ:∀ (bk:Option AX),di G E { E with β:=fun q=>if q = o then bk else E.β q } (fun _=>False):=fun _ =>
  ⟨rfl,fun _ h=>h.elim,fun _ h=>h.elim,fun _ _ _=>rfl,Nat.le_refl _,rfl,rfl,rfl⟩
 rcases cZ with ⟨h1,h2,h3⟩ | ⟨b,off,cs,ty,R',hb,hw,hl,ho,hφ,jX,jd⟩
 ·have h4 := mN.l8 (hβ none) (o := o) (ob := .rows s rows) (R := []) (fun _ h => h.elim) (fun q hq => by simp [hq]) (fun h => by rw [hn, hF] at h; cases h)
   (by simp only [dR]; exact ⟨hu,.inl ⟨by simp,h1,trivial⟩⟩) List.nodup_nil (fun _ h=>by cases h)
  refine II { E with β:=fun q=>if q = o then none else E.β q } _ h4 ⟨[],rfl,?_⟩
  simp only [RX]
  exact ⟨trivial,base,cap,hc,.inl ⟨by simp,trivial,by simp [h1],h2⟩⟩
 ·rw [jd] at jR
  have n5:=List.nodup_cons.1 jR
  have iA:E.On { E with β:=fun q=>if q = o then some ⟨b,off,cap⟩ else E.β q } R':=⟨fun _ _ _ h=>h,fun _ _=>⟨rfl,fun h=>h⟩⟩
  have h4 := mN.l8 (hβ (some ⟨b, off, cap⟩)) (o := o) (ob := .rows s rows) (R := b :: R') (fun _ h => h.elim) (fun q hq => by simp [hq]) (fun h => by rw [hn, hF] at h; cases h)
   (by simp only [dR]; exact ⟨hu,.inr ⟨⟨b,off,cap⟩,cs,ty,R',by simp,hw,hφ,hl,ho,cG.mono _ _ _ _ iA jX,rfl⟩⟩) jR
   (fun c qY=>by
    have hm:c ∈ RR (.slot d):=by rw [jd]; exact qY
    refine ⟨(hi.own _ _ hm).1,(hi.own _ _ hm).2,fun p hp lW=>?_⟩
    unfold gg at lW
    split at lW
    ·cases lW
    ·rename_i h; exact hi.apart _ _ h c lW hm)
  refine II { E with β:=fun q=>if q = o then some ⟨b,off,cap⟩ else E.β q } _ h4 ⟨[],rfl,?_⟩
  simp only [RX]
  exact ⟨trivial,base,cap,hc,.inr ⟨⟨b,off,cap⟩,by simp,by simp,hl,.inr (by simpa using hb)⟩⟩
theorem Sh.dL{s o n : Nat}{rows : List (List X)}(hx : look st.aF d = some (.aN o s 0 n))(ho : look st.aG o = some (.rows s rows))(hl : n = rows.length)(hF : N.F.elem o = false) :
  Sh N st (((st.kill o).dC o (.rows 0 [])).put d (.dK s rows)):=by
 intro G hn a w hh
 obtain ⟨E,RR,rfl,hi⟩:=hh
 subst hl
 have hv:=hi.aF d _ hx
 have aZ:=hi.aG o _ ho
 have jR:=hi.nodup (.obj o)
 simp only [RX] at hv
 obtain ⟨_,base,cap,hc,cZ⟩:=hv
 simp only [dR] at aZ
 obtain ⟨hu,aZ⟩:=aZ
 have hβ:di G E { E with β:=fun q=>if q = o then none else E.β q } (fun _=>False) :=
  ⟨rfl,fun _ h=>h.elim,fun _ h=>h.elim,fun _ _ _=>rfl,Nat.le_refl _,rfl,rfl,rfl⟩
 have h4 := hi.l8 hβ (o := o) (ob := .rows 0 []) (R := []) (fun _ h => h.elim) (fun q hq => by simp [hq]) (fun h => by rw [hn, hF] at h; cases h)
  (by simp only [dR]; exact ⟨fun _ h=>(by cases h),.inl ⟨by simp,trivial,trivial⟩⟩) List.nodup_nil (fun _ h=>by cases h)
 have MX:∀ c ∈ RR (.obj o),c < E.w.heap.size /\ ¬ G.K c /\ ∀ p,p ≠ .slot d -> c ∉ fh st RR o [] p:=by
  intro c qY
  refine ⟨(hi.own _ _ qY).1,(hi.own _ _ qY).2,fun p _ lW=>?_⟩
  cases p with
  | obj q =>
   by_cases hq:q = o
   ·subst hq; simp [fh] at lW
   ·have:c ∈ RR (.obj q):=by simpa [fh,hq] using lW
    exact hi.apart (.obj q) (.obj o) (by simpa using hq) c this qY
  | slot q =>
   rcases je st RR o [] q with h | h
   ·rw [h] at lW; cases lW
   ·rw [h] at lW; exact hi.apart (.slot q) (.obj o) (by simp) c lW qY
 have MY:∃ R,RX { E with β:=fun q=>if q = o then none else E.β q } (.dK s rows) (a.tmps.getD d undef) R /\ R.Nodup /\ ∀ b ∈ R,b ∈ RR (.obj o):=by
  simp only [RX]
  rcases aZ with ⟨h1,h2,h3⟩ | ⟨B,cs,ty,R',hB,hw,hφ,lV,fP,jX,jd⟩
  ·rcases cZ with ⟨_,_,_,h5⟩ | ⟨B,hB,_⟩
   ·exact ⟨[],⟨hu,base,cap,hc,.inl ⟨h2,h5,rfl⟩⟩,List.nodup_nil,fun _ h=>by cases h⟩
   ·rw [h1] at hB; cases hB
  ·rcases cZ with ⟨h1,_⟩ | ⟨B',iL,z3,td,hb⟩
   ·rw [hB] at h1; cases h1
   ·rw [hB] at iL
    obtain rfl:=Option.some.inj iL
    have iA:E.On { E with β:=fun q=>if q = o then none else E.β q } R':=⟨fun _ _ _ h=>h,fun _ _=>⟨rfl,fun h=>h⟩⟩
    rcases hb with hb | hb
    ·refine ⟨[],⟨hu,base,cap,hc,.inl ⟨List.eq_nil_of_length_eq_zero om,hb,rfl⟩⟩,List.nodup_nil,fun _ h=>by cases h⟩
    ·refine ⟨RR (.obj o),⟨hu,base,cap,hc,.inr ⟨B.b,B.off,cs,ty,R',by simpa using hb,hw,om,by rw [show cap = B.cap by omega]; exact fP,hφ,cG.mono _ _ _ _ iA jX,jd⟩⟩,jR,fun _ h=>h⟩
 obtain ⟨R,rY,xx,GV⟩:=MY
 exact ⟨{ E with β:=fun q=>if q = o then none else E.β q },_,rfl,h4.relabel rY xx (fun c hc=>MX c (GV c hc))⟩
end
end Go.AW
namespace Go.AW
open Go
structure Src(E:Env)(s:Nat)(new:List (List X))(c:Value)(R:List Nat):Prop where
 ex : ∃ base cap, ∃ vs : List Value, c = .slice (some base) new.length cap ∧ vs.length = new.length * s ∧ (∀ j v, vs[j]? = some v → E.w.cell? (base.add j) = some v) ∧ (∀ v ∈ vs, v.oneCell' = true) ∧
  ∀ (E':Env) (cs:Array Value) (off:Nat),E.On E' R -> (∀ j,j < vs.length -> cs[off + j]? = vs[j]?) -> cG E' new cs off R
 dK:cA s new
theorem cG.tf{E : Env} : ∀ {rs : List (List X)} {cs : Array Value} {off : Nat} {R : List Nat}, cG E rs cs off R → ∃ vs : List Value, vs.length = rs.flatten.length ∧ (∀ j v, vs[j]? = some v → cs[off + j]? = some v) ∧ (∀ v ∈ vs, v.oneCell' = true)
 | [],_,_,_,_=>⟨[],rfl,by simp,by simp⟩
 | r :: rs,cs,off,R,h=>by
  simp only [cG] at h
  obtain ⟨R₁,R₂,_,h1,h2,_⟩:=h
  obtain ⟨vs,hl,hv,hx⟩:=RO.cells h1
  obtain ⟨Rq,xp,Rr,nv⟩:=cG.tf h2
  refine ⟨vs ++ Rq,by simp [hl,xp],?_,?_⟩
  ·intro j v hj
   by_cases oy:j < vs.length
   ·rw [List.getElem?_append_left oy] at hj; exact hv j v hj
   ·rw [List.getElem?_append_right om] at hj
    have:=Rr _ v hj
    rw [show off + j = off + r.length + (j - vs.length) by omega]; exact this
  ·intro v Rs
   rcases List.mem_append.1 Rs with h' | h'
   ·exact bA.ph hx v h'
   ·exact nv v h'
theorem kT.tf{E : Env} : ∀ {rs : List (List X)} {b off : Nat}, kT E rs b off → ∃ vs : List Value, vs.length = rs.flatten.length ∧ (∀ j v, vs[j]? = some v → E.φ b (off + j) = some v) ∧ (∀ v ∈ vs, v.oneCell' = true) ∧
   ∀ (E':Env) (cs:Array Value) (o:Nat),E.On E' [] -> (∀ j,j < vs.length -> cs[o + j]? = vs[j]?) -> cG E' rs cs o []
 | [],_,_,_=>⟨[],rfl,by simp,by simp,fun _ _ _ _ _=>by simp [cG]⟩
 | r :: rs,b,off,h=>by
  simp only [kT] at h
  obtain ⟨vs,hl,hv,hx⟩:=RF.cells h.1
  obtain ⟨Rq,xp,Rr,nv,Xg⟩:=kT.tf h.2
  have Co:∀ (row:List X) (b off:Nat),RF E row b off -> X.iH row = true:=by
   intro row
   induction row with
   | nil=>intro _ _ _; rfl
   | cons x t ih =>
    intro b off h
    simp only [RF] at h
    obtain ⟨⟨_,_,_,hn,_⟩,h2⟩:=h
    simp only [X.iH,hn,ih b _ h2,Bool.and_self]
  refine ⟨vs ++ Rq,by simp [hl,xp],?_,?_,?_⟩
  ·intro j v hj
   by_cases oy:j < vs.length
   ·rw [List.getElem?_append_left oy] at hj; exact hv j v hj
   ·rw [List.getElem?_append_right om] at hj
    have:=Rr _ v hj
    rw [show off + j = off + r.length + (j - vs.length) by omega]; exact this
  ·intro v Rs
   rcases List.mem_append.1 Rs with h' | h'
   ·exact bA.ph hx v h'
   ·exact nv v h'
  ·intro E' cs o hE te
   simp only [cG]
   refine ⟨[],[],Co r b off h.1,?_,?_,rfl⟩
   ·refine bA.JL (bA.mono _ _ _ hE (fun q hq=>by rw [X.gv (Co r b off h.1)] at hq; cases hq) hx) fun j hj=>?_
    rw [te j (by simp; omega),List.getElem?_append_left om]
   ·refine Xg E' cs _ hE fun j hj=>?_
    have:=te (vs.length + j) (by simp; omega)
    rw [List.getElem?_append_right om] at this
    rw [<- hl,Nat.add_assoc,this]
    congr 1
    omega
section
variable {P:Program} {N:fA} {G:Ctx} {E:Env} {RR:Own -> List Nat} {st:St} {a:Act}
theorem Src.MZ{s:Nat}{new:List (List X)}{c:Value}{R:List Nat}(h:RX E (.dK s new) c R)(fN:0 < new.length):∃ R',Src E s new c R' /\ (∀ b ∈ R',b ∈ R) /\ (R.Nodup -> R'.Nodup):=by
 simp only [RX] at h
 obtain ⟨hu,base,cap,hc,h⟩:=h
 rcases h with ⟨h1,_⟩ | ⟨b,off,cs,ty,R',hb,hw,hl,ho,hφ,jX,hR⟩
 ·subst h1; simp at fN
 obtain ⟨vs,MN,hv,zD⟩:=cG.tf jX
 refine ⟨R',⟨⟨⟨b,off,none⟩,cap,vs,by rw [hc,hb],by rw [MN,length_flatten hu],fun j v hj=>by rw [iz,dw hw]; exact hv j v hj,zD,?_⟩,hu⟩,fun c hc=>by rw [hR]; simp [hc],fun h=>by rw [hR] at h; exact (List.nodup_cons.1 h).2⟩
 intro E' dv tO hE te
 have h1:=cG.mono _ _ _ _ hE jX
 -- move the cells from off to tO
 have key:∀ (rs:List (List X)) (o1 o2:Nat) (R:List Nat),(∀ j,j < rs.flatten.length -> dv[o2 + j]? = cs[o1 + j]?) -> cG E' rs cs o1 R -> cG E' rs dv o2 R:=by
  have JR:∀ (xs:List X) (o1 o2:Nat) (R:List Nat),(∀ j,j < xs.length -> dv[o2 + j]? = cs[o1 + j]?) -> RO E' xs cs o1 R -> RO E' xs dv o2 R:=by
   intro xs
   induction xs with
   | nil=>intro _ _ _ _ h; simpa [RO] using h
   | cons x r ih =>
    intro o1 o2 R he h
    simp only [RO] at h ⊢
    obtain ⟨u,R₁,R₂,hu,hs,h1,h2,hR⟩:=h
    refine ⟨u,R₁,R₂,?_,hs,h1,ih _ _ _ (fun j hj=>?_) h2,hR⟩
    ·have:=he 0 (by simp)
     simp only [Nat.add_zero] at this
     rw [this]; exact hu
    ·have:=he (j + 1) (by simp; omega)
     rw [show o2 + 1 + j = o2 + (j + 1) by omega,show o1 + 1 + j = o1 + (j + 1) by omega]; exact this
  intro rs
  induction rs with
  | nil=>intro _ _ _ _ h; simpa [cG] using h
  | cons x r ih =>
   intro o1 o2 R he h
   simp only [cG] at h ⊢
   obtain ⟨R₁,R₂,hn,h1,h2,hR⟩:=h
   refine ⟨R₁,R₂,hn,JR _ _ _ _ (fun j hj=>he j (by simp; omega)) h1,ih _ _ _ (fun j hj=>?_) h2,hR⟩
   have:=he (x.length + j) (by simp at hj ⊢; omega)
   rw [Nat.add_assoc,Nat.add_assoc]; exact this
 refine key new off tO R' (fun j hj=>?_) h1
 rw [te j om]
 have oy:j < vs.length:=by omega
 rw [List.getElem?_eq_getElem oy]
 exact (hv j _ (List.getElem?_eq_getElem oy)).symm
theorem Src.Ru(hi:Inv G E RR st a){s:Nat}{new:List (List X)}{c:Value}{R:List Nat}(h:RX E (.fz s new) c R)(fN:0 < new.length):Src E s new c []:=by
 simp only [RX] at h
 obtain ⟨_,hu,base,cap,hc,h⟩:=h
 rcases h with ⟨h1,_⟩ | ⟨b,off,hb,hl,hf⟩
 ·subst h1; simp at fN
 obtain ⟨vs,MN,hv,zD,hr⟩:=kT.tf hf
 exact ⟨⟨⟨b,off,none⟩,cap,vs,by rw [hc,hb],by rw [MN,length_flatten hu],fun j v hj=>by rw [iz]; exact hi.ox _ _ _ (hv j v hj),zD,hr⟩,hu⟩
theorem tP{t e s dO n cap m ty : Nat}{base : Option Addr}{b2 : Addr}{c2 : Nat}{kU news z : List Value}(ht : TY.slice P t = some (e, s, dO))(hz : TY.zero P e = some z)(sI : z.length = s)(hm : 0 < m)
  (sJ:kU.length = n * s) (hold:∀ j v,kU[j]? = some v -> ∃ b off,base = some ⟨b,off,none⟩ /\ E.w.cell? ⟨b,off + j,none⟩ = some v) (GW:base = none -> n = 0 /\ cap = 0)
  (Dv:news.length = m * s) (o0:∀ j v,news[j]? = some v -> E.w.cell? (b2.add j) = some v) (zD:∀ v ∈ news,v.oneCell' = true) (rZ:(n + m) * dO <= 140737488355328) (Dw:n + m <= 4611686018427387904)
  (Be:n + m <= cap -> ∃ b off cs tb,base = some ⟨b,off,none⟩ /\ E.w.heap[b]? = some (.cells cs tb (0,0)) /\ off + cap * s <= cs.size) :
  (∃ b off cs tb, base = some ⟨b, off, none⟩ ∧ E.w.heap[b]? = some (.cells cs tb (0, 0)) ∧ n + m ≤ cap ∧ off + cap * s ≤ cs.size ∧
   (Builtin.append_ #[t,t] ty #[.slice base n cap,.slice (some b2) m c2]).run P E.w = .ok (.slice base (n + m) cap) (E.w.setRow b (l9 cs (off + n * s) news))) \/
  (∃ tQ rest, n + m ≤ tQ ∧ rest.size = (tQ - (n + m)) * s ∧
   (Builtin.append_ #[t,t] ty #[.slice base n cap,.slice (some b2) m c2]).run P E.w = .ok (.slice (some ⟨E.w.heap.size,0,none⟩) (n + m) tQ) (E.w.drew.alloc (.cells ((kU ++ news).toArray ++ rest) e))):=by
 obtain ⟨hu,i,iM,hs,IF⟩:=TY.dV ht
 obtain ⟨i',z0,qT,Dr,Ds⟩:=TY.gH hz
 rw [iM] at qT
 obtain rfl:=Option.some.inj qT
 have Rv:z0.cells.size = s:=by
  have:z0.cells.toList.length = z.length:=by rw [Ds]
  simpa [sI] using this
 by_cases hr:n + m <= cap
 ·obtain ⟨b,off,cs,tb,hb,hw,fP⟩:=Be hr
  refine .inl ⟨b,off,cs,tb,hb,hw,hr,fP,?_⟩
  have Rw:(n + m) * s <= cap * s:=Nat.mul_le_mul_right s hr
  rw [Nat.add_mul] at Rw
  have hf:=run_firstCells_some (P:=P) E.w i.size m b2 m c2 news (by rw [hs]; exact Dv) o0
  have xw:=run_storeCells_at P b (off + n * s) tb news 0 cs E.w hw om zD
  simp only [Nat.add_zero] at xw
  subst hb
  rw [hs] at hf
  simp [Builtin.append_,run_underlying hu,sizeOf,typeInfo,iM,Builtin.lenOf,hr,hf,iz,hs,xw,l9]
 ·refine .inr ?_
  have o4:Builtin.nextslicecap (n + m) cap * i.bytes <= 281474976710656:=growslice_fits om (by rw [IF]; omega)
  have Q0:∀ k,(Builtin.zeroCells z0.cells k).size = k * s:=fun k=>by rw [size_zeroCells,Rv]
  cases vC:base with
  | none =>
   obtain ⟨rfl,rfl⟩:=GW vC
   have holds:kU = []:=List.eq_nil_of_length_eq_zero (by simpa using sJ)
   subst holds
   refine ⟨grownCap E.w m 0 e,_,by have:=grownCap_ge E.w m 0 e; omega,Q0 _,?_⟩
   have:=run_append_nil (P:=P) E.w t ty e i z0 hu iM Dr b2 m c2 news (by rw [hs]; exact Dv) o0 hm om (by
    have:m * dO <= 140737488355328:=by simpa using rZ
    rw [IF]; omega)
   simpa using this
  | some bb =>
   have Na:∀ j v,kU[j]? = some v -> E.w.cell? (bb.add j) = some v:=by
    intro j v hj
    obtain ⟨b,off,hb,hc⟩:=hold j v hj
    rw [vC] at hb
    obtain rfl:=Option.some.inj hb
    rw [iz]; exact hc
   refine ⟨grownCap E.w (n + m) cap e,_,grownCap_ge E.w (n + m) cap e,Q0 _,?_⟩
   have:=run_append_grow (P:=P) E.w t ty e i z0 hu iM Dr bb n cap kU (by rw [hs]; exact sJ) Na b2 m c2 news (by rw [hs]; exact Dv) o0 om om o4
   rw [this]
   simp
theorem cG.zE{E : Env}{rs : List (List X)}{cs : Array Value}{off s lo n : Nat}{R : List Nat}(hu : cA s rs)(h : cG E rs cs off R)(hl : lo + n ≤ rs.length) :
  ∃ R',cG E ((rs.drop lo).take n) cs (off + lo * s) R' /\ (∀ b ∈ R',b ∈ R) /\ (R.Nodup -> R'.Nodup):=by
 have h0:rs = rs.take lo ++ ((rs.drop lo).take n ++ rs.drop (lo + n)):=by
  conv=>lhs; rw [<- List.take_append_drop lo rs,<- List.take_append_drop n (rs.drop lo),List.drop_drop]
 rw [h0] at h
 obtain ⟨R₁,R₂,h1,h2,rfl⟩:=cG.qZ h
 obtain ⟨R₃,R₄,h3,h4,rfl⟩:=cG.qZ h2
 rw [length_flatten (hu.take lo),List.length_take,Nat.min_eq_left om] at h3
 refine ⟨R₃,h3,fun b hb=>by simp [hb],fun hn=>?_⟩
 have:=(List.nodup_append.1 hn).2.1
 exact (List.nodup_append.1 this).1
theorem Inv.append(hi : Inv G E RR st a){t e s dO ty : Nat}{z : List Value}{o lo n : Nat}{rs new : List (List X)}{c c2 : Value}{R2 : List Nat}(ht : TY.slice P t = some (e, s, dO))(hz : TY.zero P e = some z)(sI : z.length = s)
  (hx:RX E (.aN o s lo n) c []) (ho:look st.aG o = some (.rows s rs)) (q7:lo + n <= rs.length) (DQ:Src E s new c2 R2) (hm:0 < new.length) (xx:R2.Nodup) (mQ:∀ b ∈ R2,b < E.w.heap.size /\ ¬ G.K b /\ ∀ p,b ∉ RR p)
  (rZ:(n + new.length) * dO <= 140737488355328) (Dw:n + new.length <= 4611686018427387904) (hF:G.fn.F.elem o = false) :
  ∃ u E' gG,(Builtin.append_ #[t,t] ty #[c,c2]).run P E.w = .ok u E'.w /\ Inv G E' gG ((st.kill o).dC o (.rows s (((rs.drop lo).take n) ++ new))) a /\ RX E' (.aN o s 0 (n + new.length)) u []:=by
 have aZ:=hi.aG o _ ho
 have jR:=hi.nodup (.obj o)
 simp only [RX] at hx
 obtain ⟨_,base,cap,rfl,cZ⟩:=hx
 simp only [dR] at aZ
 obtain ⟨hu,aZ⟩:=aZ
 obtain ⟨⟨b2,Xh,news,rfl,Dv,o0,zD,Nb⟩,AZ⟩:=DQ
 have xy:((rs.drop lo).take n).length = n:=by simp; omega
 have hU:cA s (((rs.drop lo).take n) ++ new):=by
  intro r hr
  rcases List.mem_append.1 hr with h | h
  ·exact (hu.drop lo).take n r h
  ·exact AZ r h
 have Nc:∀ b ∈ R2,b ∉ RR (.obj o):=fun b hb=>(mQ b hb).2.2 _
 -- the Rz cells, as values, and what lies in them
 have hold : ∃ (kU : List Value) (R1 : List Nat), kU.length = n * s ∧ (∀ j v, kU[j]? = some v → ∃ b off, base = some ⟨b, off, none⟩ ∧ E.w.cell? ⟨b, off + j, none⟩ = some v) ∧ (∀ b ∈ R1, b ∈ RR (.obj o)) ∧ R1.Nodup ∧
   (base = none -> n = 0 /\ cap = 0) /\
   (∀ (E':Env) (dv:Array Value) (tO:Nat),E.On E' R1 -> (∀ j,j < kU.length -> dv[tO + j]? = kU[j]?) -> cG E' ((rs.drop lo).take n) dv tO R1) /\
   (n + new.length <= cap -> ∃ B cs tb,E.β o = some B /\ base = some ⟨B.b,B.off + lo * s,none⟩ /\ E.w.heap[B.b]? = some (.cells cs tb (0,0)) /\ B.off + lo * s + cap * s <= cs.size /\ (∀ i,E.φ B.b i = none) /\ B.b ∈ RR (.obj o) /\ B.b ∉ R1):=by
  by_cases o7:cap = 0
  ·have GW:n = 0:=by rcases cZ with ⟨_,_,h,_⟩ | ⟨_,_,_,h,_⟩ <;> omega
   subst GW
   refine ⟨[],[],by simp,by simp,by simp,List.nodup_nil,fun _=>⟨rfl,o7⟩,fun _ _ _ _ _=>by simp [cG],fun h=>by omega⟩
  ·rcases cZ with ⟨_,_,_,h⟩ | ⟨B,hB,MI,td,hb⟩
   ·exact absurd h o7
   have iy:=hb.resolve_left o7
   rcases aZ with ⟨h1,_⟩ | ⟨B',cs,tb,R',iL,hw,hφ,lW,fP,jX,jd⟩
   ·rw [hB] at h1; cases h1
   rw [hB] at iL
   obtain rfl:=Option.some.inj iL
   rw [jd] at jR
   obtain ⟨tR,n5⟩:=List.nodup_cons.1 jR
   obtain ⟨R1,Ct,dS,Cu⟩:=cG.zE hu jX q7
   obtain ⟨kU,sJ,Nd,_⟩:=cG.tf Ct
   rw [length_flatten ((hu.drop lo).take n),xy] at sJ
   refine ⟨kU,R1,sJ,fun j v hj=>⟨B.b,B.off + lo * s,iy,by rw [dw hw]; exact Nd j v hj⟩,fun b hb=>by rw [jd]; simp [dS b hb],Cu n5,(fun h=>by rw [iy] at h; cases h),?_,?_⟩
   ·intro E' dv tO hE te
    have h1:=cG.mono _ _ _ _ hE Ct
    have key:∀ (rs:List (List X)) (o1 o2:Nat) (R:List Nat),(∀ j,j < rs.flatten.length -> dv[o2 + j]? = cs[o1 + j]?) -> cG E' rs cs o1 R -> cG E' rs dv o2 R:=by
     have JR:∀ (xs:List X) (o1 o2:Nat) (R:List Nat),(∀ j,j < xs.length -> dv[o2 + j]? = cs[o1 + j]?) -> RO E' xs cs o1 R -> RO E' xs dv o2 R:=by
      intro xs
      induction xs with
      | nil=>intro _ _ _ _ h; simpa [RO] using h
      | cons x r ih =>
       intro o1 o2 R he h
       simp only [RO] at h ⊢
       obtain ⟨u,R₁,R₂,hu,hs,h1,h2,hR⟩:=h
       refine ⟨u,R₁,R₂,?_,hs,h1,ih _ _ _ (fun j hj=>?_) h2,hR⟩
       ·have:=he 0 (by simp)
        simp only [Nat.add_zero] at this
        rw [this]; exact hu
       ·have:=he (j + 1) (by simp; omega)
        rw [show o2 + 1 + j = o2 + (j + 1) by omega,show o1 + 1 + j = o1 + (j + 1) by omega]; exact this
     intro rs
     induction rs with
     | nil=>intro _ _ _ _ h; simpa [cG] using h
     | cons x r ih =>
      intro o1 o2 R he h
      simp only [cG] at h ⊢
      obtain ⟨R₁,R₂,hn,h1,h2,hR⟩:=h
      refine ⟨R₁,R₂,hn,JR _ _ _ _ (fun j hj=>he j (by simp; omega)) h1,ih _ _ _ (fun j hj=>?_) h2,hR⟩
      have:=he (x.length + j) (by simp at hj ⊢; omega)
      rw [Nat.add_assoc,Nat.add_assoc]; exact this
    refine key _ (B.off + lo * s) tO R1 (fun j hj=>?_) h1
    have oy:j < kU.length:=by
     rw [length_flatten ((hu.drop lo).take n),xy] at hj
     omega
    rw [te j oy,List.getElem?_eq_getElem oy]
    exact (Nd j _ (List.getElem?_eq_getElem oy)).symm
   ·intro _
    refine ⟨B,cs,tb,hB,iy,hw,?_,hφ,by rw [jd]; simp,fun h=>tR (dS _ h)⟩
    have:B.cap = lo + cap:=MI.symm
    rw [this,Nat.add_mul] at fP
    omega
 obtain ⟨kU,R1,sJ,Nd,rY,R3,GW,IJ,Be⟩:=hold
 have rX:(R1 ++ R2).Nodup:=by
  rw [List.nodup_append]
  exact ⟨R3,xx,fun x hx y hy e=>Nc y hy (by rw [<- e]; exact rY x hx)⟩
 rcases tP (P:=P) (E:=E) (ty:=ty) ht hz sI hm sJ Nd GW Dv o0 zD rZ Dw (fun h=>by
   obtain ⟨B,cs,tb,_,h2,h3,h4,_⟩:=Be h
   exact ⟨B.b,B.off + lo * s,cs,tb,h2,h3,h4⟩) with ⟨b,off,cs,tb,vC,hw,o4,fP,j6⟩ | ⟨tQ,rest,Vj,Nf,j6⟩
 ·-- in place
  obtain ⟨B,Vk,Zn,hB,zF,qU,Ng,hφ,o6,Nh⟩:=Be o4
  rw [vC] at zF
  simp only [Option.some.injEq,Addr.mk.injEq,and_true] at zF
  obtain ⟨rfl,rfl⟩:=zF
  rw [hw] at qU
  simp only [Option.some.injEq,Go.Obj.cells.injEq] at qU
  obtain ⟨rfl,rfl,_⟩:=qU
  have Rw:(n + new.length) * s <= cap * s:=Nat.mul_le_mul_right s o4
  rw [Nat.add_mul] at Rw
  have R4:B.off + lo * s + n * s + news.length <= cs.size:=by omega
  let E':Env:={ E with w:=E.w.setRow B.b (l9 cs (B.off + lo * s + n * s) news),β:=fun q=>if q = o then some ⟨B.b,B.off + lo * s,cap⟩ else E.β q }
  have Ni:B.b ∉ R2:=fun h=>Nc _ h o6
  have iA:∀ Cr,(∀ b ∈ Cr,b ≠ B.b) -> E.On E' Cr:=fun Cr h=>⟨fun _ _ _ h=>h,fun b hb=>⟨setRow_other E.w B.b b _ (h b hb),fun h=>h⟩⟩
  have GC:di G E E' (fun c=>c = B.b):={ di.setRow G E B.b (l9 cs (B.off + lo * s + n * s) news) hφ (hi.vq o6) with φ:=rfl }
  have DR:cG E' (((rs.drop lo).take n) ++ new) (l9 cs (B.off + lo * s + n * s) news) (B.off + lo * s) (R1 ++ R2):=by
   refine cG.app (IJ E' _ _ (iA R1 (fun b hb e=>Nh (by rw [<- e]; exact hb))) fun j hj=>?_) ?_
   ·rw [o3 R4 (.inl om)]
    have:=Nd j _ (List.getElem?_eq_getElem hj)
    obtain ⟨b,off,hb,hc⟩:=this
    rw [vC] at hb
    simp only [Option.some.injEq,Addr.mk.injEq,and_true] at hb
    obtain ⟨rfl,rfl⟩:=hb
    rw [dw hw] at hc
    rw [hc,List.getElem?_eq_getElem hj]
   ·rw [length_flatten ((hu.drop lo).take n),xy]
    exact Nb E' _ _ (iA R2 (fun b hb e=>Ni (by rw [<- e]; exact hb))) fun j hj=>Bb R4 hj
  refine ⟨_,E',_,j6,hi.l8 GC (o:=o) (R:=B.b :: (R1 ++ R2)) (fun b h=>by subst h; exact o6) (fun q hq=>by simp [E',hq]) (fun h=>by rw [hF] at h; cases h) ?_ ?_ ?_,?_⟩
  ·simp only [dR]
   refine ⟨hU,.inr ⟨⟨B.b,B.off + lo * s,cap⟩,_,tb,R1 ++ R2,by simp [E'],setRow_heap E.w B.b cs _ tb _ hw,hφ,by simp [xy]; omega,by rw [pg R4]; exact fP,DR,rfl⟩⟩
  ·refine List.nodup_cons.2 ⟨fun h=>?_,rX⟩
   rcases List.mem_append.1 h with h | h
   ·exact Nh h
   ·exact Ni h
  ·intro b hb
   have hs:E'.w.heap.size = E.w.heap.size:=by simp [E']
   rw [hs]
   rcases List.mem_cons.1 hb with h | h
   ·subst h; exact ⟨(hi.own _ _ o6).1,hi.vq o6,hi.xq (.inl o6)⟩
   ·rcases List.mem_append.1 h with h | h
    ·exact ⟨(hi.own _ _ (rY b h)).1,hi.vq (rY b h),hi.xq (.inl (rY b h))⟩
    ·exact ⟨(mQ b h).1,(mQ b h).2.1,fun p _=>(mQ b h).2.2 p⟩
  ·simp only [RX]
   exact ⟨trivial,_,cap,rfl,.inr ⟨⟨B.b,B.off + lo * s,cap⟩,by simp [E'],by simp,om,.inr (by simpa using vC)⟩⟩
 ·-- in a new block
  let E':Env:={ E with w:=E.w.drew.alloc (.cells ((kU ++ news).toArray ++ rest) e),β:=fun q=>if q = o then some ⟨E.w.heap.size,0,tQ⟩ else E.β q }
  have GC:di G E E' (fun _=>False):=by
   have h1:=(di.drew G E).trans (di.alloc G { E with w:=E.w.drew } (.cells ((kU ++ news).toArray ++ rest) e)) (fun _ h=>h.elim)
   exact { h1 with φ:=rfl }
  have iA:∀ Cr,(∀ b ∈ Cr,b < E.w.heap.size) -> E.On E' Cr:=fun Cr h=>⟨fun _ _ _ h=>h,fun b hb=>⟨GC.same b (h b hb) (fun h=>h),fun h=>h⟩⟩
  have pG:∀ j,j < (kU ++ news).length -> ((kU ++ news).toArray ++ rest)[0 + j]? = (kU ++ news)[j]?:=by
   intro j hj
   rw [Nat.zero_add,Array.getElem?_append_left (by simpa using hj)]
   simp
  have fP:((kU ++ news).toArray ++ rest).size = tQ * s:=by
   simp [Nf,sJ,Dv]
   have:tQ * s = (n + new.length) * s + (tQ - (n + new.length)) * s:=by rw [<- Nat.add_mul]; congr 1; omega
   rw [this,Nat.add_mul]
  have DR:cG E' (((rs.drop lo).take n) ++ new) ((kU ++ news).toArray ++ rest) 0 (R1 ++ R2):=by
   refine cG.app (IJ E' _ _ (iA R1 (fun b hb=>(hi.own _ _ (rY b hb)).1)) fun j hj=>?_) ?_
   ·rw [pG j (by simp; omega),List.getElem?_append_left hj]
   ·rw [length_flatten ((hu.drop lo).take n),xy]
    refine Nb E' _ _ (iA R2 (fun b hb=>(mQ b hb).1)) fun j hj=>?_
    have:=pG (kU.length + j) (by simp; omega)
    rw [List.getElem?_append_right om] at this
    rw [show 0 + n * s + j = 0 + (kU.length + j) by omega,this]
    congr 1; omega
  have Nj:E.w.heap.size ∉ R1 ++ R2:=by
   intro h
   rcases List.mem_append.1 h with h | h
   ·have:=(hi.own _ _ (rY _ h)).1; omega
   ·have:=(mQ _ h).1; omega
  have MH:E'.w.heap.size = E.w.heap.size + 1:=by simp [E']
  refine ⟨_,E',_,j6,hi.l8 GC (o:=o) (R:=E.w.heap.size :: (R1 ++ R2)) (fun _ h=>h.elim) (fun q hq=>by simp [E',hq]) (fun h=>by rw [hF] at h; cases h) ?_ ?_ ?_,?_⟩
  ·simp only [dR]
   refine ⟨hU,.inr ⟨⟨E.w.heap.size,0,tQ⟩,_,e,R1 ++ R2,by simp [E'],?_,fun i=>?_,by simp [xy]; omega,by rw [fP]; simp,DR,rfl⟩⟩
   ·have:=heap_alloc E.w.drew (.cells ((kU ++ news).toArray ++ rest) e)
    exact this
   ·show E.φ E.w.heap.size i = none
    cases h:E.φ E.w.heap.size i with
    | none=>rfl
    | some v=>exact absurd (World.block_lt_of_cell? E.w _ (hi.ox _ _ _ h)) (by simp)
  ·exact List.nodup_cons.2 ⟨Nj,rX⟩
  ·intro b hb
   rw [MH]
   rcases List.mem_cons.1 hb with h | h
   ·subst h
    refine ⟨om,fun hK=>?_,hi.xq (.inr (Nat.le_refl _))⟩
    have:=hi.small _ hK
    have:=hi.size
    omega
   ·rcases List.mem_append.1 h with h | h
    ·exact ⟨by have:=(hi.own _ _ (rY b h)).1; omega,hi.vq (rY b h),hi.xq (.inl (rY b h))⟩
    ·exact ⟨by have:=(mQ b h).1; omega,(mQ b h).2.1,fun p _=>(mQ b h).2.2 p⟩
  ·simp only [RX]
   exact ⟨trivial,_,tQ,rfl,.inr ⟨⟨E.w.heap.size,0,tQ⟩,by simp [E'],by simp,om,.inr (by simp)⟩⟩
end
end Go.AW
namespace Go.AW
open Go
section
variable {P:Program} {N:fA} {G:Ctx} {E:Env} {RR:Own -> List Nat} {st:St} {a:Act}
theorem Inv.trim(hi : Inv G E RR st a){o s lo n : Nat}{rs : List (List X)}{c : Value}(hx : RX E (.aN o s lo n) c [])(ho : look st.aG o = some (.rows s rs))(q7 : lo + n ≤ rs.length)(hF : G.fn.F.elem o = false) :
  ∃ E' gG,E'.w = E.w /\ Inv G E' gG ((st.kill o).dC o (.rows s ((rs.drop lo).take n))) a /\ RX E' (.aN o s 0 n) c []:=by
 have aZ:=hi.aG o _ ho
 have jR:=hi.nodup (.obj o)
 simp only [RX] at hx
 obtain ⟨_,base,cap,rfl,cZ⟩:=hx
 simp only [dR] at aZ
 obtain ⟨hu,aZ⟩:=aZ
 have hβ:∀ (bk:Option AX),di G E { E with β:=fun q=>if q = o then bk else E.β q } (fun _=>False):=fun _ =>
  ⟨rfl,fun _ h=>h.elim,fun _ h=>h.elim,fun _ _ _=>rfl,Nat.le_refl _,rfl,rfl,rfl⟩
 have xy:((rs.drop lo).take n).length = n:=by simp; omega
 by_cases o7:cap = 0
 ·have GW:n = 0:=by rcases cZ with ⟨_,_,h,_⟩ | ⟨_,_,_,h,_⟩ <;> omega
  subst GW
  refine ⟨{ E with β:=fun q=>if q = o then none else E.β q },_,rfl,hi.l8 (hβ none) (o:=o) (R:=[]) (fun _ h=>h.elim) (fun q hq=>by simp [hq]) (fun h=>by rw [hF] at h; cases h) ?_ List.nodup_nil (fun _ h=>by cases h),?_⟩
  ·simp only [dR]; exact ⟨fun _ h=>(by simp at h),.inl ⟨by simp,by simp,trivial⟩⟩
  ·simp only [RX]; exact ⟨trivial,base,cap,rfl,.inl ⟨by simp,trivial,trivial,o7⟩⟩
 ·rcases cZ with ⟨_,_,_,h⟩ | ⟨B,hB,MI,td,hb⟩
  ·exact absurd h o7
  have iy:=hb.resolve_left o7
  rcases aZ with ⟨h1,_⟩ | ⟨B',cs,tb,R',iL,hw,hφ,lW,fP,jX,jd⟩
  ·rw [hB] at h1; cases h1
  rw [hB] at iL
  obtain rfl:=Option.some.inj iL
  rw [jd] at jR
  obtain ⟨tR,n5⟩:=List.nodup_cons.1 jR
  obtain ⟨R1,Ct,dS,Cu⟩:=cG.zE hu jX q7
  have iA:E.On { E with β:=fun q=>if q = o then some ⟨B.b,B.off + lo * s,cap⟩ else E.β q } R1:=⟨fun _ _ _ h=>h,fun _ _=>⟨rfl,fun h=>h⟩⟩
  refine ⟨{ E with β:=fun q=>if q = o then some ⟨B.b,B.off + lo * s,cap⟩ else E.β q },_,rfl,hi.l8 (hβ (some ⟨B.b,B.off + lo * s,cap⟩)) (o:=o) (R:=B.b :: R1) (fun _ h=>h.elim) (fun q hq=>by simp [hq]) (fun h=>by rw [hF] at h; cases h) ?_ (List.nodup_cons.2 ⟨fun h=>tR (dS _ h),Cu n5⟩) ?_,?_⟩
  ·simp only [dR]
   refine ⟨(hu.drop lo).take n,.inr ⟨⟨B.b,B.off + lo * s,cap⟩,cs,tb,R1,by simp,hw,hφ,by simp [xy]; omega,?_,cG.mono _ _ _ _ iA Ct,rfl⟩⟩
   have:B.cap = lo + cap:=MI.symm
   rw [this,Nat.add_mul] at fP
   simp only; omega
  ·intro b Cv
   have hm:b ∈ RR (.obj o):=by
    rw [jd]
    rcases List.mem_cons.1 Cv with h | h
    ·simp [h]
    ·simp [dS b h]
   exact ⟨(hi.own _ _ hm).1,hi.vq hm,hi.xq (.inl hm)⟩
  ·simp only [RX]
   exact ⟨trivial,base,cap,rfl,.inr ⟨⟨B.b,B.off + lo * s,cap⟩,by simp,by simp,td,.inr (by simpa using iy)⟩⟩
theorem Sh.trim{d o s lo n : Nat}{rs : List (List X)}(hx : look st.aF d = some (.aN o s lo n))(ho : look st.aG o = some (.rows s rs))(q7 : lo + n ≤ rs.length)(hF : N.F.elem o = false) :
  Sh N st (((st.kill o).dC o (.rows s ((rs.drop lo).take n))).put d (.aN o s 0 n)):=by
 intro G hn a w hh
 obtain ⟨E,RR,rfl,hi⟩:=hh
 have hv:=hi.aF d _ hx
 have h0:RR (.slot d) = []:=RX.free (x:=.aN o s lo n) rfl hv
 rw [h0] at hv
 obtain ⟨E',gG,hw,h1,h2⟩:=hi.trim hv ho q7 (by rw [hn]; exact hF)
 exact ⟨E',_,hw,h1.relabel h2 List.nodup_nil (fun _ h=>by cases h)⟩
theorem Inv.nil(hi:Inv G E RR st a)(o s:Nat)(hF:G.fn.F.elem o = false):∃ E' gG,E'.w = E.w /\ Inv G E' gG ((st.kill o).dC o (.rows s [])) a /\ RX E' (.aN o s 0 0) (.slice none 0 0) []:=by
 have hβ:di G E { E with β:=fun q=>if q = o then none else E.β q } (fun _=>False) :=
  ⟨rfl,fun _ h=>h.elim,fun _ h=>h.elim,fun _ _ _=>rfl,Nat.le_refl _,rfl,rfl,rfl⟩
 refine ⟨{ E with β:=fun q=>if q = o then none else E.β q },_,rfl,hi.l8 hβ (o:=o) (R:=[]) (fun _ h=>h.elim) (fun q hq=>by simp [hq]) (fun h=>by rw [hF] at h; cases h) ?_ List.nodup_nil (fun _ h=>by cases h),?_⟩
 ·simp only [dR]; exact ⟨fun _ h=>(by cases h),.inl ⟨by simp,trivial,trivial⟩⟩
 ·simp only [RX]; exact ⟨trivial,none,0,rfl,.inl ⟨by simp,by trivial,by trivial,by trivial⟩⟩
theorem Sh.nil{d:Nat}(o s:Nat)(hx:look st.aF d = some (.v (.slice none 0 0)))(hF:N.F.elem o = false):Sh N st (((st.kill o).dC o (.rows s [])).put d (.aN o s 0 0)):=by
 intro G hn a w hh
 obtain ⟨E,RR,rfl,hi⟩:=hh
 have hv:=hi.aF d _ hx
 simp only [RX] at hv
 obtain ⟨E',gG,hw,h1,h2⟩:=hi.nil o s (by rw [hn]; exact hF)
 refine ⟨E',_,hw,h1.relabel (d:=d) (by rw [hv.1]; exact h2) List.nodup_nil (fun _ h=>by cases h)⟩
theorem Sh.R5{d:Nat}(s:Nat)(hx:look st.aF d = some (.v (.slice none 0 0))):Sh N st (st.put d (.fz s [])):=by
 intro G hn a w hh
 obtain ⟨E,RR,rfl,hi⟩:=hh
 have hv:=hi.aF d _ hx
 simp only [RX] at hv
 refine ⟨E,_,rfl,hi.relabel (d:=d) (R:=[]) ?_ List.nodup_nil (fun _ h=>by cases h)⟩
 rw [hv.1]
 simp only [RX]
 exact ⟨trivial,fun _ h=>(by cases h),none,0,rfl,.inl ⟨by trivial,by trivial⟩⟩
theorem Sh.vr{d:Nat}(s:Nat)(hx:look st.aF d = some (.v (.slice none 0 0))):Sh N st (st.put d (.dK s [])):=by
 intro G hn a w hh
 obtain ⟨E,RR,rfl,hi⟩:=hh
 have hv:=hi.aF d _ hx
 simp only [RX] at hv
 refine ⟨E,_,rfl,hi.relabel (d:=d) (R:=[]) ?_ List.nodup_nil (fun _ h=>by cases h)⟩
 rw [hv.1]
 simp only [RX]
 exact ⟨fun _ h=>(by cases h),none,0,rfl,.inl ⟨by trivial,by trivial,by trivial⟩⟩
theorem nV{t e s dO ty n cap : Nat}{base b2 : Option Addr}{c2 : Nat}(ht : TY.slice P t = some (e, s, dO))(hc : n ≤ cap)(w : World) :
  (Builtin.append_ #[t,t] ty #[.slice base n cap,.slice b2 0 c2]).run P w = .ok (.slice base n cap) w:=by
 obtain ⟨hu,i,iM,hs,IF⟩:=TY.dV ht
 have h0:∀ a:Addr,(storeCells a []).run P w = .ok () w:=fun _=>rfl
 cases b2 with
 | none =>
  cases base with
  | none=>simp [Builtin.append_,run_underlying hu,sizeOf,typeInfo,iM,Builtin.lenOf,hc,Builtin.firstCells]
  | some b=>simp [Builtin.append_,run_underlying hu,sizeOf,typeInfo,iM,Builtin.lenOf,hc,Builtin.firstCells,h0]
 | some b' =>
  have hl:∀ a:Addr,(loadCells a 0).run P w = .ok #[] w:=fun _=>rfl
  cases base with
  | none=>simp [Builtin.append_,run_underlying hu,sizeOf,typeInfo,iM,Builtin.lenOf,hc,Builtin.firstCells,hl]
  | some b=>simp [Builtin.append_,run_underlying hu,sizeOf,typeInfo,iM,Builtin.lenOf,hc,Builtin.firstCells,h0,hl]
variable {Q:Exit -> St -> Prop} {all:Array Oper} {rest:List Oper} {d:Nat} {ty:TypeId} {pos:String} {af:Array Edge}
theorem j7{x y : Operand}{t : Nat}{w w' : World}{u : Value}(h : (Builtin.append_ #[t, t] ty #[a.eval x, a.eval y]).run P w = .ok u w') :
  (execOp a.eval ⟨some d,.call ⟨.builtin .append,#[x,y],#[t,t]⟩,ty,pos,af,none⟩).run P w = .ok (.value u) w':=by
 refine jn (g:=none) ?_
 have e:(#[x,y]:Array Operand).map a.eval = #[a.eval x,a.eval y]:=by simp
 rw [e]
 exact ek h
theorem aU.append{t e s dO tv : Nat}{z : List Value}{x : Operand}{o lo n : Nat}{rs new : List (List X)}(ht : TY.slice P t = some (e, s, dO))(hz : TY.zero P e = some z)(sI : Nat.beq z.length s = true)
  (hy:look st.aF tv = some (.dK s new)) (hx:bV (st.put tv .no) x = some (.aN o s lo n)) (ho:look st.aG o = some (.rows s rs)) (q7:lo + n <= rs.length)
  (rZ:(n + new.length) * dO <= 140737488355328) (Dw:n + new.length <= 4611686018427387904) (hF:N.F.elem o = false) (hd:d < N.n)
  (k:aU P N all rest (((((st.put tv .no).kill o).dC o (.rows s (((rs.drop lo).take n) ++ new)))).put d (.aN o s 0 (n + new.length))) Q) :
  aU P N all (⟨some d,.call ⟨.builtin .append,#[x,.tmp tv],#[t,t]⟩,ty,pos,af,none⟩ :: rest) st Q:=by
 refine aU.DM (fun G E RR a hn hi=>?_) k
 have hv:=hi.aF tv _ hy
 have mN:=hi.no tv
 obtain ⟨R,Cp⟩:=mN.eval hx
 have h0:R = []:=RX.free (x:=.aN o s lo n) rfl Cp
 subst h0
 have Nk:G.fn.F.elem o = false:=by rw [hn]; exact hF
 by_cases hm:0 < new.length
 ·obtain ⟨R2,DQ,dS,jR⟩:=Src.MZ hv hm
  obtain ⟨u,E',gG,j6,h1,h2⟩:=mN.append (ty:=ty) ht hz (Nat.eq_of_beq_eq_true sI) Cp ho q7 DQ hm (jR (hi.nodup _)) (fun b hb=>by
   have iy:=dS b hb
   refine ⟨(hi.own _ _ iy).1,(hi.own _ _ iy).2,fun p hp=>?_⟩
   unfold gg at hp
   split at hp
   ·cases hp
   ·rename_i h; exact hi.apart _ _ h b hp iy) rZ Dw Nk
  exact ⟨u,E',_,j7 j6,h1.iK (by rw [hn]; exact hd) h2⟩
 ·have o0:new = []:=List.eq_nil_of_length_eq_zero om
  subst o0
  obtain ⟨E',gG,hw,h1,h2⟩:=mN.trim Cp ho q7 Nk
  simp only [List.append_nil,List.length_nil,Nat.add_zero]
  refine ⟨a.eval x,E',_,?_,h1.iK (by rw [hn]; exact hd) h2⟩
  rw [hw]
  refine j7 ?_
  simp only [RX] at Cp hv
  obtain ⟨_,base,cap,hc,cZ⟩:=Cp
  obtain ⟨_,b2,c2,Nl,_⟩:=hv
  have R6:a.eval (.tmp tv) = .slice b2 0 c2:=Nl
  rw [hc,R6]
  exact nV ht (by rcases cZ with ⟨_,_,h3,h4⟩ | ⟨_,_,_,h3,_⟩ <;> omega) E.w
theorem aU.GX{t e s dO : Nat}{z : List Value}{x y : Operand}{o lo n : Nat}{rs new : List (List X)}(ht : TY.slice P t = some (e, s, dO))(hz : TY.zero P e = some z)(sI : Nat.beq z.length s = true)
  (hy:bV st y = some (.fz s new)) (hx:bV st x = some (.aN o s lo n)) (ho:look st.aG o = some (.rows s rs)) (q7:lo + n <= rs.length)
  (rZ:(n + new.length) * dO <= 140737488355328) (Dw:n + new.length <= 4611686018427387904) (hF:N.F.elem o = false) (hd:d < N.n)
  (k:aU P N all rest ((((st.kill o).dC o (.rows s (((rs.drop lo).take n) ++ new)))).put d (.aN o s 0 (n + new.length))) Q) :
  aU P N all (⟨some d,.call ⟨.builtin .append,#[x,y],#[t,t]⟩,ty,pos,af,none⟩ :: rest) st Q:=by
 refine aU.DM (fun G E RR a hn hi=>?_) k
 obtain ⟨R',hv⟩:=hi.eval hy
 obtain ⟨R,Cp⟩:=hi.eval hx
 have h0:R = []:=RX.free (x:=.aN o s lo n) rfl Cp
 subst h0
 have Nk:G.fn.F.elem o = false:=by rw [hn]; exact hF
 by_cases hm:0 < new.length
 ·have DQ:=Src.Ru hi hv hm
  obtain ⟨u,E',gG,j6,h1,h2⟩:=hi.append (ty:=ty) ht hz (Nat.eq_of_beq_eq_true sI) Cp ho q7 DQ hm List.nodup_nil (fun _ h=>by cases h) rZ Dw Nk
  exact ⟨u,E',_,j7 j6,h1.iK (by rw [hn]; exact hd) h2⟩
 ·have o0:new = []:=List.eq_nil_of_length_eq_zero om
  subst o0
  obtain ⟨E',gG,hw,h1,h2⟩:=hi.trim Cp ho q7 Nk
  simp only [List.append_nil,List.length_nil,Nat.add_zero]
  refine ⟨a.eval x,E',_,?_,h1.iK (by rw [hn]; exact hd) h2⟩
  rw [hw]
  refine j7 ?_
  simp only [RX] at Cp hv
  obtain ⟨_,base,cap,hc,cZ⟩:=Cp
  obtain ⟨_,_,b2,c2,Nl,_⟩:=hv
  rw [hc,Nl]
  exact nV ht (by rcases cZ with ⟨_,_,h3,h4⟩ | ⟨_,_,_,h3,_⟩ <;> omega) E.w
end
end Go.AW
namespace Go.AW
open Go
def dW{α : Type} : Nat → List α → List (Nat × α)
 | _,[]=>[]
 | i,x :: r=>(i,x) :: dW (i + 1) r
theorem tS{α : Type} : ∀ (l : List α) (i s : Nat), look (dW i l) s = if i ≤ s then l[s - i]? else none
 | [],i,s=>by simp [dW,look]
 | x :: r,i,s=>by
  simp only [dW,look]
  cases hb:Nat.beq i s with
  | true=>have:=Nat.eq_of_beq_eq_true hb; subst this; simp
  | false =>
   have fN:=Nat.ne_of_beq_eq_false hb
   simp only [cond_false]
   rw [tS r (i + 1) s]
   by_cases h:i <= s
   ·rw [if_pos h,if_pos om,show s - i = (s - (i + 1)) + 1 by omega]; simp
   ·rw [if_neg h,if_neg om]
theorem ig{α:Type}(l:List α)(s:Nat):look (dW 0 l) s = l[s]?:=by
 rw [tS]; simp
def ra(K:Nat -> Prop)(E:Env)(fn:fA):Ctx:=⟨K,E.w,E.φ,E.β,fn,[]⟩
def aw(P:Program)(f:FuncId)(args:List X)(aG:List Obj)(F:List Nat)(Q:X -> List Obj -> Prop):Prop :=
 ∀ (K : Nat → Prop) (E : Env) (RR : Own → List Nat) (dB : Array Value), Inv (ra K E ⟨args.length, F⟩) E RR ⟨dW 0 args, dW 0 aG⟩ ⟨dB, []⟩ →
  Calls P f dB E.w fun e w'=>∃ v r aK,e = .returned v /\ Q r aK /\ aK.length = aG.length /\ ∃ E' gG,E'.w = w' /\ Inv (ra K E ⟨1,F⟩) E' gG ⟨[(0,r)],dW 0 aK⟩ ⟨#[v],[]⟩
theorem aw.mono{P:Program}{f:FuncId}{args:List X}{aG:List Obj}{F:List Nat}{Q Q':X -> List Obj -> Prop}(h:aw P f args aG F Q)(hq:∀ r o,Q r o -> Q' r o):aw P f args aG F Q' :=
 fun K E RR dB hi=>Calls.mono (h K E RR dB hi) fun _ _ ⟨v,r,aK,he,hQ,hl,hx⟩=>⟨v,r,aK,he,hq _ _ hQ,hl,hx⟩
def w7(P : Program)(st : St) : ResultVar → Option X
 | .tmp t=>look st.aF t
 | .cell a t=>match look st.aF a with
  | some p=>match rowAt st p with
   | some row=>match TY.shape P t with
    | some none=>match row[my p]? with
     | some y=>bif y.free then some y else none
     | none=>none
    | some (some m)=>bif Nat.ble (my p + m) row.length && X.b6 ((row.drop (my p)).take m) then some (.agg ((row.drop (my p)).take m)) else none
    | none=>none
   | none=>none
  | none=>none
def lA(P : Program)(st : St) : List ResultVar → Option (List X)
 | []=>some []
 | r :: rs=>match w7 P st r,lA P st rs with
  | some x,some xs=>some (x :: xs)
  | _,_=>none
def j8 : List ResultVar → List Nat
 | []=>[]
 | .tmp t :: r=>t :: j8 r
 | .cell _ _ :: r=>j8 r
def re : List X → X
 | [x]=>x
 | xs=>.tup xs
section
variable {P:Program} {N:fA} {G:Ctx} {E:Env} {RR:Own -> List Nat} {st:St} {a:Act}
def q8(tmps:Array Value)(rv:ResultVar):Sem Value :=
 match rv with
 | .tmp t=>pure (tmps.getD t undef)
 | .cell a t=>do loadVar t (<- asAddr (tmps.getD a undef))
theorem GY(hi : Inv G E RR st a){rv : ResultVar}{x : X}(h : w7 P st rv = some x) :
  ∃ c R,(q8 a.tmps rv).run P E.w = .ok c E.w /\ RX E x c R /\ ((∃ t,rv = .tmp t /\ R = RR (.slot t)) \/ R = []):=by
 cases rv with
 | tmp t=>exact ⟨_,_,rfl,hi.aF t x h,.inl ⟨t,rfl,rfl⟩⟩
 | cell ad t =>
  simp only [w7] at h
  cases hp:look st.aF ad with
  | none=>simp [hp] at h
  | some p =>
   rw [hp] at h
   simp only at h
   cases q5:rowAt st p with
   | none=>simp [q5] at h
   | some row =>
    rw [q5] at h
    simp only at h
    obtain ⟨b,off,hc,j3⟩:=hi.behind (hi.aF ad p hp) q5
    cases hs:TY.shape P t with
    | none=>simp [hs] at h
    | some sh =>
     rw [hs] at h
     cases sh with
     | none =>
      simp only at h
      cases hk:row[my p]? with
      | none=>simp [hk] at h
      | some y =>
       rw [hk] at h
       simp only at h
       cases hf:y.free with
       | false=>simp [hf] at h
       | true =>
        rw [hf] at h
        simp only [cond_true,Option.some.injEq] at h
        subst h
        have IK:my p < row.length:=by
         rcases Nat.lt_or_ge (my p) row.length with h' | h'
         ·exact h'
         ·simp [List.getElem?_eq_none h'] at hk
        obtain ⟨vs,R',hl,hv,gQ⟩:=j3 (my p) 1 om
        rw [getElem?_drop_take_one hk] at gQ
        simp only [bA] at gQ
        obtain ⟨c,dv,R₁,R₂,JF,_,h1,⟨rfl,rfl⟩,rfl⟩:=gQ
        subst JF
        have h0:=RX.free hf h1
        subst h0
        refine ⟨c,[],?_,h1,.inr rfl⟩
        have j4:=hv 0 c rfl
        simp only [Nat.add_zero] at j4
        simp [q8,hc,asAddr,loadVar,(TY.l5 hs E.w).1,j4]
     | some m =>
      simp only at h
      cases hb:Nat.ble (my p + m) row.length && X.b6 ((row.drop (my p)).take m) with
      | false=>simp [hb] at h
      | true =>
       rw [hb] at h
       simp only [cond_true,Option.some.injEq] at h
       subst h
       simp only [Bool.and_eq_true] at hb
       obtain ⟨vs,R',hl,hv,gQ⟩:=j3 (my p) m (Nat.le_of_ble_eq_true hb.1)
       have h0:=bA.free hb.2 gQ
       subst h0
       refine ⟨.agg vs.toArray,[],?_,by simp only [RX]; exact ⟨_,rfl,gQ⟩,.inr rfl⟩
       obtain ⟨h1,h2⟩:=TY.nz hs E.w
       have h3:(loadCells ⟨b,off + my p,none⟩ m).run P E.w = .ok vs.toArray E.w:=by
        rw [<- hl]
        exact run_loadCells_list (w:=E.w) _ vs fun j v hj=>by rw [iz,Nat.add_assoc]; exact hv j v hj
       simp [q8,hc,asAddr,loadVar,h1,h2,h3]
theorem w8(hi : Inv G E RR st a) : ∀ {pR : List ResultVar} {xs : List X}, lA P st pR = some xs → (j8 pR).Nodup →
  ∃ cs R,(pR.mapM (q8 a.tmps)).run P E.w = .ok cs E.w /\ eT E xs cs R /\ R.Nodup /\ (∀ b ∈ R,∃ t ∈ j8 pR,b ∈ RR (.slot t))
 | [],xs,h,_=>by
  simp only [lA,Option.some.injEq] at h
  subst h
  exact ⟨[],[],rfl,by simp [eT],List.nodup_nil,fun _ h=>by cases h⟩
 | rv :: pR,xs,h,hn=>by
  simp only [lA] at h
  cases h1:w7 P st rv with
  | none=>simp [h1] at h
  | some x =>
   cases h2:lA P st pR with
   | none=>simp [h1,h2] at h
   | some ys =>
    rw [h1,h2] at h
    simp only [Option.some.injEq] at h
    subst h
    have td:(j8 pR).Nodup:=by
     cases rv with
     | tmp t=>exact (List.nodup_cons.1 hn).2
     | cell _ _=>exact hn
    obtain ⟨c,R1,Xi,Vl,rY⟩:=GY hi h1
    obtain ⟨cs,R2,Q3,Nm,xz,xx⟩:=w8 hi h2 td
    refine ⟨c :: cs,R1 ++ R2,?_,?_,?_,?_⟩
    ·rw [List.mapM_cons]
     refine kD Xi ?_
     refine kD Q3 rfl
    ·simp only [eT]; exact ⟨c,cs,R1,R2,rfl,Vl,Nm,rfl⟩
    ·rcases rY with ⟨t,rfl,rfl⟩ | rfl
     ·rw [List.nodup_append]
      refine ⟨hi.nodup _,xz,fun b hb b' iy e=>?_⟩
      subst e
      obtain ⟨t',R7,Cv⟩:=xx b iy
      have fN:t ≠ t':=fun e=>by subst e; exact (List.nodup_cons.1 hn).1 R7
      exact hi.apart (.slot t) (.slot t') (by simpa using fN) b hb Cv
     ·simpa using xz
    ·intro b hb
     rcases List.mem_append.1 hb with hb | hb
     ·rcases rY with ⟨t,rfl,rfl⟩ | rfl
      ·exact ⟨t,by simp [j8],hb⟩
      ·cases hb
     ·obtain ⟨t,ht,iy⟩:=xx b hb
      refine ⟨t,?_,iy⟩
      cases rv with
      | tmp t'=>exact List.mem_cons.2 (.inr ht)
      | cell _ _=>exact ht
def lh(l : List (Nat × Obj)) : Nat → Nat → Option (List Obj)
 | _,0=>some []
 | i,k + 1=>match look l i,lh l (i + 1) k with
  | some ob,some r=>some (ob :: r)
  | _,_=>none
theorem n6 : ∀ {l : List (Nat × Obj)} {k i : Nat} {r : List Obj}, lh l i k = some r → r.length = k ∧ ∀ j, j < k → look l (i + j) = r[j]?
 | _,0,_,r,h=>by simp only [lh,Option.some.injEq] at h; subst h; exact ⟨rfl,fun j hj=>by omega⟩
 | l,k + 1,i,r,h=>by
  simp only [lh] at h
  cases h1:look l i with
  | none=>simp [h1] at h
  | some ob =>
   cases h2:lh l (i + 1) k with
   | none=>simp [h1,h2] at h
   | some r' =>
    rw [h1,h2] at h
    simp only [Option.some.injEq] at h
    subst h
    obtain ⟨hl,hg⟩:=n6 h2
    refine ⟨by simp [hl],fun j hj=>?_⟩
    cases j with
    | zero=>simpa using h1
    | succ j =>
     have:=hg j om
     rw [show i + (j + 1) = i + 1 + j by omega,this]; simp
def Ends(P : Program)(pR : List ResultVar)(k : Nat)(Q : X → List Obj → Prop) : Exit → St → Prop
 | .normal,st | .ret,st=>∃ xs aK,lA P st pR = some xs /\ lh st.aG 0 k = some aK /\ Q (re xs) aK
 | _,_=>False
theorem Inv.enter{fn : Func}{args : List X}{aG : List Obj}{F : List Nat}{n : Nat}{K : Nat → Prop}{E : Env}{RR : Own → List Nat}{dB : Array Value}(hn : fn.ntmps = n)(hle : args.length ≤ n)(hi : Inv (ra K E ⟨args.length, F⟩) E RR ⟨dW 0 args, dW 0 aG⟩ ⟨dB, []⟩) :
  Inv (ra K E ⟨n,F⟩) E RR ⟨dW 0 args,dW 0 aG⟩ ⟨dB ++ Array.replicate (fn.ntmps - dB.size) undef,[]⟩:=by
 have te:dB.size = args.length:=hi.tmps
 refine { hi with aF:=?_,tmps:=?_,defers:=rfl }
 ·intro s x hx
  have h0:=hi.aF s x hx
  have hs:s < dB.size:=by
   rw [te]
   have j2:look (dW 0 args) s = some x:=hx
   rw [ig] at j2
   rcases Nat.lt_or_ge s args.length with h' | h'
   ·exact h'
   ·simp [List.getElem?_eq_none h'] at j2
  have:(dB ++ Array.replicate (fn.ntmps - dB.size) undef).getD s undef = dB.getD s undef:=by
   simp only [Array.getD_eq_getD_getElem?,Array.getElem?_append_left hs]
  show RX E x ((dB ++ Array.replicate (fn.ntmps - dB.size) undef).getD s undef) (RR (.slot s))
  rw [this]; exact h0
 ·show (dB ++ Array.replicate (fn.ntmps - dB.size) undef).size = n
  simp; omega
theorem DS{fn : Func}{aG : List Obj}{F : List Nat}{Q : X → List Obj → Prop}{n : Nat}{pR : List ResultVar}{K : Nat → Prop}{E E' : Env}{gG : Own → List Nat}{st : St}{a : Act}(hr : fn.results.toList = pR)(jR : (j8 pR).Nodup)(h1 : Inv (ra K E ⟨n, F⟩) E' gG st a) :
  (∃ xs aK, lA P st pR = some xs ∧ lh st.aG 0 aG.length = some aK ∧ Q (re xs) aK) → a.defers = [] ∧ ∃ v, (results fn a.tmps).run P E'.w = .ok v E'.w ∧
   ∃ v' r aK,Ending.returned v = .returned v' /\ Q r aK /\ aK.length = aG.length /\ ∃ ma tT,ma.w = E'.w /\ Inv (ra K E ⟨1,F⟩) ma tT ⟨[(0,r)],dW 0 aK⟩ ⟨#[v'],[]⟩:=by
 rintro ⟨xs,aK,DT,mz,hQ⟩
 obtain ⟨hlen,DU⟩:=n6 mz
 have kE:∀ j,j < aG.length -> look st.aG j = aK[j]?:=fun j hj=>by have:=DU j hj; rwa [Nat.zero_add] at this
 refine ⟨h1.defers,?_⟩
 obtain ⟨cs,R,j6,hx,Nn,Q4⟩:=w8 h1 DT jR
 have tU:(results fn a.tmps).run P E'.w = .ok (if h:cs.toArray.size = 1 then cs.toArray[0] else .tuple cs.toArray) E'.w:=by
  have e:results fn a.tmps = (do let vs <- fn.results.mapM (q8 a.tmps); Pure.pure (if h:vs.size = 1 then vs[0] else .tuple vs):Sem Value):=rfl
  rw [e,show fn.results = pR.toArray by rw [<- hr]]
  refine kD (u:=cs.toArray) ?_ rfl
  rw [List.mapM_toArray]
  simp only [Sem.run_map,j6]
  rfl
 refine ⟨_,tU,_,re xs,aK,rfl,hQ,hlen,?_⟩
 have R8:RX E' (re xs) (if h:cs.toArray.size = 1 then cs.toArray[0] else .tuple cs.toArray) R:=by
  cases xs with
  | nil =>
   simp only [eT] at hx
   obtain ⟨rfl,rfl⟩:=hx
   simp only [re,RX]
   exact ⟨#[],by simp,by simp [eT]⟩
  | cons x xs =>
   cases xs with
   | nil =>
    simp only [eT] at hx
    obtain ⟨c,dv,R₁,R₂,rfl,h1,⟨rfl,rfl⟩,rfl⟩:=hx
    simpa [re] using h1
   | cons y ys =>
    have j2:=hx
    simp only [eT] at hx
    obtain ⟨c,dv,R₁,R₂,rfl,_,⟨c',JS,R₃,R₄,rfl,_⟩,_⟩:=hx
    simp only [re,RX]
    exact ⟨(c :: c' :: JS).toArray,by simp,by simpa using j2⟩
 let pH:Own -> List Nat:=fun p=>match p with
  | .slot s=>if s = 0 then R else []
  | .obj o=>if o < aG.length then gG (.obj o) else []
 have pG:∀ p b,b ∈ pH p -> ∃ q,b ∈ gG q /\ ((∃ o,p = .obj o /\ q = .obj o) \/ (p = .slot 0 /\ ∃ t,q = .slot t)):=by
  intro p b hb
  cases p with
  | slot s =>
   by_cases hs:s = 0
   ·subst hs
    simp only [pH,if_true] at hb
    obtain ⟨t,_,ht⟩:=Q4 b hb
    exact ⟨.slot t,ht,.inr ⟨rfl,t,rfl⟩⟩
   ·simp [pH,hs] at hb
  | obj o =>
   by_cases ho:o < aG.length
   ·simp only [pH,ho,if_true] at hb
    exact ⟨.obj o,hb,.inl ⟨o,rfl,rfl⟩⟩
   ·simp [pH,ho] at hb
 refine ⟨E',pH,rfl,{ h1 with aF:=?_,aG:=?_,nodup:=?_,apart:=?_,own:=?_,tmps:=?_,defers:=rfl }⟩
 ·intro s x j2
  simp only [look] at j2
  cases xe:Nat.beq 0 s with
  | false=>simp [xe] at j2
  | true =>
   have:=Nat.eq_of_beq_eq_true xe
   subst this
   simp only [xe,cond_true,Option.some.injEq] at j2
   subst j2
   simpa [pH] using R8
 ·intro o ob ho
  have nv:look (dW 0 aK) o = some ob:=ho
  rw [ig] at nv
  have gP:o < aG.length:=by
   rcases Nat.lt_or_ge o aG.length with h' | h'
   ·exact h'
   ·rw [List.getElem?_eq_none om] at nv; cases nv
  have:=h1.aG o ob (by rw [kE o gP]; exact nv)
  simpa [pH,gP] using this
 ·intro p
  cases p with
  | slot s=>by_cases hs:s = 0 <;> simp [pH,hs,Nn]
  | obj o=>by_cases ho:o < aG.length <;> simp [pH,ho,h1.nodup]
 ·intro p q ny b hb iy
  obtain ⟨p',IL,R9⟩:=pG p b hb
  obtain ⟨q',Cq,No⟩:=pG q b iy
  have fN:p' ≠ q':=by
   rcases R9 with ⟨o,rfl,rfl⟩ | ⟨rfl,t,rfl⟩
   ·rcases No with ⟨o',rfl,rfl⟩ | ⟨rfl,t',rfl⟩
    ·exact ny
    ·simp
   ·rcases No with ⟨o',rfl,rfl⟩ | ⟨rfl,t',rfl⟩
    ·simp
    ·exact absurd rfl ny
  exact h1.apart p' q' fN b IL Cq
 ·intro p b hb
  obtain ⟨q,Cq,_⟩:=pG p b hb
  exact h1.own q b Cq
 ·rfl
theorem aw.of{f : FuncId}{fn : Func}{c : Code}{args : List X}{aG : List Obj}{F : List Nat}{Q : X → List Obj → Prop}{n : Nat}{pR : List ResultVar}(hf : P.funcs[f]? = some fn)(hb : fn.body = some c)(hn : fn.ntmps = n)(hr : fn.results.toList = pR)
  (jR:(j8 pR).Nodup) (hle:args.length <= n) (h:dA P ⟨n,F⟩ c ⟨dW 0 args,dW 0 aG⟩ (Ends P pR aG.length Q)):aw P f args aG F Q:=by
 intro K E RR dB hi
 refine calls_of_wp hf hb ?_
 refine wp_mono (h (ra K E ⟨n,F⟩) rfl _ _ ⟨E,RR,rfl,hi.enter hn hle⟩) ?_
 rintro e a w ⟨st,⟨E',gG,rfl,h1⟩,hq⟩
 have key:=DS (P:=P) (aG:=aG) (Q:=Q) hr jR h1
 cases e with
 | normal=>exact key hq
 | ret=>exact key hq
 | _=>exact hq.elim
end
end Go.AW
