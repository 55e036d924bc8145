/- Part of the abstract walk: values as trees, objects by name, and what they say of the model's values and memory. -/
import Derived.WalkKit
set_option linter.unusedSimpArgs false
set_option linter.unusedVariables false
set_option linter.unusedSectionVars false
namespace Go.AW
open Go
theorem U.{u}{α:Sort u}{a:α}:a = a:=rfl
theorem om{p:Prop}(h:p:=by omega):p:=h
theorem au{p:Prop}(h:p:=by kernel_rfl):p:=h
theorem ae{p:Prop}(h:p:=by decide):p:=h
theorem cU{p:Prop}(h:p:=by assumption):p:=h
theorem oml{p:Prop}(h:p:=by (simp only [List.length_append,List.length_cons,List.length_nil]; omega)):p:=h
theorem o3{p:Prop}(h:p:=by first | rfl | simp_all):p:=h
theorem bj{p:Prop}(h:p:=by first | rfl | omega):p:=h
theorem aH{p:Prop}(h:p:=by first | omega | simp [-List.getD_eq_getElem?_getD] <;> omega):p:=h
theorem pj{p:Prop}(h:p:=by first | omega | (simp [-List.getD_eq_getElem?_getD]; done) | (simp [-List.getD_eq_getElem?_getD]; omega)):p:=h
theorem o4{p:Prop}(h:p:=by (constructor <;> (simp only [List.length_append,List.length_cons,List.length_nil]; omega))):p:=h
inductive X where
 | v (u:Value)
 | no
 | fz (s:Nat) (rows:List (List X))
 | dn (s:Nat) (rows:List (List X))
 | ptr (o s i k:Nat)
 | aR (o s lo n:Nat)
 | mref (o:Nat)
 | fp (row:List X) (k:Nat)
 | agg (xs:List X)
 | tup (xs:List X)
 | jv (fn:Fn) (first mj:List X)
mutual
def X.nr : X → Bool
 | .v _ | .no | .fz .. | .dn .. | .fp ..=>true
 | .ptr .. | .aR .. | .mref _=>false
 | .agg xs=>X.iG xs
 | .tup xs=>X.iG xs
 | .jv _ a b=>X.iG a && X.iG b
def X.iG : List X → Bool
 | []=>true
 | x :: r=>x.nr && X.iG r
end
mutual
def X.e6(o : Nat) : X → Bool
 | .v _ | .no | .fz .. | .dn .. | .fp ..=>false
 | .ptr p ..=>Nat.beq p o
 | .aR p ..=>Nat.beq p o
 | .mref p=>Nat.beq p o
 | .agg xs=>X.cw o xs
 | .tup xs=>X.cw o xs
 | .jv _ a b=>X.cw o a || X.cw o b
def X.cw(o : Nat) : List X → Bool
 | []=>false
 | x :: r=>x.e6 o || X.cw o r
end
mutual
def X.free : X → Bool
 | .v _ | .no | .fz .. | .ptr .. | .aR .. | .mref _ | .fp .. | .jv ..=>true
 | .dn ..=>false
 | .agg xs=>X.b5 xs
 | .tup xs=>X.b5 xs
def X.b5 : List X → Bool
 | []=>true
 | x :: r=>x.free && X.b5 r
end
structure zI where
 b:Nat
 off:Nat
 cap:Nat
abbrev Fz:=Nat -> Nat -> Option Value
structure Env where
 φ:Fz
 β:Nat -> Option zI
 w:World
def jK : Value → Prop
 | .agg _ | .tuple _=>False
 | _=>True
def cC(s:Nat)(rows:List (List X)):Prop:=∀ r ∈ rows,r.length = s
mutual
def RX(E : Env) : X → Value → List Nat → Prop
 | .v u,c,R=>c = u /\ R = []
 | .no,_,R=>R = []
 | .fz s rows, c, R => R = [] ∧ cC s rows ∧ ∃ base cap, c = .slice base rows.length cap ∧
   ((rows = [] /\ cap = 0) \/ ∃ b off,base = some ⟨b,off,none⟩ /\ rows.length <= cap /\ kD E rows b off)
 | .dn s rows, c, R => cC s rows ∧ ∃ base cap, c = .slice base rows.length cap ∧
   ((rows = [] ∧ cap = 0 ∧ R = []) ∨ ∃ b off cs ty R', base = some ⟨b, off, none⟩ ∧ E.w.heap[b]? = some (.cells cs ty (0, 0)) ∧
    rows.length <= cap /\ off + cap * s <= cs.size /\ (∀ i,E.φ b i = none) /\ cE E rows cs off R' /\ R = b :: R')
 | .ptr o s i k,c,R=>R = [] /\ ∃ B,E.β o = some B /\ c = .pointer (some ⟨B.b,B.off + (i * s + k),none⟩)
 | .aR o s lo n, c, R => R = [] ∧ ∃ base cap, c = .slice base n cap ∧
   ((E.β o = none /\ lo = 0 /\ n = 0 /\ cap = 0) \/ ∃ B,E.β o = some B /\ lo + cap = B.cap /\ n <= cap /\ (cap = 0 \/ base = some ⟨B.b,B.off + lo * s,none⟩))
 | .mref o,c,R=>R = [] /\ ∃ B,E.β o = some B /\ c = .map (some B.b)
 | .fp row k,c,R=>R = [] /\ ∃ b off,c = .pointer (some ⟨b,off + k,none⟩) /\ RF E row b off
 | .agg xs,c,R=>∃ cs,c = .agg cs /\ b6 E xs cs.toList R
 | .tup xs,c,R=>∃ cs,c = .tuple cs /\ eC E xs cs.toList R
 | .jv fn first mj,c,R=>R = [] /\ ∃ f cc,c = .func fn f cc /\ eC E first f.toList [] /\ eC E mj cc.toList []
def b6(E : Env) : List X → List Value → List Nat → Prop
 | [],cs,R=>cs = [] /\ R = []
 | x :: r,cs,R=>∃ c dg R₁ R₂,cs = c :: dg /\ jK c /\ RX E x c R₁ /\ b6 E r dg R₂ /\ R = R₁ ++ R₂
def eC(E : Env) : List X → List Value → List Nat → Prop
 | [],cs,R=>cs = [] /\ R = []
 | x :: r,cs,R=>∃ c dg R₁ R₂,cs = c :: dg /\ RX E x c R₁ /\ eC E r dg R₂ /\ R = R₁ ++ R₂
def RF(E : Env) : List X → Nat → Nat → Prop
 | [],_,_=>True
 | x :: r,b,off=>(∃ u,E.φ b off = some u /\ jK u /\ x.nr = true /\ RX E x u []) /\ RF E r b (off + 1)
def kD(E : Env) : List (List X) → Nat → Nat → Prop
 | [],_,_=>True
 | r :: rs,b,off=>RF E r b off /\ kD E rs b (off + r.length)
def RO(E : Env) : List X → Array Value → Nat → List Nat → Prop
 | [],_,_,R=>R = []
 | x :: r,cs,off,R=>∃ u R₁ R₂,cs[off]? = some u /\ jK u /\ RX E x u R₁ /\ RO E r cs (off + 1) R₂ /\ R = R₁ ++ R₂
def cE(E : Env) : List (List X) → Array Value → Nat → List Nat → Prop
 | [],_,_,R=>R = []
 | r :: rs,cs,off,R=>∃ R₁ R₂,X.iG r = true /\ RO E r cs off R₁ /\ cE E rs cs (off + r.length) R₂ /\ R = R₁ ++ R₂
end
inductive Obj where
 | cells (xs:List X)
 | rows (s:Nat) (rs:List (List X))
 | xy (es:List (Value × Value))
 | gone
 | hole (rs:List (List X)) (i q s n:Nat)
def Obj.cw(q : Nat) : Obj → Bool
 | .cells xs=>X.cw q xs
 | .hole _ _ p _ _=>Nat.beq p q
 | _=>false
end Go.AW
namespace Go.AW
open Go
theorem cM{α}{a:α}{l r:List α}(h:a ∈ l):a ∈ l ++ r:=List.mem_append.2 (.inl h)
theorem cu{α}{a:α}{l r:List α}(h:a ∈ r):a ∈ l ++ r:=List.mem_append.2 (.inr h)
def Env.On(E E':Env)(R:List Nat):Prop :=
 (∀ b i v,E.φ b i = some v -> E'.φ b i = some v) /\ ∀ b ∈ R,E'.w.heap[b]? = E.w.heap[b]? /\ ((∀ i,E.φ b i = none) -> ∀ i,E'.φ b i = none)
theorem Env.On.sub{E E':Env}{R R':List Nat}(h:E.On E' R)(hs:∀ b ∈ R',b ∈ R):E.On E' R':=⟨h.1,fun b hb=>h.2 b (hs b hb)⟩
mutual
theorem X.q5 : ∀ {x : X}, x.nr = true → ∀ o, x.e6 o = false
 | .v _,_,_ | .no,_,_ | .fz ..,_,_ | .dn ..,_,_ | .fp ..,_,_=>rfl
 | .agg xs,h,o=>X.gk (xs:=xs) h o
 | .tup xs,h,o=>X.gk (xs:=xs) h o
 | .jv _ a b,h,o=>by
  simp only [X.nr,Bool.and_eq_true] at h
  simp only [X.e6,X.gk h.1 o,X.gk h.2 o,Bool.or_self]
theorem X.gk : ∀ {xs : List X}, X.iG xs = true → ∀ o, X.cw o xs = false
 | [],_,_=>rfl
 | x :: r,h,o=>by
  simp only [X.iG,Bool.and_eq_true] at h
  simp only [X.cw,X.q5 h.1 o,X.gk h.2 o,Bool.or_self]
end
mutual
theorem RX.mono{E E' : Env} : ∀ (x : X) (c : Value) (R : List Nat), E.On E' R → (∀ o, x.e6 o = true → E'.β o = E.β o) → RX E x c R → RX E' x c R
 | .v u,c,R,_,_,h=>by simpa [RX] using h
 | .no,c,R,_,_,h=>by simpa [RX] using h
 | .fz s rows,c,R,hE,_,h=>by
  simp only [RX] at h ⊢
  obtain ⟨hR,hu,base,cap,hc,hh⟩:=h
  refine ⟨hR,hu,base,cap,hc,?_⟩
  rcases hh with hh | ⟨b,off,hb,hl,hf⟩
  ·exact .inl hh
  ·exact .inr ⟨b,off,hb,hl,kD.mono rows b off (hE.sub (by simp)) hf⟩
 | .dn s rows,c,R,hE,_,h=>by
  simp only [RX] at h ⊢
  obtain ⟨hu,base,cap,hc,hh⟩:=h
  refine ⟨hu,base,cap,hc,?_⟩
  rcases hh with hh | ⟨b,off,cs,ty,R',hb,hw,hl,ho,hf,hr,hR⟩
  ·exact .inl hh
  ·subst hR
   have h2:=hE.2 b (by simp)
   exact .inr ⟨b,off,cs,ty,R',hb,h2.1.trans hw,hl,ho,h2.2 hf,cE.mono rows cs off R' (hE.sub (fun _ h=>by simp [h])) hr,rfl⟩
 | .ptr o s i k,c,R,_,hβ,h=>by
  simp only [RX] at h ⊢
  rw [hβ o (by simp [X.e6])]; exact h
 | .aR o s lo n,c,R,_,hβ,h=>by
  simp only [RX] at h ⊢
  rw [hβ o (by simp [X.e6])]; exact h
 | .mref o,c,R,_,hβ,h=>by
  simp only [RX] at h ⊢
  rw [hβ o (by simp [X.e6])]; exact h
 | .fp row k,c,R,hE,_,h=>by
  simp only [RX] at h ⊢
  obtain ⟨hR,b,off,hc,hf⟩:=h
  exact ⟨hR,b,off,hc,RF.mono row b off (hE.sub (by simp)) hf⟩
 | .agg xs,c,R,hE,hβ,h=>by
  simp only [RX] at h ⊢
  obtain ⟨cs,hc,hs⟩:=h
  exact ⟨cs,hc,b6.mono xs _ R hE (fun o ho=>hβ o (by simp [X.e6,ho])) hs⟩
 | .tup xs,c,R,hE,hβ,h=>by
  simp only [RX] at h ⊢
  obtain ⟨cs,hc,hs⟩:=h
  exact ⟨cs,hc,eC.mono xs _ R hE (fun o ho=>hβ o (by simp [X.e6,ho])) hs⟩
 | .jv fn a b,c,R,hE,hβ,h=>by
  simp only [RX] at h ⊢
  obtain ⟨hR,f,cc,hc,h1,h2⟩:=h
  exact ⟨hR,f,cc,hc,eC.mono a _ [] (hE.sub (by simp)) (fun o ho=>hβ o (by simp [X.e6,ho])) h1,eC.mono b _ [] (hE.sub (by simp)) (fun o ho=>hβ o (by simp [X.e6,ho])) h2⟩
theorem b6.mono{E E' : Env} : ∀ (xs : List X) (cs : List Value) (R : List Nat), E.On E' R → (∀ o, X.cw o xs = true → E'.β o = E.β o) → b6 E xs cs R → b6 E' xs cs R
 | [],_,_,_,_,h=>by simpa [b6] using h
 | x :: r,cs,R,hE,hβ,h=>by
  simp only [b6] at h ⊢
  obtain ⟨c,dg,R₁,R₂,hc,hs,h1,h2,hR⟩:=h
  subst hR
  exact ⟨c, dg, R₁, R₂, hc, hs, RX.mono x c R₁ (hE.sub (fun _ h => cM h)) (fun o ho => hβ o (by simp [X.cw, ho])) h1,
   b6.mono r dg R₂ (hE.sub (fun _ h=>cu h)) (fun o ho=>hβ o (by simp [X.cw,ho])) h2,rfl⟩
theorem eC.mono{E E' : Env} : ∀ (xs : List X) (cs : List Value) (R : List Nat), E.On E' R → (∀ o, X.cw o xs = true → E'.β o = E.β o) → eC E xs cs R → eC E' xs cs R
 | [],_,_,_,_,h=>by simpa [eC] using h
 | x :: r,cs,R,hE,hβ,h=>by
  simp only [eC] at h ⊢
  obtain ⟨c,dg,R₁,R₂,hc,h1,h2,hR⟩:=h
  subst hR
  exact ⟨c, dg, R₁, R₂, hc, RX.mono x c R₁ (hE.sub (fun _ h => cM h)) (fun o ho => hβ o (by simp [X.cw, ho])) h1,
   eC.mono r dg R₂ (hE.sub (fun _ h=>cu h)) (fun o ho=>hβ o (by simp [X.cw,ho])) h2,rfl⟩
theorem RF.mono{E E' : Env} : ∀ (xs : List X) (b off : Nat), E.On E' [] → RF E xs b off → RF E' xs b off
 | [],_,_,_,_=>by simp [RF]
 | x :: r,b,off,hE,h=>by
  simp only [RF] at h ⊢
  obtain ⟨⟨u,hu,hs,hn,hx⟩,hr⟩:=h
  exact ⟨⟨u,hE.1 _ _ _ hu,hs,hn,RX.mono x u [] hE (fun o ho=>by rw [X.q5 hn] at ho; cases ho) hx⟩,RF.mono r b (off + 1) hE hr⟩
theorem kD.mono{E E' : Env} : ∀ (rs : List (List X)) (b off : Nat), E.On E' [] → kD E rs b off → kD E' rs b off
 | [],_,_,_,_=>by simp [kD]
 | r :: rs,b,off,hE,h=>by
  simp only [kD] at h ⊢
  exact ⟨RF.mono r b off hE h.1,kD.mono rs b _ hE h.2⟩
theorem RO.mono{E E' : Env} : ∀ (xs : List X) (cs : Array Value) (off : Nat) (R : List Nat), E.On E' R → (∀ o, X.cw o xs = true → E'.β o = E.β o) → RO E xs cs off R → RO E' xs cs off R
 | [],_,_,_,_,_,h=>by simpa [RO] using h
 | x :: r,cs,off,R,hE,hβ,h=>by
  simp only [RO] at h ⊢
  obtain ⟨u,R₁,R₂,hu,hs,h1,h2,hR⟩:=h
  subst hR
  exact ⟨u, R₁, R₂, hu, hs, RX.mono x u R₁ (hE.sub (fun _ h => cM h)) (fun o ho => hβ o (by simp [X.cw, ho])) h1,
   RO.mono r cs (off + 1) R₂ (hE.sub (fun _ h=>cu h)) (fun o ho=>hβ o (by simp [X.cw,ho])) h2,rfl⟩
theorem cE.mono{E E' : Env} : ∀ (rs : List (List X)) (cs : Array Value) (off : Nat) (R : List Nat), E.On E' R → cE E rs cs off R → cE E' rs cs off R
 | [],_,_,_,_,h=>by simpa [cE] using h
 | r :: rs,cs,off,R,hE,h=>by
  simp only [cE] at h ⊢
  obtain ⟨R₁,R₂,hn,h1,h2,hR⟩:=h
  subst hR
  exact ⟨R₁, R₂, hn, RO.mono r cs off R₁ (hE.sub (fun _ h => cM h)) (fun o ho => by rw [X.gk hn] at ho; cases ho) h1,
   cE.mono rs cs _ R₂ (hE.sub (fun _ h=>cu h)) h2,rfl⟩
end
end Go.AW
namespace Go.AW
open Go
def look{α : Type} : List (Nat × α) → Nat → Option α
 | [],_=>none
 | (t,x) :: r,s=>bif Nat.beq t s then some x else look r s
structure St where
 aC:List (Nat × X)
 aD:List (Nat × Obj)
def dh(E : Env)(o : Nat) : Obj → List Nat → Prop
 | .cells xs,R=>X.b5 xs = true /\ ∃ B cs ty,E.β o = some B /\ E.w.heap[B.b]? = some (.cells cs ty (0,0)) /\ (∀ i,E.φ B.b i = none) /\ B.off + xs.length <= cs.size /\ RO E xs cs B.off [] /\ R = [B.b]
 | .rows s rs, R => cC s rs ∧ ((E.β o = none ∧ rs = [] ∧ R = []) ∨ ∃ B cs ty R', E.β o = some B ∧ E.w.heap[B.b]? = some (.cells cs ty (0, 0)) ∧ (∀ i, E.φ B.b i = none) ∧
   rs.length <= B.cap /\ B.off + B.cap * s <= cs.size /\ cE E rs cs B.off R' /\ R = B.b :: R')
 | .xy es,R=>∃ B sd clock,E.β o = some B /\ E.w.heap[B.b]? = some (.map sd clock) /\ (∀ i,E.φ B.b i = none) /\ sd.toList.map (fun e=>(e.key,e.val)) = es /\ R = [B.b]
 | .gone,R=>R = []
 | .hole rs i q s n, R => cC 1 rs ∧ ∃ B cs ty R' u, E.β o = some B ∧ E.w.heap[B.b]? = some (.cells cs ty (0, 0)) ∧ (∀ i, E.φ B.b i = none) ∧
   rs.length <= B.cap /\ B.off + B.cap <= cs.size /\ cE E rs cs B.off R' /\ R = B.b :: R' /\ i < rs.length /\ cs[B.off + i]? = some u /\ jK u /\ RX E (.aR q s 0 n) u []
inductive Own where
 | slot (s:Nat)
 | obj (o:Nat)
 deriving DecidableEq
structure eZ where
 n:Nat
 F:List Nat
structure Ctx where
 K:Nat -> Prop
 w0:World
 φ0:Fz
 β0:Nat -> Option zI
 fn:eZ
 ds:List Deferred
structure Inv(G:Ctx)(E:Env)(RR:Own -> List Nat)(st:St)(a:Act):Prop where
 lh:∀ b i v,E.φ b i = some v -> E.w.cell? ⟨b,i,none⟩ = some v
 aC:∀ s x,look st.aC s = some x -> RX E x (a.tmps.getD s undef) (RR (.slot s))
 aD:∀ o ob,look st.aD o = some ob -> dh E o ob (RR (.obj o))
 nodup:∀ p,(RR p).Nodup
 apart:∀ p q,p ≠ q -> ∀ b ∈ RR p,b ∉ RR q
 own:∀ p b,b ∈ RR p -> b < E.w.heap.size /\ ¬ G.K b
 ai:∀ b,G.K b -> E.w.heap[b]? = G.w0.heap[b]?
 size:G.w0.heap.size <= E.w.heap.size
 small:∀ b,G.K b -> b < G.w0.heap.size
 os:E.w.os = G.w0.os
 tape:E.w.tape = G.w0.tape
 output:E.w.output = G.w0.output
 φ0:∀ b i v,G.φ0 b i = some v -> E.φ b i = some v
 grow:∀ b i v,E.φ b i = some v -> G.φ0 b i = some v \/ ¬ G.K b
 fixed:∀ o,G.fn.F.elem o = true -> E.β o = G.β0 o
 tmps:a.tmps.size = G.fn.n
 defers:a.defers = G.ds
def cF(G:Ctx)(st:St)(a:Act)(w:World):Prop:=∃ E RR,E.w = w /\ Inv G E RR st a
def oe(G:Ctx)(Q:Exit -> St -> Prop)(e:Exit)(a:Act)(w:World):Prop:=∃ st,cF G st a w /\ Q e st
def dy(P:Program)(N:eZ)(c:Code)(st:St)(Q:Exit -> St -> Prop):Prop :=
 ∀ G:Ctx,G.fn = N -> ∀ a w,cF G st a w -> c.wp P (oe G Q) a w
def aS(P:Program)(N:eZ)(all:Array Oper)(rest:List Oper)(st:St)(Q:Exit -> St -> Prop):Prop :=
 ∀ G:Ctx,G.fn = N -> ∀ a w,cF G st a w -> wpList P all (oe G Q) rest a w
def iW(K : St → Prop)(Q : Exit → St → Prop) : Exit → St → Prop
 | .normal,st=>K st
 | e,st=>Q e st
def po(id : Nat)(Q : Exit → St → Prop) : Exit → St → Prop
 | .exit id',st=>bif Nat.beq id' id then Q .normal st else Q (.exit id') st
 | e,st=>Q e st
def bW(st : St) : Operand → Option X
 | .tmp t=>look st.aC t
 | .const v=>some (.v v)
 | .func f=>some (.v (.func (.func f) #[] #[]))
 | .global _=>none
def Le(st aW:St):Prop :=
 (∀ s x,look aW.aC s = some x -> look st.aC s = some x) /\ (∀ o x,look aW.aD o = some x -> look st.aD o = some x)
theorem Le.refl(st:St):Le st st:=⟨fun _ _ h=>h,fun _ _ h=>h⟩
theorem Le.holds{G:Ctx}{st aW:St}{a:Act}{w:World}(h:Le st aW)(hh:cF G st a w):cF G aW a w:=by
 obtain ⟨E,RR,hw,hi⟩:=hh
 exact ⟨E,RR,hw,{ hi with aC:=fun s x hx=>hi.aC s x (h.1 s x hx),aD:=fun o x hx=>hi.aD o x (h.2 o x hx) }⟩
def gd{α:Type}(l l':List (Nat × α)):Prop:=∀ s x,look l' s = some x -> look l s = some x
theorem gd.nil{α:Type}{l:List (Nat × α)}:gd l []:=fun _ _ h=>by cases h
theorem gd.cons{α:Type}{l l':List (Nat × α)}{s:Nat}{x:α}(h:look l s = some x)(hr:gd l l'):gd l ((s,x) :: l'):=by
 intro t y hy
 unfold look at hy
 cases hb:Nat.beq s t with
 | true=>rw [hb] at hy; simp at hy; subst hy; rw [Nat.eq_of_beq_eq_true hb] at h; exact h
 | false=>rw [hb] at hy; exact hr t y hy
theorem Le.mk{st:St}{sl:List (Nat × X)}{ob:List (Nat × Obj)}(h:gd st.aC sl)(h':gd st.aD ob):Le st ⟨sl,ob⟩:=⟨h,h'⟩
section control
variable {P:Program} {N:eZ} {st aW:St} {Q Q':Exit -> St -> Prop}
theorem oe.mono{G:Ctx}{e:Exit}{a:Act}{w:World}(h:∀ st,Q e st -> Q' e st)(hp:oe G Q e a w):oe G Q' e a w :=
 let ⟨st,hh,hq⟩:=hp; ⟨st,hh,h st hq⟩
theorem dy.mono{c:Code}(h:dy P N c st Q)(hq:∀ e st,Q e st -> Q' e st):dy P N c st Q' :=
 fun G hn a w hh=>wp_mono (h G hn a w hh) fun e _ _ hp=>oe.mono (hq e) hp
theorem dy.le{c:Code}(hl:Le st aW)(h:dy P N c aW Q):dy P N c st Q :=
 fun G hn a w hh=>h G hn a w (hl.holds hh)
theorem aS.le{all:Array Oper}{rest:List Oper}(hl:Le st aW)(h:aS P N all rest aW Q):aS P N all rest st Q :=
 fun G hn a w hh=>h G hn a w (hl.holds hh)
theorem dy.skip(h:Q .normal st):dy P N .skip st Q:=fun _ _ _ _ hh=>wp_skip ⟨st,hh,h⟩
theorem dy.exit{id:Nat}(h:Q (.exit id) st):dy P N (.exit id) st Q:=fun _ _ _ _ hh=>wp_exit ⟨st,hh,h⟩
theorem dy.ret(h:Q .ret st):dy P N .ret st Q:=fun _ _ _ _ hh=>wp_ret ⟨st,hh,h⟩
theorem dy.seq{x y:Code}(h:dy P N x st (iW (fun aW=>dy P N y aW Q) Q)):dy P N (.seq x y) st Q:=by
 intro G hn a w hh
 refine wp_seq (wp_mono (h G hn a w hh) ?_)
 rintro e a' w' ⟨aW,iH,hq⟩
 cases e <;> first | exact hq G hn a' w' iH | exact ⟨aW,iH,hq⟩
theorem dy.block{id:Nat}{c:Code}(h:dy P N c st (po id Q)):dy P N (.block id c) st Q:=by
 intro G hn a w hh
 refine wp_block (wp_mono (h G hn a w hh) ?_)
 rintro e a' w' ⟨aW,iH,hq⟩
 cases e with
 | exit id' =>
  simp only [po] at hq
  simp only [Exit.inBlock]
  cases hb:Nat.beq id' id with
  | true =>
   rw [hb] at hq
   rw [if_pos (Nat.eq_of_beq_eq_true hb)]
   exact ⟨aW,iH,hq⟩
  | false =>
   rw [hb] at hq
   rw [if_neg (Nat.ne_of_beq_eq_false hb)]
   exact ⟨aW,iH,hq⟩
 | _=>exact ⟨aW,iH,hq⟩
theorem Inv.eval{G:Ctx}{E:Env}{RR:Own -> List Nat}{a:Act}(hi:Inv G E RR st a){o:Operand}{x:X}(h:bW st o = some x):∃ R,RX E x (a.eval o) R:=by
 cases o with
 | tmp t=>exact ⟨_,hi.aC t x h⟩
 | const v=>simp only [bW,Option.some.injEq] at h; subst h; exact ⟨[],by simp [RX,Act.eval]⟩
 | func f=>simp only [bW,Option.some.injEq] at h; subst h; exact ⟨[],by simp [RX,Act.eval]⟩
 | global g=>cases h
theorem Inv.val{G:Ctx}{E:Env}{RR:Own -> List Nat}{a:Act}(hi:Inv G E RR st a){o:Operand}{u:Value}(h:bW st o = some (.v u)):a.eval o = u:=by
 obtain ⟨R,hR⟩:=hi.eval h
 simp only [RX] at hR
 exact hR.1
theorem dy.cond{c : Operand}{x y : Code}{b : Bool}(hc : bW st c = some (.v (.bool b)))(ht : b = true → dy P N x st Q)(hf : b = false → dy P N y st Q) :
  dy P N (.cond c x y) st Q:=by
 intro G hn a w hh
 obtain ⟨E,RR,rfl,hi⟩:=hh
 exact wp_cond_split (hi.val hc) (fun h=>ht h G hn a E.w ⟨E,RR,rfl,hi⟩) (fun h=>hf h G hn a E.w ⟨E,RR,rfl,hi⟩)
theorem tN{c : Code}{ι : Type}{R : Exit → Act → World → Prop}(J : ι → Act → World → Prop)(μ : ι → Nat)
  (round:∀ i a w,J i a w -> c.wp P (Exit.then (fun a' w'=>∃ j,J j a' w' /\ μ j < μ i) R) a w) {i:ι} {a:Act} {w:World} (h₀:J i a w):(Code.loop c).wp P R a w:=by
 intro b k cs
 have key : ∀ n i a w, μ i = n → J i a w →
   ∃ e a' w',R e a' w' /\ Arrives P (lone (b.at a (.code c :: .inLoop c :: k)) cs w) b k cs e a' w':=by
  intro n
  induction n using Nat.strongRecOn with
  | _ n ih =>
   intro i a w hn hI
   obtain ⟨e,a₁,w₁,hq,tO⟩:=round i a w hI b (.inLoop c :: k) cs
   cases e with
   | normal =>
    obtain ⟨j,Yk,gG⟩:=hq
    obtain ⟨e₂,a₂,w₂,Yl,Ns⟩:=ih (μ j) (hn ▸ gG) j a₁ w₁ rfl Yk
    exact ⟨e₂,a₂,w₂,Yl,.of_steps (Steps.trans tO (.one step_inLoop)) Ns⟩
   | exit id=>exact ⟨_,a₁,w₁,hq,.pass (x:=.inLoop c) rfl (fun _ _=>.inl (by simp)) tO⟩
   | goto l=>exact ⟨_,a₁,w₁,hq,.pass (x:=.inLoop c) rfl (fun _ _=>.inl (by simp)) tO⟩
   | ret=>exact ⟨_,a₁,w₁,hq,.pass (x:=.inLoop c) rfl (fun _ _=>.inl (by simp)) tO⟩
   | panic ch=>exact ⟨_,a₁,w₁,hq,.pass (x:=.inLoop c) rfl (fun _ _=>.inl (by simp)) tO⟩
   | outgrown=>exact ⟨_,a₁,w₁,hq,.pass (x:=.inLoop c) rfl (fun _ _=>.inl (by simp)) tO⟩
 obtain ⟨e,a',w',hq,tO⟩:=key _ i a w rfl h₀
 exact ⟨e,a',w',hq,.of_steps (.one step_loop) tO⟩
theorem dy.loop{ι : Type}{c : Code}(S : ι → St)(I : ι → Prop)(μ : ι → Nat)(i : ι)(hi : I i)(hs : Le st (S i))
  (round:∀ i,I i -> dy P N c (S i) (iW (fun aW=>∃ j,I j /\ μ j < μ i /\ Le aW (S j)) Q)):dy P N (.loop c) st Q:=by
 intro G hn a w hh
 refine tN (fun i a w=>I i /\ cF G (S i) a w) μ ?_ ⟨hi,hs.holds hh⟩
 rintro i a w ⟨hI,hh⟩
 refine wp_mono (round i hI G hn a w hh) ?_
 rintro e a' w' ⟨aW,iH,hq⟩
 cases e with
 | normal=>obtain ⟨j,hj,gG,hle⟩:=hq; exact ⟨j,⟨hj,hle.holds iH⟩,gG⟩
 | _=>exact ⟨aW,iH,hq⟩
theorem dy.region{id:Nat}{l:List Oper}(h:aS P N l.toArray l st Q):dy P N (.region id l.toArray false) st Q :=
 fun G hn a w hh=>wp_region_lit (h G hn a w hh)
theorem aS.nil{all:Array Oper}(h:Q .normal st):aS P N all [] st Q:=fun _ _ _ _ hh=>⟨st,hh,h⟩
end control
end Go.AW
namespace Go.AW
open Go
def TY.shape(P:Program)(t:TypeId):Option (Option Nat) :=
 match P.underlying t,P.info? t with
 | some (.struct _),some i=>some (some i.size)
 | some (.array _ _),some i=>some (some i.size)
 | some _,some _=>some none
 | _,_=>none
def TY.slice(P:Program)(t:TypeId):Option (Nat × Nat × Nat) :=
 match P.underlying t with
 | some (.slice e)=>(P.info? e).map fun i=>(e,i.size,i.bytes)
 | _=>none
def TY.array(P:Program)(t:TypeId):Option (Nat × Nat × Nat) :=
 match P.underlying t with
 | some (.array n e)=>(P.info? e).map fun i=>(n,e,i.size)
 | _=>none
def TY.jH(P:Program)(t:TypeId)(f:Nat):Option (Nat × TypeId) :=
 match P.underlying t with
 | some (.struct fs)=>match fs[f]? with
  | some fd=>match P.info? fd.type with
   | some i=>bif Nat.beq i.size 0 then none else some (fd.offset,fd.type)
   | none=>none
  | none=>none
 | _=>none
def TY.zero(P:Program)(t:TypeId):Option (List Value):=(P.info? t).bind fun i=>i.zero.map (·.cells.toList)
def TY.isInt(P:Program)(t:TypeId):Option IntKind:=match P.underlying t with | some (.int k)=>some k | _=>none
def St.put(st:St)(d:Nat)(x:X):St:={ st with aC:=(d,x) :: st.aC }
mutual
theorem RX.free{E : Env} : ∀ {x : X} {c : Value} {R : List Nat}, x.free = true → RX E x c R → R = []
 | .v _,_,_,_,h=>by simp only [RX] at h; exact h.2
 | .no,_,_,_,h=>by simpa [RX] using h
 | .fz ..,_,_,_,h=>by simp only [RX] at h; exact h.1
 | .ptr ..,_,_,_,h=>by simp only [RX] at h; exact h.1
 | .aR ..,_,_,_,h=>by simp only [RX] at h; exact h.1
 | .mref _,_,_,_,h=>by simp only [RX] at h; exact h.1
 | .fp ..,_,_,_,h=>by simp only [RX] at h; exact h.1
 | .jv ..,_,_,_,h=>by simp only [RX] at h; exact h.1
 | .dn ..,_,_,hf,_=>by simp [X.free] at hf
 | .agg xs,_,_,hf,h=>by
  simp only [RX] at h
  obtain ⟨_,_,h⟩:=h
  exact b6.free (xs:=xs) hf h
 | .tup xs,_,_,hf,h=>by
  simp only [RX] at h
  obtain ⟨_,_,h⟩:=h
  exact eC.free (xs:=xs) hf h
theorem b6.free{E : Env} : ∀ {xs : List X} {cs : List Value} {R : List Nat}, X.b5 xs = true → b6 E xs cs R → R = []
 | [],_,_,_,h=>by simp only [b6] at h; exact h.2
 | x :: r,_,_,hf,h=>by
  simp only [b6] at h
  obtain ⟨c,dg,R₁,R₂,_,_,h1,h2,hR⟩:=h
  simp only [X.b5,Bool.and_eq_true] at hf
  rw [hR,RX.free hf.1 h1,b6.free hf.2 h2]; rfl
theorem eC.free{E : Env} : ∀ {xs : List X} {cs : List Value} {R : List Nat}, X.b5 xs = true → eC E xs cs R → R = []
 | [],_,_,_,h=>by simp only [eC] at h; exact h.2
 | x :: r,_,_,hf,h=>by
  simp only [eC] at h
  obtain ⟨c,dg,R₁,R₂,_,h1,h2,hR⟩:=h
  simp only [X.b5,Bool.and_eq_true] at hf
  rw [hR,RX.free hf.1 h1,eC.free hf.2 h2]; rfl
end
theorem RO.free{E : Env} : ∀ {xs : List X} {cs : Array Value} {off : Nat} {R : List Nat}, X.b5 xs = true → RO E xs cs off R → R = []
 | [],_,_,_,_,h=>by simpa [RO] using h
 | x :: r,_,_,_,hf,h=>by
  simp only [RO] at h
  obtain ⟨c,R₁,R₂,_,_,h1,h2,hR⟩:=h
  simp only [X.b5,Bool.and_eq_true] at hf
  rw [hR,RX.free hf.1 h1,RO.free hf.2 h2]; rfl
def fA(RR:Own -> List Nat)(p:Own)(R:List Nat):Own -> List Nat:=fun q=>if q = p then R else RR q
theorem Ef{a:Act}{d:Nat}{u:Value}(hd:d < a.tmps.size):(a.put (some d) u).tmps.getD d undef = u:=by
 simp [Act.put,Array.getD,hd]
theorem xz{a:Act}{d s:Nat}{u:Value}(h:d ≠ s):(a.put (some d) u).tmps.getD s undef = a.tmps.getD s undef:=by
 simp only [Act.put,Array.getD_eq_getD_getElem?,Array.getElem?_setIfInBounds_ne h]
section
variable {P:Program} {N:eZ} {G:Ctx} {E:Env} {RR:Own -> List Nat} {st:St} {a:Act} {Q:Exit -> St -> Prop}
theorem Inv.put(hi : Inv G E RR st a){d : Nat}{x : X}{u : Value}{R : List Nat}(hd : d < G.fn.n)(hx : RX E x u R)(hn : R.Nodup)
  (hR:∀ b ∈ R,b < E.w.heap.size /\ ¬ G.K b /\ ∀ p,p ≠ .slot d -> b ∉ RR p):Inv G E (fA RR (.slot d) R) (st.put d x) (a.put (some d) u):=by
 refine { hi with aC:=?_,aD:=?_,nodup:=?_,apart:=?_,own:=?_,tmps:=?_,defers:=?_ }
 ·intro s y hy
  simp only [St.put,look] at hy
  cases hb:Nat.beq d s with
  | true =>
   have:=Nat.eq_of_beq_eq_true hb
   subst this
   rw [hb] at hy
   simp only [cond_true,Option.some.injEq] at hy
   subst hy
   rw [Ef (by rw [hi.tmps]; exact hd)]
   simpa [fA] using hx
  | false =>
   have fb:=Nat.ne_of_beq_eq_false hb
   rw [hb] at hy
   rw [xz fb]
   have:fA RR (.slot d) R (.slot s) = RR (.slot s):=by simp [fA,Ne.symm fb]
   rw [this]
   exact hi.aC s y hy
 ·intro o ob ho
  have:fA RR (.slot d) R (.obj o) = RR (.obj o):=by simp [fA]
  rw [this]; exact hi.aD o ob ho
 ·intro p
  unfold fA
  split
  ·exact hn
  ·exact hi.nodup p
 ·intro p q mE b hb
  unfold fA at hb ⊢
  split at hb
  ·rename_i hp
   subst hp
   rw [if_neg (Ne.symm mE)]
   exact (hR b hb).2.2 q (Ne.symm mE)
  ·split
   ·rename_i hp hq
    subst hq
    intro gY
    exact (hR b gY).2.2 p mE hb
   ·exact hi.apart p q mE b hb
 ·intro p b hb
  unfold fA at hb
  split at hb
  ·exact ⟨(hR b hb).1,(hR b hb).2.1⟩
  ·exact hi.own p b hb
 ·simp [Act.put,hi.tmps]
 ·simp [Act.put,hi.defers]
theorem Inv.gZ(hi:Inv G E RR st a){d:Nat}{x:X}{u:Value}(hd:d < G.fn.n)(hx:RX E x u []):Inv G E (fA RR (.slot d) []) (st.put d x) (a.put (some d) u) :=
 hi.put hd hx List.nodup_nil (fun _ hb=>by cases hb)
def Yields(P:Program)(N:eZ)(st:St)(o:Oper)(x:X):Prop :=
 ∀ (G:Ctx) (E:Env) (RR:Own -> List Nat) (a:Act),G.fn = N -> Inv G E RR st a -> ∃ u,(execOp a.eval o).run P E.w = .ok (.value u) E.w /\ RX E x u []
theorem aS.val{all : Array Oper}{rest : List Oper}{d : Nat}{op : Op}{ty : TypeId}{pos : String}{af : Array Edge}{x : X}
  (hy:Yields P N st ⟨some d,op,ty,pos,af,none⟩ x) (hd:d < N.n) (k:aS P N all rest (st.put d x) Q):aS P N all (⟨some d,op,ty,pos,af,none⟩ :: rest) st Q:=by
 intro G hn a w hh
 obtain ⟨E,RR,rfl,hi⟩:=hh
 obtain ⟨u,hr,hx⟩:=hy G E RR a hn hi
 refine wpList_plain rfl fun K hK=>?_
 simp only [Oper.wp,hr,Oper.upon_value]
 exact hK _ _ (k G hn _ _ ⟨E,_,rfl,hi.gZ (hn ▸ hd) hx⟩)
theorem aS.split{all : Array Oper}{rest : List Oper}{d : Nat}{b : Bool}(hx : look st.aC d = some (.v (.bool b)))
  (ht:b = true -> aS P N all rest (st.put d (.v (.bool true))) Q) (hf:b = false -> aS P N all rest (st.put d (.v (.bool false))) Q):aS P N all rest st Q:=by
 have:Le st (st.put d (.v (.bool b))):=⟨gd.cons hx (fun _ _ h=>h),fun _ _ h=>h⟩
 cases b
 ·exact (hf rfl).le this
 ·exact (ht rfl).le this
theorem aS.aX{all : Array Oper}{rest : List Oper}{dst : Option Nat}{op : Op}{ty : TypeId}{pos : String}{af : Array Edge}{j d : Nat}{want : Bool}
  (hj:(all[j]?).bind (·.dst) = some d) (hd:d < N.n) (hx:look st.aC d = some (.v (.bool want)))
  (k:aS P N all (⟨dst,op,ty,pos,af,none⟩ :: rest) st Q):aS P N all (⟨dst,op,ty,pos,af,some (j,want)⟩ :: rest) st Q:=by
 intro G hn a w hh
 have hk:=k G hn a w hh
 obtain ⟨E,RR,rfl,hi⟩:=hh
 have hs:=hi.aC d _ hx
 simp only [RX] at hs
 have fB:d < a.tmps.size:=by rw [hi.tmps,hn]; exact hd
 have hv:a.tmps[d]? = some (.bool want):=by
  have:=hs.1
  simp only [Array.getD,fB,dif_pos] at this
  rw [Array.getElem?_eq_getElem fB]
  exact congrArg some this
 have hw:Region.wanted ⟨dst,op,ty,pos,af,some (j,want)⟩ (yielded all a.tmps) = true:=by
  simp [Region.wanted,yielded,hj,hv]
 unfold wpList at hk ⊢
 rw [if_pos hw]
 rw [if_pos (by simp [Region.wanted])] at hk
 exact hk
end
end Go.AW
namespace Go.AW
open Go
section
variable {P:Program} {N:eZ} {st:St} {dst:Option Nat} {ty:TypeId} {pos:String} {af:Array Edge} {g:Option (Nat × Bool)}
theorem kj{α β:Type}{s:Sem α}{f:α -> Sem β}{w w':World}{u:α}{r:Result β}(h:s.run P w = .ok u w')(h':(f u).run P w' = r):(s.bind f).run P w = r:=by
 rw [show (s.bind f) = (s >>= f) from rfl,Sem.run_bind,h]; exact h'
theorem dN{s:Sem Value}{w w':World}{u:Value}(h:s.run P w = .ok u w'):(do let x <- s; pure (Next.value x):Sem Next).run P w = .ok (.value u) w' :=
 kj h rfl
theorem Eg{s:Sem Unit}{w w':World}(h:s.run P w = .ok () w'):(do s; pure Next.skip:Sem Next).run P w = .ok .skip w' :=
 kj h rfl
theorem Y.zh{x:Operand}{y:X}(hx:bW st x = some y)(hf:y.free = true):Yields P N st ⟨dst,.move x,ty,pos,af,g⟩ y:=by
 intro G E RR a _ hi
 obtain ⟨R,h⟩:=hi.eval hx
 have:=RX.free hf h
 subst this
 exact ⟨_,rfl,h⟩
theorem Y.qf{x:Operand}{y:X}(hx:bW st x = some y)(hf:y.free = true):Yields P N st ⟨dst,.assign x,ty,pos,af,g⟩ y:=by
 intro G E RR a _ hi
 obtain ⟨R,h⟩:=hi.eval hx
 have:=RX.free hf h
 subst this
 exact ⟨_,rfl,h⟩
theorem Y.zo{c x y : Operand}{b : Bool}{z : X}(hc : bW st c = some (.v (.bool b)))(hz : bW st (if b then x else y) = some z)(hf : z.free = true) :
  Yields P N st ⟨dst,.pick c x y,ty,pos,af,g⟩ z:=by
 intro G E RR a _ hi
 obtain ⟨R,h⟩:=hi.eval hz
 have:=RX.free hf h
 subst this
 refine ⟨a.eval (if b then x else y),?_,h⟩
 have q6:=hi.val hc
 simp only [execOp,q6]
 cases b <;> rfl
theorem Y.qg{op : BinOp}{t t' : TypeId}{x y : Operand}{u v r : Value}(hx : bW st x = some (.v u))(hy : bW st y = some (.v v))
  (hr:∀ w,(do eqGuard op t x y u v; binOp op t u v:Sem Value).run P w = .ok r w):Yields P N st ⟨dst,.binOp op t x y t',ty,pos,af,g⟩ (.v r):=by
 intro G E RR a _ hi
 refine ⟨r,?_,by simp [RX]⟩
 show (do let x <- (do eqGuard op t x y (a.eval x) (a.eval y); binOp op t (a.eval x) (a.eval y):Sem Value); pure (Next.value x):Sem Next).run P E.w = _
 rw [hi.val hx,hi.val hy]
 exact dN (hr _)
section ints
variable {t t':TypeId} {x y:Operand} {k:IntKind} {a b r:Int}
theorem Y.qa(hx:bW st x = some (.v (.int k a)))(hy:bW st y = some (.v (.int k b)))(hr:k.wrap (a + b) = r):Yields P N st ⟨dst,.binOp .add t x y t',ty,pos,af,g⟩ (.v (.int k r)) :=
 Y.qg hx hy fun w=>by subst hr; simp [eqGuard,binOp,Op.intArith]
theorem Y.wb(hx:bW st x = some (.v (.int k a)))(hy:bW st y = some (.v (.int k b)))(hr:k.wrap (a - b) = r):Yields P N st ⟨dst,.binOp .sub t x y t',ty,pos,af,g⟩ (.v (.int k r)) :=
 Y.qg hx hy fun w=>by subst hr; simp [eqGuard,binOp,Op.intArith]
theorem Y.zi(hx:bW st x = some (.v (.int k a)))(hy:bW st y = some (.v (.int k b)))(hr:k.wrap (a * b) = r):Yields P N st ⟨dst,.binOp .mul t x y t',ty,pos,af,g⟩ (.v (.int k r)) :=
 Y.qg hx hy fun w=>by subst hr; simp [eqGuard,binOp,Op.intArith]
theorem Y.zp(hx:bW st x = some (.v (.int k a)))(hy:bW st y = some (.v (.int k b)))(h0:b ≠ 0)(hr:k.wrap (a.tdiv b) = r):Yields P N st ⟨dst,.binOp .quo t x y t',ty,pos,af,g⟩ (.v (.int k r)) :=
 Y.qg hx hy fun w=>by subst hr; simp [eqGuard,binOp,Op.intDiv,h0]
theorem Y.zs(hx:bW st x = some (.v (.int k a)))(hy:bW st y = some (.v (.int k b)))(h0:b ≠ 0)(hr:a.tmod b = r):Yields P N st ⟨dst,.binOp .rem t x y t',ty,pos,af,g⟩ (.v (.int k r)) :=
 Y.qg hx hy fun w=>by subst hr; simp [eqGuard,binOp,Op.intDiv,h0]
theorem Y.qd(hx:bW st x = some (.v (.int k a)))(hy:bW st y = some (.v (.int k b)))(hr:k.wrap (BitVec.ofInt k.bits a &&& BitVec.ofInt k.bits b).toNat = r):Yields P N st ⟨dst,.binOp .and t x y t',ty,pos,af,g⟩ (.v (.int k r)) :=
 Y.qg hx hy fun w=>by subst hr; simp [eqGuard,binOp,Op.intBits]
theorem Y.or(hx:bW st x = some (.v (.int k a)))(hy:bW st y = some (.v (.int k b)))(hr:k.wrap (BitVec.ofInt k.bits a ||| BitVec.ofInt k.bits b).toNat = r):Yields P N st ⟨dst,.binOp .or t x y t',ty,pos,af,g⟩ (.v (.int k r)) :=
 Y.qg hx hy fun w=>by subst hr; simp [eqGuard,binOp,Op.intBits]
theorem Y.wd(hx:bW st x = some (.v (.int k a)))(hy:bW st y = some (.v (.int k b)))(hr:k.wrap (BitVec.ofInt k.bits a ^^^ BitVec.ofInt k.bits b).toNat = r):Yields P N st ⟨dst,.binOp .xor t x y t',ty,pos,af,g⟩ (.v (.int k r)) :=
 Y.qg hx hy fun w=>by subst hr; simp [eqGuard,binOp,Op.intBits]
theorem Y.zv{k':IntKind}(hx:bW st x = some (.v (.int k a)))(hy:bW st y = some (.v (.int k' b)))(h0:0 <= b)(hr:k.wrap (a * 2 ^ (min b.toNat k.bits)) = r):Yields P N st ⟨dst,.binOp .shl t x y t',ty,pos,af,g⟩ (.v (.int k r)) :=
 Y.qg hx hy fun w=>by subst hr; simp [eqGuard,binOp,Op.shift,Int.not_lt.2 h0]
theorem Y.zw{k':IntKind}(hx:bW st x = some (.v (.int k a)))(hy:bW st y = some (.v (.int k' b)))(h0:0 <= b)(hr:a.fdiv (2 ^ (min b.toNat k.bits)) = r):Yields P N st ⟨dst,.binOp .shr t x y t',ty,pos,af,g⟩ (.v (.int k r)) :=
 Y.qg hx hy fun w=>by subst hr; simp [eqGuard,binOp,Op.shift,Int.not_lt.2 h0]
theorem Y.zd(hx:bW st x = some (.v (.int k a)))(hy:bW st y = some (.v (.int k b))):Yields P N st ⟨dst,.binOp .lss t x y t',ty,pos,af,g⟩ (.v (.bool (decide (a < b)))) :=
 Y.qg hx hy fun w=>by simp [eqGuard,binOp,Op.intCmp]
theorem Y.za(hx:bW st x = some (.v (.int k a)))(hy:bW st y = some (.v (.int k b))):Yields P N st ⟨dst,.binOp .leq t x y t',ty,pos,af,g⟩ (.v (.bool (decide (a <= b)))) :=
 Y.qg hx hy fun w=>by simp [eqGuard,binOp,Op.intCmp]
theorem Y.qr(hx:bW st x = some (.v (.int k a)))(hy:bW st y = some (.v (.int k b))):Yields P N st ⟨dst,.binOp .gtr t x y t',ty,pos,af,g⟩ (.v (.bool (decide (b < a)))) :=
 Y.qg hx hy fun w=>by simp [eqGuard,binOp,Op.intCmp]
theorem Y.qq(hx:bW st x = some (.v (.int k a)))(hy:bW st y = some (.v (.int k b))):Yields P N st ⟨dst,.binOp .geq t x y t',ty,pos,af,g⟩ (.v (.bool (decide (b <= a)))) :=
 Y.qg hx hy fun w=>by simp [eqGuard,binOp,Op.intCmp]
theorem Y.qm(hx:bW st x = some (.v (.int k a)))(hy:bW st y = some (.v (.int k b))):Yields P N st ⟨dst,.binOp .eql t x y t',ty,pos,af,g⟩ (.v (.bool (decide (a = b)))) :=
 Y.qg hx hy fun w=>by simp [eqGuard,binOp,Op.intCmp,BEq.beq]
theorem Y.zl(hx:bW st x = some (.v (.int k a)))(hy:bW st y = some (.v (.int k b))):Yields P N st ⟨dst,.binOp .neq t x y t',ty,pos,af,g⟩ (.v (.bool (decide (a ≠ b)))) :=
 Y.qg hx hy fun w=>by simp [eqGuard,binOp,Op.intCmp,bne,BEq.beq]
end ints
theorem run_equal_bool{t:TypeId}{a b:Bool}(ht:P.underlying t = some .bool)(w:World):(Op.equal t (.bool a) (.bool b)).run P w = .ok (a == b) w:=by
 show (Op.equalIn (9999 + 1) t (.bool a) (.bool b)).run P w = _
 generalize 9999 = d
 simp [Op.equalIn,run_underlying ht]
theorem Y.qn{t t' : TypeId}{x y : Operand}{a b : Bool}(ht : P.underlying t = some .bool)(hx : bW st x = some (.v (.bool a)))(hy : bW st y = some (.v (.bool b))) :
  Yields P N st ⟨dst,.binOp .eql t x y t',ty,pos,af,g⟩ (.v (.bool (a == b))) :=
 Y.qg hx hy fun w=>by
  show (do let z <- Op.equal t (.bool a) (.bool b); pure (Value.bool z):Sem Value).run P w = _
  exact kj (run_equal_bool ht w) rfl
theorem Y.un{op:UnOp}{t:TypeId}{x:Operand}{u r:Value}(hx:bW st x = some (.v u))(hr:∀ w,(Op.unary op u).run P w = .ok r w):Yields P N st ⟨dst,.unOp op t x,ty,pos,af,g⟩ (.v r):=by
 intro G E RR a _ hi
 refine ⟨r,?_,by simp [RX]⟩
 show (do let x <- Op.unary op (a.eval x); pure (Next.value x):Sem Next).run P E.w = _
 rw [hi.val hx]
 exact dN (hr _)
theorem Y.zn{t:TypeId}{x:Operand}{b:Bool}(hx:bW st x = some (.v (.bool b))):Yields P N st ⟨dst,.unOp .not t x,ty,pos,af,g⟩ (.v (.bool (!b))) :=
 Y.un hx fun _=>rfl
theorem Y.qk{s d : TypeId}{x : Operand}{k k' : IntKind}{n r : Int}(hs : TY.isInt P s = some k')(hd : TY.isInt P d = some k)(hx : bW st x = some (.v (.int k' n)))(hr : k.wrap n = r) :
  Yields P N st ⟨dst,.convert s d x,ty,pos,af,g⟩ (.v (.int k r)):=by
 intro G E RR a _ hi
 refine ⟨.int k r,?_,by simp [RX]⟩
 show (do let x <- convert s d (a.eval x); pure (Next.value x):Sem Next).run P E.w = _
 rw [hi.val hx]
 refine dN ?_
 have h1:P.underlying s = some (.int k'):=by unfold TY.isInt at hs; split at hs <;> simp_all
 have h2:P.underlying d = some (.int k):=by unfold TY.isInt at hd; split at hd <;> simp_all
 simp [convert,run_underlying h1,run_underlying h2,Conv.intToInt,hr]
end
end Go.AW
namespace Go.AW
open Go
theorem dq{w:World}{b i:Nat}{cs:Array Value}{ty:TypeId}{fr:Nat × Nat}(h:w.heap[b]? = some (.cells cs ty fr)):w.cell? ⟨b,i,none⟩ = cs[i]?:=by
 simp [World.cell?,h]
theorem iu(b off n:Nat):(⟨b,off,none⟩:Addr).add n = ⟨b,off + n,none⟩:=by
 unfold Addr.add
 split
 ·rename_i h; subst h; rfl
 ·rfl
section
variable {E:Env}
theorem RF.get : ∀ {row : List X} {b off k : Nat} {x : X}, RF E row b off → row[k]? = some x → ∃ u, E.φ b (off + k) = some u ∧ jK u ∧ x.nr = true ∧ RX E x u []
 | [],_,_,_,_,_,h=>by simp at h
 | y :: r,b,off,0,x,h,hx=>by
  simp only [RF] at h
  simp only [List.getElem?_cons_zero,Option.some.injEq] at hx
  subst hx
  exact h.1
 | y :: r,b,off,k + 1,x,h,hx=>by
  simp only [RF] at h
  obtain ⟨u,hu⟩:=RF.get (k:=k) h.2 (by simpa using hx)
  exact ⟨u,by rw [show off + (k + 1) = off + 1 + k by omega]; exact hu⟩
theorem RF.drop : ∀ {row : List X} {b off : Nat} (k : Nat), RF E row b off → RF E (row.drop k) b (off + k)
 | [],_,_,_,_=>by simp [RF]
 | y :: r,b,off,0,h=>h
 | y :: r,b,off,k + 1,h=>by
  simp only [RF] at h
  simp only [List.drop_succ_cons]
  rw [show off + (k + 1) = off + 1 + k by omega]
  exact RF.drop k h.2
theorem RF.take : ∀ {row : List X} {b off : Nat} (k : Nat), RF E row b off → RF E (row.take k) b off
 | [],_,_,_,_=>by simp [RF]
 | y :: r,b,off,0,h=>by simp [RF]
 | y :: r,b,off,k + 1,h=>by
  simp only [RF,List.take_succ_cons] at h ⊢
  exact ⟨h.1,RF.take k h.2⟩
theorem RF.cells : ∀ {row : List X} {b off : Nat}, RF E row b off → ∃ cs : List Value, cs.length = row.length ∧ (∀ j v, cs[j]? = some v → E.φ b (off + j) = some v) ∧ b6 E row cs []
 | [],_,_,_=>⟨[],rfl,by simp,by simp [b6]⟩
 | y :: r,b,off,h=>by
  simp only [RF] at h
  obtain ⟨⟨u,hu,hs,_,hx⟩,hr⟩:=h
  obtain ⟨cs,hl,hc,gf⟩:=RF.cells hr
  refine ⟨u :: cs,by simp [hl],?_,?_⟩
  ·intro j v hv
   cases j with
   | zero=>simp at hv; subst hv; exact hu
   | succ j=>rw [show off + (j + 1) = off + 1 + j by omega]; exact hc j v (by simpa using hv)
  ·simp only [b6]
   exact ⟨u,cs,[],[],rfl,hs,hx,gf,rfl⟩
theorem kD.get : ∀ {rows : List (List X)} {s b off i : Nat} {row : List X}, cC s rows → kD E rows b off → rows[i]? = some row → RF E row b (off + i * s)
 | [],_,_,_,_,_,_,_,h=>by simp at h
 | r :: rs,s,b,off,0,row,hu,h,hr=>by
  simp only [kD] at h
  simp only [List.getElem?_cons_zero,Option.some.injEq] at hr
  subst hr
  simpa using h.1
 | r :: rs,s,b,off,i + 1,row,hu,h,hr=>by
  simp only [kD] at h
  have h1:=hu r (by simp)
  have:=kD.get (i:=i) (s:=s) (fun q hq=>hu q (by simp [hq])) h.2 (by simpa using hr)
  rw [h1] at this
  rw [show off + (i + 1) * s = off + s + i * s by rw [Nat.add_mul]; omega]
  exact this
theorem kD.drop : ∀ {rows : List (List X)} {s b off : Nat} (k : Nat), cC s rows → k ≤ rows.length → kD E rows b off → kD E (rows.drop k) b (off + k * s)
 | _,_,_,_,0,_,_,h=>by simpa using h
 | [],_,_,_,k + 1,_,hk,_=>by simp at hk
 | r :: rs,s,b,off,k + 1,hu,hk,h=>by
  simp only [kD] at h
  have h1:=hu r (by simp)
  rw [h1] at h
  simp only [List.drop_succ_cons]
  rw [show off + (k + 1) * s = off + s + k * s by rw [Nat.add_mul]; omega]
  exact kD.drop k (fun q hq=>hu q (by simp [hq])) (by simpa using hk) h.2
theorem kD.take : ∀ {rows : List (List X)} {b off : Nat} (k : Nat), kD E rows b off → kD E (rows.take k) b off
 | [],_,_,_,_=>by simp [kD]
 | _ :: _,_,_,0,_=>by simp [kD]
 | r :: rs,b,off,k + 1,h=>by
  simp only [kD,List.take_succ_cons] at h ⊢
  exact ⟨h.1,kD.take k h.2⟩
theorem cC.drop{s:Nat}{rows:List (List X)}(k:Nat)(h:cC s rows):cC s (rows.drop k):=fun r hr=>h r (List.mem_of_mem_drop hr)
theorem cC.take{s:Nat}{rows:List (List X)}(k:Nat)(h:cC s rows):cC s (rows.take k):=fun r hr=>h r (List.mem_of_mem_take hr)
theorem RO.get : ∀ {xs : List X} {cs : Array Value} {off k : Nat} {R : List Nat} {x : X}, RO E xs cs off R → xs[k]? = some x →
  ∃ u R₁,cs[off + k]? = some u /\ jK u /\ RX E x u R₁ /\ ∀ b ∈ R₁,b ∈ R
 | [],_,_,_,_,_,_,h=>by simp at h
 | y :: r,cs,off,0,R,x,h,hx=>by
  simp only [RO] at h
  simp only [List.getElem?_cons_zero,Option.some.injEq] at hx
  subst hx
  obtain ⟨u,R₁,R₂,hu,hs,h1,_,rfl⟩:=h
  exact ⟨u,R₁,hu,hs,h1,fun b hb=>cM hb⟩
 | y :: r,cs,off,k + 1,R,x,h,hx=>by
  simp only [RO] at h
  obtain ⟨_,R₁,R₂,_,_,_,h2,rfl⟩:=h
  obtain ⟨u,R₃,hu,hs,h3,dG⟩:=RO.get (k:=k) h2 (by simpa using hx)
  exact ⟨u,R₃,by rw [show off + (k + 1) = off + 1 + k by omega]; exact hu,hs,h3,fun b hb=>cu (dG b hb)⟩
theorem RO.drop : ∀ {xs : List X} {cs : Array Value} {off : Nat} {R : List Nat} (k : Nat), RO E xs cs off R → ∃ R', RO E (xs.drop k) cs (off + k) R' ∧ ∀ b ∈ R', b ∈ R
 | [],cs,off,R,k,h=>⟨[],by simp [RO],by simp⟩
 | y :: r,cs,off,R,0,h=>⟨R,h,fun _ h=>h⟩
 | y :: r,cs,off,R,k + 1,h=>by
  simp only [RO] at h
  obtain ⟨_,R₁,R₂,_,_,_,h2,rfl⟩:=h
  obtain ⟨R',h',hs⟩:=RO.drop k h2
  refine ⟨R',?_,fun b hb=>cu (hs b hb)⟩
  simp only [List.drop_succ_cons]
  rw [show off + (k + 1) = off + 1 + k by omega]; exact h'
theorem RO.take : ∀ {xs : List X} {cs : Array Value} {off : Nat} {R : List Nat} (k : Nat), RO E xs cs off R → ∃ R', RO E (xs.take k) cs off R' ∧ ∀ b ∈ R', b ∈ R
 | [],cs,off,R,k,h=>⟨[],by simp [RO],by simp⟩
 | y :: r,cs,off,R,0,h=>⟨[],by simp [RO],by simp⟩
 | y :: r,cs,off,R,k + 1,h=>by
  simp only [RO] at h
  obtain ⟨u,R₁,R₂,hu,hs,h1,h2,rfl⟩:=h
  obtain ⟨R',h',Nt⟩:=RO.take k h2
  refine ⟨R₁ ++ R',?_,?_⟩
  ·simp only [List.take_succ_cons,RO]
   exact ⟨u,R₁,R',hu,hs,h1,h',rfl⟩
  ·intro b hb
   rcases List.mem_append.1 hb with hb | hb
   ·exact cM hb
   ·exact cu (Nt b hb)
theorem RO.cells : ∀ {xs : List X} {cs : Array Value} {off : Nat} {R : List Nat}, RO E xs cs off R → ∃ vs : List Value, vs.length = xs.length ∧ (∀ j v, vs[j]? = some v → cs[off + j]? = some v) ∧ b6 E xs vs R
 | [],_,_,R,h=>⟨[],rfl,by simp,by simp only [RO] at h; simp [b6,h]⟩
 | y :: r,cs,off,R,h=>by
  simp only [RO] at h
  obtain ⟨u,R₁,R₂,hu,hs,h1,h2,rfl⟩:=h
  obtain ⟨vs,hl,hc,gf⟩:=RO.cells h2
  refine ⟨u :: vs,by simp [hl],?_,?_⟩
  ·intro j v hv
   cases j with
   | zero=>simp at hv; subst hv; exact hu
   | succ j=>rw [show off + (j + 1) = off + 1 + j by omega]; exact hc j v (by simpa using hv)
  ·simp only [b6]
   exact ⟨u,vs,R₁,R₂,rfl,hs,h1,gf,rfl⟩
theorem cE.get : ∀ {rows : List (List X)} {s : Nat} {cs : Array Value} {off i : Nat} {R : List Nat} {row : List X}, cC s rows → cE E rows cs off R → rows[i]? = some row →
  ∃ R₁,X.iG row = true /\ RO E row cs (off + i * s) R₁ /\ ∀ b ∈ R₁,b ∈ R
 | [],_,_,_,_,_,_,_,_,h=>by simp at h
 | r :: rs,s,cs,off,0,R,row,hu,h,hr=>by
  simp only [cE] at h
  simp only [List.getElem?_cons_zero,Option.some.injEq] at hr
  subst hr
  obtain ⟨R₁,R₂,hn,h1,_,rfl⟩:=h
  exact ⟨R₁,hn,by simpa using h1,fun b hb=>cM hb⟩
 | r :: rs,s,cs,off,i + 1,R,row,hu,h,hr=>by
  simp only [cE] at h
  obtain ⟨R₁,R₂,hn,_,h2,rfl⟩:=h
  have h1:=hu r (by simp)
  obtain ⟨R₃,rY,h3,hs⟩:=cE.get (i:=i) (s:=s) (fun q hq=>hu q (by simp [hq])) h2 (by simpa using hr)
  rw [h1] at h3
  exact ⟨R₃,rY,by rw [show off + (i + 1) * s = off + s + i * s by rw [Nat.add_mul]; omega]; exact h3,fun b hb=>cu (hs b hb)⟩
end
def rowAt(st : St) : X → Option (List X)
 | .fp row _=>some row
 | .ptr o s i _=>match look st.aD o with
  | some (.cells xs)=>bif Nat.beq i 0 then some xs else none
  | some (.rows s' rs)=>bif Nat.beq s s' then rs[i]? else none
  | some (.hole _ i' q s' n)=>bif Nat.beq s 1 && Nat.beq i i' then some [.aR q s' 0 n] else none
  | _=>none
 | _=>none
def lk : X → Nat
 | .fp _ k=>k
 | .ptr _ _ _ k=>k
 | _=>0
theorem zJ{st:St}{o i q s n:Nat}{rs:List (List X)}{k:Nat}(h:look st.aD o = some (.hole rs i q s n)):rowAt st (.ptr o 1 i k) = some [.aR q s 0 n]:=by
 simp only [rowAt,h,Nat.beq_refl,Bool.and_self,cond_true]
section
variable {P:Program} {N:eZ} {G:Ctx} {E:Env} {RR:Own -> List Nat} {st:St} {a:Act}
theorem Inv.behind(hi : Inv G E RR st a){p : X}{c : Value}{R : List Nat}{row : List X}(hp : RX E p c R)(hr : rowAt st p = some row) :
  ∃ b off, c = .pointer (some ⟨b, off + lk p, none⟩) ∧ ∀ k m, k + m ≤ row.length →
   ∃ vs:List Value,∃ R',vs.length = m /\ (∀ j v,vs[j]? = some v -> E.w.cell? ⟨b,off + (k + j),none⟩ = some v) /\ b6 E ((row.drop k).take m) vs R':=by
 cases p with
 | fp row' k' =>
  simp only [rowAt,Option.some.injEq] at hr
  subst hr
  simp only [RX] at hp
  obtain ⟨_,b,off,hc,hf⟩:=hp
  refine ⟨b,off,hc,fun k m Rl=>?_⟩
  obtain ⟨vs,hl,hv,hx⟩:=RF.cells (RF.take m (RF.drop k hf))
  refine ⟨vs,[],by rw [hl]; simp; omega,fun j v hj=>?_,hx⟩
  rw [<- Nat.add_assoc]
  exact hi.lh _ _ _ (hv j v hj)
 | ptr o s i k' =>
  simp only [RX] at hp
  obtain ⟨_,B,hB,hc⟩:=hp
  simp only [rowAt] at hr
  split at hr
  ·rename_i xs ho
   have h0:=hi.aD o _ ho
   simp only [dh] at h0
   obtain ⟨_,B',cs,ty,iI,hw,_,_,jF,_⟩:=h0
   rw [hB] at iI
   obtain rfl:=Option.some.inj iI
   cases q7:Nat.beq i 0 with
   | false=>simp [q7] at hr
   | true =>
    have:=Nat.eq_of_beq_eq_true q7
    subst this
    simp only [q7,cond_true,Option.some.injEq] at hr
    subst hr
    refine ⟨B.b,B.off,by simpa [lk] using hc,fun k m Rl=>?_⟩
    obtain ⟨R₁,h1,_⟩:=RO.drop k jF
    obtain ⟨R₂,h2,_⟩:=RO.take m h1
    obtain ⟨vs,hl,hv,hx⟩:=RO.cells h2
    refine ⟨vs,R₂,by rw [hl]; simp; omega,fun j v hj=>?_,hx⟩
    rw [dq hw,<- Nat.add_assoc]
    exact hv j v hj
  ·rename_i s' rs ho
   have h0:=hi.aD o _ ho
   simp only [dh] at h0
   obtain ⟨hu,h0⟩:=h0
   cases Kq:Nat.beq s s' with
   | false=>simp [Kq] at hr
   | true =>
    have:=Nat.eq_of_beq_eq_true Kq
    subst this
    simp only [Kq,cond_true] at hr
    rcases h0 with ⟨_,h0,_⟩ | ⟨B',cs,ty,R',iI,hw,_,_,_,jF,_⟩
    ·subst h0; simp at hr
    ·rw [hB] at iI
     obtain rfl:=Option.some.inj iI
     obtain ⟨R₁,_,h1,_⟩:=cE.get hu jF hr
     refine ⟨B.b,B.off + i * s,by rw [hc]; simp [lk,Nat.add_assoc],fun k m Rl=>?_⟩
     obtain ⟨R₂,h2,_⟩:=RO.drop k h1
     obtain ⟨R₃,h3,_⟩:=RO.take m h2
     obtain ⟨vs,hl,hv,hx⟩:=RO.cells h3
     refine ⟨vs,R₃,by rw [hl]; simp; omega,fun j v hj=>?_,hx⟩
     rw [dq hw,<- Nat.add_assoc]
     exact hv j v hj
  ·rename_i rs i' q s' n ho
   have h0:=hi.aD o _ ho
   simp only [dh] at h0
   obtain ⟨_,B',cs,ty,R',u,iI,hw,_,_,_,_,_,_,z3,Ym,hx⟩:=h0
   rw [hB] at iI
   obtain rfl:=Option.some.inj iI
   cases hb:(Nat.beq s 1 && Nat.beq i i') with
   | false=>simp [hb] at hr
   | true =>
    rw [hb] at hr
    simp only [cond_true,Option.some.injEq] at hr
    subst hr
    simp only [Bool.and_eq_true] at hb
    obtain rfl:=Nat.eq_of_beq_eq_true hb.1
    obtain rfl:=Nat.eq_of_beq_eq_true hb.2
    refine ⟨B.b,B.off + i,by rw [hc]; simp [lk,Nat.add_assoc],fun k m Rl=>?_⟩
    have jF:RO E [X.aR q s' 0 n] cs (B.off + i) []:=by simp only [RO]; exact ⟨u,[],[],z3,Ym,hx,rfl,rfl⟩
    obtain ⟨R₁,h1,_⟩:=RO.drop k jF
    obtain ⟨R₂,h2,_⟩:=RO.take m h1
    obtain ⟨vs,hl,hv,hx⟩:=RO.cells h2
    refine ⟨vs,R₂,by rw [hl]; simp at Rl ⊢; omega,fun j v hj=>?_,hx⟩
    rw [dq hw,<- Nat.add_assoc]
    exact hv j v hj
  ·cases hr
 | _=>simp [rowAt] at hr
end
end Go.AW
namespace Go.AW
open Go
section
variable {P:Program} {N:eZ} {st:St} {dst:Option Nat} {ty:TypeId} {pos:String} {af:Array Edge} {g:Option (Nat × Bool)}
theorem TY.iX{t:TypeId}(h:TY.shape P t = some none)(w:World):(isAgg t).run P w = .ok false w /\ ∃ d,P.underlying t = some d:=by
 unfold TY.shape at h
 cases hu:P.underlying t with
 | none=>simp [hu] at h
 | some d =>
  refine ⟨?_,d,rfl⟩
  rw [hu] at h
  simp only [isAgg,Sem.run_bind,run_underlying hu,Result.andThen_ok]
  cases d <;> first | rfl | (cases hi:P.info? t <;> simp [hi] at h)
theorem TY.nu{t:TypeId}{m:Nat}(h:TY.shape P t = some (some m))(w:World):(isAgg t).run P w = .ok true w /\ (sizeOf t).run P w = .ok m w:=by
 unfold TY.shape at h
 cases hu:P.underlying t with
 | none=>simp [hu] at h
 | some d =>
  cases hi:P.info? t with
  | none=>rw [hu,hi] at h; cases d <;> simp at h
  | some i =>
   rw [hu,hi] at h
   have hs:(sizeOf t).run P w = .ok i.size w:=by simp [sizeOf,typeInfo,hi]
   have ha:∀ d',P.underlying t = some d' -> (match d' with | .struct _ | .array _ _=>true | _=>false) = true -> (isAgg t).run P w = .ok true w:=by
    intro d' Yn hm
    simp only [isAgg,Sem.run_bind,run_underlying Yn,Result.andThen_ok]
    cases d' <;> simp at hm <;> rfl
   cases d <;> simp at h <;> subst h <;> exact ⟨ha _ hu rfl,hs⟩
theorem getElem?_drop_take_one{α:Type}{l:List α}{k:Nat}{x:α}(h:l[k]? = some x):(l.drop k).take 1 = [x]:=by
 have hk:k < l.length:=by
  rcases Nat.lt_or_ge k l.length with h' | h'
  ·exact h'
  ·simp [List.getElem?_eq_none h'] at h
 rw [List.drop_eq_getElem_cons hk]
 simp only [List.take_succ_cons,List.take_zero]
 rw [List.getElem?_eq_getElem hk] at h
 rw [Option.some.inj h]
theorem Y.zb{t : TypeId}{x : Operand}{p y : X}{row : List X}(ht : TY.shape P t = some none)(hx : bW st x = some p)(hr : rowAt st p = some row)(hy : row[lk p]? = some y)(hf : y.free = true) :
  Yields P N st ⟨dst,.load t x,ty,pos,af,g⟩ y:=by
 intro G E RR a _ hi
 obtain ⟨R,hp⟩:=hi.eval hx
 obtain ⟨b,off,hc,iv⟩:=hi.behind hp hr
 have hk:lk p < row.length:=by
  rcases Nat.lt_or_ge (lk p) row.length with h' | h'
  ·exact h'
  ·simp [List.getElem?_eq_none h'] at hy
 obtain ⟨vs,R',hl,hv,gf⟩:=iv (lk p) 1 om
 rw [getElem?_drop_take_one hy] at gf
 simp only [b6] at gf
 obtain ⟨c,dg,R₁,R₂,HA,_,h1,⟨rfl,rfl⟩,rfl⟩:=gf
 subst HA
 have h0:=RX.free hf h1
 subst h0
 refine ⟨c,?_,h1⟩
 show (do let z <- Instr.loadAt t (a.eval x); pure (Next.value z):Sem Next).run P E.w = _
 rw [hc]
 refine dN ?_
 have gJ:=hv 0 c rfl
 simp only [Instr.loadAt,Instr.sureAddr,loadVar,Sem.run_bind,Sem.run_pure,Result.andThen_ok,(TY.iX ht E.w).1]
 simp only [Nat.add_zero] at gJ
 simp [gJ]
theorem Y.zc{t : TypeId}{x : Operand}{p : X}{row : List X}{m : Nat}{ys : List X}(ht : TY.shape P t = some (some m))(hx : bW st x = some p)(hr : rowAt st p = some row)(hm : lk p + m ≤ row.length)
  (zK:(row.drop (lk p)).take m = ys) (hf:X.b5 ys = true):Yields P N st ⟨dst,.load t x,ty,pos,af,g⟩ (.agg ys):=by
 intro G E RR a _ hi
 obtain ⟨R,hp⟩:=hi.eval hx
 obtain ⟨b,off,hc,iv⟩:=hi.behind hp hr
 obtain ⟨vs,R',hl,hv,gf⟩:=iv (lk p) m hm
 rw [zK] at gf
 have h0:=b6.free hf gf
 subst h0
 refine ⟨.agg vs.toArray,?_,by simp only [RX]; exact ⟨_,rfl,gf⟩⟩
 show (do let z <- Instr.loadAt t (a.eval x); pure (Next.value z):Sem Next).run P E.w = _
 rw [hc]
 refine dN ?_
 obtain ⟨h1,h2⟩:=TY.nu ht E.w
 have h3:(loadCells ⟨b,off + lk p,none⟩ m).run P E.w = .ok vs.toArray E.w:=by
  rw [<- hl]
  exact run_loadCells_list (w:=E.w) _ vs fun j v hj=>by rw [iu,Nat.add_assoc]; exact hv j v hj
 simp only [Instr.loadAt,Instr.sureAddr,loadVar,Sem.run_bind,Sem.run_pure,Result.andThen_ok,h1,if_true,h2,h3]
theorem run_sizeOf{t:TypeId}{i:TypeInfo}(h:P.info? t = some i)(w:World):(sizeOf t).run P w = .ok i.size w:=by simp [sizeOf,typeInfo,h]
theorem TY.Bv{t : TypeId}{f off : Nat}{ft : TypeId}(h : TY.jH P t f = some (off, ft))(b o : Nat)(w : World) :
  (Instr.fieldAt t (.pointer (some ⟨b,o,none⟩)) f).run P w = .ok (.pointer (some ⟨b,o + off,none⟩)) w:=by
 unfold TY.jH at h
 cases hu:P.underlying t with
 | none=>simp [hu] at h
 | some d =>
  rw [hu] at h
  cases d with
  | struct fs =>
   simp only at h
   cases hf:fs[f]? with
   | none=>simp [hf] at h
   | some fd =>
    rw [hf] at h
    simp only at h
    cases hi:P.info? fd.type with
    | none=>simp [hi] at h
    | some i =>
     rw [hi] at h
     simp only at h
     cases hz:Nat.beq i.size 0 with
     | true=>simp [hz] at h
     | false =>
      have Yo:i.size ≠ 0:=Nat.ne_of_beq_eq_false hz
      rw [hz] at h
      simp only [cond_false,Option.some.injEq,Prod.mk.injEq] at h
      simp only [Instr.fieldAt,Sem.run_bind,run_underlying hu,Result.andThen_ok,hf,Instr.sureAddr,Sem.run_pure,fieldPlace,run_sizeOf hi,Yo,if_false,iu,h.1]
  | _=>simp at h
def X.on(n : Nat) : X → Option X
 | .fp row k=>some (.fp row (k + n))
 | .ptr o s i k=>some (.ptr o s i (k + n))
 | _=>none
theorem RX.on{E:Env}{p q:X}{n:Nat}{c:Value}{R:List Nat}(hq:p.on n = some q)(h:RX E p c R):∃ b off,c = .pointer (some ⟨b,off,none⟩) /\ RX E q (.pointer (some ⟨b,off + n,none⟩)) []:=by
 cases p with
 | fp row k =>
  simp only [X.on,Option.some.injEq] at hq
  subst hq
  simp only [RX] at h ⊢
  obtain ⟨_,b,off,hc,hf⟩:=h
  exact ⟨b,_,hc,trivial,b,off,by rw [Nat.add_assoc],hf⟩
 | ptr o s i k =>
  simp only [X.on,Option.some.injEq] at hq
  subst hq
  simp only [RX] at h ⊢
  obtain ⟨_,B,hB,hc⟩:=h
  exact ⟨_,_,hc,trivial,B,hB,by simp only [Nat.add_assoc]⟩
 | _=>simp [X.on] at hq
theorem Y.qp{t : TypeId}{x : Operand}{p q : X}{f off : Nat}{ft : TypeId}(ht : TY.jH P t f = some (off, ft))(hx : bW st x = some p)(hq : p.on off = some q) :
  Yields P N st ⟨dst,.fieldAddr t x f,ty,pos,af,g⟩ q:=by
 intro G E RR a _ hi
 obtain ⟨R,hp⟩:=hi.eval hx
 obtain ⟨b,o,hc,h⟩:=hp.on hq
 refine ⟨_,?_,h⟩
 show (do let z <- Instr.fieldAt t (a.eval x) f; pure (Next.value z):Sem Next).run P E.w = _
 rw [hc]
 exact dN (TY.Bv ht b o E.w)
theorem TY.dP{t e s dJ:Nat}(h:TY.slice P t = some (e,s,dJ)):P.underlying t = some (.slice e) /\ ∃ i,P.info? e = some i /\ i.size = s /\ i.bytes = dJ:=by
 unfold TY.slice at h
 split at h
 ·rename_i e' hu
  cases hi:P.info? e' with
  | none=>simp [hi] at h
  | some i =>
   simp only [hi,Option.map_some,Option.some.injEq,Prod.mk.injEq] at h
   obtain ⟨rfl,h2,h3⟩:=h
   exact ⟨hu,i,hi,h2,h3⟩
 ·cases h
theorem TY.nv{t n e s:Nat}(h:TY.array P t = some (n,e,s)):P.underlying t = some (.array n e) /\ ∃ i,P.info? e = some i /\ i.size = s:=by
 unfold TY.array at h
 split at h
 ·rename_i n' e' hu
  cases hi:P.info? e' with
  | none=>simp [hi] at h
  | some i =>
   simp only [hi,Option.map_some,Option.some.injEq,Prod.mk.injEq] at h
   obtain ⟨rfl,rfl,h3⟩:=h
   exact ⟨hu,i,hi,h3⟩
 ·cases h
theorem lP{t e s dJ : Nat}(ht : TY.slice P t = some (e, s, dJ)){b off len cap m : Nat}{k : IntKind}{n : Int}(hn : n = (m : Int))(hm : m < len)(w : World) :
  (Instr.indexAt t (.slice (some ⟨b,off,none⟩) len cap) (.int k n)).run P w = .ok (.pointer (some ⟨b,off + m * s,none⟩)) w:=by
 obtain ⟨hu,i,hi,hs,_⟩:=TY.dP ht
 subst hn
 simp [Instr.indexAt,asIntOf,run_underlying hu,hm,run_sizeOf hi,hs,iu]
theorem Y.qt{t e s dJ : Nat}{x ix : Operand}{rows : List (List X)}{row : List X}{k : IntKind}{n : Int}{m : Nat}(ht : TY.slice P t = some (e, s, dJ))(hx : bW st x = some (.fz s rows))
  (x4:bW st ix = some (.v (.int k n))) (hn:n = (m:Int)) (hr:rows[m]? = some row):Yields P N st ⟨dst,.indexAddr t x ix,ty,pos,af,g⟩ (.fp row 0):=by
 intro G E RR a _ hi
 obtain ⟨R,hp⟩:=hi.eval hx
 have hm:m < rows.length:=by
  rcases Nat.lt_or_ge m rows.length with h' | h'
  ·exact h'
  ·simp [List.getElem?_eq_none h'] at hr
 simp only [RX] at hp
 obtain ⟨_,hu,base,cap,hc,h⟩:=hp
 rcases h with ⟨h,_⟩ | ⟨b,off,rfl,hl,hf⟩
 ·subst h; simp at hr
 ·refine ⟨.pointer (some ⟨b,off + m * s,none⟩),?_,?_⟩
  ·show (do let z <- Instr.indexAt t (a.eval x) (a.eval ix); pure (Next.value z):Sem Next).run P E.w = _
   rw [hc,hi.val x4]
   exact dN (lP ht hn hm E.w)
  ·simp only [RX]
   exact ⟨trivial,b,off + m * s,rfl,kD.get hu hf hr⟩
theorem Y.qu{t e s dJ : Nat}{x ix : Operand}{o lo len : Nat}{k : IntKind}{n : Int}{m : Nat}(ht : TY.slice P t = some (e, s, dJ))(hx : bW st x = some (.aR o s lo len))
  (x4:bW st ix = some (.v (.int k n))) (hn:n = (m:Int)) (hm:m < len):Yields P N st ⟨dst,.indexAddr t x ix,ty,pos,af,g⟩ (.ptr o s (lo + m) 0):=by
 intro G E RR a _ hi
 obtain ⟨R,hp⟩:=hi.eval hx
 simp only [RX] at hp
 obtain ⟨_,base,cap,hc,h⟩:=hp
 rcases h with ⟨_,_,h,_⟩ | ⟨B,hB,_,hl,hb⟩
 ·omega
 ·have gY:base = some ⟨B.b,B.off + lo * s,none⟩:=hb.resolve_left om
  subst gY
  refine ⟨.pointer (some ⟨B.b,B.off + lo * s + m * s,none⟩),?_,?_⟩
  ·show (do let z <- Instr.indexAt t (a.eval x) (a.eval ix); pure (Next.value z):Sem Next).run P E.w = _
   rw [hc,hi.val x4]
   exact dN (lP ht hn hm E.w)
  ·simp only [RX]
   exact ⟨trivial,B,hB,by rw [Nat.add_mul]; simp [Nat.add_assoc]⟩
theorem Y.qv{t len e s : Nat}{x ix : Operand}{p q : X}{k : IntKind}{n : Int}{m : Nat}(ht : TY.array P t = some (len, e, s))(hx : bW st x = some p)
  (x4:bW st ix = some (.v (.int k n))) (hn:n = (m:Int)) (hm:m < len) (hq:p.on (m * s) = some q):Yields P N st ⟨dst,.indexAddr t x ix,ty,pos,af,g⟩ q:=by
 intro G E RR a _ hi
 obtain ⟨R,hp⟩:=hi.eval hx
 obtain ⟨b,o,hc,h⟩:=hp.on hq
 refine ⟨_,?_,h⟩
 show (do let z <- Instr.indexAt t (a.eval x) (a.eval ix); pure (Next.value z):Sem Next).run P E.w = _
 rw [hc,hi.val x4]
 refine dN ?_
 obtain ⟨hu,i,ia,hs⟩:=TY.nv ht
 subst hn
 simp [Instr.indexAt,Instr.sureAddr,asIntOf,run_underlying hu,hm,run_sizeOf ia,hs,iu]
theorem b6.get{E : Env} : ∀ {xs : List X} {cs : List Value} {R : List Nat} {k : Nat} {x : X}, b6 E xs cs R → xs[k]? = some x → ∃ u R₁, cs[k]? = some u ∧ jK u ∧ RX E x u R₁
 | [],_,_,_,_,_,h=>by simp at h
 | y :: r,cs,R,0,x,h,hx=>by
  simp only [b6] at h
  simp only [List.getElem?_cons_zero,Option.some.injEq] at hx
  subst hx
  obtain ⟨c,dg,R₁,R₂,rfl,hs,h1,_,_⟩:=h
  exact ⟨c,R₁,rfl,hs,h1⟩
 | y :: r,cs,R,k + 1,x,h,hx=>by
  simp only [b6] at h
  obtain ⟨c,dg,R₁,R₂,rfl,_,_,h2,_⟩:=h
  obtain ⟨u,R₃,hu,hs,h3⟩:=b6.get (k:=k) h2 (by simpa using hx)
  exact ⟨u,R₃,by simpa using hu,hs,h3⟩
theorem b6.length{E : Env} : ∀ {xs : List X} {cs : List Value} {R : List Nat}, b6 E xs cs R → cs.length = xs.length
 | [],_,_,h=>by simp only [b6] at h; rw [h.1]; rfl
 | x :: r,_,_,h=>by
  simp only [b6] at h
  obtain ⟨c,dg,R₁,R₂,rfl,_,_,h2,_⟩:=h
  simp [b6.length h2]
theorem b6.drop{E : Env} : ∀ {xs : List X} {cs : List Value} {R : List Nat} (k : Nat), b6 E xs cs R → ∃ R', b6 E (xs.drop k) (cs.drop k) R'
 | [],cs,R,k,h=>by simp only [b6] at h; exact ⟨[],by simp [b6,h.1]⟩
 | y :: r,cs,R,0,h=>⟨R,h⟩
 | y :: r,cs,R,k + 1,h=>by
  simp only [b6] at h
  obtain ⟨c,dg,R₁,R₂,rfl,_,_,h2,_⟩:=h
  simpa using b6.drop k h2
theorem b6.take{E : Env} : ∀ {xs : List X} {cs : List Value} {R : List Nat} (k : Nat), b6 E xs cs R → ∃ R', b6 E (xs.take k) (cs.take k) R'
 | [],cs,R,k,h=>by simp only [b6] at h; exact ⟨[],by simp [b6,h.1]⟩
 | y :: r,cs,R,0,h=>⟨[],by simp [b6]⟩
 | y :: r,cs,R,k + 1,h=>by
  simp only [b6] at h
  obtain ⟨c,dg,R₁,R₂,rfl,hs,h1,h2,_⟩:=h
  obtain ⟨R',h'⟩:=b6.take k h2
  exact ⟨R₁ ++ R',by simp only [List.take_succ_cons,b6]; exact ⟨c,_,R₁,R',rfl,hs,h1,h',rfl⟩⟩
theorem CF{t:TypeId}{cs:Array Value}{off:Nat}{u:Value}(ht:TY.shape P t = some none)(hu:cs[off]? = some u)(w:World):(part t cs off).run P w = .ok u w:=by
 simp only [part,Sem.run_bind,(TY.iX ht w).1,Result.andThen_ok,hu]; rfl
theorem Y.qs{t len e : Nat}{x ix : Operand}{xs : List X}{y : X}{k : IntKind}{n : Int}{m : Nat}(ht : TY.array P t = some (len, e, 1))(hs : TY.shape P e = some none)(hx : bW st x = some (.agg xs))
  (x4:bW st ix = some (.v (.int k n))) (hn:n = (m:Int)) (hm:m < len) (hy:xs[m]? = some y) (hf:y.free = true):Yields P N st ⟨dst,.index t x ix,ty,pos,af,g⟩ y:=by
 intro G E RR a _ hi
 obtain ⟨R,hp⟩:=hi.eval hx
 simp only [RX] at hp
 obtain ⟨cs,hc,gf⟩:=hp
 obtain ⟨u,R₁,hu,_,h1⟩:=b6.get gf hy
 have h0:=RX.free hf h1
 subst h0
 refine ⟨u,?_,h1⟩
 show (do let z <- Instr.index t (a.eval x) (a.eval ix); pure (Next.value z):Sem Next).run P E.w = _
 rw [hc,hi.val x4]
 refine dN ?_
 obtain ⟨z4,i,ia,fB⟩:=TY.nv ht
 subst hn
 have Kr:(0:Int) <= (m:Int) /\ (m:Int) < (len:Int):=by omega
 have CG:cs[m]? = some u:=by simpa using hu
 simp only [Instr.index,Sem.run_bind,asIntOf,Sem.run_pure,Result.andThen_ok,run_underlying z4,Kr,and_self,if_true,run_sizeOf ia,fB,Int.toNat_natCast,Nat.mul_one]
 exact CF hs CG E.w
theorem Y.qw{t : TypeId}{x ix : Operand}{b : ByteArray}{k : IntKind}{n : Int}{m : Nat}(ht : P.underlying t = some .string)(hx : bW st x = some (.v (.string b)))
  (x4:bW st ix = some (.v (.int k n))) (hn:n = (m:Int)) (hm:m < b.size):Yields P N st ⟨dst,.index t x ix,ty,pos,af,g⟩ (.v (.int .u8 (b[m].toNat:Int))):=by
 intro G E RR a _ hi
 refine ⟨.int .u8 (b[m].toNat:Int),?_,by simp [RX]⟩
 show (do let z <- Instr.index t (a.eval x) (a.eval ix); pure (Next.value z):Sem Next).run P E.w = _
 rw [hi.val hx,hi.val x4]
 refine dN ?_
 subst hn
 have h0:(0:Int) <= (m:Int):=by omega
 simp [Instr.index,asIntOf,run_underlying ht,h0,getElem?_pos b m hm]
end
end Go.AW
namespace Go.AW
open Go
section
variable {P:Program} {N:eZ} {st:St} {dst:Option Nat} {ty:TypeId} {pos:String} {af:Array Edge} {g:Option (Nat × Bool)}
theorem jg{b : Builtin}{args : Array Operand}{o6 : Array TypeId}{a : Act}{w w' : World}{r : Next}
  (h:(builtin b o6 ty (args.map fun | .const _=>true | _=>false) (args.map a.eval)).run P w = .ok r w') :
  (execOp a.eval ⟨dst,.call ⟨.builtin b,args,o6⟩,ty,pos,af,g⟩).run P w = .ok r w':=h
def X.len : X → Option Nat
 | .fz _ rows=>some rows.length
 | .dn _ rows=>some rows.length
 | .aR _ _ _ n=>some n
 | .v (.slice none n _)=>some n
 | _=>none
theorem RX.len{E:Env}{x:X}{c:Value}{R:List Nat}{n:Nat}(hn:x.len = some n)(h:RX E x c R):∃ base cap,c = .slice base n cap:=by
 cases x with
 | fz s rows =>
  simp only [X.len,Option.some.injEq] at hn; subst hn
  simp only [RX] at h
  obtain ⟨_,_,base,cap,hc,_⟩:=h
  exact ⟨base,cap,hc⟩
 | dn s rows =>
  simp only [X.len,Option.some.injEq] at hn; subst hn
  simp only [RX] at h
  obtain ⟨_,base,cap,hc,_⟩:=h
  exact ⟨base,cap,hc⟩
 | aR o s lo m =>
  simp only [X.len,Option.some.injEq] at hn; subst hn
  simp only [RX] at h
  obtain ⟨_,base,cap,hc,_⟩:=h
  exact ⟨base,cap,hc⟩
 | v u =>
  simp only [RX] at h
  cases u with
  | slice b m c' =>
   cases b with
   | none=>simp only [X.len,Option.some.injEq] at hn; subst hn; exact ⟨none,c',h.1⟩
   | some b=>simp [X.len] at hn
  | _=>simp [X.len] at hn
 | _=>simp [X.len] at hn
theorem Y.qy{t e s dJ : Nat}{x : Operand}{y : X}{n : Nat}(ht : TY.slice P t = some (e, s, dJ))(hx : bW st x = some y)(hn : y.len = some n) :
  Yields P N st ⟨dst,.call ⟨.builtin .len,#[x],#[t]⟩,ty,pos,af,g⟩ (.v (.int .i64 (n:Int))):=by
 intro G E RR a _ hi
 obtain ⟨R,hp⟩:=hi.eval hx
 obtain ⟨base,cap,hc⟩:=hp.len hn
 refine ⟨.int .i64 (n:Int),jg ?_,by simp [RX]⟩
 obtain ⟨hu,_⟩:=TY.dP ht
 simp [builtin,Builtin.len_,hc,run_underlying hu,goInt]
theorem Y.qz{t : TypeId}{x : Operand}{b : ByteArray}(ht : P.underlying t = some .string)(hx : bW st x = some (.v (.string b))) :
  Yields P N st ⟨dst,.call ⟨.builtin .len,#[x],#[t]⟩,ty,pos,af,g⟩ (.v (.int .i64 (b.size:Int))):=by
 intro G E RR a _ hi
 refine ⟨.int .i64 (b.size:Int),jg ?_,by simp [RX]⟩
 have hc:=hi.val hx
 simp [builtin,Builtin.len_,hc,run_underlying ht,goInt]
def bound(st : St)(d : Nat) : Option Operand → Option Nat → Prop
 | none,m=>m = none \/ m = some d
 | some x,some m=>∃ k,bW st x = some (.v (.int k (m:Int)))
 | some _,none=>False
theorem run_sliceBound{k:IntKind}{m y:Nat}{code:BoundsCode}(h:m <= y)(w:World):(Instr.sliceBound (.int k (m:Int)) y code).run P w = .ok m w:=by
 have h1:(0:Int) <= (m:Int) /\ (m:Int) <= (y:Int):=by omega
 simp only [Instr.sliceBound,asIntOf,Sem.run_bind,Sem.run_pure,Result.andThen_ok,h1,and_self,if_true,Int.toNat_natCast]
inductive Bd (st:St):Option Operand -> Nat -> Nat -> Prop where
 | none (d:Nat):Bd st none d d
 | some {x:Operand} {k:IntKind} {m d:Nat} (h:bW st x = some (.v (.int k (m:Int)))):Bd st (some x) d m
theorem iT{G : Ctx}{E : Env}{RR : Own → List Nat}{a : Act}(hi : Inv G E RR st a){lo im : Option Operand}{len cap l h : Nat}
  (hl:Bd st lo 0 l) (hh:Bd st im len h) (h1:l <= h) (h2:h <= cap) (Yp:Bool) (w:World) :
  (Instr.sliceBounds Yp len cap (lo.map a.eval) (im.map a.eval) none).run P w = .ok (l,h,cap) w:=by
 cases hl with
 | none =>
  cases hh with
  | none=>simp [Instr.sliceBounds]
  | some hx=>simp [Instr.sliceBounds,hi.val hx,run_sliceBound h2]
 | some hy =>
  cases hh with
  | none=>simp [Instr.sliceBounds,hi.val hy,run_sliceBound h1]
  | some hx=>simp [Instr.sliceBounds,hi.val hx,hi.val hy,run_sliceBound h1,run_sliceBound h2]
theorem Y.zy{t e s dJ : Nat}{x : Operand}{lo im : Option Operand}{rows : List (List X)}{l h : Nat}{kL : List (List X)}(ht : TY.slice P t = some (e, s, dJ))(hx : bW st x = some (.fz s rows))
  (hl:Bd st lo 0 l) (hh:Bd st im rows.length h) (h1:l <= h) (h2:h <= rows.length) (hr:(rows.take h).drop l = kL) :
  Yields P N st ⟨dst,.slice t x lo im none,ty,pos,af,g⟩ (.fz s kL):=by
 intro G E RR a _ hi
 obtain ⟨R,hp⟩:=hi.eval hx
 simp only [RX] at hp
 obtain ⟨_,hu,base,cap,hc,cX⟩:=hp
 obtain ⟨z4,i,ia,fB,_⟩:=TY.dP ht
 subst hr
 have kS:h <= cap:=by
  rcases cX with ⟨h',lN⟩ | ⟨_,_,_,x5,_⟩
  ·subst h'; simp at h2; omega
  ·omega
 refine ⟨.slice (if cap = l then base else base.map (·.add (l * s))) (h - l) (cap - l),?_,?_⟩
 ·show (do let z <- Instr.sliceAt t (a.eval x) (lo.map a.eval) (im.map a.eval) none; pure (Next.value z):Sem Next).run P E.w = _
  rw [hc]
  refine dN ?_
  simp only [Instr.sliceAt,Sem.run_bind,run_underlying z4,Result.andThen_ok,Instr.slice,iT hi hl hh h1 kS,run_sizeOf ia,fB]
  rfl
 ·have hlen:((rows.take h).drop l).length = h - l:=by simp; omega
  simp only [RX,hlen]
  refine ⟨trivial,(hu.take h).drop l,_,_,rfl,?_⟩
  rcases cX with ⟨h',lN⟩ | ⟨b,off,hb,x5,hf⟩
  ·exact .inl ⟨by subst h'; simp,om⟩
  ·refine .inr ?_
   subst hb
   by_cases z5:cap = l
   ·refine ⟨b,off,by rw [if_pos z5],om,?_⟩
    have:(rows.take h).drop l = []:=by
     apply List.eq_nil_of_length_eq_zero
     rw [hlen]; omega
    rw [this]; simp [kD]
   ·refine ⟨b,off + l * s,by rw [if_neg z5]; simp [iu],om,?_⟩
    exact kD.drop l (hu.take h) (by simp; omega) (hf.take h)
theorem Y.wa{t e s dJ : Nat}{x : Operand}{lo im : Option Operand}{o WJ n l h : Nat}(ht : TY.slice P t = some (e, s, dJ))(hx : bW st x = some (.aR o s WJ n))
  (hl:Bd st lo 0 l) (hh:Bd st im n h) (h1:l <= h) (h2:h <= n):Yields P N st ⟨dst,.slice t x lo im none,ty,pos,af,g⟩ (.aR o s (WJ + l) (h - l)):=by
 intro G E RR a _ hi
 obtain ⟨R,hp⟩:=hi.eval hx
 simp only [RX] at hp
 obtain ⟨_,base,cap,hc,cX⟩:=hp
 obtain ⟨z4,i,ia,fB,_⟩:=TY.dP ht
 have kS:h <= cap:=by
  rcases cX with ⟨_,_,h',_⟩ | ⟨_,_,_,h',_⟩ <;> omega
 refine ⟨.slice (if cap = l then base else base.map (·.add (l * s))) (h - l) (cap - l),?_,?_⟩
 ·show (do let z <- Instr.sliceAt t (a.eval x) (lo.map a.eval) (im.map a.eval) none; pure (Next.value z):Sem Next).run P E.w = _
  rw [hc]
  refine dN ?_
  simp only [Instr.sliceAt,Sem.run_bind,run_underlying z4,Result.andThen_ok,Instr.slice,iT hi hl hh h1 kS,run_sizeOf ia,fB]
  rfl
 ·simp only [RX]
  refine ⟨trivial,_,_,rfl,?_⟩
  rcases cX with ⟨hβ,zL,hn,lN⟩ | ⟨B,hβ,Nu,hn,hb⟩
  ·exact .inl ⟨hβ,om,om,om⟩
  ·refine .inr ⟨B,hβ,om,om,?_⟩
   by_cases z5:cap = l
   ·left; omega
   ·right
    have:=hb.resolve_left om
    rw [if_neg z5,this]
    simp only [Option.map_some,iu,Nat.add_mul,Nat.add_assoc]
theorem eC.get{E : Env} : ∀ {xs : List X} {cs : List Value} {R : List Nat} {k : Nat} {x : X}, eC E xs cs R → xs[k]? = some x → ∃ u R₁, cs[k]? = some u ∧ RX E x u R₁
 | [],_,_,_,_,_,h=>by simp at h
 | y :: r,cs,R,0,x,h,hx=>by
  simp only [eC] at h
  simp only [List.getElem?_cons_zero,Option.some.injEq] at hx
  subst hx
  obtain ⟨c,dg,R₁,R₂,rfl,h1,_,_⟩:=h
  exact ⟨c,R₁,rfl,h1⟩
 | y :: r,cs,R,k + 1,x,h,hx=>by
  simp only [eC] at h
  obtain ⟨c,dg,R₁,R₂,rfl,_,h2,_⟩:=h
  obtain ⟨u,R₃,hu,h3⟩:=eC.get (k:=k) h2 (by simpa using hx)
  exact ⟨u,R₃,by simpa using hu,h3⟩
theorem Y.qo{x:Operand}{xs:List X}{y:X}{k:Nat}(hx:bW st x = some (.tup xs))(hy:xs[k]? = some y)(hf:y.free = true):Yields P N st ⟨dst,.extract x k,ty,pos,af,g⟩ y:=by
 intro G E RR a _ hi
 obtain ⟨R,hp⟩:=hi.eval hx
 simp only [RX] at hp
 obtain ⟨cs,hc,gf⟩:=hp
 obtain ⟨u,R₁,hu,h1⟩:=eC.get gf hy
 have h0:=RX.free hf h1
 subst h0
 refine ⟨u,?_,h1⟩
 show (do let z <- Instr.extract (a.eval x) k; pure (Next.value z):Sem Next).run P E.w = _
 rw [hc]
 refine dN ?_
 have CG:cs[k]? = some u:=by simpa using hu
 simp only [Instr.extract,CG]; rfl
theorem Y.zm{x:Operand}{p q:X}(hx:bW st x = some p)(hq:p.on 0 = some q):Yields P N st ⟨dst,.nilCheck x,ty,pos,af,g⟩ q:=by
 intro G E RR a _ hi
 obtain ⟨R,hp⟩:=hi.eval hx
 obtain ⟨b,off,hc,h⟩:=hp.on hq
 refine ⟨_,?_,h⟩
 simp only [execOp,hc]; rfl
def X.one : X → Bool
 | .v (.agg _) | .v (.tuple _)=>false
 | .v _ | .fz .. | .dn .. | .ptr .. | .aR .. | .mref _ | .fp .. | .jv ..=>true
 | .no | .agg _ | .tup _=>false
theorem RX.one{E:Env}{x:X}{c:Value}{R:List Nat}(ho:x.one = true)(h:RX E x c R):jK c:=by
 cases x with
 | v u =>
  simp only [RX] at h
  rw [h.1]
  cases u <;> first | trivial | (simp [X.one] at ho)
 | fz s rows=>simp only [RX] at h; obtain ⟨_,_,_,_,rfl,_⟩:=h; trivial
 | dn s rows=>simp only [RX] at h; obtain ⟨_,_,_,rfl,_⟩:=h; trivial
 | ptr o s i k=>simp only [RX] at h; obtain ⟨_,_,_,rfl⟩:=h; trivial
 | aR o s lo n=>simp only [RX] at h; obtain ⟨_,_,_,rfl,_⟩:=h; trivial
 | mref o=>simp only [RX] at h; obtain ⟨_,_,_,rfl⟩:=h; trivial
 | fp row k=>simp only [RX] at h; obtain ⟨_,_,_,rfl,_⟩:=h; trivial
 | jv fn f c=>simp only [RX] at h; obtain ⟨_,_,_,rfl,_⟩:=h; trivial
 | _=>simp [X.one] at ho
def X.flat : X → Option (List X)
 | .agg xs=>some xs
 | x=>bif x.one then some [x] else none
theorem wi{c:Value}(h:jK c):c.cells = #[c]:=by
 cases c <;> first | rfl | exact h.elim
theorem RX.flat{E:Env}{x:X}{c:Value}{R:List Nat}{ys:List X}(hf:x.flat = some ys)(h:RX E x c R):b6 E ys c.cells.toList R:=by
 by_cases hx:∃ xs,x = .agg xs
 ·obtain ⟨xs,rfl⟩:=hx
  simp only [X.flat,Option.some.injEq] at hf
  subst hf
  simp only [RX] at h
  obtain ⟨cs,rfl,h⟩:=h
  exact h
 ·have h1:x.one = true /\ ys = [x]:=by
   unfold X.flat at hf
   split at hf
   ·exact absurd ⟨_,rfl⟩ hx
   ·cases ho:x.one with
    | false=>simp [ho] at hf
    | true=>simp [ho] at hf; exact ⟨rfl,hf.symm⟩
  obtain ⟨ho,rfl⟩:=h1
  have hs:=h.one ho
  rw [wi hs]
  simp only [b6]
  exact ⟨c,[],R,[],rfl,hs,h,⟨rfl,rfl⟩,by simp⟩
end
end Go.AW
namespace Go.AW
open Go
theorem dh.mono{E E':Env}{o:Nat}{ob:Obj}{R:List Nat}(hE:E.On E' R)(ho:E'.β o = E.β o)(hm:∀ q,ob.cw q = true -> E'.β q = E.β q)(h:dh E o ob R):dh E' o ob R:=by
 cases ob with
 | cells xs =>
  simp only [dh] at h ⊢
  obtain ⟨tw,B,cs,ty,hB,hw,hf,hl,hR,rfl⟩:=h
  have h2:=hE.2 B.b (by simp)
  exact ⟨tw,B,cs,ty,ho.trans hB,h2.1.trans hw,h2.2 hf,hl,RO.mono xs cs _ [] (hE.sub (fun _ h=>by cases h)) hm hR,rfl⟩
 | rows s rs =>
  simp only [dh] at h ⊢
  obtain ⟨hu,h⟩:=h
  refine ⟨hu,?_⟩
  rcases h with ⟨h1,h2,h3⟩ | ⟨B,cs,ty,R',hB,hw,hf,hl,hc,hR,rfl⟩
  ·exact .inl ⟨ho.trans h1,h2,h3⟩
  ·have h2:=hE.2 B.b (by simp)
   exact .inr ⟨B,cs,ty,R',ho.trans hB,h2.1.trans hw,h2.2 hf,hl,hc,cE.mono rs cs _ R' (hE.sub (fun _ h=>by simp [h])) hR,rfl⟩
 | xy es =>
  simp only [dh] at h ⊢
  obtain ⟨B,sd,clock,hB,hw,hf,he,rfl⟩:=h
  have h2:=hE.2 B.b (by simp)
  exact ⟨B,sd,clock,ho.trans hB,h2.1.trans hw,h2.2 hf,he,rfl⟩
 | gone=>simpa [dh] using h
 | hole rs i q s n =>
  simp only [dh] at h ⊢
  obtain ⟨hu,B,cs,ty,R',u,hB,hw,hf,hl,hc,hR,rfl,hi,z3,hs,hx⟩:=h
  have h2:=hE.2 B.b (by simp)
  exact ⟨hu, B, cs, ty, R', u, ho.trans hB, h2.1.trans hw, h2.2 hf, hl, hc, cE.mono rs cs _ R' (hE.sub (fun _ h => by simp [h])) hR, rfl, hi, z3, hs,
   RX.mono _ u [] (hE.sub (fun _ h=>by cases h)) (fun p hp=>hm p hp) hx⟩
structure di(G:Ctx)(E E':Env)(T:Nat -> Prop):Prop where
 φ:E'.φ = E.φ
 free:∀ b,T b -> ∀ i,E.φ b i = none
 out:∀ b,T b -> ¬ G.K b
 same:∀ b,b < E.w.heap.size -> ¬ T b -> E'.w.heap[b]? = E.w.heap[b]?
 size:E.w.heap.size <= E'.w.heap.size
 os:E'.w.os = E.w.os
 tape:E'.w.tape = E.w.tape
 output:E'.w.output = E.w.output
section
variable {G:Ctx} {E E':Env} {RR:Own -> List Nat} {st:St} {a:Act} {T:Nat -> Prop}
theorem di.on(hm:di G E E' T)(hi:Inv G E RR st a){p:Own}(hT:∀ b ∈ RR p,¬ T b):E.On E' (RR p) :=
 ⟨fun b i v h=>by rw [hm.φ]; exact h,fun b hb=>⟨hm.same b (hi.own p b hb).1 (hT b hb),fun h=>by rw [hm.φ]; exact h⟩⟩
theorem di.lh(hm:di G E E' T)(hi:Inv G E RR st a):∀ b i v,E'.φ b i = some v -> E'.w.cell? ⟨b,i,none⟩ = some v:=by
 intro b i v h
 rw [hm.φ] at h
 have h0:=hi.lh b i v h
 have gG:=World.block_lt_of_cell? E.w _ h0
 have hT:¬ T b:=fun hT=>by rw [hm.free b hT i] at h; cases h
 have:=hm.same b gG hT
 rw [World.cell?_of_block this]; exact h0
theorem di.ai(hm:di G E E' T)(hi:Inv G E RR st a):∀ b,G.K b -> E'.w.heap[b]? = G.w0.heap[b]?:=by
 intro b hK
 have gG:b < E.w.heap.size:=Nat.lt_of_lt_of_le (hi.small b hK) hi.size
 rw [hm.same b gG (fun hT=>hm.out b hT hK)]
 exact hi.ai b hK
theorem di.slot(hm : di G E E' T)(hi : Inv G E RR st a){s : Nat}{x : X}(hx : look st.aC s = some x)(hT : ∀ b ∈ RR (.slot s), ¬ T b)(hβ : ∀ o, x.e6 o = true → E'.β o = E.β o) :
  RX E' x (a.tmps.getD s undef) (RR (.slot s)) :=
 RX.mono x _ _ (hm.on hi hT) hβ (hi.aC s x hx)
theorem di.obj(hm : di G E E' T)(hi : Inv G E RR st a){o : Nat}{ob : Obj}(hx : look st.aD o = some ob)(hT : ∀ b ∈ RR (.obj o), ¬ T b)(ho : E'.β o = E.β o)
  (hβ:∀ q,ob.cw q = true -> E'.β q = E.β q):dh E' o ob (RR (.obj o)) :=
 dh.mono (hm.on hi hT) ho hβ (hi.aD o ob hx)
theorem di.own(hm:di G E E' T)(hi:Inv G E RR st a):∀ p b,b ∈ RR p -> b < E'.w.heap.size /\ ¬ G.K b :=
 fun p b hb=>⟨Nat.lt_of_lt_of_le (hi.own p b hb).1 hm.size,(hi.own p b hb).2⟩
theorem Inv.Bw(hi:Inv G E RR st a)(hm:di G E E' (fun _=>False))(hβ:E'.β = E.β):Inv G E' RR st a :=
 {hi with
  lh:=hm.lh hi
  aC:=fun s x hx=>hm.slot hi hx (fun _ _ h=>h) (fun o _=>by rw [hβ])
  aD:=fun o ob ho=>hm.obj hi ho (fun _ _ h=>h) (by rw [hβ]) (fun _ _=>by rw [hβ])
  own:=hm.own hi
  ai:=hm.ai hi
  size:=Nat.le_trans hi.size hm.size
  os:=hm.os.trans hi.os
  tape:=hm.tape.trans hi.tape
  output:=hm.output.trans hi.output
  φ0:=fun b i v h=>by rw [hm.φ]; exact hi.φ0 b i v h
  grow:=fun b i v h=>by rw [hm.φ] at h; exact hi.grow b i v h
  fixed:=fun o h=>by rw [hβ]; exact hi.fixed o h }
theorem di.alloc(G:Ctx)(E:Env)(o:Go.Obj):di G E { E with w:=E.w.alloc o } (fun _=>False) where
 φ:=rfl
 free:=fun _ h=>h.elim
 out:=fun _ h=>h.elim
 same:=fun b hb _=>by
  show (E.w.heap.push o)[b]? = _
  rw [Array.getElem?_push,if_neg om]
 size:=by simp
 os:=rfl
 tape:=rfl
 output:=rfl
theorem di.drew(G:Ctx)(E:Env):di G E { E with w:=E.w.drew } (fun _=>False) where
 φ:=rfl
 free:=fun _ h=>h.elim
 out:=fun _ h=>h.elim
 same:=fun _ _ _=>rfl
 size:=Nat.le_refl _
 os:=rfl
 tape:=rfl
 output:=rfl
theorem di.trans{lQ:Env}{T':Nat -> Prop}(h:di G E E' T)(h':di G E' lQ T')(dG:∀ b,T' b -> T b \/ (E.w.heap.size <= b)):di G E lQ T where
 φ:=h'.φ.trans h.φ
 free:=h.free
 out:=h.out
 same:=fun b hb hT=>by
  have h1:=h.same b hb hT
  rw [<- h1]
  refine h'.same b (Nat.lt_of_lt_of_le hb h.size) (fun Yq=>?_)
  rcases dG b Yq with h2 | h2
  ·exact hT h2
  ·omega
 size:=Nat.le_trans h.size h'.size
 os:=h'.os.trans h.os
 tape:=h'.tape.trans h.tape
 output:=h'.output.trans h.output
theorem di.setRow(G:Ctx)(E:Env)(b:Nat)(cs:Array Value)(hf:∀ i,E.φ b i = none)(hK:¬ G.K b):di G E { E with w:=E.w.setRow b cs } (fun c=>c = b) where
 φ:=rfl
 free:=fun c h=>by subst h; exact hf
 out:=fun c h=>by subst h; exact hK
 same:=fun c _ h=>setRow_other E.w b c cs h
 size:=by simp
 os:=rfl
 tape:=rfl
 output:=rfl
theorem Inv.relabel(hi : Inv G E RR st a){d : Nat}{x : X}{R : List Nat}(hx : RX E x (a.tmps.getD d undef) R)(hn : R.Nodup)
  (hR:∀ b ∈ R,b < E.w.heap.size /\ ¬ G.K b /\ ∀ p,p ≠ .slot d -> b ∉ RR p):Inv G E (fA RR (.slot d) R) (st.put d x) a:=by
 refine { hi with aC:=?_,aD:=?_,nodup:=?_,apart:=?_,own:=?_ }
 ·intro s y hy
  simp only [St.put,look] at hy
  cases hb:Nat.beq d s with
  | true =>
   have:=Nat.eq_of_beq_eq_true hb
   subst this
   rw [hb] at hy
   simp only [cond_true,Option.some.injEq] at hy
   subst hy
   simpa [fA] using hx
  | false =>
   have fb:=Nat.ne_of_beq_eq_false hb
   rw [hb] at hy
   have:fA RR (.slot d) R (.slot s) = RR (.slot s):=by simp [fA,Ne.symm fb]
   rw [this]
   exact hi.aC s y hy
 ·intro o ob ho
  have:fA RR (.slot d) R (.obj o) = RR (.obj o):=by simp [fA]
  rw [this]; exact hi.aD o ob ho
 ·intro p
  unfold fA
  split
  ·exact hn
  ·exact hi.nodup p
 ·intro p q mE b hb
  unfold fA at hb ⊢
  split at hb
  ·rename_i hp
   subst hp
   rw [if_neg (Ne.symm mE)]
   exact (hR b hb).2.2 q (Ne.symm mE)
  ·split
   ·rename_i hp hq
    subst hq
    intro gY
    exact (hR b gY).2.2 p mE hb
   ·exact hi.apart p q mE b hb
 ·intro p b hb
  unfold fA at hb
  split at hb
  ·exact ⟨(hR b hb).1,(hR b hb).2.1⟩
  ·exact hi.own p b hb
theorem Inv.no(hi:Inv G E RR st a)(d:Nat):Inv G E (fA RR (.slot d) []) (st.put d .no) a :=
 hi.relabel (by simp [RX]) List.nodup_nil (fun _ h=>by cases h)
def St.de(st:St)(o:Nat)(ob:Obj):St:={ st with aD:=(o,ob) :: st.aD }
theorem Inv.de(hi : Inv G E RR st a){o : Nat}{ob : Obj}{R : List Nat}(hx : dh E o ob R)(hn : R.Nodup)
  (hR:∀ b ∈ R,b < E.w.heap.size /\ ¬ G.K b /\ ∀ p,p ≠ .obj o -> b ∉ RR p):Inv G E (fA RR (.obj o) R) (st.de o ob) a:=by
 refine { hi with aC:=?_,aD:=?_,nodup:=?_,apart:=?_,own:=?_ }
 ·intro s y hy
  have:fA RR (.obj o) R (.slot s) = RR (.slot s):=by simp [fA]
  rw [this]; exact hi.aC s y hy
 ·intro q z6 ho
  simp only [St.de,look] at ho
  cases hb:Nat.beq o q with
  | true =>
   have:=Nat.eq_of_beq_eq_true hb
   subst this
   rw [hb] at ho
   simp only [cond_true,Option.some.injEq] at ho
   subst ho
   simpa [fA] using hx
  | false =>
   have fb:=Nat.ne_of_beq_eq_false hb
   rw [hb] at ho
   have:fA RR (.obj o) R (.obj q) = RR (.obj q):=by simp [fA,Ne.symm fb]
   rw [this]
   exact hi.aD q z6 ho
 ·intro p
  unfold fA
  split
  ·exact hn
  ·exact hi.nodup p
 ·intro p q mE b hb
  unfold fA at hb ⊢
  split at hb
  ·rename_i hp
   subst hp
   rw [if_neg (Ne.symm mE)]
   exact (hR b hb).2.2 q (Ne.symm mE)
  ·split
   ·rename_i hp hq
    subst hq
    intro gY
    exact (hR b gY).2.2 p mE hb
   ·exact hi.apart p q mE b hb
 ·intro p b hb
  unfold fA at hb
  split at hb
  ·exact ⟨(hR b hb).1,(hR b hb).2.1⟩
  ·exact hi.own p b hb
end
def nR(o:Nat)(x:X):X:=bif x.e6 o then .no else x
def tP(o:Nat)(l:List (Nat × X)):List (Nat × X):=l.map fun p=>(p.1,nR o p.2)
def Obj.sI(o : Nat) : Obj → Obj
 | .cells xs=>.cells (xs.map (nR o))
 | .hole rs i q s n=>bif Nat.beq q o then .rows 1 rs else .hole rs i q s n
 | ob=>ob
def wj(o:Nat)(l:List (Nat × Obj)):List (Nat × Obj):=l.map fun p=>(p.1,p.2.sI o)
def St.kill(st:St)(o:Nat):St:=⟨tP o st.aC,wj o st.aD⟩
theorem o7{α β : Type}(f : α → β) : ∀ (l : List (Nat × α)) (s : Nat), look (l.map fun p => (p.1, f p.2)) s = (look l s).map f
 | [],_=>rfl
 | (t,x) :: r,s=>by
  simp only [List.map_cons,look]
  cases Nat.beq t s with
  | true=>rfl
  | false=>exact o7 f r s
theorem zM(o:Nat){x:X}(h:x.free = true):(nR o x).free = true:=by
 unfold nR
 cases x.e6 o with
 | true=>rfl
 | false=>exact h
theorem tQ(o : Nat) : ∀ {xs : List X}, X.b5 xs = true → X.b5 (xs.map (nR o)) = true
 | [],_=>rfl
 | x :: r,h=>by
  simp only [X.b5,Bool.and_eq_true] at h
  simp only [List.map_cons,X.b5,zM o h.1,tQ o h.2,Bool.and_self]
theorem RO.kill{E : Env}{o : Nat} : ∀ {xs : List X} {cs : Array Value} {off : Nat}, X.b5 xs = true → RO E xs cs off [] → RO E (xs.map (nR o)) cs off []
 | [],_,_,_,h=>h
 | x :: r,cs,off,hf,h=>by
  simp only [RO] at h
  obtain ⟨u,R₁,R₂,hu,hs,h1,h2,hR⟩:=h
  simp only [X.b5,Bool.and_eq_true] at hf
  have Sj:=RX.free hf.1 h1
  have Sk:=RO.free hf.2 h2
  subst Sj; subst Sk
  have h3:=RO.kill (o:=o) hf.2 h2
  simp only [List.map_cons,RO]
  refine ⟨u,[],[],hu,hs,?_,h3,rfl⟩
  unfold nR
  cases x.e6 o with
  | true=>simp [RX]
  | false=>exact h1
theorem q8(o : Nat) : ∀ (xs : List X) (q : Nat), X.cw q (xs.map (nR o)) = true → q ≠ o ∧ X.cw q xs = true
 | [],_,h=>by simp [X.cw] at h
 | x :: r,q,h=>by
  simp only [List.map_cons,X.cw,Bool.or_eq_true] at h ⊢
  rcases h with h | h
  ·unfold nR at h
   cases hk:x.e6 o with
   | true=>simp [hk,X.e6] at h
   | false =>
    rw [hk] at h
    simp only [cond_false] at h
    exact ⟨fun hq=>by (subst hq; rw [hk] at h; cases h),.inl h⟩
  ·exact ⟨(q8 o r q h).1,.inr (q8 o r q h).2⟩
theorem dh.wm{E:Env}{o i q s n:Nat}{rs:List (List X)}{R:List Nat}(h:dh E o (.hole rs i q s n) R):dh E o (.rows 1 rs) R:=by
 simp only [dh] at h ⊢
 obtain ⟨hu,B,cs,ty,R',u,hB,hw,hf,hl,hc,hR,gK,_⟩:=h
 exact ⟨hu,.inr ⟨B,cs,ty,R',hB,hw,hf,hl,by simpa using hc,hR,gK⟩⟩
section
variable {G:Ctx} {E E':Env} {RR:Own -> List Nat} {st:St} {a:Act} {T:Nat -> Prop}
theorem Inv.x6(hi:Inv G E RR st a){o b:Nat}(h:b ∈ RR (.obj o) \/ E.w.heap.size <= b):∀ p,p ≠ .obj o -> b ∉ RR p:=by
 intro p hp hb
 rcases h with h | h
 ·exact hi.apart p _ hp b hb h
 ·have:=(hi.own p b hb).1; omega
def fc(st : St)(RR : Own → List Nat)(o : Nat)(R : List Nat) : Own → List Nat
 | .obj q=>if q = o then R else RR (.obj q)
 | .slot s=>match look st.aC s with
  | some x=>bif x.e6 o then [] else RR (.slot s)
  | none=>RR (.slot s)
theorem iY(st:St)(RR:Own -> List Nat)(o:Nat)(R:List Nat)(s:Nat):fc st RR o R (.slot s) = [] \/ fc st RR o R (.slot s) = RR (.slot s):=by
 cases hs:look st.aC s with
 | none=>exact .inr (by simp [fc,hs])
 | some x=>cases hk:x.e6 o with
  | true=>exact .inl (by simp [fc,hs,hk])
  | false=>exact .inr (by simp [fc,hs,hk])
theorem Inv.ln(hi : Inv G E RR st a)(hm : di G E E' T){o : Nat}{ob : Obj}{R : List Nat}(hT : ∀ b, T b → b ∈ RR (.obj o))(hβ : ∀ q, q ≠ o → E'.β q = E.β q)(Sl : G.fn.F.elem o = true → E'.β o = E.β o)
  (hx:dh E' o ob R) (hn:R.Nodup) (hR:∀ b ∈ R,b < E'.w.heap.size /\ ¬ G.K b /\ ∀ p,p ≠ .obj o -> b ∉ RR p) :
  Inv G E' (fc st RR o R) ((st.kill o).de o ob) a:=by
 have hold:∀ p,p ≠ .obj o -> ∀ b ∈ RR p,¬ T b:=fun p hp b hb Jt=>hi.apart p (.obj o) hp b hb (hT b Jt)
 have dG:∀ p,p ≠ .obj o -> ∀ b ∈ fc st RR o R p,b ∈ RR p:=by
  intro p hp b hb
  cases p with
  | obj q =>
   have:q ≠ o:=fun e=>hp (by rw [e])
   simpa [fc,this] using hb
  | slot s =>
   rcases iY st RR o R s with h | h
   ·rw [h] at hb; cases hb
   ·rw [h] at hb; exact hb
 have x7:fc st RR o R (.obj o) = R:=by simp [fc]
 have o8:∀ p,p ≠ .obj o -> ∀ b ∈ RR p,b ∉ R:=by
  intro p hp b hb Ks
  exact (hR b Ks).2.2 p hp hb
 have Sm:∀ b i v,G.φ0 b i = some v -> E'.φ b i = some v:=fun b i v h=>by rw [hm.φ]; exact hi.φ0 b i v h
 have Eh:∀ b i v,E'.φ b i = some v -> G.φ0 b i = some v \/ ¬ G.K b:=fun b i v h=>by rw [hm.φ] at h; exact hi.grow b i v h
 refine { hi with lh:=hm.lh hi,aC:=?_,aD:=?_,nodup:=?_,apart:=?_,own:=?_,ai:=hm.ai hi,size:=Nat.le_trans hi.size hm.size,os:=hm.os.trans hi.os,tape:=hm.tape.trans hi.tape,output:=hm.output.trans hi.output,φ0:=Sm,grow:=Eh,fixed:=?_ }
 ·intro s y hy
  have hl:look (tP o st.aC) s = some y:=hy
  unfold tP at hl
  rw [o7 (nR o)] at hl
  cases hs:look st.aC s with
  | none=>simp [hs] at hl
  | some x =>
   rw [hs] at hl
   simp only [Option.map_some,Option.some.injEq] at hl
   subst hl
   cases hk:x.e6 o with
   | true=>simp [fc,hs,hk,nR,RX]
   | false =>
    have:fc st RR o R (.slot s) = RR (.slot s):=by simp [fc,hs,hk]
    rw [this]
    simp only [nR,hk,cond_false]
    exact hm.slot hi hs (hold _ (by simp)) (fun q hq=>hβ q (fun e=>by subst e; rw [hk] at hq; cases hq))
 ·intro q z6 ho
  simp only [St.de,look] at ho
  cases hb:Nat.beq o q with
  | true =>
   have:=Nat.eq_of_beq_eq_true hb
   subst this
   rw [hb] at ho
   simp only [cond_true,Option.some.injEq] at ho
   subst ho
   rw [x7]; exact hx
  | false =>
   have fb:=Nat.ne_of_beq_eq_false hb
   rw [hb] at ho
   have hl:look (wj o st.aD) q = some z6:=ho
   unfold wj at hl
   rw [o7 (Obj.sI o)] at hl
   have hr:fc st RR o R (.obj q) = RR (.obj q):=by simp [fc,Ne.symm fb]
   rw [hr]
   cases hs:look st.aD q with
   | none=>simp [hs] at hl
   | some Nv =>
    rw [hs] at hl
    simp only [Option.map_some,Option.some.injEq] at hl
    subst hl
    have kl:=hi.aD q Nv hs
    have g9:=hm.on hi (p:=.obj q) (hold _ (by simpa using Ne.symm fb))
    cases Nv with
    | cells xs =>
     simp only [Obj.sI,dh] at kl ⊢
     obtain ⟨tw,B,cs,ty,hB,hw,hf,hlen,jF,gK⟩:=kl
     have h2:=g9.2 B.b (by rw [gK]; simp)
     exact ⟨tQ o tw, B, cs, ty, (hβ q (Ne.symm fb)).trans hB, h2.1.trans hw, h2.2 hf, by simpa using hlen,
      RO.mono _ cs _ [] (g9.sub (fun _ h=>by cases h)) (fun p hp=>hβ p (q8 o xs p hp).1) (RO.kill tw jF),gK⟩
    | rows s rs=>exact dh.mono g9 (hβ q (Ne.symm fb)) (fun p h=>by cases h) kl
    | xy es=>exact dh.mono g9 (hβ q (Ne.symm fb)) (fun p h=>by cases h) kl
    | gone=>simpa [dh,Obj.sI] using kl
    | hole rs i p s n =>
     cases hb:Nat.beq p o with
     | false =>
      rw [show (Obj.hole rs i p s n).sI o = .hole rs i p s n by simp [Obj.sI,hb]]
      refine dh.mono g9 (hβ q (Ne.symm fb)) (fun x hx=>hβ x fun e=>?_) kl
      have h1:=Nat.eq_of_beq_eq_true (show Nat.beq p x = true from hx)
      subst h1; subst e; simp at hb
     | true =>
      rw [show (Obj.hole rs i p s n).sI o = .rows 1 rs by simp [Obj.sI,hb]]
      exact dh.mono g9 (hβ q (Ne.symm fb)) (fun p h=>by cases h) kl.wm
 ·intro p
  by_cases hp:p = .obj o
  ·subst hp; rw [x7]; exact hn
  ·cases p with
   | obj q =>
    have:q ≠ o:=fun e=>hp (by rw [e])
    simpa [fc,this] using hi.nodup (.obj q)
   | slot s =>
    rcases iY st RR o R s with h | h
    ·rw [h]; exact List.nodup_nil
    ·rw [h]; exact hi.nodup _
 ·intro p q mE b hb gY
  by_cases hp:p = .obj o
  ·subst hp
   rw [x7] at hb
   have hq:q ≠ .obj o:=Ne.symm mE
   exact o8 q hq b (dG q hq b gY) hb
  ·by_cases hq:q = .obj o
   ·subst hq
    rw [x7] at gY
    exact o8 p hp b (dG p hp b hb) gY
   ·exact hi.apart p q mE b (dG p hp b hb) (dG q hq b gY)
 ·intro p b hb
  by_cases hp:p = .obj o
  ·subst hp
   rw [x7] at hb
   exact ⟨(hR b hb).1,(hR b hb).2.1⟩
  ·exact hm.own hi p b (dG p hp b hb)
 ·intro q hq
  by_cases Nw:q = o
  ·subst Nw; rw [Sl hq]; exact hi.fixed q hq
  ·rw [hβ q Nw]; exact hi.fixed q hq
theorem Inv.Ei(hi : Inv G E RR st a)(hm : di G E E' T){o : Nat}{ob : Obj}{R : List Nat}(hT : ∀ b, T b → b ∈ RR (.obj o))(hβ : E'.β = E.β)
  (hx:dh E' o ob R) (hn:R.Nodup) (hR:∀ b ∈ R,b < E'.w.heap.size /\ ¬ G.K b /\ ∀ p,p ≠ .obj o -> b ∉ RR p) :
  Inv G E' (fA RR (.obj o) R) (st.de o ob) a:=by
 have hold:∀ p,p ≠ .obj o -> ∀ b ∈ RR p,¬ T b:=fun p hp b hb Jt=>hi.apart p (.obj o) hp b hb (hT b Jt)
 have o8:∀ p,p ≠ .obj o -> ∀ b ∈ RR p,b ∉ R:=by
  intro p hp b hb Ks
  exact (hR b Ks).2.2 p hp hb
 have Sm:∀ b i v,G.φ0 b i = some v -> E'.φ b i = some v:=fun b i v h=>by rw [hm.φ]; exact hi.φ0 b i v h
 have Eh:∀ b i v,E'.φ b i = some v -> G.φ0 b i = some v \/ ¬ G.K b:=fun b i v h=>by rw [hm.φ] at h; exact hi.grow b i v h
 refine { hi with lh:=hm.lh hi,aC:=?_,aD:=?_,nodup:=?_,apart:=?_,own:=?_,ai:=hm.ai hi,size:=Nat.le_trans hi.size hm.size,os:=hm.os.trans hi.os,tape:=hm.tape.trans hi.tape,output:=hm.output.trans hi.output,φ0:=Sm,grow:=Eh,fixed:=fun q hq=>by rw [hβ]; exact hi.fixed q hq }
 ·intro s y hy
  have:fA RR (.obj o) R (.slot s) = RR (.slot s):=by simp [fA]
  rw [this]
  exact hm.slot hi hy (hold _ (by simp)) (fun q _=>by rw [hβ])
 ·intro q z6 ho
  simp only [St.de,look] at ho
  cases hb:Nat.beq o q with
  | true =>
   have:=Nat.eq_of_beq_eq_true hb
   subst this
   rw [hb] at ho
   simp only [cond_true,Option.some.injEq] at ho
   subst ho
   simpa [fA] using hx
  | false =>
   have fb:=Nat.ne_of_beq_eq_false hb
   rw [hb] at ho
   have:fA RR (.obj o) R (.obj q) = RR (.obj q):=by simp [fA,Ne.symm fb]
   rw [this]
   exact hm.obj hi ho (hold _ (by simpa using Ne.symm fb)) (by rw [hβ]) (fun _ _=>by rw [hβ])
 ·intro p
  unfold fA
  split
  ·exact hn
  ·exact hi.nodup p
 ·intro p q mE b hb gY
  unfold fA at hb gY
  split at hb
  ·rename_i hp
   subst hp
   rw [if_neg (Ne.symm mE)] at gY
   exact o8 q (Ne.symm mE) b gY hb
  ·rename_i hp
   split at gY
   ·exact o8 p hp b hb gY
   ·exact hi.apart p q mE b hb gY
 ·intro p b hb
  unfold fA at hb
  split at hb
  ·exact ⟨(hR b hb).1,(hR b hb).2.1⟩
  ·exact hm.own hi p b hb
end
end Go.AW
namespace Go.AW
open Go
section
variable {E:Env}
theorem RO.ext : ∀ {xs : List X} {cs dg : Array Value} {off : Nat} {R : List Nat}, (∀ j, j < xs.length → dg[off + j]? = cs[off + j]?) → RO E xs cs off R → RO E xs dg off R
 | [],_,_,_,_,_,h=>by simpa [RO] using h
 | x :: r,cs,dg,off,R,he,h=>by
  simp only [RO] at h ⊢
  obtain ⟨u,R₁,R₂,hu,hs,h1,h2,hR⟩:=h
  refine ⟨u,R₁,R₂,?_,hs,h1,RO.ext (fun j hj=>?_) h2,hR⟩
  ·have:=he 0 (by simp)
   rw [Nat.add_zero] at this
   rw [this]; exact hu
  ·have:=he (j + 1) (by simp; omega)
   rw [show off + 1 + j = off + (j + 1) by omega]; exact this
theorem cE.ext : ∀ {rs : List (List X)} {cs dg : Array Value} {off : Nat} {R : List Nat}, (∀ j, j < rs.flatten.length → dg[off + j]? = cs[off + j]?) → cE E rs cs off R → cE E rs dg off R
 | [],_,_,_,_,_,h=>by simpa [cE] using h
 | x :: r,cs,dg,off,R,he,h=>by
  simp only [cE] at h ⊢
  obtain ⟨R₁,R₂,hn,h1,h2,hR⟩:=h
  refine ⟨R₁,R₂,hn,RO.ext (fun j hj=>he j (by simp; omega)) h1,cE.ext (fun j hj=>?_) h2,hR⟩
  have:=he (x.length + j) (by simp at hj ⊢; omega)
  rw [Nat.add_assoc]; exact this
theorem RO.app : ∀ {xs ys : List X} {cs : Array Value} {off : Nat} {R₁ R₂ : List Nat}, RO E xs cs off R₁ → RO E ys cs (off + xs.length) R₂ → RO E (xs ++ ys) cs off (R₁ ++ R₂)
 | [],ys,cs,off,R₁,R₂,h,h'=>by simp only [RO] at h; subst h; simpa using h'
 | x :: r,ys,cs,off,R₁,R₂,h,h'=>by
  simp only [RO] at h
  obtain ⟨u,R₃,R₄,hu,hs,h1,h2,rfl⟩:=h
  simp only [List.cons_append,RO]
  refine ⟨u,R₃,R₄ ++ R₂,hu,hs,h1,RO.app h2 ?_,by simp⟩
  rw [show off + 1 + r.length = off + (x :: r).length by simp; omega]; exact h'
theorem RO.qX : ∀ {xs ys : List X} {cs : Array Value} {off : Nat} {R : List Nat}, RO E (xs ++ ys) cs off R → ∃ R₁ R₂, RO E xs cs off R₁ ∧ RO E ys cs (off + xs.length) R₂ ∧ R = R₁ ++ R₂
 | [],ys,cs,off,R,h=>⟨[],R,by simp [RO],by simpa using h,rfl⟩
 | x :: r,ys,cs,off,R,h=>by
  simp only [List.cons_append,RO] at h
  obtain ⟨u,R₃,R₄,hu,hs,h1,h2,rfl⟩:=h
  obtain ⟨R₁,R₂,h3,h4,rfl⟩:=RO.qX h2
  refine ⟨R₃ ++ R₁,R₂,?_,?_,by simp⟩
  ·simp only [RO]; exact ⟨u,R₃,R₁,hu,hs,h1,h3,rfl⟩
  ·rw [show off + (x :: r).length = off + 1 + r.length by simp; omega]; exact h4
theorem cE.app : ∀ {xs ys : List (List X)} {cs : Array Value} {off : Nat} {R₁ R₂ : List Nat}, cE E xs cs off R₁ → cE E ys cs (off + xs.flatten.length) R₂ → cE E (xs ++ ys) cs off (R₁ ++ R₂)
 | [],ys,cs,off,R₁,R₂,h,h'=>by simp only [cE] at h; subst h; simpa using h'
 | x :: r,ys,cs,off,R₁,R₂,h,h'=>by
  simp only [cE] at h
  obtain ⟨R₃,R₄,hn,h1,h2,rfl⟩:=h
  simp only [List.cons_append,cE]
  refine ⟨R₃,R₄ ++ R₂,hn,h1,cE.app h2 ?_,by simp⟩
  rw [show off + x.length + r.flatten.length = off + (x :: r).flatten.length by simp; omega]; exact h'
theorem cE.qX : ∀ {xs ys : List (List X)} {cs : Array Value} {off : Nat} {R : List Nat}, cE E (xs ++ ys) cs off R → ∃ R₁ R₂, cE E xs cs off R₁ ∧ cE E ys cs (off + xs.flatten.length) R₂ ∧ R = R₁ ++ R₂
 | [],ys,cs,off,R,h=>⟨[],R,by simp [cE],by simpa using h,rfl⟩
 | x :: r,ys,cs,off,R,h=>by
  simp only [List.cons_append,cE] at h
  obtain ⟨R₃,R₄,hn,h1,h2,rfl⟩:=h
  obtain ⟨R₁,R₂,h3,h4,rfl⟩:=cE.qX h2
  refine ⟨R₃ ++ R₁,R₂,?_,?_,by simp⟩
  ·simp only [cE]; exact ⟨R₃,R₁,hn,h1,h3,rfl⟩
  ·rw [show off + (x :: r).flatten.length = off + x.length + r.flatten.length by simp; omega]; exact h4
theorem RO.of : ∀ {xs : List X} {vs : List Value} {cs : Array Value} {off : Nat} {R : List Nat}, b6 E xs vs R → (∀ j v, vs[j]? = some v → cs[off + j]? = some v) → RO E xs cs off R
 | [],_,_,_,_,h,_=>by simp only [b6] at h; simp [RO,h.2]
 | x :: r,vs,cs,off,R,h,hv=>by
  simp only [b6] at h
  obtain ⟨c,dg,R₁,R₂,rfl,hs,h1,h2,rfl⟩:=h
  simp only [RO]
  refine ⟨c,R₁,R₂,?_,hs,h1,RO.of h2 (fun j v hj=>?_),rfl⟩
  ·simpa using hv 0 c rfl
  ·rw [show off + 1 + j = off + (j + 1) by omega]; exact hv (j + 1) v (by simpa using hj)
theorem length_flatten{s : Nat} : ∀ {rs : List (List X)}, cC s rs → rs.flatten.length = rs.length * s
 | [],_=>by simp
 | r :: rs,h=>by
  have h1:=h r (by simp)
  have:=length_flatten (rs:=rs) (fun q hq=>h q (by simp [hq]))
  simp only [List.flatten_cons,List.length_append,h1,this,List.length_cons,Nat.add_mul]
  omega
end
def kT{α:Type}(xs:List α)(k:Nat)(ys:List α):List α:=xs.take k ++ ys ++ xs.drop (k + ys.length)
theorem lR{α:Type}{xs ys:List α}{k:Nat}(h:k + ys.length <= xs.length):(kT xs k ys).length = xs.length:=by
 simp [kT]; omega
def lp(cs:Array Value)(k:Nat)(vs:List Value):Array Value:=(cs.toList.take k ++ vs ++ cs.toList.drop (k + vs.length)).toArray
theorem pq{cs:Array Value}{k:Nat}{vs:List Value}(h:k + vs.length <= cs.size):(lp cs k vs).size = cs.size:=by
 simp [lp]; omega
theorem Bx{cs:Array Value}{k j:Nat}{vs:List Value}(h:k + vs.length <= cs.size)(hj:j < vs.length):(lp cs k vs)[k + j]? = vs[j]?:=by
 have hk:k <= cs.toList.length:=by simp; omega
 simp only [lp,List.getElem?_toArray,List.append_assoc]
 rw [List.getElem?_append_right (by simp; omega)]
 have:k + j - (List.take k cs.toList).length = j:=by simp; omega
 rw [this,List.getElem?_append_left hj]
theorem o9{cs:Array Value}{k j:Nat}{vs:List Value}(h:k + vs.length <= cs.size)(hj:j < k \/ k + vs.length <= j):(lp cs k vs)[j]? = cs[j]?:=by
 have hk:k <= cs.toList.length:=by simp; omega
 have hl:(List.take k cs.toList).length = k:=by simp; omega
 simp only [lp,List.getElem?_toArray,List.append_assoc]
 rcases hj with hj | hj
 ·rw [List.getElem?_append_left om,List.getElem?_take_of_lt hj]; simp
 ·rw [List.getElem?_append_right om,List.getElem?_append_right om,hl,List.getElem?_drop]
  have:k + vs.length + (j - k - vs.length) = j:=by omega
  rw [this]; simp
section
variable {E:Env}
theorem RO.put{xs ys : List X}{cs : Array Value}{off k : Nat}{R R₂ : List Nat}{vs : List Value}(h : RO E xs cs off R)(hk : k + ys.length ≤ xs.length)(hy : b6 E ys vs R₂)(hc : off + xs.length ≤ cs.size) :
  ∃ R₁,RO E (kT xs k ys) (lp cs (off + k) vs) off R₁ /\ (∀ b ∈ R₁,b ∈ R \/ b ∈ R₂) /\ ((R ++ R₂).Nodup -> R₁.Nodup):=by
 have hl:=b6.length hy
 have oA:off + k + vs.length <= cs.size:=by omega
 have h0:xs = xs.take k ++ ((xs.drop k).take ys.length ++ xs.drop (k + ys.length)):=by
  conv=>lhs; rw [<- List.take_append_drop k xs,<- List.take_append_drop ys.length (xs.drop k),List.drop_drop]
 rw [h0] at h
 obtain ⟨Ra,Rb,h1,h2,rfl⟩:=RO.qX h
 obtain ⟨Rc,Rd,h3,h4,rfl⟩:=RO.qX h2
 have WK:(xs.take k).length = k:=by simp; omega
 have So:((xs.drop k).take ys.length).length = ys.length:=by simp; omega
 rw [WK,So] at h4
 refine ⟨Ra ++ R₂ ++ Rd,?_,?_,?_⟩
 ·unfold kT
  refine RO.app (RO.app (RO.ext (fun j hj=>o9 oA (.inl om)) h1) ?_) ?_
  ·rw [WK]
   refine RO.of hy fun j v hj=>?_
   have o5:j < vs.length:=by
    rcases Nat.lt_or_ge j vs.length with h' | h'
    ·exact h'
    ·simp [List.getElem?_eq_none h'] at hj
   rw [Bx oA o5]; exact hj
  ·have:off + (List.take k xs ++ ys).length = off + k + ys.length:=by simp; omega
   rw [this]
   exact RO.ext (fun j _=>o9 oA (.inr om)) h4
 ·intro b hb
  simp only [List.mem_append] at hb ⊢
  rcases hb with (hb | hb) | hb
  ·exact .inl (.inl hb)
  ·exact .inr hb
  ·exact .inl (.inr (.inr hb))
 ·intro hn
  simp only [List.nodup_append,List.mem_append] at hn ⊢
  obtain ⟨⟨ha,⟨q6,hd,Kt⟩,Ku⟩,Sp,hx⟩:=hn
  refine ⟨⟨ha,Sp,fun a zO b hb=>hx a (.inl zO) b hb⟩,hd,?_⟩
  intro a zO b hb
  rcases zO with zO | zO
  ·exact Ku a zO b (.inr hb)
  ·intro e; subst e; exact hx a (.inr (.inr hb)) a zO rfl
theorem cE.set{rs : List (List X)}{row ys : List X}{cs : Array Value}{off s i k : Nat}{R R₂ : List Nat}{vs : List Value}(hu : cC s rs)(h : cE E rs cs off R)(hr : rs[i]? = some row)
  (hk:k + ys.length <= row.length) (hy:b6 E ys vs R₂) (hn:X.iG ys = true) (hc:off + rs.length * s <= cs.size) :
  ∃ R₁,cE E (rs.set i (kT row k ys)) (lp cs (off + (i * s + k)) vs) off R₁ /\ (∀ b ∈ R₁,b ∈ R \/ b ∈ R₂) /\ ((R ++ R₂).Nodup -> R₁.Nodup):=by
 have hi:i < rs.length:=by
  rcases Nat.lt_or_ge i rs.length with h' | h'
  ·exact h'
  ·simp [List.getElem?_eq_none h'] at hr
 have hl:=b6.length hy
 have q9:row.length = s:=hu row (List.mem_of_getElem? hr)
 have Yr:rs[i] = row:=by rw [List.getElem?_eq_getElem hi] at hr; exact Option.some.inj hr
 have h0:rs = rs.take i ++ (row :: rs.drop (i + 1)):=by
  conv=>lhs; rw [<- List.take_append_drop i rs,List.drop_eq_getElem_cons hi,Yr]
 have wo:rs.set i (kT row k ys) = rs.take i ++ (kT row k ys :: rs.drop (i + 1)):=by
  rw [List.set_eq_take_append_cons_drop,if_pos hi]
 rw [h0] at h
 obtain ⟨Ra,Rb,h1,h2,rfl⟩:=cE.qX h
 have x8:(rs.take i).flatten.length = i * s:=by
  rw [length_flatten (hu.take i),List.length_take,Nat.min_eq_left (Nat.le_of_lt hi)]
 rw [x8] at h2
 simp only [cE] at h2
 obtain ⟨Rc,Rd,xu,h3,h4,rfl⟩:=h2
 have Rm:i * s + s <= rs.length * s:=by
  have:(i + 1) * s <= rs.length * s:=Nat.mul_le_mul_right s hi
  rw [Nat.add_mul] at this; omega
 have oA:off + (i * s + k) + vs.length <= cs.size:=by omega
 obtain ⟨Re,h5,dG,js⟩:=RO.put h3 hk hy om
 rw [wo]
 refine ⟨Ra ++ (Re ++ Rd),?_,?_,?_⟩
 ·refine cE.app (cE.ext (fun j hj=>o9 oA (.inl om)) h1) ?_
  rw [x8]
  simp only [cE]
  have Ys:(kT row k ys).length = row.length:=lR hk
  refine ⟨Re,Rd,?_,?_,?_,rfl⟩
  ·have h7:∀ (xs ys:List X),X.iG xs = true -> X.iG ys = true -> X.iG (xs ++ ys) = true:=by
    intro xs
    induction xs with
    | nil=>intro ys _ h; exact h
    | cons x r ih=>intro ys hx hy; simp only [X.iG,Bool.and_eq_true,List.cons_append] at hx ⊢; exact ⟨hx.1,ih ys hx.2 hy⟩
   have h8:∀ (xs:List X) (n:Nat),X.iG xs = true -> X.iG (xs.take n) = true:=by
    intro xs
    induction xs with
    | nil=>intro n _; simp [X.iG]
    | cons x r ih =>
     intro n hx
     cases n with
     | zero=>simp [X.iG]
     | succ n=>simp only [X.iG,Bool.and_eq_true,List.take_succ_cons] at hx ⊢; exact ⟨hx.1,ih n hx.2⟩
   have h9:∀ (xs:List X) (n:Nat),X.iG xs = true -> X.iG (xs.drop n) = true:=by
    intro xs
    induction xs with
    | nil=>intro n _; simp [X.iG]
    | cons x r ih =>
     intro n hx
     cases n with
     | zero=>simpa using hx
     | succ n=>simp only [X.iG,Bool.and_eq_true,List.drop_succ_cons] at hx ⊢; exact ih n hx.2
   exact h7 _ _ (h7 _ _ (h8 _ _ xu) hn) (h9 _ _ xu)
  ·rw [Nat.add_assoc] at h5; exact h5
  ·rw [Ys]
   exact cE.ext (fun j _=>o9 oA (.inr om)) h4
 ·intro b hb
  simp only [List.mem_append] at hb ⊢
  rcases hb with hb | hb | hb
  ·exact .inl (.inl hb)
  ·rcases dG b hb with h' | h'
   ·exact .inl (.inr (.inl h'))
   ·exact .inr h'
  ·exact .inl (.inr (.inr hb))
 ·intro mF
  simp only [List.nodup_append,List.mem_append] at mF js ⊢
  obtain ⟨⟨ha,⟨q6,hd,Kt⟩,Ku⟩,Sp,hx⟩:=mF
  have Yt:=js ⟨q6,Sp,fun a zO b hb=>hx a (.inr (.inl zO)) b hb⟩
  refine ⟨ha,⟨Yt,hd,?_⟩,?_⟩
  ·intro a zO b hb
   rcases dG a zO with h' | h'
   ·exact Kt a h' b hb
   ·intro e; subst e; exact hx a (.inr (.inr hb)) a h' rfl
  ·intro a zO b hb
   rcases hb with hb | hb
   ·rcases dG b hb with h' | h'
    ·exact Ku a zO b (.inl h')
    ·exact hx a (.inl zO) b h'
   ·exact Ku a zO b (.inr hb)
theorem cC.set{s i:Nat}{rs:List (List X)}{row:List X}(hu:cC s rs)(h:row.length = s):cC s (rs.set i row):=by
 intro r hr
 rcases List.mem_or_eq_of_mem_set hr with h' | h'
 ·exact hu r h'
 ·rw [h']; exact h
end
end Go.AW
namespace Go.AW
open Go
def X.tR : List X → Bool
 | []=>true
 | x :: r=>x.one && X.tR r
theorem By : ∀ (z : List Value), X.b5 (z.map X.v) = true
 | []=>rfl
 | _ :: r=>by simp [X.b5,X.free,By r]
theorem Ej : ∀ (z : List Value), X.iG (z.map X.v) = true
 | []=>rfl
 | _ :: r=>by simp [X.iG,X.nr,Ej r]
theorem tS{E : Env} : ∀ {z : List Value}, X.tR (z.map X.v) = true → b6 E (z.map X.v) z []
 | [],_=>by simp [b6]
 | c :: r,h=>by
  simp only [List.map_cons,X.tR,Bool.and_eq_true] at h
  simp only [List.map_cons,b6]
  have hx:RX E (X.v c) c []:=by simp [RX]
  exact ⟨c,r,[],[],rfl,hx.one h.1,hx,tS h.2,rfl⟩
theorem b6.pt{E : Env} : ∀ {xs : List X} {vs : List Value} {R : List Nat}, b6 E xs vs R → ∀ v ∈ vs, v.oneCell' = true
 | [],_,_,h,v,hv=>by simp only [b6] at h; rw [h.1] at hv; cases hv
 | x :: r,_,_,h,v,hv=>by
  simp only [b6] at h
  obtain ⟨c,dg,R₁,R₂,rfl,hs,_,h2,_⟩:=h
  rcases List.mem_cons.1 hv with h' | h'
  ·subst h'; cases v <;> first | rfl | exact hs.elim
  ·exact b6.pt h2 v h'
def Sh(N:eZ)(st aW:St):Prop:=∀ G:Ctx,G.fn = N -> ∀ a w,cF G st a w -> cF G aW a w
section
variable {P:Program} {N:eZ} {st aW:St} {Q:Exit -> St -> Prop} {all:Array Oper} {rest:List Oper} {d:Nat} {ty:TypeId} {pos:String} {af:Array Edge}
theorem aS.sh(h:Sh N st aW)(k:aS P N all rest aW Q):aS P N all rest st Q:=fun G hn a w hh=>k G hn a w (h G hn a w hh)
theorem dy.sh{c:Code}(h:Sh N st aW)(k:dy P N c aW Q):dy P N c st Q:=fun G hn a w hh=>k G hn a w (h G hn a w hh)
theorem aS.Ek{op : Op}(h : ∀ (G : Ctx) (E : Env) (RR : Own → List Nat) (a : Act), G.fn = N → Inv G E RR st a →
   ∃ u E' fO,(execOp a.eval ⟨some d,op,ty,pos,af,none⟩).run P E.w = .ok (.value u) E'.w /\ Inv G E' fO aW (a.put (some d) u))
  (k:aS P N all rest aW Q):aS P N all (⟨some d,op,ty,pos,af,none⟩ :: rest) st Q:=by
 intro G hn a w hh
 obtain ⟨E,RR,rfl,hi⟩:=hh
 obtain ⟨u,E',fO,hr,im⟩:=h G E RR a hn hi
 refine wpList_plain rfl fun K hK=>?_
 simp only [Oper.wp,hr,Oper.upon_value]
 exact hK _ _ (k G hn _ _ ⟨E',fO,rfl,im⟩)
theorem aS.Kv{op : Op}(h : ∀ (G : Ctx) (E : Env) (RR : Own → List Nat) (a : Act), G.fn = N → Inv G E RR st a →
   ∃ E' fO,(execOp a.eval ⟨none,op,ty,pos,af,none⟩).run P E.w = .ok .skip E'.w /\ Inv G E' fO aW a)
  (k:aS P N all rest aW Q):aS P N all (⟨none,op,ty,pos,af,none⟩ :: rest) st Q:=by
 intro G hn a w hh
 obtain ⟨E,RR,rfl,hi⟩:=hh
 obtain ⟨E',fO,hr,im⟩:=h G E RR a hn hi
 refine wpList_plain rfl fun K hK=>?_
 simp only [Oper.wp,hr,Oper.upon_skip]
 exact hK _ _ (k G hn _ _ ⟨E',fO,rfl,im⟩)
theorem TY.fP{t:TypeId}{z:List Value}(h:TY.zero P t = some z):∃ i z0,P.info? t = some i /\ i.zero = some z0 /\ z0.cells.toList = z:=by
 unfold TY.zero at h
 cases hi:P.info? t with
 | none=>simp [hi] at h
 | some i =>
  rw [hi] at h
  simp only [Option.bind_some] at h
  cases hz:i.zero with
  | none=>simp [hz] at h
  | some z0 =>
   rw [hz] at h
   simp only [Option.map_some,Option.some.injEq] at h
   exact ⟨i,z0,rfl,hz,h⟩
def Env.withVar(E:Env)(o:Nat)(cs:Array Value)(t:TypeId):Env :=
 {E with w:=E.w.alloc (.cells cs t),β:=fun q=>if q = o then some ⟨E.w.heap.size,0,0⟩ else E.β q }
theorem heap_alloc(w:World)(o:Go.Obj):(w.alloc o).heap[w.heap.size]? = some o:=by
 show (w.heap.push o)[w.heap.size]? = _
 simp
theorem Inv.newVar{G : Ctx}{E : Env}{RR : Own → List Nat}{a : Act}(hi : Inv G E RR st a){o : Nat}{ys : List X}{vs : List Value}{t : TypeId}(hF : G.fn.F.elem o = false)(hy : b6 E ys vs [])(hf : X.b5 ys = true)(hm : X.cw o ys = false) :
  ∃ fO,Inv G (E.withVar o vs.toArray t) fO ((st.kill o).de o (.cells ys)) a:=by
 refine ⟨_,hi.ln (E':=E.withVar o vs.toArray t) (T:=fun _=>False) (o:=o) (R:=[E.w.heap.size]) ?_ (fun _ h=>h.elim) (fun q hq=>by simp [Env.withVar,hq]) (fun h=>by rw [hF] at h; cases h) ?_ (by simp) ?_⟩
 ·exact { di.alloc G E (.cells vs.toArray t) with φ:=rfl }
 ·have g9:E.On (E.withVar o vs.toArray t) []:=⟨fun _ _ _ h=>h,fun _ h=>by cases h⟩
  have Hh:b6 (E.withVar o vs.toArray t) ys vs []:=b6.mono ys vs [] g9 (fun q hq=>by
   have:q ≠ o:=fun e=>by subst e; rw [hm] at hq; cases hq
   simp [Env.withVar,this]) hy
  simp only [dh]
  refine ⟨hf,⟨E.w.heap.size,0,0⟩,vs.toArray,t,by simp [Env.withVar],heap_alloc _ _,fun i=>?_,by simp [b6.length hy],?_,rfl⟩
  ·show E.φ E.w.heap.size i = none
   cases h:E.φ E.w.heap.size i with
   | none=>rfl
   | some v=>exact absurd (World.block_lt_of_cell? E.w _ (hi.lh _ _ _ h)) (by simp)
  ·exact RO.of Hh (fun j v hj=>by simpa using hj)
 ·intro b hb
  simp only [List.mem_singleton] at hb
  subst hb
  refine ⟨by simp [Env.withVar],fun hK=>?_,hi.x6 (.inr (Nat.le_refl _))⟩
  have:=hi.small _ hK
  have:=hi.size
  omega
theorem aS.alloc{t : TypeId}{z : List Value}(o : Nat)(hz : TY.zero P t = some z)(h1 : X.tR (z.map X.v) = true)(hF : N.F.elem o = false)(hd : d < N.n)
  (k:aS P N all rest (((st.kill o).de o (.cells (z.map X.v))).put d (.ptr o 0 0 0)) Q):aS P N all (⟨some d,.alloc t,ty,pos,af,none⟩ :: rest) st Q:=by
 refine aS.Ek (fun G E RR a hn hi=>?_) k
 have hm:∀ z:List Value,X.cw o (z.map X.v) = false:=by
  intro z
  induction z with
  | nil=>rfl
  | cons c r ih=>simp [X.cw,X.e6,ih]
 obtain ⟨fO,im⟩:=hi.newVar (o:=o) (t:=t) (by rw [hn]; exact hF) (tS h1) (By z) (hm z)
 refine ⟨.pointer (some ⟨E.w.heap.size,0,none⟩),_,_,?_,im.gZ (x:=.ptr o 0 0 0) (by rw [hn]; exact hd) ?_⟩
 ·obtain ⟨i,z0,q7,Bz,BA⟩:=TY.fP hz
  show (do let x <- Instr.alloc t true (.tuple #[]); pure (Next.value x):Sem Next).run P E.w = _
  refine dN ?_
  have x9:z0.cells = z.toArray:=by rw [<- BA]
  simp [Instr.alloc,zeroValue,typeInfo,q7,Bz,Go.newVar,newRow,Env.withVar,x9]
 ·simp only [RX]
  exact ⟨trivial,⟨E.w.heap.size,0,0⟩,by simp [Env.withVar],by simp⟩
theorem aS.box{t : TypeId}{x : Operand}{y : X}{ys : List X}(o : Nat)(hx : bW st x = some y)(hy : y.flat = some ys)(hf : X.b5 ys = true)(hm : X.cw o ys = false)(hF : N.F.elem o = false)(hd : d < N.n)
  (k:aS P N all rest (((st.kill o).de o (.cells ys)).put d (.ptr o 0 0 0)) Q):aS P N all (⟨some d,.box t x,ty,pos,af,none⟩ :: rest) st Q:=by
 refine aS.Ek (fun G E RR a hn hi=>?_) k
 obtain ⟨R,CH⟩:=hi.eval hx
 have x8:=CH.flat hy
 have h0:=b6.free hf x8
 subst h0
 obtain ⟨fO,im⟩:=hi.newVar (o:=o) (t:=t) (by rw [hn]; exact hF) x8 hf hm
 refine ⟨.pointer (some ⟨E.w.heap.size,0,none⟩),_,_,?_,im.gZ (x:=.ptr o 0 0 0) (by rw [hn]; exact hd) ?_⟩
 ·show (do let z <- Instr.box t (a.eval x); pure (Next.value z):Sem Next).run P E.w = _
  refine dN ?_
  simp [Instr.box,Go.newVar,newRow,Env.withVar]
 ·simp only [RX]
  exact ⟨trivial,⟨E.w.heap.size,0,0⟩,by simp [Env.withVar],by simp⟩
end
end Go.AW
namespace Go.AW
open Go
section
variable {E:Env}
theorem b6.app : ∀ {xs ys : List X} {cs ds : List Value} {R₁ R₂ : List Nat}, b6 E xs cs R₁ → b6 E ys ds R₂ → b6 E (xs ++ ys) (cs ++ ds) (R₁ ++ R₂)
 | [],_,_,_,_,_,h,h'=>by simp only [b6] at h; obtain ⟨rfl,rfl⟩:=h; simpa using h'
 | x :: r,ys,cs,ds,R₁,R₂,h,h'=>by
  simp only [b6] at h
  obtain ⟨c,dg,R₃,R₄,rfl,hs,h1,h2,rfl⟩:=h
  simp only [List.cons_append,b6]
  exact ⟨c,dg ++ ds,R₃,R₄ ++ R₂,rfl,hs,h1,b6.app h2 h',by simp⟩
theorem b6.Nx{xs:List X}{cs:List Value}(k:Nat)(h:b6 E xs cs []):b6 E (xs.take k) (cs.take k) []:=by
 induction xs generalizing cs k with
 | nil=>simp only [b6] at h; simp [b6,h.1]
 | cons x r ih =>
  simp only [b6] at h
  obtain ⟨c,dg,R₁,R₂,rfl,hs,h1,h2,hR⟩:=h
  have Kw:=List.append_eq_nil_iff.1 hR.symm
  obtain ⟨rfl,rfl⟩:=Kw
  cases k with
  | zero=>simp [b6]
  | succ k=>simp only [List.take_succ_cons,b6]; exact ⟨c,_,[],[],rfl,hs,h1,ih k h2,rfl⟩
theorem b6.Ny{xs:List X}{cs:List Value}(k:Nat)(h:b6 E xs cs []):b6 E (xs.drop k) (cs.drop k) []:=by
 induction xs generalizing cs k with
 | nil=>simp only [b6] at h; simp [b6,h.1]
 | cons x r ih =>
  have h':=h
  simp only [b6] at h
  obtain ⟨c,dg,R₁,R₂,rfl,hs,h1,h2,hR⟩:=h
  have Kw:=List.append_eq_nil_iff.1 hR.symm
  obtain ⟨rfl,rfl⟩:=Kw
  cases k with
  | zero=>exact h'
  | succ k=>simp only [List.drop_succ_cons]; exact ih k h2
theorem b6.gZ{xs ys:List X}{cs vs:List Value}{k:Nat}(h:b6 E xs cs [])(h':b6 E ys vs []):b6 E (kT xs k ys) (kT cs k vs) []:=by
 unfold kT
 rw [<- b6.length h']
 have:=b6.app (b6.app (b6.Nx k h) h') (b6.Ny (k + vs.length) h)
 simpa using this
end
def tT(place : Nat → Option (Nat × Nat))(cells : List X) : List (Nat × X) → Option (List X)
 | []=>some cells
 | (i,x) :: rest =>
  match place i,x.flat with
  | some (off,size),some ys=>bif Nat.beq ys.length size && Nat.ble (off + size) cells.length then tT place (kT cells off ys) rest else none
  | _,_=>none
def oB(st : St) : List (Nat × Operand) → Option (List (Nat × X))
 | []=>some []
 | (i,x) :: r=>match bW st x,oB st r with
  | some y,some l=>bif y.free then some ((i,y) :: l) else none
  | _,_=>none
theorem vv(off : Nat) : ∀ (l : List Value) (k : Nat) (cs : Array Value), ((l.zipIdx k).foldl (fun cs (p : Value × Nat) => cs.setIfInBounds (off + p.2) p.1) cs).size = cs.size ∧
  ∀ j,((l.zipIdx k).foldl (fun cs (p:Value × Nat)=>cs.setIfInBounds (off + p.2) p.1) cs)[j]? = if off + k <= j /\ j < off + k + l.length /\ j < cs.size then l[j - off - k]? else cs[j]?
 | [],k,cs=>by
  refine ⟨rfl,fun j=>?_⟩
  rw [if_neg (by simp; omega)]
  rfl
 | v :: r,k,cs=>by
  obtain ⟨h1,h2⟩:=vv off r (k + 1) (cs.setIfInBounds (off + k) v)
  simp only [List.zipIdx_cons,List.foldl_cons]
  refine ⟨by rw [h1]; simp,fun j=>?_⟩
  rw [h2 j]
  simp only [Array.size_setIfInBounds,List.length_cons]
  by_cases hj:off + (k + 1) <= j /\ j < off + (k + 1) + r.length /\ j < cs.size
  ·rw [if_pos hj,if_pos om,show j - off - k = (j - off - (k + 1)) + 1 by omega]
   simp
  ·rw [if_neg hj]
   by_cases vw:j = off + k
   ·subst vw
    by_cases gG:off + k < cs.size
    ·rw [if_pos om,show off + k - off - k = 0 by omega]
     simp [Array.getElem?_setIfInBounds_self_of_lt gG]
    ·rw [if_neg om]
     simp [gG]
   ·rw [if_neg om,Array.getElem?_setIfInBounds_ne om]
theorem zP(off:Nat)(v cs:Array Value)(h:off + v.size <= cs.size):(v.zipIdx.foldl (fun cs (p:Value × Nat)=>cs.setIfInBounds (off + p.2) p.1) cs).toList = kT cs.toList off v.toList:=by
 have hf:v.zipIdx.foldl (fun cs (p:Value × Nat)=>cs.setIfInBounds (off + p.2) p.1) cs = (v.toList.zipIdx 0).foldl (fun cs (p:Value × Nat)=>cs.setIfInBounds (off + p.2) p.1) cs:=by
  rw [<- Array.foldl_toList,Array.toList_zipIdx]
 rw [hf]
 obtain ⟨h1,h2⟩:=vv off v.toList 0 cs
 apply List.ext_getElem?
 intro j
 rw [Array.getElem?_toList,h2 j]
 have Nz:v.toList.length = v.size:=by simp
 simp only [Nat.add_zero,Nat.sub_zero,Nz,kT,List.append_assoc]
 have hl:(List.take off cs.toList).length = off:=by simp; omega
 by_cases hj:j < off
 ·rw [if_neg om,List.getElem?_append_left om,List.getElem?_take_of_lt hj]; simp
 ·by_cases Kx:j < off + v.size
  ·rw [if_pos om,List.getElem?_append_right om,hl,List.getElem?_append_left om]
  ·rw [if_neg om,List.getElem?_append_right om,List.getElem?_append_right om,hl,List.getElem?_drop]
   have:off + v.size + (j - off - v.toList.length) = j:=by omega
   rw [this]; simp
section
variable {P:Program} {N:eZ} {G:Ctx} {E:Env} {RR:Own -> List Nat} {st:St} {a:Act}
theorem pv(hi : Inv G E RR st a)(place : Nat → Option (Nat × Nat)) : ∀ (parts : List (Nat × Operand)) (xs : List X) (cs : Array Value) (z7 : List (Nat × X)) (ys : List X), b6 E xs cs.toList [] → oB st parts = some z7 →
  tT place xs z7 = some ys -> ∃ dg,Instr.fill place cs (parts.map fun p=>(p.1,a.eval p.2)) = some dg /\ b6 E ys dg.toList []
 | [],xs,cs,z7,ys,h,hp,hf=>by
  simp only [oB,Option.some.injEq] at hp
  subst hp
  simp only [tT,Option.some.injEq] at hf
  subst hf
  exact ⟨cs,rfl,h⟩
 | (i,x) :: r,xs,cs,z7,ys,h,hp,hf=>by
  simp only [oB] at hp
  cases hx:bW st x with
  | none=>simp [hx] at hp
  | some y =>
   cases hr:oB st r with
   | none=>simp [hx,hr] at hp
   | some l =>
    rw [hx,hr] at hp
    simp only at hp
    cases mG:y.free with
    | false=>simp [mG] at hp
    | true =>
     rw [mG] at hp
     simp only [cond_true,Option.some.injEq] at hp
     subst hp
     simp only [tT] at hf
     cases Hi:place i with
     | none=>simp [Hi] at hf
     | some os =>
      obtain ⟨off,size⟩:=os
      cases x8:y.flat with
      | none=>simp [Hi,x8] at hf
      | some zs =>
       rw [Hi,x8] at hf
       simp only at hf
       cases hb:Nat.beq zs.length size && Nat.ble (off + size) xs.length with
       | false=>simp [hb] at hf
       | true =>
        rw [hb] at hf
        simp only [cond_true] at hf
        simp only [Bool.and_eq_true] at hb
        have fB:zs.length = size:=Nat.eq_of_beq_eq_true hb.1
        have hle:off + size <= xs.length:=Nat.le_of_ble_eq_true hb.2
        obtain ⟨R,hv⟩:=hi.eval hx
        have h0:=RX.free mG hv
        subst h0
        have z8:=hv.flat x8
        have z5:(a.eval x).cells.size = size:=by have:=b6.length z8; simp at this; omega
        have ve:cs.size = xs.length:=by have:=b6.length h; simpa using this
        have zQ:=b6.gZ (k:=off) h z8
        have NA:=zP off (a.eval x).cells cs om
        obtain ⟨dg,tU,zK⟩:=pv hi place r (kT xs off zs) ((a.eval x).cells.zipIdx.foldl (fun cs (p:Value × Nat)=>cs.setIfInBounds (off + p.2) p.1) cs) l ys (by rw [NA]; exact zQ) hr hf
        refine ⟨dg,?_,zK⟩
        simp only [List.map_cons,Instr.fill,Hi,z5]
        rw [if_neg (by simp; omega)]
        exact tU
def TY.gA(P:Program)(t:TypeId):Option (List (Nat × Nat)) :=
 match P.underlying t with
 | some (.struct fs)=>fs.toList.mapM fun f=>(P.info? f.type).map fun i=>(f.offset,i.size)
 | _=>none
theorem xA{fs : List Field}{pl : List (Nat × Nat)}(h : (fs.mapM fun f => (P.info? f.type).map fun i => (f.offset, i.size)) = some pl)(w : World) :
  (fs.mapM fun f=>(do pure (f.offset,<- sizeOf f.type):Sem (Nat × Nat))).run P w = .ok pl w:=by
 induction fs generalizing pl with
 | nil=>simp at h; subst h; rfl
 | cons f r ih =>
  rw [List.mapM_cons] at h
  cases hf:P.info? f.type with
  | none=>simp [hf] at h
  | some i =>
   rw [hf] at h
   cases hr:(r.mapM fun f=>(P.info? f.type).map fun i=>(f.offset,i.size)) with
   | none=>simp [hr] at h
   | some l =>
    rw [hr] at h
    simp at h
    subst h
    rw [List.mapM_cons]
    simp only [Sem.run_bind,run_sizeOf hf,Result.andThen_ok,Sem.run_pure,ih hr]
theorem Y.qh{dst : Option Nat}{ty : TypeId}{pos : String}{af : Array Edge}{g : Option (Nat × Bool)}{t : TypeId}{parts : Array (Nat × Operand)}{pl : List (Nat × Nat)}{z : List Value}{z7 : List (Nat × X)}{ys : List X}
  (hp:TY.gA P t = some pl) (hz:TY.zero P t = some z) (h1:X.tR (z.map X.v) = true) (hx:oB st parts.toList = some z7) (hf:tT (pl[·]?) (z.map X.v) z7 = some ys) :
  Yields P N st ⟨dst,.build t parts,ty,pos,af,g⟩ (.agg ys):=by
 intro G E RR a _ hi
 obtain ⟨i,z0,q7,Bz,BA⟩:=TY.fP hz
 have x9:z0.cells = z.toArray:=by rw [<- BA]
 have gf:b6 E (z.map X.v) z0.cells.toList []:=by rw [BA]; exact tS h1
 obtain ⟨dg,tU,zK⟩:=pv hi (pl[·]?) parts.toList _ z0.cells z7 ys gf hx hf
 refine ⟨.agg dg,?_,by simp only [RX]; exact ⟨dg,rfl,zK⟩⟩
 show (do let v <- Instr.build t (parts.map fun (i,x)=>(i,a.eval x)); Pure.pure (Next.value v):Sem Next).run P E.w = _
 refine dN ?_
 unfold TY.gA at hp
 cases hu:P.underlying t with
 | none=>simp [hu] at hp
 | some d =>
  cases d with
  | struct fs =>
   rw [hu] at hp
   simp only at hp
   have hm:=xA hp E.w
   have NB:(fs.mapM fun f=>(do Pure.pure (f.offset,<- sizeOf f.type):Sem (Nat × Nat))).run P E.w = .ok pl.toArray E.w:=by
    rw [Array.mapM_eq_mapM_toList]
    simp only [Sem.run_map,hm]
    rfl
   have Hi:(fun (i:Nat)=>pl.toArray[i]?) = fun i=>pl[i]?:=by funext i; simp
   have MF:(parts.map fun (i,x)=>(i,a.eval x)).toList = parts.toList.map fun p=>(p.1,a.eval p.2):=by simp
   simp only [Instr.build,Sem.run_bind,zeroValue,typeInfo,run_program,q7,Bz,Result.andThen_ok,Sem.run_pure,run_underlying hu,NB,Hi,MF,tU]
  | _=>simp [hu] at hp
end
end Go.AW
namespace Go.AW
open Go
section
variable {P:Program} {N:eZ} {st:St} {Q:Exit -> St -> Prop} {all:Array Oper} {rest:List Oper} {d:Nat} {ty:TypeId} {pos:String} {af:Array Edge}
theorem Y.qi{dst : Option Nat}{g : Option (Nat × Bool)}{t len e s : Nat}{parts : Array (Nat × Operand)}{z : List Value}{z7 : List (Nat × X)}{ys : List X}
  (ht:TY.array P t = some (len,e,s)) (hz:TY.zero P t = some z) (h1:X.tR (z.map X.v) = true) (hx:oB st parts.toList = some z7) (hf:tT (fun i=>some (i * s,s)) (z.map X.v) z7 = some ys) :
  Yields P N st ⟨dst,.build t parts,ty,pos,af,g⟩ (.agg ys):=by
 intro G E RR a _ hi
 obtain ⟨i,z0,q7,Bz,BA⟩:=TY.fP hz
 have gf:b6 E (z.map X.v) z0.cells.toList []:=by rw [BA]; exact tS h1
 obtain ⟨dg,tU,zK⟩:=pv hi (fun i=>some (i * s,s)) parts.toList _ z0.cells z7 ys gf hx hf
 refine ⟨.agg dg,?_,by simp only [RX]; exact ⟨dg,rfl,zK⟩⟩
 show (do let v <- Instr.build t (parts.map fun (i,x)=>(i,a.eval x)); Pure.pure (Next.value v):Sem Next).run P E.w = _
 refine dN ?_
 obtain ⟨hu,ie,Yu,hs⟩:=TY.nv ht
 have MF:(parts.map fun (i,x)=>(i,a.eval x)).toList = parts.toList.map fun p=>(p.1,a.eval p.2):=by simp
 simp only [Instr.build,Sem.run_bind,zeroValue,typeInfo,run_program,q7,Bz,Result.andThen_ok,Sem.run_pure,run_underlying hu,run_sizeOf Yu,hs,MF,tU]
theorem cE.zR{E : Env}{s : Nat}{cs : Array Value} : ∀ {rs : List (List X)} {off : Nat}, cC s rs →
  (∀ i row,rs[i]? = some row -> X.iG row = true /\ RO E row cs (off + i * s) []) -> cE E rs cs off []
 | [],_,_,_=>by simp [cE]
 | r :: rs,off,hu,h=>by
  simp only [cE]
  have h0:=h 0 r rfl
  refine ⟨[],[],h0.1,by simpa using h0.2,?_,rfl⟩
  rw [hu r (by simp)]
  refine cE.zR (fun q hq=>hu q (by simp [hq])) fun i row hr=>?_
  have:=h (i + 1) row (by simpa using hr)
  rw [show off + s + i * s = off + (i + 1) * s by rw [Nat.add_mul]; omega]
  exact this
theorem b6.Ky{E:Env}{xs:List X}{vs:List Value}{cs:Array Value}{off:Nat}{R:List Nat}(h:b6 E xs vs R)(hv:∀ j,j < xs.length -> cs[off + j]? = vs[j]?):RO E xs cs off R :=
 RO.of h fun j v hj=>by
  have o5:j < xs.length:=by
   rw [<- b6.length h]
   rcases Nat.lt_or_ge j vs.length with h' | h'
   ·exact h'
   ·simp [List.getElem?_eq_none h'] at hj
  rw [hv j o5]; exact hj
theorem Inv.newRow{G : Ctx}{E : Env}{RR : Own → List Nat}{a : Act}(hi : Inv G E RR st a){cs : Array Value}{e : TypeId}{s cap : Nat}{rows : List (List X)}(hu : cC s rows)(hl : rows.length ≤ cap)(hc : cap * s ≤ cs.size)
  (hr:cE { E with w:=E.w.alloc (.cells cs e) } rows cs 0 []) (hd:d < G.fn.n) :
  ∃ fO,Inv G { E with w:=E.w.alloc (.cells cs e) } fO (st.put d (.dn s rows)) (a.put (some d) (.slice (some ⟨E.w.heap.size,0,none⟩) rows.length cap)):=by
 have im:=hi.Bw (di.alloc G E (.cells cs e)) rfl
 refine ⟨_,im.put (R:=[E.w.heap.size]) hd ?_ (by simp) ?_⟩
 ·simp only [RX]
  refine ⟨hu,_,_,rfl,.inr ⟨E.w.heap.size,0,cs,e,[],rfl,heap_alloc _ _,hl,om,fun i=>?_,hr,rfl⟩⟩
  show E.φ E.w.heap.size i = none
  cases h:E.φ E.w.heap.size i with
  | none=>rfl
  | some v=>exact absurd (World.block_lt_of_cell? E.w _ (hi.lh _ _ _ h)) (by simp)
 ·intro b hb
  simp only [List.mem_singleton] at hb
  subst hb
  refine ⟨by simp,fun hK=>?_,fun p _ hb=>?_⟩
  ·have:=hi.small _ hK
   have:=hi.size
   omega
  ·exact absurd (hi.own p _ hb).1 (by simp)
theorem El{i k s:Nat}(hk:k < s):(i * s + k) % s = k:=by
 rw [Nat.mul_comm,Nat.mul_add_mod,Nat.mod_eq_of_lt hk]
theorem aS.makeSlice{t e s dJ n : Nat}{l c : Operand}{k k' : IntKind}{z : List Value}(ht : TY.slice P t = some (e, s, dJ))(hz : TY.zero P e = some z)(sJ : z.length = s)(h1 : X.tR (z.map X.v) = true)
  (hl:bW st l = some (.v (.int k (n:Int)))) (hc:bW st c = some (.v (.int k' (n:Int)))) (hb:dJ * n <= 281474976710656) (Yv:n <= 9223372036854775807) (hd:d < N.n)
  (kk:aS P N all rest (st.put d (.dn s (List.replicate n (z.map X.v)))) Q):aS P N all (⟨some d,.makeSlice t l c,ty,pos,af,none⟩ :: rest) st Q:=by
 refine aS.Ek (fun G E RR a hn hi=>?_) kk
 obtain ⟨hu,i,ia,hs,Ju⟩:=TY.dP ht
 obtain ⟨i',z0,q7,Bz,BA⟩:=TY.fP hz
 rw [ia] at q7
 obtain rfl:=Option.some.inj q7
 have x9:z0.cells = z.toArray:=by rw [<- BA]
 have iZ:=run_make (P:=P) E.w t e i z0 hu ia Bz k k' (n:Int) (n:Int) om om (by rw [Ju]; have:=Int.ofNat_le.2 hb; rw [Int.natCast_mul] at this; exact this) om
 simp only [Int.toNat_natCast,hs,x9] at iZ
 have fB:=size_madeCells z.toArray (n * s)
 have hU:cC s (List.replicate n (z.map X.v)):=by
  intro r hr
  rw [(List.mem_replicate.1 hr).2]; simpa using sJ
 obtain ⟨fO,im⟩:=hi.newRow (cs:=madeCells z.toArray (n * s)) (e:=e) (s:=s) (cap:=n) (d:=d) hU (Nat.le_of_eq List.length_replicate) (by rw [fB]; exact Nat.le_refl _) (by
  refine cE.zR hU fun j row hr=>?_
  have hj:j < n:=by
   rcases Nat.lt_or_ge j n with h' | h'
   ·exact h'
   ·rw [List.getElem?_eq_none (by rw [List.length_replicate]; exact h')] at hr; cases hr
  have:row = z.map X.v:=by
   have:=List.mem_of_getElem? hr
   exact (List.mem_replicate.1 this).2
  subst this
  refine ⟨Ej z,b6.Ky (tS h1) fun q hq=>?_⟩
  have CJ:q < s:=by simpa [sJ] using hq
  have gG:j * s + q < n * s:=by
   have:(j + 1) * s <= n * s:=Nat.mul_le_mul_right s hj
   rw [Nat.add_mul] at this; omega
  have Kz:q < z.length:=by omega
  simp only [Nat.zero_add,madeCells]
  rw [Array.getElem?_map,Array.getElem?_range,if_pos gG]
  simp only [Option.map_some,List.size_toArray,sJ,El CJ]
  rw [List.getElem?_eq_getElem Kz]
  simp [Kz]) (by rw [hn]; exact hd)
 simp only [List.length_replicate] at im
 refine ⟨_,_,_,?_,im⟩
 show (do let v <- Instr.makeSlice t (a.eval l) (a.eval c); Pure.pure (Next.value v):Sem Next).run P E.w = _
 rw [hi.val hl,hi.val hc]
 exact dN iZ
theorem aS.buildSlice{t e s dJ len : Nat}{parts : Array (Nat × Operand)}{z : List Value}{z7 : List (Nat × X)}{flat : List X}(rows : List (List X))(ht : TY.slice P t = some (e, s, dJ))(hz : TY.zero P e = some z)(sJ : Nat.beq z.length s = true)
  (h1:X.tR (z.map X.v) = true) (hx:oB st parts.toList = some z7) (hf:tT (fun i=>some (i * s,s)) ((List.replicate len (z.map X.v)).flatten) z7 = some flat) (hr:rows.flatten = flat) (hU:cC s rows) (hlen:rows.length = len)
  (xu:X.iG flat = true) (WL:Nat.ble (len * s) 16777216 = true) (hd:d < N.n)
  (kk:aS P N all rest (st.put d (.dn s rows)) Q):aS P N all (⟨some d,.buildSlice t len parts,ty,pos,af,none⟩ :: rest) st Q:=by
 refine aS.Ek (fun G E RR a hn hi=>?_) kk
 obtain ⟨hu,i,ia,hs,Ju⟩:=TY.dP ht
 obtain ⟨i',z0,q7,Bz,BA⟩:=TY.fP hz
 rw [ia] at q7
 obtain rfl:=Option.some.inj q7
 have x9:z0.cells = z.toArray:=by rw [<- BA]
 have K0:z.length = s:=Nat.eq_of_beq_eq_true sJ
 let z1:Array Value:=(Array.range (len * s)).map fun i=>z.toArray[i % z.toArray.size]!
 have Rn:z1.toList = (List.replicate len z).flatten:=by
  apply List.ext_getElem?
  intro j
  have Yw:((List.replicate len z).flatten).length = len * s:=by simp [K0]
  by_cases hj:j < len * s
  ·have Ro:0 < s:=by
    rcases Nat.eq_zero_or_pos s with h' | h'
    ·subst h'; simp at hj
    ·exact h'
   have hq:j % s < s:=Nat.mod_lt _ Ro
   have Yx:j / s < len:=by rw [Nat.div_lt_iff_lt_mul Ro]; exact hj
   have h2:((List.replicate len z).flatten)[j]? = z[j % s]?:=by
    have:∀ (n j:Nat),j < n * s -> ((List.replicate n z).flatten)[j]? = z[j % s]?:=by
     intro n
     induction n with
     | zero=>intro j hj; simp at hj
     | succ n ih =>
      intro j hj
      rw [List.replicate_succ,List.flatten_cons]
      by_cases MG:j < s
      ·rw [List.getElem?_append_left om,Nat.mod_eq_of_lt MG]
      ·rw [List.getElem?_append_right om,K0,ih (j - s) (by rw [Nat.add_mul] at hj; omega)]
       rw [Nat.mod_eq_sub_mod (by omega:j ≥ s)]
    exact this len j hj
   rw [h2]
   have Kz:j % s < z.length:=by omega
   have NC:z[j % s]? = some z[j % s]:=List.getElem?_eq_getElem Kz
   simp [z1,hj,K0,NC]
  ·have e1:((List.replicate len z).flatten)[j]? = none:=List.getElem?_eq_none (by rw [Yw]; omega)
   have e2:z1.toList[j]? = none:=List.getElem?_eq_none (by rw [Array.length_toList]; simp only [z1,Array.size_map,Array.size_range]; omega)
   rw [e1,e2]
 have Yy:b6 E ((List.replicate len (z.map X.v)).flatten) z1.toList []:=by
  rw [Rn]
  clear hf Rn z1 hlen WL
  induction len with
  | zero=>simp [b6]
  | succ n ih=>rw [List.replicate_succ,List.flatten_cons,List.replicate_succ,List.flatten_cons]; exact b6.app (tS h1) ih
 obtain ⟨dg,tU,zK⟩:=pv hi (fun i=>some (i * s,s)) parts.toList _ z1 z7 flat Yy hx hf
 have x8:flat.length = len * s:=by rw [<- hr,length_flatten hU,hlen]
 have Yz:dg.size = len * s:=by have:=b6.length zK; simp at this; omega
 obtain ⟨fO,im⟩:=hi.newRow (cs:=dg) (e:=e) (s:=s) (cap:=len) (d:=d) hU om om (by
  have ND:b6 { E with w:=E.w.alloc (.cells dg e) } flat dg.toList []:=b6.mono (E:=E) _ _ _ ⟨fun _ _ _ h=>h,fun _ h=>by cases h⟩ (fun _ _=>rfl) zK
  have vf:RO { E with w:=E.w.alloc (.cells dg e) } flat dg 0 []:=RO.of ND fun j v hj=>by simpa using hj
  rw [<- hr] at vf xu
  clear hr tU zK ND x8 hf hlen
  have key:∀ (rs:List (List X)) (off:Nat),X.iG rs.flatten = true -> RO { E with w:=E.w.alloc (.cells dg e) } rs.flatten dg off [] -> cE { E with w:=E.w.alloc (.cells dg e) } rs dg off []:=by
   intro rs
   induction rs with
   | nil=>intro off _ _; simp [cE]
   | cons r rs ih =>
    intro off hn h
    rw [List.flatten_cons] at h hn
    obtain ⟨R₁,R₂,h1,h2,hR⟩:=RO.qX h
    have Kw:=List.append_eq_nil_iff.1 hR.symm
    obtain ⟨rfl,rfl⟩:=Kw
    have Y0:∀ (xs ys:List X),X.iG (xs ++ ys) = true -> X.iG xs = true /\ X.iG ys = true:=by
     intro xs
     induction xs with
     | nil=>intro ys h; exact ⟨rfl,h⟩
     | cons x r ih=>intro ys h; simp only [List.cons_append,X.iG,Bool.and_eq_true] at h ⊢; exact ⟨⟨h.1,(ih ys h.2).1⟩,(ih ys h.2).2⟩
    obtain ⟨K3,NF⟩:=Y0 _ _ hn
    simp only [cE]
    exact ⟨[],[],K3,h1,ih _ NF h2,rfl⟩
  exact key rows 0 xu vf) (by rw [hn]; exact hd)
 rw [hlen] at im
 refine ⟨_,_,_,?_,im⟩
 show (do let v <- Instr.buildSlice t len (parts.map fun (i,x)=>(i,a.eval x)); Pure.pure (Next.value v):Sem Next).run P E.w = _
 refine dN ?_
 have MF:(parts.map fun (i,x)=>(i,a.eval x)).toList = parts.toList.map fun p=>(p.1,a.eval p.2):=by simp
 have Sq:¬ (len * s > 2 ^ 24):=by have:=Nat.le_of_ble_eq_true WL; simp; omega
 by_cases h0:len * s = 0
 ·have Sr:z1 = (Array.range (len * s)).map (fun i=>(#[]:Array Value)[i % (#[]:Array Value).size]!):=by simp [z1,h0]
  have wu:¬ ((0:Nat) > 2 ^ 24):=by decide
  rw [Sr,h0] at tU
  simp only [Instr.buildSlice,Sem.run_bind,run_underlying hu,Result.andThen_ok,run_sizeOf ia,hs,h0,wu,if_false,if_true,Sem.run_pure,MF,tU,Go.newRow,run_newObj_alloc]
 ·simp only [z1] at tU
  simp only [Instr.buildSlice,Sem.run_bind,run_underlying hu,Result.andThen_ok,run_sizeOf ia,hs,Sq,if_false,h0,zeroValue,typeInfo,run_program,ia,Bz,Sem.run_pure,x9,MF,tU,Go.newRow,run_newObj_alloc]
end
end Go.AW
namespace Go.AW
open Go
def TY.size(P:Program)(t:TypeId):Option Nat:=(P.info? t).map (·.size)
section
variable {P:Program} {N:eZ} {st:St} {Q:Exit -> St -> Prop} {all:Array Oper} {rest:List Oper} {d:Nat} {ty:TypeId} {pos:String} {af:Array Edge}
theorem oC{t : TypeId}{m b off : Nat}{v : Value}{cs : Array Value}{tb : TypeId}{w : World}(ht : TY.size P t = some m)(hm : v.cells.size = m)(hw : w.heap[b]? = some (.cells cs tb (0, 0)))(oA : off + m ≤ cs.size)
  (h1:∀ u ∈ v.cells.toList,u.oneCell' = true):(Instr.storeAt t (.pointer (some ⟨b,off,none⟩)) v).run P w = .ok () (w.setRow b (lp cs off v.cells.toList)):=by
 unfold TY.size at ht
 cases hi:P.info? t with
 | none=>simp [hi] at ht
 | some i =>
  rw [hi] at ht
  simp only [Option.map_some,Option.some.injEq] at ht
  have Em:=run_storeCells_at P b off tb v.cells.toList 0 cs w hw (by simp; omega) h1
  simp only [Nat.add_zero] at Em
  simp only [Instr.storeAt,Instr.sureAddr,storeVar,Sem.run_bind,Sem.run_pure,Result.andThen_ok,run_sizeOf hi,ht,hm,ne_eq,not_true_eq_false,if_false]
  exact Em
theorem Inv.vg{G:Ctx}{E:Env}{RR:Own -> List Nat}{a:Act}(hi:Inv G E RR st a){p:Own}{b:Nat}(h:b ∈ RR p):¬ G.K b:=(hi.own p b h).2
theorem aS.ao{t : TypeId}{x y : Operand}{o s k m : Nat}{v : X}{ys xs : List X}(ht : TY.size P t = some m)(hx : bW st x = some (.ptr o s 0 k))(hy : bW st y = some v)(x8 : v.flat = some ys)(hf : X.b5 ys = true)(hm : ys.length = m)
  (ho:look st.aD o = some (.cells xs)) (hk:k + m <= xs.length) (HB:X.b5 (kT xs k ys) = true) (kk:aS P N all rest (st.de o (.cells (kT xs k ys))) Q) :
  aS P N all (⟨none,.store t x y,ty,pos,af,none⟩ :: rest) st Q:=by
 refine aS.Kv (fun G E RR a hn hi=>?_) kk
 obtain ⟨R,hv⟩:=hi.eval hy
 have z8:=hv.flat x8
 have h0:=b6.free hf z8
 subst h0
 obtain ⟨R',hp⟩:=hi.eval hx
 simp only [RX] at hp
 obtain ⟨_,B,hB,hc⟩:=hp
 simp only [Nat.zero_mul,Nat.zero_add] at hc
 have aY:=hi.aD o _ ho
 simp only [dh] at aY
 obtain ⟨tw,B',cs,tb,iI,hw,hφ,hlen,jF,gK⟩:=aY
 rw [hB] at iI
 obtain rfl:=Option.some.inj iI
 have BB:=b6.length z8
 have fB:(a.eval y).cells.size = m:=by simp at BB; omega
 have iZ:=oC (P:=P) (off:=B.off + k) ht fB hw om (b6.pt z8)
 have oD:B.b ∈ RR (.obj o):=by rw [gK]; simp
 have Hj:=di.setRow G E B.b (lp cs (B.off + k) (a.eval y).cells.toList) hφ (hi.vg oD)
 have g9:E.On { E with w:=E.w.setRow B.b (lp cs (B.off + k) (a.eval y).cells.toList) } []:=⟨fun _ _ _ h=>h,fun _ h=>by cases h⟩
 have En:=b6.mono _ _ _ g9 (fun _ _=>rfl) z8
 have zS:=RO.mono _ _ _ _ g9 (fun _ _=>rfl) jF
 obtain ⟨R₁,zQ,dG,_⟩:=RO.put (k:=k) zS om En om
 have Y1:R₁ = []:=by
  cases R₁ with
  | nil=>rfl
  | cons b r=>rcases dG b (by simp) with h | h <;> cases h
 subst Y1
 refine ⟨_,_,?_,hi.Ei (E':={ E with w:=E.w.setRow B.b (lp cs (B.off + k) (a.eval y).cells.toList) }) Hj (o:=o) (R:=[B.b]) (fun b h=>by subst h; exact oD) rfl ?_ (by simp) ?_⟩
 ·show (do Instr.storeAt t (a.eval x) (a.eval y); Pure.pure Next.skip:Sem Next).run P E.w = _
  rw [hc]
  exact Eg iZ
 ·simp only [dh]
  have K4:(kT xs k ys).length = xs.length:=lR om
  exact ⟨HB,B,_,tb,hB,setRow_heap E.w B.b cs _ tb _ hw,hφ,by rw [K4,pq (by simp at BB ⊢; omega)]; exact hlen,zQ,rfl⟩
 ·intro b hb
  simp only [List.mem_singleton] at hb
  subst hb
  exact ⟨by simpa using (hi.own _ _ oD).1,hi.vg oD,hi.x6 (.inl oD)⟩
theorem aS.K5{t : TypeId}{x y : Operand}{o s i k m : Nat}{v : X}{ys row : List X}{rs : List (List X)}(ht : TY.size P t = some m)(hx : bW st x = some (.ptr o s i k))(hy : bW st y = some v)(x8 : v.flat = some ys)(hf : X.b5 ys = true)
  (hn:X.iG ys = true) (hm:ys.length = m) (ho:look st.aD o = some (.rows s rs)) (hr:rs[i]? = some row) (hk:k + m <= row.length) (kk:aS P N all rest (st.de o (.rows s (rs.set i (kT row k ys)))) Q) :
  aS P N all (⟨none,.store t x y,ty,pos,af,none⟩ :: rest) st Q:=by
 refine aS.Kv (fun G E RR a Y2 hi=>?_) kk
 obtain ⟨R,hv⟩:=hi.eval hy
 have z8:=hv.flat x8
 have h0:=b6.free hf z8
 subst h0
 obtain ⟨R',hp⟩:=hi.eval hx
 simp only [RX] at hp
 obtain ⟨_,B,hB,hc⟩:=hp
 have aY:=hi.aD o _ ho
 have js:=hi.nodup (.obj o)
 simp only [dh] at aY
 obtain ⟨hu,aY⟩:=aY
 rcases aY with ⟨_,h,_⟩ | ⟨B',cs,tb,R',iI,hw,hφ,kS,hlen,jF,gK⟩
 ·subst h; simp at hr
 rw [hB] at iI
 obtain rfl:=Option.some.inj iI
 have BB:=b6.length z8
 have fB:(a.eval y).cells.size = m:=by simp at BB; omega
 have Jv:rs.length * s <= B.cap * s:=Nat.mul_le_mul_right s kS
 have zT:i < rs.length:=by
  rcases Nat.lt_or_ge i rs.length with h' | h'
  ·exact h'
  ·simp [List.getElem?_eq_none h'] at hr
 have q9:row.length = s:=hu row (List.mem_of_getElem? hr)
 have Rm:i * s + s <= rs.length * s:=by
  have:(i + 1) * s <= rs.length * s:=Nat.mul_le_mul_right s zT
  rw [Nat.add_mul] at this; omega
 have iZ:=oC (P:=P) (off:=B.off + (i * s + k)) ht fB hw om (b6.pt z8)
 have oD:B.b ∈ RR (.obj o):=by rw [gK]; simp
 have Hj:=di.setRow G E B.b (lp cs (B.off + (i * s + k)) (a.eval y).cells.toList) hφ (hi.vg oD)
 rw [gK] at js
 have mF:=List.nodup_cons.1 js
 have g9:E.On { E with w:=E.w.setRow B.b (lp cs (B.off + (i * s + k)) (a.eval y).cells.toList) } R' :=
  ⟨fun _ _ _ h=>h,fun b hb=>⟨setRow_other E.w B.b b _ (fun e=>mF.1 (by rw [<- e]; exact hb)),fun h=>h⟩⟩
 have En:=b6.mono _ _ _ (g9.sub (fun _ h=>by cases h)) (fun _ _=>rfl) z8
 have zS:=cE.mono _ _ _ _ g9 jF
 obtain ⟨R₁,zQ,dG,se⟩:=cE.set (i:=i) (k:=k) hu zS hr om En hn om
 have Jw:∀ b ∈ R₁,b ∈ R':=fun b hb=>(dG b hb).resolve_right (fun h=>by cases h)
 refine ⟨_,_,?_,hi.Ei (E':={ E with w:=E.w.setRow B.b (lp cs (B.off + (i * s + k)) (a.eval y).cells.toList) }) Hj (o:=o) (R:=B.b :: R₁) (fun b h=>by subst h; exact oD) rfl ?_ ?_ ?_⟩
 ·show (do Instr.storeAt t (a.eval x) (a.eval y); Pure.pure Next.skip:Sem Next).run P E.w = _
  rw [hc]
  exact Eg iZ
 ·simp only [dh]
  refine ⟨hu.set (by rw [lR om]; exact q9),.inr ⟨B,_,tb,R₁,hB,setRow_heap E.w B.b cs _ tb _ hw,hφ,by simpa using kS,by rw [pq (by simp at BB ⊢; omega)]; exact hlen,zQ,rfl⟩⟩
 ·exact List.nodup_cons.2 ⟨fun h=>mF.1 (Jw _ h),se (by simpa using mF.2)⟩
 ·intro b hb
  have gY:b ∈ RR (.obj o):=by
   rw [gK]
   rcases List.mem_cons.1 hb with h | h
   ·simp [h]
   ·exact List.mem_cons.2 (.inr (Jw b h))
  exact ⟨by simpa using (hi.own _ _ gY).1,hi.vg gY,hi.x6 (.inl gY)⟩
theorem aS.K6{t : TypeId}{x : Operand}{o s i k MH tv : Nat}{rows row : List (List X)}{HC : List X}{rs : List (List X)}(ht : TY.size P t = some 1)(hx : bW st x = some (.ptr o s i k))(hy : look st.aC tv = some (.dn MH rows))(_h : row = row)
  (ho:look st.aD o = some (.rows s rs)) (hr:rs[i]? = some HC) (hk:k + 1 <= HC.length) (kk:aS P N all rest ((st.put tv .no).de o (.rows s (rs.set i (kT HC k [.dn MH rows])))) Q) :
  aS P N all (⟨none,.store t x (.tmp tv),ty,pos,af,none⟩ :: rest) st Q:=by
 refine aS.Kv (fun G E RR a Y2 hi=>?_) kk
 have hv:=hi.aC tv _ hy
 have z8:b6 E [X.dn MH rows] (a.eval (.tmp tv)).cells.toList (RR (.slot tv)):=hv.flat rfl
 obtain ⟨R',hp⟩:=hi.eval hx
 simp only [RX] at hp
 obtain ⟨_,B,hB,hc⟩:=hp
 have aY:=hi.aD o _ ho
 have js:=hi.nodup (.obj o)
 simp only [dh] at aY
 obtain ⟨hu,aY⟩:=aY
 rcases aY with ⟨_,h,_⟩ | ⟨B',cs,tb,R',iI,hw,hφ,kS,hlen,jF,gK⟩
 ·subst h; simp at hr
 rw [hB] at iI
 obtain rfl:=Option.some.inj iI
 have BB:=b6.length z8
 have fB:(a.eval (.tmp tv)).cells.size = 1:=by simpa using BB
 have Jv:rs.length * s <= B.cap * s:=Nat.mul_le_mul_right s kS
 have zT:i < rs.length:=by
  rcases Nat.lt_or_ge i rs.length with h' | h'
  ·exact h'
  ·simp [List.getElem?_eq_none h'] at hr
 have q9:HC.length = s:=hu HC (List.mem_of_getElem? hr)
 have Rm:i * s + s <= rs.length * s:=by
  have:(i + 1) * s <= rs.length * s:=Nat.mul_le_mul_right s zT
  rw [Nat.add_mul] at this; omega
 have iZ:=oC (P:=P) (off:=B.off + (i * s + k)) ht fB hw om (b6.pt z8)
 have oD:B.b ∈ RR (.obj o):=by rw [gK]; simp
 have Hj:=di.setRow G E B.b (lp cs (B.off + (i * s + k)) (a.eval (.tmp tv)).cells.toList) hφ (hi.vg oD)
 rw [gK] at js
 have mF:=List.nodup_cons.1 js
 have Eo:∀ b ∈ RR (.slot tv),b ∉ RR (.obj o):=fun b hb gY=>hi.apart _ _ (by simp) b hb gY
 have g9:∀ CK,(∀ b ∈ CK,b ≠ B.b) -> E.On { E with w:=E.w.setRow B.b (lp cs (B.off + (i * s + k)) (a.eval (.tmp tv)).cells.toList) } CK :=
  fun CK h=>⟨fun _ _ _ h=>h,fun b hb=>⟨setRow_other E.w B.b b _ (h b hb),fun h=>h⟩⟩
 have En:=b6.mono _ _ _ (g9 (RR (.slot tv)) (fun b hb e=>Eo b hb (by rw [e]; exact oD))) (fun _ _=>rfl) z8
 have zS:=cE.mono _ _ _ _ (g9 R' (fun b hb e=>mF.1 (by rw [<- e]; exact hb))) jF
 obtain ⟨R₁,zQ,dG,se⟩:=cE.set (i:=i) (k:=k) hu zS hr (by simpa using hk) En rfl om
 have lM:=hi.no tv
 have NG:(R' ++ RR (.slot tv)).Nodup:=by
  rw [List.nodup_append]
  refine ⟨mF.2,hi.nodup _,fun x hx y hy e=>Eo y hy ?_⟩
  rw [<- e,gK]; exact List.mem_cons.2 (.inr hx)
 have z9:fA RR (.slot tv) [] (.obj o) = RR (.obj o):=by simp [fA]
 refine ⟨_,_,?_,lM.Ei (E':={ E with w:=E.w.setRow B.b (lp cs (B.off + (i * s + k)) (a.eval (.tmp tv)).cells.toList) }) Hj (o:=o) (R:=B.b :: R₁) (fun b h=>by subst h; rw [z9]; exact oD) rfl ?_ ?_ ?_⟩
 ·show (do Instr.storeAt t (a.eval x) (a.eval (.tmp tv)); Pure.pure Next.skip:Sem Next).run P E.w = _
  rw [hc]
  exact Eg iZ
 ·simp only [dh]
  refine ⟨hu.set (by rw [lR (by simpa using hk)]; exact q9),.inr ⟨B,_,tb,R₁,hB,setRow_heap E.w B.b cs _ tb _ hw,hφ,by simpa using kS,by rw [pq (by simp at BB ⊢; omega)]; exact hlen,zQ,rfl⟩⟩
 ·refine List.nodup_cons.2 ⟨fun h=>?_,se NG⟩
  rcases dG _ h with h' | h'
  ·exact mF.1 h'
  ·exact Eo _ h' oD
 ·intro b hb
  have cX:b ∈ RR (.obj o) \/ b ∈ RR (.slot tv):=by
   rw [gK]
   rcases List.mem_cons.1 hb with h | h
   ·exact .inl (by simp [h])
   ·rcases dG b h with h' | h'
    ·exact .inl (List.mem_cons.2 (.inr h'))
    ·exact .inr h'
  have Jx:b < E.w.heap.size /\ ¬ G.K b:=by rcases cX with h | h <;> exact hi.own _ _ h
  refine ⟨by simpa using Jx.1,Jx.2,fun p hp CL=>?_⟩
  have K7:p ≠ .slot tv /\ b ∈ RR p:=by
   unfold fA at CL
   split at CL
   ·cases CL
   ·rename_i h; exact ⟨h,CL⟩
  rcases cX with h | h
  ·exact hi.apart _ _ hp b K7.2 h
  ·exact hi.apart _ _ K7.1 b K7.2 h
theorem Sh.NH{s:Nat}{rows:List (List X)}(o:Nat)(hx:look st.aC d = some (.dn s rows))(hF:N.F.elem o = false):Sh N st (((st.kill o).de o (.rows s rows)).put d (.aR o s 0 rows.length)):=by
 intro G hn a w hh
 obtain ⟨E,RR,rfl,hi⟩:=hh
 have hv:=hi.aC d _ hx
 have js:=hi.nodup (.slot d)
 simp only [RX] at hv
 obtain ⟨hu,base,cap,hc,cX⟩:=hv
 have lM:=hi.no d
 have Jy : ∀ (E' : Env) (fO : Own → List Nat), Inv G E' fO (((st.put d .no).kill o).de o (.rows s rows)) a → (∃ R, R = [] ∧ RX E' (.aR o s 0 rows.length) (a.tmps.getD d undef) R) →
   cF G (((st.kill o).de o (.rows s rows)).put d (.aR o s 0 rows.length)) a E'.w:=by
  intro E' fO h3 ⟨R,hR,jw⟩
  subst hR
  have h4:=h3.relabel (d:=d) jw List.nodup_nil (fun _ h=>by cases h)
  refine ⟨E',fA fO (.slot d) [],rfl,?_⟩
  refine { h4 with aC:=fun q y hy=>h4.aC q y ?_,aD:=fun q y hy=>h4.aD q y hy }
  simp only [St.put,St.de,St.kill,tP,List.map_cons,look] at hy ⊢
  cases hb:Nat.beq d q with
  | true=>rw [hb] at hy; simpa using hy
  | false=>rw [hb] at hy; simpa using hy
 have hβ:∀ (bk:Option zI),di G E { E with β:=fun q=>if q = o then bk else E.β q } (fun _=>False):=fun _ =>
  ⟨rfl,fun _ h=>h.elim,fun _ h=>h.elim,fun _ _ _=>rfl,Nat.le_refl _,rfl,rfl,rfl⟩
 rcases cX with ⟨h1,h2,h3⟩ | ⟨b,off,cs,ty,R',hb,hw,hl,ho,hφ,jF,gK⟩
 ·have h4 := lM.ln (hβ none) (o := o) (ob := .rows s rows) (R := []) (fun _ h => h.elim) (fun q hq => by simp [hq]) (fun h => by rw [hn, hF] at h; cases h)
   (by simp only [dh]; exact ⟨hu,.inl ⟨by simp,h1,trivial⟩⟩) List.nodup_nil (fun _ h=>by cases h)
  refine Jy { E with β:=fun q=>if q = o then none else E.β q } _ h4 ⟨[],rfl,?_⟩
  simp only [RX]
  exact ⟨trivial,base,cap,hc,.inl ⟨by simp,trivial,by simp [h1],h2⟩⟩
 ·rw [gK] at js
  have mF:=List.nodup_cons.1 js
  have g9:E.On { E with β:=fun q=>if q = o then some ⟨b,off,cap⟩ else E.β q } R':=⟨fun _ _ _ h=>h,fun _ _=>⟨rfl,fun h=>h⟩⟩
  have h4 := lM.ln (hβ (some ⟨b, off, cap⟩)) (o := o) (ob := .rows s rows) (R := b :: R') (fun _ h => h.elim) (fun q hq => by simp [hq]) (fun h => by rw [hn, hF] at h; cases h)
   (by simp only [dh]; exact ⟨hu,.inr ⟨⟨b,off,cap⟩,cs,ty,R',by simp,hw,hφ,hl,ho,cE.mono _ _ _ _ g9 jF,rfl⟩⟩) js
   (fun c q6=>by
    have hm:c ∈ RR (.slot d):=by rw [gK]; exact q6
    refine ⟨(hi.own _ _ hm).1,(hi.own _ _ hm).2,fun p hp lN=>?_⟩
    unfold fA at lN
    split at lN
    ·cases lN
    ·rename_i h; exact hi.apart _ _ h c lN hm)
  refine Jy { E with β:=fun q=>if q = o then some ⟨b,off,cap⟩ else E.β q } _ h4 ⟨[],rfl,?_⟩
  simp only [RX]
  exact ⟨trivial,base,cap,hc,.inr ⟨⟨b,off,cap⟩,by simp,by simp,hl,.inr (by simpa using hb)⟩⟩
theorem Sh.cO{s o n : Nat}{rows : List (List X)}(hx : look st.aC d = some (.aR o s 0 n))(ho : look st.aD o = some (.rows s rows))(hl : n = rows.length)(hF : N.F.elem o = false) :
  Sh N st (((st.kill o).de o (.rows 0 [])).put d (.dn s rows)):=by
 intro G hn a w hh
 obtain ⟨E,RR,rfl,hi⟩:=hh
 subst hl
 have hv:=hi.aC d _ hx
 have aY:=hi.aD o _ ho
 have js:=hi.nodup (.obj o)
 simp only [RX] at hv
 obtain ⟨_,base,cap,hc,cX⟩:=hv
 simp only [dh] at aY
 obtain ⟨hu,aY⟩:=aY
 have hβ:di G E { E with β:=fun q=>if q = o then none else E.β q } (fun _=>False) :=
  ⟨rfl,fun _ h=>h.elim,fun _ h=>h.elim,fun _ _ _=>rfl,Nat.le_refl _,rfl,rfl,rfl⟩
 have h4 := hi.ln hβ (o := o) (ob := .rows 0 []) (R := []) (fun _ h => h.elim) (fun q hq => by simp [hq]) (fun h => by rw [hn, hF] at h; cases h)
  (by simp only [dh]; exact ⟨fun _ h=>(by cases h),.inl ⟨by simp,trivial,trivial⟩⟩) List.nodup_nil (fun _ h=>by cases h)
 have NI:∀ c ∈ RR (.obj o),c < E.w.heap.size /\ ¬ G.K c /\ ∀ p,p ≠ .slot d -> c ∉ fc st RR o [] p:=by
  intro c q6
  refine ⟨(hi.own _ _ q6).1,(hi.own _ _ q6).2,fun p _ lN=>?_⟩
  cases p with
  | obj q =>
   by_cases hq:q = o
   ·subst hq; simp [fc] at lN
   ·have:c ∈ RR (.obj q):=by simpa [fc,hq] using lN
    exact hi.apart (.obj q) (.obj o) (by simpa using hq) c this q6
  | slot q =>
   rcases iY st RR o [] q with h | h
   ·rw [h] at lN; cases lN
   ·rw [h] at lN; exact hi.apart (.slot q) (.obj o) (by simp) c lN q6
 have NJ:∃ R,RX { E with β:=fun q=>if q = o then none else E.β q } (.dn s rows) (a.tmps.getD d undef) R /\ R.Nodup /\ ∀ b ∈ R,b ∈ RR (.obj o):=by
  simp only [RX]
  rcases aY with ⟨h1,h2,h3⟩ | ⟨B,cs,ty,R',hB,hw,hφ,kS,fB,jF,gK⟩
  ·rcases cX with ⟨_,_,_,h5⟩ | ⟨B,hB,_⟩
   ·exact ⟨[],⟨hu,base,cap,hc,.inl ⟨h2,h5,rfl⟩⟩,List.nodup_nil,fun _ h=>by cases h⟩
   ·rw [h1] at hB; cases hB
  ·rcases cX with ⟨h1,_⟩ | ⟨B',iI,zL,rY,hb⟩
   ·rw [hB] at h1; cases h1
   ·rw [hB] at iI
    obtain rfl:=Option.some.inj iI
    have g9:E.On { E with β:=fun q=>if q = o then none else E.β q } R':=⟨fun _ _ _ h=>h,fun _ _=>⟨rfl,fun h=>h⟩⟩
    rcases hb with hb | hb
    ·refine ⟨[],⟨hu,base,cap,hc,.inl ⟨List.eq_nil_of_length_eq_zero om,hb,rfl⟩⟩,List.nodup_nil,fun _ h=>by cases h⟩
    ·refine ⟨RR (.obj o),⟨hu,base,cap,hc,.inr ⟨B.b,B.off,cs,ty,R',by simpa using hb,hw,om,by rw [show cap = B.cap by omega]; exact fB,hφ,cE.mono _ _ _ _ g9 jF,gK⟩⟩,js,fun _ h=>h⟩
 obtain ⟨R,sf,xB,HD⟩:=NJ
 exact ⟨{ E with β:=fun q=>if q = o then none else E.β q },_,rfl,h4.relabel sf xB (fun c hc=>NI c (HD c hc))⟩
end
end Go.AW
namespace Go.AW
open Go
structure Src(E:Env)(s:Nat)(new:List (List X))(c:Value)(R:List Nat):Prop where
 ex : ∃ base cap, ∃ vs : List Value, c = .slice (some base) new.length cap ∧ vs.length = new.length * s ∧ (∀ j v, vs[j]? = some v → E.w.cell? (base.add j) = some v) ∧ (∀ v ∈ vs, v.oneCell' = true) ∧
  ∀ (E':Env) (cs:Array Value) (off:Nat),E.On E' R -> (∀ j,j < vs.length -> cs[off + j]? = vs[j]?) -> cE E' new cs off R
 dn:cC s new
theorem cE.tf{E : Env} : ∀ {rs : List (List X)} {cs : Array Value} {off : Nat} {R : List Nat}, cE E rs cs off R → ∃ vs : List Value, vs.length = rs.flatten.length ∧ (∀ j v, vs[j]? = some v → cs[off + j]? = some v) ∧ (∀ v ∈ vs, v.oneCell' = true)
 | [],_,_,_,_=>⟨[],rfl,by simp,by simp⟩
 | r :: rs,cs,off,R,h=>by
  simp only [cE] at h
  obtain ⟨R₁,R₂,_,h1,h2,_⟩:=h
  obtain ⟨vs,hl,hv,hx⟩:=RO.cells h1
  obtain ⟨Ss,x5,Su,lS⟩:=cE.tf h2
  refine ⟨vs ++ Ss,by simp [hl,x5],?_,?_⟩
  ·intro j v hj
   by_cases o5:j < vs.length
   ·rw [List.getElem?_append_left o5] at hj; exact hv j v hj
   ·rw [List.getElem?_append_right om] at hj
    have:=Su _ v hj
    rw [show off + j = off + r.length + (j - vs.length) by omega]; exact this
  ·intro v Sv
   rcases List.mem_append.1 Sv with h' | h'
   ·exact b6.pt hx v h'
   ·exact lS v h'
theorem kD.tf{E : Env} : ∀ {rs : List (List X)} {b off : Nat}, kD E rs b off → ∃ vs : List Value, vs.length = rs.flatten.length ∧ (∀ j v, vs[j]? = some v → E.φ b (off + j) = some v) ∧ (∀ v ∈ vs, v.oneCell' = true) ∧
   ∀ (E':Env) (cs:Array Value) (o:Nat),E.On E' [] -> (∀ j,j < vs.length -> cs[o + j]? = vs[j]?) -> cE E' rs cs o []
 | [],_,_,_=>⟨[],rfl,by simp,by simp,fun _ _ _ _ _=>by simp [cE]⟩
 | r :: rs,b,off,h=>by
  simp only [kD] at h
  obtain ⟨vs,hl,hv,hx⟩:=RF.cells h.1
  obtain ⟨Ss,x5,Su,lS,Y3⟩:=kD.tf h.2
  have xu:∀ (row:List X) (b off:Nat),RF E row b off -> X.iG row = true:=by
   intro row
   induction row with
   | nil=>intro _ _ _; rfl
   | cons x t ih =>
    intro b off h
    simp only [RF] at h
    obtain ⟨⟨_,_,_,hn,_⟩,h2⟩:=h
    simp only [X.iG,hn,ih b _ h2,Bool.and_self]
  refine ⟨vs ++ Ss,by simp [hl,x5],?_,?_,?_⟩
  ·intro j v hj
   by_cases o5:j < vs.length
   ·rw [List.getElem?_append_left o5] at hj; exact hv j v hj
   ·rw [List.getElem?_append_right om] at hj
    have:=Su _ v hj
    rw [show off + j = off + r.length + (j - vs.length) by omega]; exact this
  ·intro v Sv
   rcases List.mem_append.1 Sv with h' | h'
   ·exact b6.pt hx v h'
   ·exact lS v h'
  ·intro E' cs o hE ve
   simp only [cE]
   refine ⟨[],[],xu r b off h.1,?_,?_,rfl⟩
   ·refine b6.Ky (b6.mono _ _ _ hE (fun q hq=>by rw [X.gk (xu r b off h.1)] at hq; cases hq) hx) fun j hj=>?_
    rw [ve j (by simp; omega),List.getElem?_append_left om]
   ·refine Y3 E' cs _ hE fun j hj=>?_
    have:=ve (vs.length + j) (by simp; omega)
    rw [List.getElem?_append_right om] at this
    rw [<- hl,Nat.add_assoc,this]
    congr 1
    omega
section
variable {P:Program} {N:eZ} {G:Ctx} {E:Env} {RR:Own -> List Nat} {st:St} {a:Act}
theorem Src.NK{s:Nat}{new:List (List X)}{c:Value}{R:List Nat}(h:RX E (.dn s new) c R)(fb:0 < new.length):∃ R',Src E s new c R' /\ (∀ b ∈ R',b ∈ R) /\ (R.Nodup -> R'.Nodup):=by
 simp only [RX] at h
 obtain ⟨hu,base,cap,hc,h⟩:=h
 rcases h with ⟨h1,_⟩ | ⟨b,off,cs,ty,R',hb,hw,hl,ho,hφ,jF,hR⟩
 ·subst h1; simp at fb
 obtain ⟨vs,Nz,hv,zU⟩:=cE.tf jF
 refine ⟨R',⟨⟨⟨b,off,none⟩,cap,vs,by rw [hc,hb],by rw [Nz,length_flatten hu],fun j v hj=>by rw [iu,dq hw]; exact hv j v hj,zU,?_⟩,hu⟩,fun c hc=>by rw [hR]; simp [hc],fun h=>by rw [hR] at h; exact (List.nodup_cons.1 h).2⟩
 intro E' dg tg hE ve
 have h1:=cE.mono _ _ _ _ hE jF
 -- move the cells from off to tg
 have key:∀ (rs:List (List X)) (o1 o2:Nat) (R:List Nat),(∀ j,j < rs.flatten.length -> dg[o2 + j]? = cs[o1 + j]?) -> cE E' rs cs o1 R -> cE E' rs dg o2 R:=by
  have K8:∀ (xs:List X) (o1 o2:Nat) (R:List Nat),(∀ j,j < xs.length -> dg[o2 + j]? = cs[o1 + j]?) -> RO E' xs cs o1 R -> RO E' xs dg o2 R:=by
   intro xs
   induction xs with
   | nil=>intro _ _ _ _ h; simpa [RO] using h
   | cons x r ih =>
    intro o1 o2 R he h
    simp only [RO] at h ⊢
    obtain ⟨u,R₁,R₂,hu,hs,h1,h2,hR⟩:=h
    refine ⟨u,R₁,R₂,?_,hs,h1,ih _ _ _ (fun j hj=>?_) h2,hR⟩
    ·have:=he 0 (by simp)
     simp only [Nat.add_zero] at this
     rw [this]; exact hu
    ·have:=he (j + 1) (by simp; omega)
     rw [show o2 + 1 + j = o2 + (j + 1) by omega,show o1 + 1 + j = o1 + (j + 1) by omega]; exact this
  intro rs
  induction rs with
  | nil=>intro _ _ _ _ h; simpa [cE] using h
  | cons x r ih =>
   intro o1 o2 R he h
   simp only [cE] at h ⊢
   obtain ⟨R₁,R₂,hn,h1,h2,hR⟩:=h
   refine ⟨R₁,R₂,hn,K8 _ _ _ _ (fun j hj=>he j (by simp; omega)) h1,ih _ _ _ (fun j hj=>?_) h2,hR⟩
   have:=he (x.length + j) (by simp at hj ⊢; omega)
   rw [Nat.add_assoc,Nat.add_assoc]; exact this
 refine key new off tg R' (fun j hj=>?_) h1
 rw [ve j om]
 have o5:j < vs.length:=by omega
 rw [List.getElem?_eq_getElem o5]
 exact (hv j _ (List.getElem?_eq_getElem o5)).symm
theorem Src.Sw(hi:Inv G E RR st a){s:Nat}{new:List (List X)}{c:Value}{R:List Nat}(h:RX E (.fz s new) c R)(fb:0 < new.length):Src E s new c []:=by
 simp only [RX] at h
 obtain ⟨_,hu,base,cap,hc,h⟩:=h
 rcases h with ⟨h1,_⟩ | ⟨b,off,hb,hl,hf⟩
 ·subst h1; simp at fb
 obtain ⟨vs,Nz,hv,zU,hr⟩:=kD.tf hf
 exact ⟨⟨⟨b,off,none⟩,cap,vs,by rw [hc,hb],by rw [Nz,length_flatten hu],fun j v hj=>by rw [iu]; exact hi.lh _ _ _ (hv j v hj),zU,hr⟩,hu⟩
theorem tV{t e s dJ n cap m ty : Nat}{base : Option Addr}{b2 : Addr}{c2 : Nat}{kE news z : List Value}(ht : TY.slice P t = some (e, s, dJ))(hz : TY.zero P e = some z)(sJ : z.length = s)(hm : 0 < m)
  (sK:kE.length = n * s) (hold:∀ j v,kE[j]? = some v -> ∃ b off,base = some ⟨b,off,none⟩ /\ E.w.cell? ⟨b,off + j,none⟩ = some v) (zA:base = none -> n = 0 /\ cap = 0)
  (Ep:news.length = m * s) (o8:∀ j v,news[j]? = some v -> E.w.cell? (b2.add j) = some v) (zU:∀ v ∈ news,v.oneCell' = true) (si:(n + m) * dJ <= 140737488355328) (DU:n + m <= 4611686018427387904)
  (BC:n + m <= cap -> ∃ b off cs tb,base = some ⟨b,off,none⟩ /\ E.w.heap[b]? = some (.cells cs tb (0,0)) /\ off + cap * s <= cs.size) :
  (∃ b off cs tb, base = some ⟨b, off, none⟩ ∧ E.w.heap[b]? = some (.cells cs tb (0, 0)) ∧ n + m ≤ cap ∧ off + cap * s ≤ cs.size ∧
   (Builtin.append_ #[t,t] ty #[.slice base n cap,.slice (some b2) m c2]).run P E.w = .ok (.slice base (n + m) cap) (E.w.setRow b (lp cs (off + n * s) news))) \/
  (∃ tW rest, n + m ≤ tW ∧ rest.size = (tW - (n + m)) * s ∧
   (Builtin.append_ #[t,t] ty #[.slice base n cap,.slice (some b2) m c2]).run P E.w = .ok (.slice (some ⟨E.w.heap.size,0,none⟩) (n + m) tW) (E.w.drew.alloc (.cells ((kE ++ news).toArray ++ rest) e))):=by
 obtain ⟨hu,i,ia,hs,Ju⟩:=TY.dP ht
 obtain ⟨i',z0,q7,Bz,BA⟩:=TY.fP hz
 rw [ia] at q7
 obtain rfl:=Option.some.inj q7
 have Sx:z0.cells.size = s:=by
  have:z0.cells.toList.length = z.length:=by rw [BA]
  simpa [sJ] using this
 by_cases hr:n + m <= cap
 ·obtain ⟨b,off,cs,tb,hb,hw,fB⟩:=BC hr
  refine .inl ⟨b,off,cs,tb,hb,hw,hr,fB,?_⟩
  have NL:(n + m) * s <= cap * s:=Nat.mul_le_mul_right s hr
  rw [Nat.add_mul] at NL
  have hf:=run_firstCells_some (P:=P) E.w i.size m b2 m c2 news (by rw [hs]; exact Ep) o8
  have Em:=run_storeCells_at P b (off + n * s) tb news 0 cs E.w hw om zU
  simp only [Nat.add_zero] at Em
  subst hb
  rw [hs] at hf
  simp [Builtin.append_,run_underlying hu,sizeOf,typeInfo,ia,Builtin.lenOf,hr,hf,iu,hs,Em,lp]
 ·refine .inr ?_
  have oA:Builtin.nextslicecap (n + m) cap * i.bytes <= 281474976710656:=growslice_fits om (by rw [Ju]; omega)
  have Rp:∀ k,(Builtin.zeroCells z0.cells k).size = k * s:=fun k=>by rw [size_zeroCells,Sx]
  cases vx:base with
  | none =>
   obtain ⟨rfl,rfl⟩:=zA vx
   have holds:kE = []:=List.eq_nil_of_length_eq_zero (by simpa using sK)
   subst holds
   refine ⟨grownCap E.w m 0 e,_,by have:=grownCap_ge E.w m 0 e; omega,Rp _,?_⟩
   have:=run_append_nil (P:=P) E.w t ty e i z0 hu ia Bz b2 m c2 news (by rw [hs]; exact Ep) o8 hm om (by
    have:m * dJ <= 140737488355328:=by simpa using si
    rw [Ju]; omega)
   simpa using this
  | some bb =>
   have NM:∀ j v,kE[j]? = some v -> E.w.cell? (bb.add j) = some v:=by
    intro j v hj
    obtain ⟨b,off,hb,hc⟩:=hold j v hj
    rw [vx] at hb
    obtain rfl:=Option.some.inj hb
    rw [iu]; exact hc
   refine ⟨grownCap E.w (n + m) cap e,_,grownCap_ge E.w (n + m) cap e,Rp _,?_⟩
   have:=run_append_grow (P:=P) E.w t ty e i z0 hu ia Bz bb n cap kE (by rw [hs]; exact sK) NM b2 m c2 news (by rw [hs]; exact Ep) o8 om om oA
   rw [this]
   simp
theorem cE.zV{E : Env}{rs : List (List X)}{cs : Array Value}{off s lo n : Nat}{R : List Nat}(hu : cC s rs)(h : cE E rs cs off R)(hl : lo + n ≤ rs.length) :
  ∃ R',cE E ((rs.drop lo).take n) cs (off + lo * s) R' /\ (∀ b ∈ R',b ∈ R) /\ (R.Nodup -> R'.Nodup):=by
 have h0:rs = rs.take lo ++ ((rs.drop lo).take n ++ rs.drop (lo + n)):=by
  conv=>lhs; rw [<- List.take_append_drop lo rs,<- List.take_append_drop n (rs.drop lo),List.drop_drop]
 rw [h0] at h
 obtain ⟨R₁,R₂,h1,h2,rfl⟩:=cE.qX h
 obtain ⟨R₃,R₄,h3,h4,rfl⟩:=cE.qX h2
 rw [length_flatten (hu.take lo),List.length_take,Nat.min_eq_left om] at h3
 refine ⟨R₃,h3,fun b hb=>by simp [hb],fun hn=>?_⟩
 have:=(List.nodup_append.1 hn).2.1
 exact (List.nodup_append.1 this).1
theorem Inv.append(hi : Inv G E RR st a){t e s dJ ty : Nat}{z : List Value}{o lo n : Nat}{rs new : List (List X)}{c c2 : Value}{R2 : List Nat}(ht : TY.slice P t = some (e, s, dJ))(hz : TY.zero P e = some z)(sJ : z.length = s)
  (hx:RX E (.aR o s lo n) c []) (ho:look st.aD o = some (.rows s rs)) (qA:lo + n <= rs.length) (Es:Src E s new c2 R2) (hm:0 < new.length) (xB:R2.Nodup) (mH:∀ b ∈ R2,b < E.w.heap.size /\ ¬ G.K b /\ ∀ p,b ∉ RR p)
  (si:(n + new.length) * dJ <= 140737488355328) (DU:n + new.length <= 4611686018427387904) (hF:G.fn.F.elem o = false) :
  ∃ u E' fO,(Builtin.append_ #[t,t] ty #[c,c2]).run P E.w = .ok u E'.w /\ Inv G E' fO ((st.kill o).de o (.rows s (((rs.drop lo).take n) ++ new))) a /\ RX E' (.aR o s 0 (n + new.length)) u []:=by
 have aY:=hi.aD o _ ho
 have js:=hi.nodup (.obj o)
 simp only [RX] at hx
 obtain ⟨_,base,cap,rfl,cX⟩:=hx
 simp only [dh] at aY
 obtain ⟨hu,aY⟩:=aY
 obtain ⟨⟨b2,Y4,news,rfl,Ep,o8,zU,NN⟩,z4⟩:=Es
 have xC:((rs.drop lo).take n).length = n:=by simp; omega
 have hU:cC s (((rs.drop lo).take n) ++ new):=by
  intro r hr
  rcases List.mem_append.1 hr with h | h
  ·exact (hu.drop lo).take n r h
  ·exact z4 r h
 have NO:∀ b ∈ R2,b ∉ RR (.obj o):=fun b hb=>(mH b hb).2.2 _
 -- the Rq cells, as values, and what lies in them
 have hold : ∃ (kE : List Value) (R1 : List Nat), kE.length = n * s ∧ (∀ j v, kE[j]? = some v → ∃ b off, base = some ⟨b, off, none⟩ ∧ E.w.cell? ⟨b, off + j, none⟩ = some v) ∧ (∀ b ∈ R1, b ∈ RR (.obj o)) ∧ R1.Nodup ∧
   (base = none -> n = 0 /\ cap = 0) /\
   (∀ (E':Env) (dg:Array Value) (tg:Nat),E.On E' R1 -> (∀ j,j < kE.length -> dg[tg + j]? = kE[j]?) -> cE E' ((rs.drop lo).take n) dg tg R1) /\
   (n + new.length <= cap -> ∃ B cs tb,E.β o = some B /\ base = some ⟨B.b,B.off + lo * s,none⟩ /\ E.w.heap[B.b]? = some (.cells cs tb (0,0)) /\ B.off + lo * s + cap * s <= cs.size /\ (∀ i,E.φ B.b i = none) /\ B.b ∈ RR (.obj o) /\ B.b ∉ R1):=by
  by_cases oE:cap = 0
  ·have zA:n = 0:=by rcases cX with ⟨_,_,h,_⟩ | ⟨_,_,_,h,_⟩ <;> omega
   subst zA
   refine ⟨[],[],by simp,by simp,by simp,List.nodup_nil,fun _=>⟨rfl,oE⟩,fun _ _ _ _ _=>by simp [cE],fun h=>by omega⟩
  ·rcases cX with ⟨_,_,_,h⟩ | ⟨B,hB,Nu,rY,hb⟩
   ·exact absurd h oE
   have gY:=hb.resolve_left oE
   rcases aY with ⟨h1,_⟩ | ⟨B',cs,tb,R',iI,hw,hφ,lN,fB,jF,gK⟩
   ·rw [hB] at h1; cases h1
   rw [hB] at iI
   obtain rfl:=Option.some.inj iI
   rw [gK] at js
   obtain ⟨sj,mF⟩:=List.nodup_cons.1 js
   obtain ⟨R1,CM,dG,CN⟩:=cE.zV hu jF qA
   obtain ⟨kE,sK,NP,_⟩:=cE.tf CM
   rw [length_flatten ((hu.drop lo).take n),xC] at sK
   refine ⟨kE,R1,sK,fun j v hj=>⟨B.b,B.off + lo * s,gY,by rw [dq hw]; exact NP j v hj⟩,fun b hb=>by rw [gK]; simp [dG b hb],CN mF,(fun h=>by rw [gY] at h; cases h),?_,?_⟩
   ·intro E' dg tg hE ve
    have h1:=cE.mono _ _ _ _ hE CM
    have key:∀ (rs:List (List X)) (o1 o2:Nat) (R:List Nat),(∀ j,j < rs.flatten.length -> dg[o2 + j]? = cs[o1 + j]?) -> cE E' rs cs o1 R -> cE E' rs dg o2 R:=by
     have K8:∀ (xs:List X) (o1 o2:Nat) (R:List Nat),(∀ j,j < xs.length -> dg[o2 + j]? = cs[o1 + j]?) -> RO E' xs cs o1 R -> RO E' xs dg o2 R:=by
      intro xs
      induction xs with
      | nil=>intro _ _ _ _ h; simpa [RO] using h
      | cons x r ih =>
       intro o1 o2 R he h
       simp only [RO] at h ⊢
       obtain ⟨u,R₁,R₂,hu,hs,h1,h2,hR⟩:=h
       refine ⟨u,R₁,R₂,?_,hs,h1,ih _ _ _ (fun j hj=>?_) h2,hR⟩
       ·have:=he 0 (by simp)
        simp only [Nat.add_zero] at this
        rw [this]; exact hu
       ·have:=he (j + 1) (by simp; omega)
        rw [show o2 + 1 + j = o2 + (j + 1) by omega,show o1 + 1 + j = o1 + (j + 1) by omega]; exact this
     intro rs
     induction rs with
     | nil=>intro _ _ _ _ h; simpa [cE] using h
     | cons x r ih =>
      intro o1 o2 R he h
      simp only [cE] at h ⊢
      obtain ⟨R₁,R₂,hn,h1,h2,hR⟩:=h
      refine ⟨R₁,R₂,hn,K8 _ _ _ _ (fun j hj=>he j (by simp; omega)) h1,ih _ _ _ (fun j hj=>?_) h2,hR⟩
      have:=he (x.length + j) (by simp at hj ⊢; omega)
      rw [Nat.add_assoc,Nat.add_assoc]; exact this
    refine key _ (B.off + lo * s) tg R1 (fun j hj=>?_) h1
    have o5:j < kE.length:=by
     rw [length_flatten ((hu.drop lo).take n),xC] at hj
     omega
    rw [ve j o5,List.getElem?_eq_getElem o5]
    exact (NP j _ (List.getElem?_eq_getElem o5)).symm
   ·intro _
    refine ⟨B,cs,tb,hB,gY,hw,?_,hφ,by rw [gK]; simp,fun h=>sj (dG _ h)⟩
    have:B.cap = lo + cap:=Nu.symm
    rw [this,Nat.add_mul] at fB
    omega
 obtain ⟨kE,R1,sK,NP,sf,Sy,zA,Jz,BC⟩:=hold
 have se:(R1 ++ R2).Nodup:=by
  rw [List.nodup_append]
  exact ⟨Sy,xB,fun x hx y hy e=>NO y hy (by rw [<- e]; exact sf x hx)⟩
 rcases tV (P:=P) (E:=E) (ty:=ty) ht hz sJ hm sK NP zA Ep o8 zU si DU (fun h=>by
   obtain ⟨B,cs,tb,_,h2,h3,h4,_⟩:=BC h
   exact ⟨B.b,B.off + lo * s,cs,tb,h2,h3,h4⟩) with ⟨b,off,cs,tb,vx,hw,oA,fB,iZ⟩ | ⟨tW,rest,WM,NQ,iZ⟩
 ·-- in place
  obtain ⟨B,WN,tb1,hB,zW,rZ,NR,hφ,oD,NS⟩:=BC oA
  rw [vx] at zW
  simp only [Option.some.injEq,Addr.mk.injEq,and_true] at zW
  obtain ⟨rfl,rfl⟩:=zW
  rw [hw] at rZ
  simp only [Option.some.injEq,Go.Obj.cells.injEq] at rZ
  obtain ⟨rfl,rfl,_⟩:=rZ
  have NL:(n + new.length) * s <= cap * s:=Nat.mul_le_mul_right s oA
  rw [Nat.add_mul] at NL
  have S0:B.off + lo * s + n * s + news.length <= cs.size:=by omega
  let E':Env:={ E with w:=E.w.setRow B.b (lp cs (B.off + lo * s + n * s) news),β:=fun q=>if q = o then some ⟨B.b,B.off + lo * s,cap⟩ else E.β q }
  have NT:B.b ∉ R2:=fun h=>NO _ h oD
  have g9:∀ CK,(∀ b ∈ CK,b ≠ B.b) -> E.On E' CK:=fun CK h=>⟨fun _ _ _ h=>h,fun b hb=>⟨setRow_other E.w B.b b _ (h b hb),fun h=>h⟩⟩
  have Hj:di G E E' (fun c=>c = B.b):={ di.setRow G E B.b (lp cs (B.off + lo * s + n * s) news) hφ (hi.vg oD) with φ:=rfl }
  have Et:cE E' (((rs.drop lo).take n) ++ new) (lp cs (B.off + lo * s + n * s) news) (B.off + lo * s) (R1 ++ R2):=by
   refine cE.app (Jz E' _ _ (g9 R1 (fun b hb e=>NS (by rw [<- e]; exact hb))) fun j hj=>?_) ?_
   ·rw [o9 S0 (.inl om)]
    have:=NP j _ (List.getElem?_eq_getElem hj)
    obtain ⟨b,off,hb,hc⟩:=this
    rw [vx] at hb
    simp only [Option.some.injEq,Addr.mk.injEq,and_true] at hb
    obtain ⟨rfl,rfl⟩:=hb
    rw [dq hw] at hc
    rw [hc,List.getElem?_eq_getElem hj]
   ·rw [length_flatten ((hu.drop lo).take n),xC]
    exact NN E' _ _ (g9 R2 (fun b hb e=>NT (by rw [<- e]; exact hb))) fun j hj=>Bx S0 hj
  refine ⟨_,E',_,iZ,hi.ln Hj (o:=o) (R:=B.b :: (R1 ++ R2)) (fun b h=>by subst h; exact oD) (fun q hq=>by simp [E',hq]) (fun h=>by rw [hF] at h; cases h) ?_ ?_ ?_,?_⟩
  ·simp only [dh]
   refine ⟨hU,.inr ⟨⟨B.b,B.off + lo * s,cap⟩,_,tb,R1 ++ R2,by simp [E'],setRow_heap E.w B.b cs _ tb _ hw,hφ,by simp [xC]; omega,by rw [pq S0]; exact fB,Et,rfl⟩⟩
  ·refine List.nodup_cons.2 ⟨fun h=>?_,se⟩
   rcases List.mem_append.1 h with h | h
   ·exact NS h
   ·exact NT h
  ·intro b hb
   have hs:E'.w.heap.size = E.w.heap.size:=by simp [E']
   rw [hs]
   rcases List.mem_cons.1 hb with h | h
   ·subst h; exact ⟨(hi.own _ _ oD).1,hi.vg oD,hi.x6 (.inl oD)⟩
   ·rcases List.mem_append.1 h with h | h
    ·exact ⟨(hi.own _ _ (sf b h)).1,hi.vg (sf b h),hi.x6 (.inl (sf b h))⟩
    ·exact ⟨(mH b h).1,(mH b h).2.1,fun p _=>(mH b h).2.2 p⟩
  ·simp only [RX]
   exact ⟨trivial,_,cap,rfl,.inr ⟨⟨B.b,B.off + lo * s,cap⟩,by simp [E'],by simp,om,.inr (by simpa using vx)⟩⟩
 ·-- in a new block
  let E':Env:={ E with w:=E.w.drew.alloc (.cells ((kE ++ news).toArray ++ rest) e),β:=fun q=>if q = o then some ⟨E.w.heap.size,0,tW⟩ else E.β q }
  have Hj:di G E E' (fun _=>False):=by
   have h1:=(di.drew G E).trans (di.alloc G { E with w:=E.w.drew } (.cells ((kE ++ news).toArray ++ rest) e)) (fun _ h=>h.elim)
   exact { h1 with φ:=rfl }
  have g9:∀ CK,(∀ b ∈ CK,b < E.w.heap.size) -> E.On E' CK:=fun CK h=>⟨fun _ _ _ h=>h,fun b hb=>⟨Hj.same b (h b hb) (fun h=>h),fun h=>h⟩⟩
  have og:∀ j,j < (kE ++ news).length -> ((kE ++ news).toArray ++ rest)[0 + j]? = (kE ++ news)[j]?:=by
   intro j hj
   rw [Nat.zero_add,Array.getElem?_append_left (by simpa using hj)]
   simp
  have fB:((kE ++ news).toArray ++ rest).size = tW * s:=by
   simp [NQ,sK,Ep]
   have:tW * s = (n + new.length) * s + (tW - (n + new.length)) * s:=by rw [<- Nat.add_mul]; congr 1; omega
   rw [this,Nat.add_mul]
  have Et:cE E' (((rs.drop lo).take n) ++ new) ((kE ++ news).toArray ++ rest) 0 (R1 ++ R2):=by
   refine cE.app (Jz E' _ _ (g9 R1 (fun b hb=>(hi.own _ _ (sf b hb)).1)) fun j hj=>?_) ?_
   ·rw [og j (by simp; omega),List.getElem?_append_left hj]
   ·rw [length_flatten ((hu.drop lo).take n),xC]
    refine NN E' _ _ (g9 R2 (fun b hb=>(mH b hb).1)) fun j hj=>?_
    have:=og (kE.length + j) (by simp; omega)
    rw [List.getElem?_append_right om] at this
    rw [show 0 + n * s + j = 0 + (kE.length + j) by omega,this]
    congr 1; omega
  have NU:E.w.heap.size ∉ R1 ++ R2:=by
   intro h
   rcases List.mem_append.1 h with h | h
   ·have:=(hi.own _ _ (sf _ h)).1; omega
   ·have:=(mH _ h).1; omega
  have Nt:E'.w.heap.size = E.w.heap.size + 1:=by simp [E']
  refine ⟨_,E',_,iZ,hi.ln Hj (o:=o) (R:=E.w.heap.size :: (R1 ++ R2)) (fun _ h=>h.elim) (fun q hq=>by simp [E',hq]) (fun h=>by rw [hF] at h; cases h) ?_ ?_ ?_,?_⟩
  ·simp only [dh]
   refine ⟨hU,.inr ⟨⟨E.w.heap.size,0,tW⟩,_,e,R1 ++ R2,by simp [E'],?_,fun i=>?_,by simp [xC]; omega,by rw [fB]; simp,Et,rfl⟩⟩
   ·have:=heap_alloc E.w.drew (.cells ((kE ++ news).toArray ++ rest) e)
    exact this
   ·show E.φ E.w.heap.size i = none
    cases h:E.φ E.w.heap.size i with
    | none=>rfl
    | some v=>exact absurd (World.block_lt_of_cell? E.w _ (hi.lh _ _ _ h)) (by simp)
  ·exact List.nodup_cons.2 ⟨NU,se⟩
  ·intro b hb
   rw [Nt]
   rcases List.mem_cons.1 hb with h | h
   ·subst h
    refine ⟨om,fun hK=>?_,hi.x6 (.inr (Nat.le_refl _))⟩
    have:=hi.small _ hK
    have:=hi.size
    omega
   ·rcases List.mem_append.1 h with h | h
    ·exact ⟨by have:=(hi.own _ _ (sf b h)).1; omega,hi.vg (sf b h),hi.x6 (.inl (sf b h))⟩
    ·exact ⟨by have:=(mH b h).1; omega,(mH b h).2.1,fun p _=>(mH b h).2.2 p⟩
  ·simp only [RX]
   exact ⟨trivial,_,tW,rfl,.inr ⟨⟨E.w.heap.size,0,tW⟩,by simp [E'],by simp,om,.inr (by simp)⟩⟩
end
end Go.AW
namespace Go.AW
open Go
section
variable {P:Program} {N:eZ} {G:Ctx} {E:Env} {RR:Own -> List Nat} {st:St} {a:Act}
theorem Inv.trim(hi : Inv G E RR st a){o s lo n : Nat}{rs : List (List X)}{c : Value}(hx : RX E (.aR o s lo n) c [])(ho : look st.aD o = some (.rows s rs))(qA : lo + n ≤ rs.length)(hF : G.fn.F.elem o = false) :
  ∃ E' fO,E'.w = E.w /\ Inv G E' fO ((st.kill o).de o (.rows s ((rs.drop lo).take n))) a /\ RX E' (.aR o s 0 n) c []:=by
 have aY:=hi.aD o _ ho
 have js:=hi.nodup (.obj o)
 simp only [RX] at hx
 obtain ⟨_,base,cap,rfl,cX⟩:=hx
 simp only [dh] at aY
 obtain ⟨hu,aY⟩:=aY
 have hβ:∀ (bk:Option zI),di G E { E with β:=fun q=>if q = o then bk else E.β q } (fun _=>False):=fun _ =>
  ⟨rfl,fun _ h=>h.elim,fun _ h=>h.elim,fun _ _ _=>rfl,Nat.le_refl _,rfl,rfl,rfl⟩
 have xC:((rs.drop lo).take n).length = n:=by simp; omega
 by_cases oE:cap = 0
 ·have zA:n = 0:=by rcases cX with ⟨_,_,h,_⟩ | ⟨_,_,_,h,_⟩ <;> omega
  subst zA
  refine ⟨{ E with β:=fun q=>if q = o then none else E.β q },_,rfl,hi.ln (hβ none) (o:=o) (R:=[]) (fun _ h=>h.elim) (fun q hq=>by simp [hq]) (fun h=>by rw [hF] at h; cases h) ?_ List.nodup_nil (fun _ h=>by cases h),?_⟩
  ·simp only [dh]; exact ⟨fun _ h=>(by simp at h),.inl ⟨by simp,by simp,trivial⟩⟩
  ·simp only [RX]; exact ⟨trivial,base,cap,rfl,.inl ⟨by simp,trivial,trivial,oE⟩⟩
 ·rcases cX with ⟨_,_,_,h⟩ | ⟨B,hB,Nu,rY,hb⟩
  ·exact absurd h oE
  have gY:=hb.resolve_left oE
  rcases aY with ⟨h1,_⟩ | ⟨B',cs,tb,R',iI,hw,hφ,lN,fB,jF,gK⟩
  ·rw [hB] at h1; cases h1
  rw [hB] at iI
  obtain rfl:=Option.some.inj iI
  rw [gK] at js
  obtain ⟨sj,mF⟩:=List.nodup_cons.1 js
  obtain ⟨R1,CM,dG,CN⟩:=cE.zV hu jF qA
  have g9:E.On { E with β:=fun q=>if q = o then some ⟨B.b,B.off + lo * s,cap⟩ else E.β q } R1:=⟨fun _ _ _ h=>h,fun _ _=>⟨rfl,fun h=>h⟩⟩
  refine ⟨{ E with β:=fun q=>if q = o then some ⟨B.b,B.off + lo * s,cap⟩ else E.β q },_,rfl,hi.ln (hβ (some ⟨B.b,B.off + lo * s,cap⟩)) (o:=o) (R:=B.b :: R1) (fun _ h=>h.elim) (fun q hq=>by simp [hq]) (fun h=>by rw [hF] at h; cases h) ?_ (List.nodup_cons.2 ⟨fun h=>sj (dG _ h),CN mF⟩) ?_,?_⟩
  ·simp only [dh]
   refine ⟨(hu.drop lo).take n,.inr ⟨⟨B.b,B.off + lo * s,cap⟩,cs,tb,R1,by simp,hw,hφ,by simp [xC]; omega,?_,cE.mono _ _ _ _ g9 CM,rfl⟩⟩
   have:B.cap = lo + cap:=Nu.symm
   rw [this,Nat.add_mul] at fB
   simp only; omega
  ·intro b xD
   have hm:b ∈ RR (.obj o):=by
    rw [gK]
    rcases List.mem_cons.1 xD with h | h
    ·simp [h]
    ·simp [dG b h]
   exact ⟨(hi.own _ _ hm).1,hi.vg hm,hi.x6 (.inl hm)⟩
  ·simp only [RX]
   exact ⟨trivial,base,cap,rfl,.inr ⟨⟨B.b,B.off + lo * s,cap⟩,by simp,by simp,rY,.inr (by simpa using gY)⟩⟩
theorem Sh.trim{d o s lo n : Nat}{rs : List (List X)}(hx : look st.aC d = some (.aR o s lo n))(ho : look st.aD o = some (.rows s rs))(qA : lo + n ≤ rs.length)(hF : N.F.elem o = false) :
  Sh N st (((st.kill o).de o (.rows s ((rs.drop lo).take n))).put d (.aR o s 0 n)):=by
 intro G hn a w hh
 obtain ⟨E,RR,rfl,hi⟩:=hh
 have hv:=hi.aC d _ hx
 have h0:RR (.slot d) = []:=RX.free (x:=.aR o s lo n) rfl hv
 rw [h0] at hv
 obtain ⟨E',fO,hw,h1,h2⟩:=hi.trim hv ho qA (by rw [hn]; exact hF)
 exact ⟨E',_,hw,h1.relabel h2 List.nodup_nil (fun _ h=>by cases h)⟩
theorem Inv.nil(hi:Inv G E RR st a)(o s:Nat)(hF:G.fn.F.elem o = false):∃ E' fO,E'.w = E.w /\ Inv G E' fO ((st.kill o).de o (.rows s [])) a /\ RX E' (.aR o s 0 0) (.slice none 0 0) []:=by
 have hβ:di G E { E with β:=fun q=>if q = o then none else E.β q } (fun _=>False) :=
  ⟨rfl,fun _ h=>h.elim,fun _ h=>h.elim,fun _ _ _=>rfl,Nat.le_refl _,rfl,rfl,rfl⟩
 refine ⟨{ E with β:=fun q=>if q = o then none else E.β q },_,rfl,hi.ln hβ (o:=o) (R:=[]) (fun _ h=>h.elim) (fun q hq=>by simp [hq]) (fun h=>by rw [hF] at h; cases h) ?_ List.nodup_nil (fun _ h=>by cases h),?_⟩
 ·simp only [dh]; exact ⟨fun _ h=>(by cases h),.inl ⟨by simp,trivial,trivial⟩⟩
 ·simp only [RX]; exact ⟨trivial,none,0,rfl,.inl ⟨by simp,by trivial,by trivial,by trivial⟩⟩
theorem Sh.nil{d:Nat}(o s:Nat)(hx:look st.aC d = some (.v (.slice none 0 0)))(hF:N.F.elem o = false):Sh N st (((st.kill o).de o (.rows s [])).put d (.aR o s 0 0)):=by
 intro G hn a w hh
 obtain ⟨E,RR,rfl,hi⟩:=hh
 have hv:=hi.aC d _ hx
 simp only [RX] at hv
 obtain ⟨E',fO,hw,h1,h2⟩:=hi.nil o s (by rw [hn]; exact hF)
 refine ⟨E',_,hw,h1.relabel (d:=d) (by rw [hv.1]; exact h2) List.nodup_nil (fun _ h=>by cases h)⟩
theorem Sh.S1{d:Nat}(s:Nat)(hx:look st.aC d = some (.v (.slice none 0 0))):Sh N st (st.put d (.fz s [])):=by
 intro G hn a w hh
 obtain ⟨E,RR,rfl,hi⟩:=hh
 have hv:=hi.aC d _ hx
 simp only [RX] at hv
 refine ⟨E,_,rfl,hi.relabel (d:=d) (R:=[]) ?_ List.nodup_nil (fun _ h=>by cases h)⟩
 rw [hv.1]
 simp only [RX]
 exact ⟨trivial,fun _ h=>(by cases h),none,0,rfl,.inl ⟨by trivial,by trivial⟩⟩
theorem Sh.zX{d:Nat}(s:Nat)(hx:look st.aC d = some (.v (.slice none 0 0))):Sh N st (st.put d (.dn s [])):=by
 intro G hn a w hh
 obtain ⟨E,RR,rfl,hi⟩:=hh
 have hv:=hi.aC d _ hx
 simp only [RX] at hv
 refine ⟨E,_,rfl,hi.relabel (d:=d) (R:=[]) ?_ List.nodup_nil (fun _ h=>by cases h)⟩
 rw [hv.1]
 simp only [RX]
 exact ⟨fun _ h=>(by cases h),none,0,rfl,.inl ⟨by trivial,by trivial,by trivial⟩⟩
theorem nS{t e s dJ ty n cap : Nat}{base b2 : Option Addr}{c2 : Nat}(ht : TY.slice P t = some (e, s, dJ))(hc : n ≤ cap)(w : World) :
  (Builtin.append_ #[t,t] ty #[.slice base n cap,.slice b2 0 c2]).run P w = .ok (.slice base n cap) w:=by
 obtain ⟨hu,i,ia,hs,Ju⟩:=TY.dP ht
 have h0:∀ a:Addr,(storeCells a []).run P w = .ok () w:=fun _=>rfl
 cases b2 with
 | none =>
  cases base with
  | none=>simp [Builtin.append_,run_underlying hu,sizeOf,typeInfo,ia,Builtin.lenOf,hc,Builtin.firstCells]
  | some b=>simp [Builtin.append_,run_underlying hu,sizeOf,typeInfo,ia,Builtin.lenOf,hc,Builtin.firstCells,h0]
 | some b' =>
  have hl:∀ a:Addr,(loadCells a 0).run P w = .ok #[] w:=fun _=>rfl
  cases base with
  | none=>simp [Builtin.append_,run_underlying hu,sizeOf,typeInfo,ia,Builtin.lenOf,hc,Builtin.firstCells,hl]
  | some b=>simp [Builtin.append_,run_underlying hu,sizeOf,typeInfo,ia,Builtin.lenOf,hc,Builtin.firstCells,h0,hl]
variable {Q:Exit -> St -> Prop} {all:Array Oper} {rest:List Oper} {d:Nat} {ty:TypeId} {pos:String} {af:Array Edge}
theorem jx{x y : Operand}{t : Nat}{w w' : World}{u : Value}(h : (Builtin.append_ #[t, t] ty #[a.eval x, a.eval y]).run P w = .ok u w') :
  (execOp a.eval ⟨some d,.call ⟨.builtin .append,#[x,y],#[t,t]⟩,ty,pos,af,none⟩).run P w = .ok (.value u) w':=by
 refine jg (g:=none) ?_
 have e:(#[x,y]:Array Operand).map a.eval = #[a.eval x,a.eval y]:=by simp
 rw [e]
 exact dN h
theorem aS.append{t e s dJ tv : Nat}{z : List Value}{x : Operand}{o lo n : Nat}{rs new : List (List X)}(ht : TY.slice P t = some (e, s, dJ))(hz : TY.zero P e = some z)(sJ : Nat.beq z.length s = true)
  (hy:look st.aC tv = some (.dn s new)) (hx:bW (st.put tv .no) x = some (.aR o s lo n)) (ho:look st.aD o = some (.rows s rs)) (qA:lo + n <= rs.length)
  (si:(n + new.length) * dJ <= 140737488355328) (DU:n + new.length <= 4611686018427387904) (hF:N.F.elem o = false) (hd:d < N.n)
  (k:aS P N all rest (((((st.put tv .no).kill o).de o (.rows s (((rs.drop lo).take n) ++ new)))).put d (.aR o s 0 (n + new.length))) Q) :
  aS P N all (⟨some d,.call ⟨.builtin .append,#[x,.tmp tv],#[t,t]⟩,ty,pos,af,none⟩ :: rest) st Q:=by
 refine aS.Ek (fun G E RR a hn hi=>?_) k
 have hv:=hi.aC tv _ hy
 have lM:=hi.no tv
 obtain ⟨R,CH⟩:=lM.eval hx
 have h0:R = []:=RX.free (x:=.aR o s lo n) rfl CH
 subst h0
 have NV:G.fn.F.elem o = false:=by rw [hn]; exact hF
 by_cases hm:0 < new.length
 ·obtain ⟨R2,Es,dG,js⟩:=Src.NK hv hm
  obtain ⟨u,E',fO,iZ,h1,h2⟩:=lM.append (ty:=ty) ht hz (Nat.eq_of_beq_eq_true sJ) CH ho qA Es hm (js (hi.nodup _)) (fun b hb=>by
   have gY:=dG b hb
   refine ⟨(hi.own _ _ gY).1,(hi.own _ _ gY).2,fun p hp=>?_⟩
   unfold fA at hp
   split at hp
   ·cases hp
   ·rename_i h; exact hi.apart _ _ h b hp gY) si DU NV
  exact ⟨u,E',_,jx iZ,h1.gZ (by rw [hn]; exact hd) h2⟩
 ·have o8:new = []:=List.eq_nil_of_length_eq_zero om
  subst o8
  obtain ⟨E',fO,hw,h1,h2⟩:=lM.trim CH ho qA NV
  simp only [List.append_nil,List.length_nil,Nat.add_zero]
  refine ⟨a.eval x,E',_,?_,h1.gZ (by rw [hn]; exact hd) h2⟩
  rw [hw]
  refine jx ?_
  simp only [RX] at CH hv
  obtain ⟨_,base,cap,hc,cX⟩:=CH
  obtain ⟨_,b2,c2,S2,_⟩:=hv
  have S3:a.eval (.tmp tv) = .slice b2 0 c2:=S2
  rw [hc,S3]
  exact nS ht (by rcases cX with ⟨_,_,h3,h4⟩ | ⟨_,_,_,h3,_⟩ <;> omega) E.w
theorem aS.HE{t e s dJ : Nat}{z : List Value}{x y : Operand}{o lo n : Nat}{rs new : List (List X)}(ht : TY.slice P t = some (e, s, dJ))(hz : TY.zero P e = some z)(sJ : Nat.beq z.length s = true)
  (hy:bW st y = some (.fz s new)) (hx:bW st x = some (.aR o s lo n)) (ho:look st.aD o = some (.rows s rs)) (qA:lo + n <= rs.length)
  (si:(n + new.length) * dJ <= 140737488355328) (DU:n + new.length <= 4611686018427387904) (hF:N.F.elem o = false) (hd:d < N.n)
  (k:aS P N all rest ((((st.kill o).de o (.rows s (((rs.drop lo).take n) ++ new)))).put d (.aR o s 0 (n + new.length))) Q) :
  aS P N all (⟨some d,.call ⟨.builtin .append,#[x,y],#[t,t]⟩,ty,pos,af,none⟩ :: rest) st Q:=by
 refine aS.Ek (fun G E RR a hn hi=>?_) k
 obtain ⟨R',hv⟩:=hi.eval hy
 obtain ⟨R,CH⟩:=hi.eval hx
 have h0:R = []:=RX.free (x:=.aR o s lo n) rfl CH
 subst h0
 have NV:G.fn.F.elem o = false:=by rw [hn]; exact hF
 by_cases hm:0 < new.length
 ·have Es:=Src.Sw hi hv hm
  obtain ⟨u,E',fO,iZ,h1,h2⟩:=hi.append (ty:=ty) ht hz (Nat.eq_of_beq_eq_true sJ) CH ho qA Es hm List.nodup_nil (fun _ h=>by cases h) si DU NV
  exact ⟨u,E',_,jx iZ,h1.gZ (by rw [hn]; exact hd) h2⟩
 ·have o8:new = []:=List.eq_nil_of_length_eq_zero om
  subst o8
  obtain ⟨E',fO,hw,h1,h2⟩:=hi.trim CH ho qA NV
  simp only [List.append_nil,List.length_nil,Nat.add_zero]
  refine ⟨a.eval x,E',_,?_,h1.gZ (by rw [hn]; exact hd) h2⟩
  rw [hw]
  refine jx ?_
  simp only [RX] at CH hv
  obtain ⟨_,base,cap,hc,cX⟩:=CH
  obtain ⟨_,_,b2,c2,S2,_⟩:=hv
  rw [hc,S2]
  exact nS ht (by rcases cX with ⟨_,_,h3,h4⟩ | ⟨_,_,_,h3,_⟩ <;> omega) E.w
end
end Go.AW
namespace Go.AW
open Go
def dE{α : Type} : Nat → List α → List (Nat × α)
 | _,[]=>[]
 | i,x :: r=>(i,x) :: dE (i + 1) r
theorem tX{α : Type} : ∀ (l : List α) (i s : Nat), look (dE i l) s = if i ≤ s then l[s - i]? else none
 | [],i,s=>by simp [dE,look]
 | x :: r,i,s=>by
  simp only [dE,look]
  cases hb:Nat.beq i s with
  | true=>have:=Nat.eq_of_beq_eq_true hb; subst this; simp
  | false =>
   have fb:=Nat.ne_of_beq_eq_false hb
   simp only [cond_false]
   rw [tX r (i + 1) s]
   by_cases h:i <= s
   ·rw [if_pos h,if_pos om,show s - i = (s - (i + 1)) + 1 by omega]; simp
   ·rw [if_neg h,if_neg om]
theorem ib{α:Type}(l:List α)(s:Nat):look (dE 0 l) s = l[s]?:=by
 rw [tX]; simp
def oF(K:Nat -> Prop)(E:Env)(fn:eZ):Ctx:=⟨K,E.w,E.φ,E.β,fn,[]⟩
def ay(P:Program)(f:FuncId)(args:List X)(aD:List Obj)(F:List Nat)(Q:X -> List Obj -> Prop):Prop :=
 ∀ (K : Nat → Prop) (E : Env) (RR : Own → List Nat) (cS : Array Value), Inv (oF K E ⟨args.length, F⟩) E RR ⟨dE 0 args, dE 0 aD⟩ ⟨cS, []⟩ →
  Calls P f cS E.w fun e w'=>∃ v r aJ,e = .returned v /\ Q r aJ /\ aJ.length = aD.length /\ ∃ E' fO,E'.w = w' /\ Inv (oF K E ⟨1,F⟩) E' fO ⟨[(0,r)],dE 0 aJ⟩ ⟨#[v],[]⟩
theorem ay.mono{P:Program}{f:FuncId}{args:List X}{aD:List Obj}{F:List Nat}{Q Q':X -> List Obj -> Prop}(h:ay P f args aD F Q)(hq:∀ r o,Q r o -> Q' r o):ay P f args aD F Q' :=
 fun K E RR cS hi=>Calls.mono (h K E RR cS hi) fun _ _ ⟨v,r,aJ,he,hQ,hl,hx⟩=>⟨v,r,aJ,he,hq _ _ hQ,hl,hx⟩
def wx(P : Program)(st : St) : ResultVar → Option X
 | .tmp t=>look st.aC t
 | .cell a t=>match look st.aC a with
  | some p=>match rowAt st p with
   | some row=>match TY.shape P t with
    | some none=>match row[lk p]? with
     | some y=>bif y.free then some y else none
     | none=>none
    | some (some m)=>bif Nat.ble (lk p + m) row.length && X.b5 ((row.drop (lk p)).take m) then some (.agg ((row.drop (lk p)).take m)) else none
    | none=>none
   | none=>none
  | none=>none
def kF(P : Program)(st : St) : List ResultVar → Option (List X)
 | []=>some []
 | r :: rs=>match wx P st r,kF P st rs with
  | some x,some xs=>some (x :: xs)
  | _,_=>none
def iJ : List ResultVar → List Nat
 | []=>[]
 | .tmp t :: r=>t :: iJ r
 | .cell _ _ :: r=>iJ r
def qB : List X → X
 | [x]=>x
 | xs=>.tup xs
section
variable {P:Program} {N:eZ} {G:Ctx} {E:Env} {RR:Own -> List Nat} {st:St} {a:Act}
def qC(tmps:Array Value)(rv:ResultVar):Sem Value :=
 match rv with
 | .tmp t=>pure (tmps.getD t undef)
 | .cell a t=>do loadVar t (<- asAddr (tmps.getD a undef))
theorem HF(hi : Inv G E RR st a){rv : ResultVar}{x : X}(h : wx P st rv = some x) :
  ∃ c R,(qC a.tmps rv).run P E.w = .ok c E.w /\ RX E x c R /\ ((∃ t,rv = .tmp t /\ R = RR (.slot t)) \/ R = []):=by
 cases rv with
 | tmp t=>exact ⟨_,_,rfl,hi.aC t x h,.inl ⟨t,rfl,rfl⟩⟩
 | cell ad t =>
  simp only [wx] at h
  cases hp:look st.aC ad with
  | none=>simp [hp] at h
  | some p =>
   rw [hp] at h
   simp only at h
   cases q9:rowAt st p with
   | none=>simp [q9] at h
   | some row =>
    rw [q9] at h
    simp only at h
    obtain ⟨b,off,hc,iv⟩:=hi.behind (hi.aC ad p hp) q9
    cases hs:TY.shape P t with
    | none=>simp [hs] at h
    | some sh =>
     rw [hs] at h
     cases sh with
     | none =>
      simp only at h
      cases hk:row[lk p]? with
      | none=>simp [hk] at h
      | some y =>
       rw [hk] at h
       simp only at h
       cases hf:y.free with
       | false=>simp [hf] at h
       | true =>
        rw [hf] at h
        simp only [cond_true,Option.some.injEq] at h
        subst h
        have Eu:lk p < row.length:=by
         rcases Nat.lt_or_ge (lk p) row.length with h' | h'
         ·exact h'
         ·simp [List.getElem?_eq_none h'] at hk
        obtain ⟨vs,R',hl,hv,gf⟩:=iv (lk p) 1 om
        rw [getElem?_drop_take_one hk] at gf
        simp only [b6] at gf
        obtain ⟨c,dg,R₁,R₂,HA,_,h1,⟨rfl,rfl⟩,rfl⟩:=gf
        subst HA
        have h0:=RX.free hf h1
        subst h0
        refine ⟨c,[],?_,h1,.inr rfl⟩
        have gJ:=hv 0 c rfl
        simp only [Nat.add_zero] at gJ
        simp [qC,hc,asAddr,loadVar,(TY.iX hs E.w).1,gJ]
     | some m =>
      simp only at h
      cases hb:Nat.ble (lk p + m) row.length && X.b5 ((row.drop (lk p)).take m) with
      | false=>simp [hb] at h
      | true =>
       rw [hb] at h
       simp only [cond_true,Option.some.injEq] at h
       subst h
       simp only [Bool.and_eq_true] at hb
       obtain ⟨vs,R',hl,hv,gf⟩:=iv (lk p) m (Nat.le_of_ble_eq_true hb.1)
       have h0:=b6.free hb.2 gf
       subst h0
       refine ⟨.agg vs.toArray,[],?_,by simp only [RX]; exact ⟨_,rfl,gf⟩,.inr rfl⟩
       obtain ⟨h1,h2⟩:=TY.nu hs E.w
       have h3:(loadCells ⟨b,off + lk p,none⟩ m).run P E.w = .ok vs.toArray E.w:=by
        rw [<- hl]
        exact run_loadCells_list (w:=E.w) _ vs fun j v hj=>by rw [iu,Nat.add_assoc]; exact hv j v hj
       simp [qC,hc,asAddr,loadVar,h1,h2,h3]
theorem wy(hi : Inv G E RR st a) : ∀ {oh : List ResultVar} {xs : List X}, kF P st oh = some xs → (iJ oh).Nodup →
  ∃ cs R,(oh.mapM (qC a.tmps)).run P E.w = .ok cs E.w /\ eC E xs cs R /\ R.Nodup /\ (∀ b ∈ R,∃ t ∈ iJ oh,b ∈ RR (.slot t))
 | [],xs,h,_=>by
  simp only [kF,Option.some.injEq] at h
  subst h
  exact ⟨[],[],rfl,by simp [eC],List.nodup_nil,fun _ h=>by cases h⟩
 | rv :: oh,xs,h,hn=>by
  simp only [kF] at h
  cases h1:wx P st rv with
  | none=>simp [h1] at h
  | some x =>
   cases h2:kF P st oh with
   | none=>simp [h1,h2] at h
   | some ys =>
    rw [h1,h2] at h
    simp only [Option.some.injEq] at h
    subst h
    have rY:(iJ oh).Nodup:=by
     cases rv with
     | tmp t=>exact (List.nodup_cons.1 hn).2
     | cell _ _=>exact hn
    obtain ⟨c,R1,Y5,WO,sf⟩:=HF hi h1
    obtain ⟨cs,R2,MI,S4,xE,xB⟩:=wy hi h2 rY
    refine ⟨c :: cs,R1 ++ R2,?_,?_,?_,?_⟩
    ·rw [List.mapM_cons]
     refine kj Y5 ?_
     refine kj MI rfl
    ·simp only [eC]; exact ⟨c,cs,R1,R2,rfl,WO,S4,rfl⟩
    ·rcases sf with ⟨t,rfl,rfl⟩ | rfl
     ·rw [List.nodup_append]
      refine ⟨hi.nodup _,xE,fun b hb b' gY e=>?_⟩
      subst e
      obtain ⟨t',S5,xD⟩:=xB b gY
      have fb:t ≠ t':=fun e=>by subst e; exact (List.nodup_cons.1 hn).1 S5
      exact hi.apart (.slot t) (.slot t') (by simpa using fb) b hb xD
     ·simpa using xE
    ·intro b hb
     rcases List.mem_append.1 hb with hb | hb
     ·rcases sf with ⟨t,rfl,rfl⟩ | rfl
      ·exact ⟨t,by simp [iJ],hb⟩
      ·cases hb
     ·obtain ⟨t,ht,gY⟩:=xB b hb
      refine ⟨t,?_,gY⟩
      cases rv with
      | tmp t'=>exact List.mem_cons.2 (.inr ht)
      | cell _ _=>exact ht
def ka(l : List (Nat × Obj)) : Nat → Nat → Option (List Obj)
 | _,0=>some []
 | i,k + 1=>match look l i,ka l (i + 1) k with
  | some ob,some r=>some (ob :: r)
  | _,_=>none
theorem nw : ∀ {l : List (Nat × Obj)} {k i : Nat} {r : List Obj}, ka l i k = some r → r.length = k ∧ ∀ j, j < k → look l (i + j) = r[j]?
 | _,0,_,r,h=>by simp only [ka,Option.some.injEq] at h; subst h; exact ⟨rfl,fun j hj=>by omega⟩
 | l,k + 1,i,r,h=>by
  simp only [ka] at h
  cases h1:look l i with
  | none=>simp [h1] at h
  | some ob =>
   cases h2:ka l (i + 1) k with
   | none=>simp [h1,h2] at h
   | some r' =>
    rw [h1,h2] at h
    simp only [Option.some.injEq] at h
    subst h
    obtain ⟨hl,hg⟩:=nw h2
    refine ⟨by simp [hl],fun j hj=>?_⟩
    cases j with
    | zero=>simpa using h1
    | succ j =>
     have:=hg j om
     rw [show i + (j + 1) = i + 1 + j by omega,this]; simp
def Ends(P : Program)(oh : List ResultVar)(k : Nat)(Q : X → List Obj → Prop) : Exit → St → Prop
 | .normal,st | .ret,st=>∃ xs aJ,kF P st oh = some xs /\ ka st.aD 0 k = some aJ /\ Q (qB xs) aJ
 | _,_=>False
theorem Inv.enter{fn : Func}{args : List X}{aD : List Obj}{F : List Nat}{n : Nat}{K : Nat → Prop}{E : Env}{RR : Own → List Nat}{cS : Array Value}(hn : fn.ntmps = n)(hle : args.length ≤ n)(hi : Inv (oF K E ⟨args.length, F⟩) E RR ⟨dE 0 args, dE 0 aD⟩ ⟨cS, []⟩) :
  Inv (oF K E ⟨n,F⟩) E RR ⟨dE 0 args,dE 0 aD⟩ ⟨cS ++ Array.replicate (fn.ntmps - cS.size) undef,[]⟩:=by
 have ve:cS.size = args.length:=hi.tmps
 refine { hi with aC:=?_,tmps:=?_,defers:=rfl }
 ·intro s x hx
  have h0:=hi.aC s x hx
  have hs:s < cS.size:=by
   rw [ve]
   have jw:look (dE 0 args) s = some x:=hx
   rw [ib] at jw
   rcases Nat.lt_or_ge s args.length with h' | h'
   ·exact h'
   ·simp [List.getElem?_eq_none h'] at jw
  have:(cS ++ Array.replicate (fn.ntmps - cS.size) undef).getD s undef = cS.getD s undef:=by
   simp only [Array.getD_eq_getD_getElem?,Array.getElem?_append_left hs]
  show RX E x ((cS ++ Array.replicate (fn.ntmps - cS.size) undef).getD s undef) (RR (.slot s))
  rw [this]; exact h0
 ·show (cS ++ Array.replicate (fn.ntmps - cS.size) undef).size = n
  simp; omega
theorem xF{fn : Func}{aD : List Obj}{F : List Nat}{Q : X → List Obj → Prop}{n : Nat}{oh : List ResultVar}{K : Nat → Prop}{E E' : Env}{fO : Own → List Nat}{st : St}{a : Act}(hr : fn.results.toList = oh)(js : (iJ oh).Nodup)(h1 : Inv (oF K E ⟨n, F⟩) E' fO st a) :
  (∃ xs aJ, kF P st oh = some xs ∧ ka st.aD 0 aD.length = some aJ ∧ Q (qB xs) aJ) → a.defers = [] ∧ ∃ v, (results fn a.tmps).run P E'.w = .ok v E'.w ∧
   ∃ v' r aJ,Ending.returned v = .returned v' /\ Q r aJ /\ aJ.length = aD.length /\ ∃ lQ tY,lQ.w = E'.w /\ Inv (oF K E ⟨1,F⟩) lQ tY ⟨[(0,r)],dE 0 aJ⟩ ⟨#[v'],[]⟩:=by
 rintro ⟨xs,aJ,zY,lq,hQ⟩
 obtain ⟨hlen,Ev⟩:=nw lq
 have kl:∀ j,j < aD.length -> look st.aD j = aJ[j]?:=fun j hj=>by have:=Ev j hj; rwa [Nat.zero_add] at this
 refine ⟨h1.defers,?_⟩
 obtain ⟨cs,R,iZ,hx,K9,Rr⟩:=wy h1 zY js
 have tZ:(results fn a.tmps).run P E'.w = .ok (if h:cs.toArray.size = 1 then cs.toArray[0] else .tuple cs.toArray) E'.w:=by
  have e:results fn a.tmps = (do let vs <- fn.results.mapM (qC a.tmps); Pure.pure (if h:vs.size = 1 then vs[0] else .tuple vs):Sem Value):=rfl
  rw [e,show fn.results = oh.toArray by rw [<- hr]]
  refine kj (u:=cs.toArray) ?_ rfl
  rw [List.mapM_toArray]
  simp only [Sem.run_map,iZ]
  rfl
 refine ⟨_,tZ,_,qB xs,aJ,rfl,hQ,hlen,?_⟩
 have S6:RX E' (qB xs) (if h:cs.toArray.size = 1 then cs.toArray[0] else .tuple cs.toArray) R:=by
  cases xs with
  | nil =>
   simp only [eC] at hx
   obtain ⟨rfl,rfl⟩:=hx
   simp only [qB,RX]
   exact ⟨#[],by simp,by simp [eC]⟩
  | cons x xs =>
   cases xs with
   | nil =>
    simp only [eC] at hx
    obtain ⟨c,dg,R₁,R₂,rfl,h1,⟨rfl,rfl⟩,rfl⟩:=hx
    simpa [qB] using h1
   | cons y ys =>
    have jw:=hx
    simp only [eC] at hx
    obtain ⟨c,dg,R₁,R₂,rfl,_,⟨c',KA,R₃,R₄,rfl,_⟩,_⟩:=hx
    simp only [qB,RX]
    exact ⟨(c :: c' :: KA).toArray,by simp,by simpa using jw⟩
 let pM:Own -> List Nat:=fun p=>match p with
  | .slot s=>if s = 0 then R else []
  | .obj o=>if o < aD.length then fO (.obj o) else []
 have og:∀ p b,b ∈ pM p -> ∃ q,b ∈ fO q /\ ((∃ o,p = .obj o /\ q = .obj o) \/ (p = .slot 0 /\ ∃ t,q = .slot t)):=by
  intro p b hb
  cases p with
  | slot s =>
   by_cases hs:s = 0
   ·subst hs
    simp only [pM,if_true] at hb
    obtain ⟨t,_,ht⟩:=Rr b hb
    exact ⟨.slot t,ht,.inr ⟨rfl,t,rfl⟩⟩
   ·simp [pM,hs] at hb
  | obj o =>
   by_cases ho:o < aD.length
   ·simp only [pM,ho,if_true] at hb
    exact ⟨.obj o,hb,.inl ⟨o,rfl,rfl⟩⟩
   ·simp [pM,ho] at hb
 refine ⟨E',pM,rfl,{ h1 with aC:=?_,aD:=?_,nodup:=?_,apart:=?_,own:=?_,tmps:=?_,defers:=rfl }⟩
 ·intro s x jw
  simp only [look] at jw
  cases wu:Nat.beq 0 s with
  | false=>simp [wu] at jw
  | true =>
   have:=Nat.eq_of_beq_eq_true wu
   subst this
   simp only [wu,cond_true,Option.some.injEq] at jw
   subst jw
   simpa [pM] using S6
 ·intro o ob ho
  have lS:look (dE 0 aJ) o = some ob:=ho
  rw [ib] at lS
  have gG:o < aD.length:=by
   rcases Nat.lt_or_ge o aD.length with h' | h'
   ·exact h'
   ·rw [List.getElem?_eq_none om] at lS; cases lS
  have:=h1.aD o ob (by rw [kl o gG]; exact lS)
  simpa [pM,gG] using this
 ·intro p
  cases p with
  | slot s=>by_cases hs:s = 0 <;> simp [pM,hs,K9]
  | obj o=>by_cases ho:o < aD.length <;> simp [pM,ho,h1.nodup]
 ·intro p q mE b hb gY
  obtain ⟨p',J0,S7⟩:=og p b hb
  obtain ⟨q',CJ,NW⟩:=og q b gY
  have fb:p' ≠ q':=by
   rcases S7 with ⟨o,rfl,rfl⟩ | ⟨rfl,t,rfl⟩
   ·rcases NW with ⟨o',rfl,rfl⟩ | ⟨rfl,t',rfl⟩
    ·exact mE
    ·simp
   ·rcases NW with ⟨o',rfl,rfl⟩ | ⟨rfl,t',rfl⟩
    ·simp
    ·exact absurd rfl mE
  exact h1.apart p' q' fb b J0 CJ
 ·intro p b hb
  obtain ⟨q,CJ,_⟩:=og p b hb
  exact h1.own q b CJ
 ·rfl
theorem ay.of{f : FuncId}{fn : Func}{c : Code}{args : List X}{aD : List Obj}{F : List Nat}{Q : X → List Obj → Prop}{n : Nat}{oh : List ResultVar}(hf : P.funcs[f]? = some fn)(hb : fn.body = some c)(hn : fn.ntmps = n)(hr : fn.results.toList = oh)
  (js:(iJ oh).Nodup) (hle:args.length <= n) (h:dy P ⟨n,F⟩ c ⟨dE 0 args,dE 0 aD⟩ (Ends P oh aD.length Q)):ay P f args aD F Q:=by
 intro K E RR cS hi
 refine calls_of_wp hf hb ?_
 refine wp_mono (h (oF K E ⟨n,F⟩) rfl _ _ ⟨E,RR,rfl,hi.enter hn hle⟩) ?_
 rintro e a w ⟨st,⟨E',fO,rfl,h1⟩,hq⟩
 have key:=xF (P:=P) (aD:=aD) (Q:=Q) hr js h1
 cases e with
 | normal=>exact key hq
 | ret=>exact key hq
 | _=>exact hq.elim
end
end Go.AW
