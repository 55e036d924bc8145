/- Part of the abstract walk: names of objects in a callee and in its caller; values that dB no frozen memory. -/
import Derived.Test.YtlimckldnjmabaaAWx0
import Derived.StillTail
import Derived.Orders
import Derived.Below
import Derived.Carry
import Derived.Deep.Slices
import Derived.Deep.Fields
import Derived.ChangeSame
import Derived.ChangeSlices
import Derived.SizedLaws
import Derived.Deep.Grids
import Derived.Maps.Keyed
import Derived.DeepKeys4
import Derived.OpenShut
import Derived.Lib.AppendZeros
import Derived.Lib.SliceRun
set_option linter.unusedSimpArgs false
set_option linter.unusedVariables false
set_option linter.unusedSectionVars false
namespace Go.AW
open Go
mutual
def X.gB(ν : Nat → Nat) : X → X
 | .ptr o s i k=>.ptr (ν o) s i k
 | .aL o s lo n=>.aL (ν o) s lo n
 | .mref o=>.mref (ν o)
 | .agg xs=>.agg (X.mS ν xs)
 | .tup xs=>.tup (X.mS ν xs)
 | .j7 f a b=>.j7 f (X.mS ν a) (X.mS ν b)
 | .v u=>.v u
 | .no=>.no
 | .fz s rows=>.fz s rows
 | .dH s rows=>.dH s rows
 | .fp row k=>.fp row k
def X.mS(ν : Nat → Nat) : List X → List X
 | []=>[]
 | x :: r=>x.gB ν :: X.mS ν r
end
def Env.names(E:Env)(ν:Nat -> Nat):Env:={ E with β:=fun o=>E.β (ν o) }
theorem fZ(E:Env)(ν:Nat -> Nat)(R:List Nat):(E.names ν).On E R /\ E.On (E.names ν) R:=⟨⟨fun _ _ _ h=>h,fun _ _=>⟨rfl,fun h=>h⟩⟩,⟨fun _ _ _ h=>h,fun _ _=>⟨rfl,fun h=>h⟩⟩⟩
mutual
theorem RX.gB{E : Env}{ν : Nat → Nat} : ∀ (x : X) (c : Value) (R : List Nat), RX (E.names ν) x c R ↔ RX E (x.gB ν) c R
 | .ptr ..,_,_=>by simp only [X.gB,RX]; exact Iff.rfl
 | .aL ..,_,_=>by simp only [X.gB,RX]; exact Iff.rfl
 | .mref _,_,_=>by simp only [X.gB,RX]; exact Iff.rfl
 | .v _,_,_=>by simp only [X.gB,RX]
 | .no,_,_=>by simp only [X.gB,RX]
 | .fz s rows,c,R=>⟨RX.mono _ c R (fZ E ν R).1 (fun o h=>by simp [X.eO] at h),RX.mono _ c R (fZ E ν R).2 (fun o h=>by simp [X.gB,X.eO] at h)⟩
 | .dH s rows,c,R=>⟨RX.mono _ c R (fZ E ν R).1 (fun o h=>by simp [X.eO] at h),RX.mono _ c R (fZ E ν R).2 (fun o h=>by simp [X.gB,X.eO] at h)⟩
 | .fp row k,c,R=>⟨RX.mono _ c R (fZ E ν R).1 (fun o h=>by simp [X.eO] at h),RX.mono _ c R (fZ E ν R).2 (fun o h=>by simp [X.gB,X.eO] at h)⟩
 | .agg xs,c,R=>by
  simp only [X.gB,RX]
  exact ⟨fun ⟨cs,h1,h2⟩=>⟨cs,h1,(b6.gB xs _ R).1 h2⟩,fun ⟨cs,h1,h2⟩=>⟨cs,h1,(b6.gB xs _ R).2 h2⟩⟩
 | .tup xs,c,R=>by
  simp only [X.gB,RX]
  exact ⟨fun ⟨cs,h1,h2⟩=>⟨cs,h1,(eV.gB xs _ R).1 h2⟩,fun ⟨cs,h1,h2⟩=>⟨cs,h1,(eV.gB xs _ R).2 h2⟩⟩
 | .j7 f xs ys,c,R=>by
  simp only [X.gB,RX]
  exact ⟨fun ⟨h0,f,cc,h1,h2,h3⟩=>⟨h0,f,cc,h1,(eV.gB xs _ []).1 h2,(eV.gB ys _ []).1 h3⟩,fun ⟨h0,f,cc,h1,h2,h3⟩=>⟨h0,f,cc,h1,(eV.gB xs _ []).2 h2,(eV.gB ys _ []).2 h3⟩⟩
theorem b6.gB{E : Env}{ν : Nat → Nat} : ∀ (xs : List X) (cs : List Value) (R : List Nat), b6 (E.names ν) xs cs R ↔ b6 E (X.mS ν xs) cs R
 | [],_,_=>by simp only [X.mS,b6]
 | x :: r,cs,R=>by
  simp only [X.mS,b6]
  exact ⟨fun ⟨c, dp, R₁, R₂, h1, h2, h3, h4, h5⟩ => ⟨c, dp, R₁, R₂, h1, h2, (RX.gB x c R₁).1 h3, (b6.gB r dp R₂).1 h4, h5⟩,
   fun ⟨c,dp,R₁,R₂,h1,h2,h3,h4,h5⟩=>⟨c,dp,R₁,R₂,h1,h2,(RX.gB x c R₁).2 h3,(b6.gB r dp R₂).2 h4,h5⟩⟩
theorem eV.gB{E : Env}{ν : Nat → Nat} : ∀ (xs : List X) (cs : List Value) (R : List Nat), eV (E.names ν) xs cs R ↔ eV E (X.mS ν xs) cs R
 | [],_,_=>by simp only [X.mS,eV]
 | x :: r,cs,R=>by
  simp only [X.mS,eV]
  exact ⟨fun ⟨c, dp, R₁, R₂, h1, h3, h4, h5⟩ => ⟨c, dp, R₁, R₂, h1, (RX.gB x c R₁).1 h3, (eV.gB r dp R₂).1 h4, h5⟩,
   fun ⟨c,dp,R₁,R₂,h1,h3,h4,h5⟩=>⟨c,dp,R₁,R₂,h1,(RX.gB x c R₁).2 h3,(eV.gB r dp R₂).2 h4,h5⟩⟩
end
theorem RO.gB{E : Env}{ν : Nat → Nat} : ∀ (xs : List X) (cs : Array Value) (off : Nat) (R : List Nat), RO (E.names ν) xs cs off R ↔ RO E (X.mS ν xs) cs off R
 | [],_,_,_=>by simp only [X.mS,RO]
 | x :: r,cs,off,R=>by
  simp only [X.mS,RO]
  exact ⟨fun ⟨u, R₁, R₂, h1, h2, h3, h4, h5⟩ => ⟨u, R₁, R₂, h1, h2, (RX.gB x u R₁).1 h3, (RO.gB r cs _ R₂).1 h4, h5⟩,
   fun ⟨u,R₁,R₂,h1,h2,h3,h4,h5⟩=>⟨u,R₁,R₂,h1,h2,(RX.gB x u R₁).2 h3,(RO.gB r cs _ R₂).2 h4,h5⟩⟩
theorem tc(ν : Nat → Nat) : ∀ xs : List X, (X.mS ν xs).length = xs.length
 | []=>rfl
 | _ :: r=>by simp [X.mS,tc ν r]
mutual
theorem X.xF(ν : Nat → Nat) : ∀ x : X, (x.gB ν).free = x.free
 | .ptr .. | .aL .. | .mref _ | .v _ | .no | .fz .. | .dH .. | .fp .. | .j7 ..=>rfl
 | .agg xs=>X.p7 ν xs
 | .tup xs=>X.p7 ν xs
theorem X.p7(ν : Nat → Nat) : ∀ xs : List X, X.bu (X.mS ν xs) = X.bu xs
 | []=>rfl
 | x :: r=>by simp only [X.mS,X.bu,X.xF ν x,X.p7 ν r]
end
def Obj.gB(ν : Nat → Nat) : Obj → Obj
 | .cells xs=>.cells (X.mS ν xs)
 | .rows s rs=>.rows s rs
 | .yU es=>.yU es
 | .gone=>.gone
 | .hole rs i q s n=>.hole rs i (ν q) s n
theorem dK.gB{E:Env}{ν:Nat -> Nat}{j:Nat}{ob:Obj}{R:List Nat}:dK (E.names ν) j ob R ↔ dK E (ν j) (ob.gB ν) R:=by
 cases ob with
 | cells xs =>
  simp only [Obj.gB,dK,X.p7,tc]
  exact ⟨fun ⟨h0, B, cs, ty, h1, h2, h3, h4, h5, h6⟩ => ⟨h0, B, cs, ty, h1, h2, h3, h4, (RO.gB xs cs _ []).1 h5, h6⟩,
   fun ⟨h0,B,cs,ty,h1,h2,h3,h4,h5,h6⟩=>⟨h0,B,cs,ty,h1,h2,h3,h4,(RO.gB xs cs _ []).2 h5,h6⟩⟩
 | rows s rs =>
  simp only [Obj.gB,dK]
  refine ⟨fun ⟨hu,h⟩=>⟨hu,h.imp (fun h=>h) ?_⟩,fun ⟨hu,h⟩=>⟨hu,h.imp (fun h=>h) ?_⟩⟩
  ·exact fun ⟨B,cs,ty,R',h1,h2,h3,h4,h5,h6,h7⟩=>⟨B,cs,ty,R',h1,h2,h3,h4,h5,cE.mono rs cs _ R' (fZ E ν R').1 h6,h7⟩
  ·exact fun ⟨B,cs,ty,R',h1,h2,h3,h4,h5,h6,h7⟩=>⟨B,cs,ty,R',h1,h2,h3,h4,h5,cE.mono rs cs _ R' (fZ E ν R').2 h6,h7⟩
 | yU es=>exact Iff.rfl
 | gone=>simp only [Obj.gB,dK]
 | hole rs i q s n =>
  simp only [Obj.gB,dK]
  refine ⟨fun ⟨hu, B, cs, ty, R', u, h1, h2, h3, h4, h5, h6, h7, h8, h9, Sy, QZ⟩ => ⟨hu, B, cs, ty, R', u, h1, h2, h3, h4, h5, cE.mono rs cs _ R' (fZ E ν R').1 h6, h7, h8, h9, Sy, (RX.gB (.aL q s 0 n) u []).1 QZ⟩,
   fun ⟨hu,B,cs,ty,R',u,h1,h2,h3,h4,h5,h6,h7,h8,h9,Sy,QZ⟩=>⟨hu,B,cs,ty,R',u,h1,h2,h3,h4,h5,cE.mono rs cs _ R' (fZ E ν R').2 h6,h7,h8,h9,Sy,(RX.gB (.aL q s 0 n) u []).2 QZ⟩⟩
mutual
def X.plain : X → Prop
 | .v _ | .no | .ptr .. | .aL .. | .mref _=>True
 | .fz _ _ | .fp _ _ | .j7 ..=>False
 | .dH _ rows=>X.mT rows
 | .agg xs=>X.fw xs
 | .tup xs=>X.fw xs
def X.fw : List X → Prop
 | []=>True
 | x :: r=>x.plain /\ X.fw r
def X.mT : List (List X) → Prop
 | []=>True
 | x :: r=>X.fw x /\ X.mT r
end
def Env.Hr(E E':Env)(R:List Nat):Prop:=∀ b ∈ R,E'.w.heap[b]? = E.w.heap[b]? /\ ((∀ i,E.φ b i = none) -> ∀ i,E'.φ b i = none)
theorem Env.Hr.sub{E E':Env}{R R':List Nat}(h:E.Hr E' R)(hs:∀ b ∈ R',b ∈ R):E.Hr E' R':=fun b hb=>h b (hs b hb)
mutual
theorem RX.off{E E' : Env} : ∀ (x : X) (c : Value) (R : List Nat), x.plain → E.Hr E' R → (∀ o, E'.β o = E.β o) → RX E x c R → RX E' x c R
 | .v _,_,_,_,_,_,h=>by simpa [RX] using h
 | .no,_,_,_,_,_,h=>by simpa [RX] using h
 | .fz ..,_,_,hp,_,_,_=>hp.elim
 | .fp ..,_,_,hp,_,_,_=>hp.elim
 | .j7 ..,_,_,hp,_,_,_=>hp.elim
 | .ptr o ..,_,_,_,_,hβ,h=>by simp only [RX] at h ⊢; rw [hβ]; exact h
 | .aL o ..,_,_,_,_,hβ,h=>by simp only [RX] at h ⊢; rw [hβ]; exact h
 | .mref o,_,_,_,_,hβ,h=>by simp only [RX] at h ⊢; rw [hβ]; exact h
 | .dH s rows,c,R,hp,hE,hβ,h=>by
  simp only [RX] at h ⊢
  obtain ⟨hu,base,cap,hc,hh⟩:=h
  refine ⟨hu,base,cap,hc,?_⟩
  rcases hh with hh | ⟨b,off,cs,ty,R',hb,hw,hl,ho,hf,hr,hR⟩
  ·exact .inl hh
  ·subst hR
   have h2:=hE b (by simp)
   exact .inr ⟨b,off,cs,ty,R',hb,h2.1.trans hw,hl,ho,h2.2 hf,cE.off rows cs off R' hp (hE.sub (fun _ h=>by simp [h])) hβ hr,rfl⟩
 | .agg xs,c,R,hp,hE,hβ,h=>by
  simp only [RX] at h ⊢
  obtain ⟨cs,hc,hs⟩:=h
  exact ⟨cs,hc,b6.off xs _ R hp hE hβ hs⟩
 | .tup xs,c,R,hp,hE,hβ,h=>by
  simp only [RX] at h ⊢
  obtain ⟨cs,hc,hs⟩:=h
  exact ⟨cs,hc,eV.off xs _ R hp hE hβ hs⟩
theorem b6.off{E E' : Env} : ∀ (xs : List X) (cs : List Value) (R : List Nat), X.fw xs → E.Hr E' R → (∀ o, E'.β o = E.β o) → b6 E xs cs R → b6 E' xs cs R
 | [],_,_,_,_,_,h=>by simpa [b6] using h
 | x :: r,cs,R,hp,hE,hβ,h=>by
  simp only [b6] at h ⊢
  simp only [X.fw] at hp
  obtain ⟨c,dp,R₁,R₂,hc,hs,h1,h2,hR⟩:=h
  subst hR
  exact ⟨c,dp,R₁,R₂,hc,hs,RX.off x c R₁ hp.1 (hE.sub (fun _ h=>cH h)) hβ h1,b6.off r dp R₂ hp.2 (hE.sub (fun _ h=>ct h)) hβ h2,rfl⟩
theorem eV.off{E E' : Env} : ∀ (xs : List X) (cs : List Value) (R : List Nat), X.fw xs → E.Hr E' R → (∀ o, E'.β o = E.β o) → eV E xs cs R → eV E' xs cs R
 | [],_,_,_,_,_,h=>by simpa [eV] using h
 | x :: r,cs,R,hp,hE,hβ,h=>by
  simp only [eV] at h ⊢
  simp only [X.fw] at hp
  obtain ⟨c,dp,R₁,R₂,hc,h1,h2,hR⟩:=h
  subst hR
  exact ⟨c,dp,R₁,R₂,hc,RX.off x c R₁ hp.1 (hE.sub (fun _ h=>cH h)) hβ h1,eV.off r dp R₂ hp.2 (hE.sub (fun _ h=>ct h)) hβ h2,rfl⟩
theorem RO.off{E E' : Env} : ∀ (xs : List X) (cs : Array Value) (off : Nat) (R : List Nat), X.fw xs → E.Hr E' R → (∀ o, E'.β o = E.β o) → RO E xs cs off R → RO E' xs cs off R
 | [],_,_,_,_,_,_,h=>by simpa [RO] using h
 | x :: r,cs,off,R,hp,hE,hβ,h=>by
  simp only [RO] at h ⊢
  simp only [X.fw] at hp
  obtain ⟨u,R₁,R₂,hu,hs,h1,h2,hR⟩:=h
  subst hR
  exact ⟨u,R₁,R₂,hu,hs,RX.off x u R₁ hp.1 (hE.sub (fun _ h=>cH h)) hβ h1,RO.off r cs (off + 1) R₂ hp.2 (hE.sub (fun _ h=>ct h)) hβ h2,rfl⟩
theorem cE.off{E E' : Env} : ∀ (rs : List (List X)) (cs : Array Value) (off : Nat) (R : List Nat), X.mT rs → E.Hr E' R → (∀ o, E'.β o = E.β o) → cE E rs cs off R → cE E' rs cs off R
 | [],_,_,_,_,_,_,h=>by simpa [cE] using h
 | r :: rs,cs,off,R,hp,hE,hβ,h=>by
  simp only [cE] at h ⊢
  simp only [X.mT] at hp
  obtain ⟨R₁,R₂,hn,h1,h2,hR⟩:=h
  subst hR
  exact ⟨R₁,R₂,hn,RO.off r cs off R₁ hp.1 (hE.sub (fun _ h=>cH h)) hβ h1,cE.off rs cs _ R₂ hp.2 (hE.sub (fun _ h=>ct h)) hβ h2,rfl⟩
end
def Obj.plain : Obj → Prop
 | .cells xs=>X.fw xs
 | .rows _ rs=>X.mT rs
 | .yU _=>True
 | .gone=>True
 | .hole rs ..=>X.mT rs
theorem dK.off{E E':Env}{o:Nat}{ob:Obj}{R:List Nat}(hp:ob.plain)(hE:E.Hr E' R)(hβ:∀ o,E'.β o = E.β o)(h:dK E o ob R):dK E' o ob R:=by
 cases ob with
 | cells xs =>
  simp only [dK] at h ⊢
  obtain ⟨sX,B,cs,ty,hB,hw,hf,hl,hR,rfl⟩:=h
  have h2:=hE B.b (by simp)
  exact ⟨sX,B,cs,ty,(hβ o).trans hB,h2.1.trans hw,h2.2 hf,hl,RO.off xs cs _ [] hp (hE.sub (fun _ h=>by cases h)) hβ hR,rfl⟩
 | rows s rs =>
  simp only [dK] at h ⊢
  obtain ⟨hu,h⟩:=h
  refine ⟨hu,?_⟩
  rcases h with ⟨h1,h2,h3⟩ | ⟨B,cs,ty,R',hB,hw,hf,hl,hc,hR,rfl⟩
  ·exact .inl ⟨(hβ o).trans h1,h2,h3⟩
  ·have h2:=hE B.b (by simp)
   exact .inr ⟨B,cs,ty,R',(hβ o).trans hB,h2.1.trans hw,h2.2 hf,hl,hc,cE.off rs cs _ R' hp (hE.sub (fun _ h=>by simp [h])) hβ hR,rfl⟩
 | yU es =>
  simp only [dK] at h ⊢
  obtain ⟨B,tC,clock,hB,hw,hf,he,rfl⟩:=h
  have h2:=hE B.b (by simp)
  exact ⟨B,tC,clock,(hβ o).trans hB,h2.1.trans hw,h2.2 hf,he,rfl⟩
 | gone=>simpa [dK] using h
 | hole rs i q s n =>
  simp only [dK] at h ⊢
  obtain ⟨hu,B,cs,ty,R',u,hB,hw,hf,hl,hc,hR,rfl,hi,yV,hs,hx⟩:=h
  have h2:=hE B.b (by simp)
  exact ⟨hu,B,cs,ty,R',u,(hβ o).trans hB,h2.1.trans hw,h2.2 hf,hl,hc,cE.off rs cs _ R' hp (hE.sub (fun _ h=>by simp [h])) hβ hR,rfl,hi,yV,hs,RX.off (.aL q s 0 n) u [] trivial (hE.sub (fun _ h=>by cases h)) hβ hx⟩
mutual
def X.lt(k : Nat) : X → Bool
 | .v _ | .no | .fz .. | .dH .. | .fp ..=>true
 | .ptr o ..=>Nat.blt o k
 | .aL o ..=>Nat.blt o k
 | .mref o=>Nat.blt o k
 | .agg xs=>X.GU k xs
 | .tup xs=>X.GU k xs
 | .j7 _ a b=>X.GU k a && X.GU k b
def X.GU(k : Nat) : List X → Bool
 | []=>true
 | x :: r=>x.lt k && X.GU k r
end
theorem zJ{o k:Nat}(h:Nat.blt o k = true):o < k:=Nat.le_of_ble_eq_true h
mutual
theorem X.Bn{k o : Nat} : ∀ {x : X}, x.lt k = true → x.eO o = true → o < k
 | .v _,_,h | .no,_,h | .fz ..,_,h | .dH ..,_,h | .fp ..,_,h=>by simp [X.eO] at h
 | .ptr p ..,h,hm=>by simp only [X.eO] at hm; rw [<- Nat.eq_of_beq_eq_true hm]; exact zJ h
 | .aL p ..,h,hm=>by simp only [X.eO] at hm; rw [<- Nat.eq_of_beq_eq_true hm]; exact zJ h
 | .mref p,h,hm=>by simp only [X.eO] at hm; rw [<- Nat.eq_of_beq_eq_true hm]; exact zJ h
 | .agg xs,h,hm=>X.lA (xs:=xs) h hm
 | .tup xs,h,hm=>X.lA (xs:=xs) h hm
 | .j7 _ a b,h,hm=>by
  simp only [X.lt,Bool.and_eq_true] at h
  simp only [X.eO,Bool.or_eq_true] at hm
  exact hm.elim (X.lA h.1) (X.lA h.2)
theorem X.lA{k o : Nat} : ∀ {xs : List X}, X.GU k xs = true → X.cv o xs = true → o < k
 | [],_,h=>by simp [X.cv] at h
 | x :: r,h,hm=>by
  simp only [X.GU,Bool.and_eq_true] at h
  simp only [X.cv,Bool.or_eq_true] at hm
  exact hm.elim (X.Bn h.1) (X.lA h.2)
end
def Obj.lt(k : Nat) : Obj → Bool
 | .cells xs=>X.GU k xs
 | .hole _ _ q _ _=>Nat.blt q k
 | _=>true
theorem Obj.Ec{k q : Nat} : ∀ {ob : Obj}, ob.lt k = true → ob.cv q = true → q < k
 | .cells _,h,hq=>X.lA h hq
 | .hole _ _ p _ _,h,hq=>by
  have h1:=Nat.eq_of_beq_eq_true (show Nat.beq p q = true from hq)
  subst h1; exact Nat.le_of_ble_eq_true h
 | .rows ..,_,hq | .yU _,_,hq | .gone,_,hq=>by cases hq
def ec(l:List Nat)(x:X):X:=bif l.any (fun o=>x.eO o) then .no else x
def Obj.ec(l : List Nat) : Obj → Obj
 | .cells xs=>.cells (xs.map (AW.ec l))
 | .hole rs i q s n=>bif l.elem q then .rows 1 rs else .hole rs i q s n
 | ob=>ob
def St.ec(st:St)(l:List Nat):St:=⟨st.aE.map fun p=>(p.1,AW.ec l p.2),st.aF.map fun p=>(p.1,p.2.ec l)⟩
theorem zK{l:List Nat}{x:X}{q:Nat}(h:(ec l x).eO q = true):q ∉ l /\ ec l x = x /\ x.eO q = true:=by
 unfold ec at h ⊢
 cases hk:l.any (fun o=>x.eO o) with
 | true=>simp [hk,X.eO] at h
 | false =>
  rw [hk] at h
  simp only [cond_false] at h ⊢
  refine ⟨fun hq=>?_,trivial,h⟩
  have:l.any (fun o=>x.eO o) = true:=List.any_eq_true.2 ⟨q,hq,h⟩
  rw [hk] at this; cases this
theorem td(l : List Nat) : ∀ {xs : List X}, X.bu xs = true → X.bu (xs.map (ec l)) = true
 | [],_=>rfl
 | x :: r,h=>by
  simp only [X.bu,Bool.and_eq_true] at h
  have h1:(ec l x).free = true:=by
   unfold ec
   cases l.any (fun o=>x.eO o) with
   | true=>rfl
   | false=>exact h.1
  simp only [List.map_cons,X.bu,h1,td l h.2,Bool.and_self]
theorem RO.ec{E : Env}{l : List Nat} : ∀ {xs : List X} {cs : Array Value} {off : Nat}, X.bu xs = true → RO E xs cs off [] → RO E (xs.map (AW.ec l)) cs off []
 | [],_,_,_,h=>h
 | x :: r,_,_,hf,h=>by
  simp only [RO] at h
  obtain ⟨u,R₁,R₂,hu,hs,h1,h2,hR⟩:=h
  simp only [X.bu,Bool.and_eq_true] at hf
  have RY:=RX.free hf.1 h1
  have RZ:=RO.free hf.2 h2
  subst RY; subst RZ
  have h3:=RO.ec (l:=l) hf.2 h2
  simp only [List.map_cons,RO]
  refine ⟨u,[],[],hu,hs,?_,h3,rfl⟩
  unfold AW.ec
  cases l.any (fun o=>x.eO o) with
  | true=>simp [RX]
  | false=>exact h1
theorem te{l : List Nat} : ∀ {xs : List X} {q : Nat}, X.cv q (xs.map (ec l)) = true → q ∉ l
 | [],_,h=>by simp [X.cv] at h
 | x :: r,q,h=>by
  simp only [List.map_cons,X.cv,Bool.or_eq_true] at h
  rcases h with h | h
  ·exact (zK h).1
  ·exact te h
end Go.AW
namespace Go.AW
open Go
inductive xG (st:St) (L:List Nat) (ν:Nat -> Nat):X -> X -> Prop where
 | same {x:X} (h:x.free = true):xG st L ν (x.gB ν) x
 | view {o s lo n:Nat} {rs:List (List X)} (ho:look st.aF o = some (.rows s rs)) (hL:o ∈ L) (qG:lo + n <= rs.length):xG st L ν (.aL o s lo n) (.fz s ((rs.drop lo).take n))
 | deref {o s i k:Nat} {row:List X} (ho:rowAt st (.ptr o s i k) = some row) (hL:o ∈ L) (Cz:X.iQ row = true):xG st L ν (.ptr o s i k) (.fp row k)
inductive er (st:St) (L:List Nat) (ν:Nat -> Nat):List X -> List X -> Prop where
 | nil:er st L ν [] []
 | cons {x y:X} {xs ys:List X} (h:xG st L ν x y) (hs:er st L ν xs ys):er st L ν (x :: xs) (y :: ys)
 | agg {us vs xs ys:List X} (h:er st L ν us vs) (h1:X.v5 vs = true) (hs:er st L ν xs ys):er st L ν (.agg us :: xs) (.agg vs :: ys)
def iW : List Nat → Nat → Option Nat
 | [],_=>none
 | o :: r,q=>bif Nat.beq o q then some 0 else (iW r q).map (· + 1)
theorem qI : ∀ {l : List Nat} {q j : Nat}, iW l q = some j → l[j]? = some q
 | [],_,_,h=>by cases h
 | o :: r,q,j,h=>by
  simp only [iW] at h
  cases hb:Nat.beq o q with
  | true=>rw [hb] at h; simp at h; subst h; simp [Nat.eq_of_beq_eq_true hb]
  | false =>
   rw [hb] at h
   simp only [cond_false,Option.map_eq_some_iff] at h
   obtain ⟨j',h1,rfl⟩:=h
   simpa using qI h1
theorem r5 : ∀ {l : List Nat} {q j : Nat}, l.Nodup → l[j]? = some q → iW l q = some j
 | [],_,_,_,h=>by simp at h
 | o :: r,q,j,hn,h=>by
  simp only [iW]
  have tD:=List.nodup_cons.1 hn
  cases j with
  | zero =>
   simp at h; subst h
   simp
  | succ j =>
   have h':r[j]? = some q:=by simpa using h
   have fH:o ≠ q:=fun e=>tD.1 (by rw [e]; exact List.mem_of_getElem? h')
   have:Nat.beq o q = false:=by
    cases hb:Nat.beq o q with
    | false=>rfl
    | true=>exact absurd (Nat.eq_of_beq_eq_true hb) fH
   rw [this]
   simp [r5 tD.2 h']
theorem qJ : ∀ {l : List Nat} {q : Nat}, iW l q = none → q ∉ l
 | [],_,_=>by simp
 | o :: r,q,h=>by
  simp only [iW] at h
  cases hb:Nat.beq o q with
  | true=>simp [hb] at h
  | false =>
   rw [hb] at h
   simp only [cond_false,Option.map_eq_none_iff] at h
   have:=qJ h
   have fH:=Nat.ne_of_beq_eq_false hb
   simp [this,Ne.symm fH]
def lI(st : St) : List Operand → Option (List X)
 | []=>some []
 | x :: r=>match bV st x,lI st r with
  | some y,some l=>some (y :: l)
  | _,_=>none
def aT(P:Program)(f:FuncId):Bool :=
 match P.funcs[f]? with
 | some fn => fn.body.isSome && fn.name != "runtime.NumGoroutine"
 | none=>false
theorem uu{P:Program}{f:FuncId}(h:aT P f = true)(args:Array Value)(w:World):(callFunc f args).run P w = .ok (.enter f args) w:=by
 unfold aT at h
 cases hf:P.funcs[f]? with
 | none=>simp [hf] at h
 | some fn =>
  rw [hf] at h
  simp only [Bool.and_eq_true] at h
  have h1 : fn.name ≠ "runtime.NumGoroutine" := by
   have:=h.2
   simpa [bne] using this
  have h2:fn.body ≠ none:=fun e=>by rw [e] at h; simp at h
  simp [callFunc,hf,h1,h2]
def loose(ν F:List Nat):List Nat:=((dU 0 ν).filter fun p=>!F.elem p.1).map (·.2)
theorem CA{ν F:List Nat}{o:Nat}(h:o ∉ loose ν F){j:Nat}(hj:ν[j]? = some o):F.elem j = true:=by
 cases hF:F.elem j with
 | true=>rfl
 | false =>
  refine absurd ?_ h
  unfold loose
  refine List.mem_map.2 ⟨(j,o),List.mem_filter.2 ⟨?_,by simpa using hF⟩,rfl⟩
  have:∀ (l:List Nat) (i:Nat),l[j]? = some o -> (i + j,o) ∈ dU i l:=by
   clear h hj hF
   induction j with
   | zero =>
    intro l i h
    cases l with
    | nil=>simp at h
    | cons x r=>simp at h; subst h; simp [dU]
   | succ j ih =>
    intro l i h
    cases l with
    | nil=>simp at h
    | cons x r =>
     simp only [dU,List.mem_cons]
     right
     have:=ih r (i + 1) (by simpa using h)
     rw [show i + (j + 1) = i + 1 + j by omega]; exact this
  simpa using this ν 0 hj
def bY(ν:List Nat)(j:Nat):Nat:=ν.getD j 0
def oO(st:St)(ν F:List Nat)(aJ:List Obj):St :=
 ⟨(st.ec (loose ν F)).aE,ν.zip (aJ.map (Obj.gB (bY ν))) ++ (st.ec (loose ν F)).aF⟩
theorem xH : ∀ {ν : List Nat} {l : List Obj} {r : List (Nat × Obj)} {o : Nat}, ν.length = l.length → look (ν.zip l ++ r) o = match iW ν o with | some j => l[j]? | none => look r o
 | [],[],_,_,_=>rfl
 | [],_ :: _,_,_,h=>by simp at h
 | _ :: _,[],_,_,h=>by simp at h
 | q :: ν,x :: l,r,o,h=>by
  simp only [List.zip_cons_cons,List.cons_append,look,iW]
  cases hb:Nat.beq q o with
  | true=>simp
  | false =>
   simp only [cond_false]
   rw [xH (by simpa using h)]
   cases hp:iW ν o with
   | none=>simp
   | some j=>simp
section
variable {P:Program} {N:fo} {st:St} {Q:Exit -> St -> Prop} {all:Array Oper} {rest:List Oper} {d:Nat} {ty:TypeId} {pos:String} {af:Array Edge}
theorem RO.freeze{E E1 : Env}{b : Nat} : ∀ {xs : List X} {cs : Array Value} {off : Nat} , (∀ i v, cs[i]? = some v → E1.φ b i = some v) → (∀ c i v, E.φ c i = some v → E1.φ c i = some v) → X.iQ xs = true →
  RO E xs cs off [] -> RF E1 xs b off
 | [],_,_,_,_,_,_=>by simp [RF]
 | x :: r,cs,off,h1,h2,hn,h=>by
  simp only [RO] at h
  obtain ⟨u,R₁,R₂,hu,hs,hx,hr,hR⟩:=h
  obtain ⟨rfl,rfl⟩:=List.append_eq_nil_iff.1 hR.symm
  simp only [X.iQ,Bool.and_eq_true] at hn
  simp only [RF]
  refine ⟨⟨u,h1 _ _ hu,hs,hn.1,RX.mono x u [] ⟨h2,fun _ h=>by cases h⟩ (fun o ho=>by rw [X.qC hn.1] at ho; cases ho) hx⟩,RO.freeze h1 h2 hn.2 hr⟩
theorem cE.freeze{E E1 : Env}{b : Nat} : ∀ {rs : List (List X)} {cs : Array Value} {off : Nat}, (∀ i v, cs[i]? = some v → E1.φ b i = some v) → (∀ c i v, E.φ c i = some v → E1.φ c i = some v) →
  cE E rs cs off [] -> kX E1 rs b off
 | [],_,_,_,_,_=>by simp [kX]
 | r :: rs,cs,off,h1,h2,h=>by
  simp only [cE] at h
  obtain ⟨R₁,R₂,hn,hx,hr,hR⟩:=h
  obtain ⟨rfl,rfl⟩:=List.append_eq_nil_iff.1 hR.symm
  simp only [kX]
  exact ⟨RO.freeze h1 h2 hn hx,cE.freeze h1 h2 hr⟩
def jW : Obj → Prop
 | .rows _ rs=>∀ r ∈ rs,X.bu r = true
 | .cells _=>True
 | .yU _=>True
 | .gone=>True
 | .hole ..=>False
theorem cE.free{E : Env} : ∀ {rs : List (List X)} {cs : Array Value} {off : Nat} {R : List Nat}, (∀ r ∈ rs, X.bu r = true) → cE E rs cs off R → R = []
 | [],_,_,_,_,h=>by simpa [cE] using h
 | r :: rs,_,_,_,hf,h=>by
  simp only [cE] at h
  obtain ⟨R₁,R₂,_,h1,h2,hR⟩:=h
  rw [hR,RO.free (hf r (by simp)) h1,cE.free (fun q hq=>hf q (by simp [hq])) h2]; rfl
noncomputable def Env.cB(E:Env)(LB:Nat -> Prop):Env:=by
 classical
 exact { E with φ:=fun b i=>if LB b then E.w.cell? ⟨b,i,none⟩ else E.φ b i }
theorem je(E:Env){LB:Nat -> Prop}{b:Nat}(h:LB b)(i:Nat):(E.cB LB).φ b i = E.w.cell? ⟨b,i,none⟩:=by simp [Env.cB,h]
theorem eg(E:Env){LB:Nat -> Prop}{b:Nat}(h:¬ LB b)(i:Nat):(E.cB LB).φ b i = E.φ b i:=by simp [Env.cB,h]
theorem xG.rx{G : Ctx}{E : Env}{RR : Own → List Nat}{a : Act}{L : List Nat}{ν : Nat → Nat}{LB : Nat → Prop}(hi : Inv G E RR st a)(Hs : ∀ o ∈ L, ∀ b ∈ RR (.obj o), LB b)(hle : ∀ c i v, E.φ c i = some v → (E.cB LB).φ c i = some v)
  (h0:∀ o ∈ L,∀ ob,look st.aF o = some ob -> jW ob) {x y:X} {c:Value} {R:List Nat} (h:xG st L ν x y) (hx:RX E x c R):RX ((E.cB LB).names ν) y c []:=by
 have im:E.On (E.cB LB) []:=⟨hle,fun _ h=>by cases h⟩
 cases h with
 | same hf =>
  have:R = []:=RX.free (by rw [X.xF]; exact hf) hx
  subst this
  exact (RX.gB y c []).2 (RX.mono _ c [] im (fun _ _=>rfl) hx)
 | view ho hL qG =>
  rename_i o s lo n rs
  have aW:=hi.aF o _ ho
  have nk:∀ r ∈ rs,X.bu r = true:=h0 o hL _ ho
  simp only [RX] at hx ⊢
  obtain ⟨_,base,cap,rfl,cU⟩:=hx
  simp only [dK] at aW
  obtain ⟨hu,aW⟩:=aW
  have vy:((rs.drop lo).take n).length = n:=by simp; omega
  refine ⟨trivial,(hu.drop lo).take n,base,cap,by rw [vy],?_⟩
  by_cases oN:cap = 0
  ·refine .inl ⟨?_,oN⟩
   have Ho:n = 0:=by rcases cU with ⟨_,_,h,_⟩ | ⟨_,_,_,h,_⟩ <;> omega
   subst Ho; simp
  ·rcases cU with ⟨_,_,_,h⟩ | ⟨B,hB,Nb,tD,hb⟩
   ·exact absurd h oN
   have iG:=hb.resolve_left oN
   rcases aW with ⟨h1,_⟩ | ⟨B',cs,tb,R',iU,hw,hφ,mx,fY,jS,iI⟩
   ·rw [hB] at h1; cases h1
   rw [hB] at iU
   obtain rfl:=Option.some.inj iU
   have Ed:=cE.free nk jS
   subst Ed
   obtain ⟨R1,C8,dR,_⟩:=cE.zH hu jS qG
   have sw:R1 = []:=by
    cases R1 with
    | nil=>rfl
    | cons b r=>have:=dR b (by simp); cases this
   subst sw
   have NH:LB B.b:=Hs o hL _ (by rw [iI]; simp)
   refine .inr ⟨B.b,B.off + lo * s,iG,om,?_⟩
   have sX:kX (E.cB LB) ((rs.drop lo).take n) B.b (B.off + lo * s):=cE.freeze (fun i v hv=>by rw [je E NH,dq hw]; exact hv) hle C8
   exact kX.mono _ _ _ (fZ (E.cB LB) ν []).2 sX
 | deref ho hL Cz =>
  rename_i o s i k row
  simp only [RX] at hx ⊢
  obtain ⟨_,B,hB,rfl⟩:=hx
  simp only [rowAt] at ho
  split at ho
  ·rename_i xs kF
   have aW:=hi.aF o _ kF
   simp only [dK] at aW
   obtain ⟨_,B',cs,tb,iU,hw,_,_,jS,iI⟩:=aW
   rw [hB] at iU
   obtain rfl:=Option.some.inj iU
   cases rp:Nat.beq i 0 with
   | false=>simp [rp] at ho
   | true =>
    have:=Nat.eq_of_beq_eq_true rp
    subst this
    simp only [rp,cond_true,Option.some.injEq] at ho
    subst ho
    have NH:LB B.b:=Hs o hL _ (by rw [iI]; simp)
    refine ⟨trivial,B.b,B.off,by simp,?_⟩
    exact RF.mono _ _ _ (fZ (E.cB LB) ν []).2 (RO.freeze (fun i v hv=>by rw [je E NH,dq hw]; exact hv) hle Cz jS)
  ·rename_i s' rs kF
   have aW:=hi.aF o _ kF
   have nk:∀ r ∈ rs,X.bu r = true:=h0 o hL _ kF
   simp only [dK] at aW
   obtain ⟨hu,aW⟩:=aW
   cases Kj:Nat.beq s s' with
   | false=>simp [Kj] at ho
   | true =>
    have:=Nat.eq_of_beq_eq_true Kj
    subst this
    simp only [Kj,cond_true] at ho
    rcases aW with ⟨_,h1,_⟩ | ⟨B',cs,tb,R',iU,hw,_,_,_,jS,iI⟩
    ·subst h1; simp at ho
    rw [hB] at iU
    obtain rfl:=Option.some.inj iU
    have Ed:=cE.free nk jS
    subst Ed
    obtain ⟨R1,_,qE,dR⟩:=cE.get hu jS ho
    have sw:R1 = []:=by
     cases R1 with
     | nil=>rfl
     | cons b r=>have:=dR b (by simp); cases this
    subst sw
    have NH:LB B.b:=Hs o hL _ (by rw [iI]; simp)
    refine ⟨trivial,B.b,B.off + i * s,by rw [Nat.add_assoc],?_⟩
    exact RF.mono _ _ _ (fZ (E.cB LB) ν []).2 (RO.freeze (fun i v hv=>by rw [je E NH,dq hw]; exact hv) hle Cz qE)
  ·rename_i kF
   exact (h0 o hL _ kF).elim
  ·cases ho
theorem er.get{L : List Nat}{ν : Nat → Nat} : ∀ {xs ys : List X} {j : Nat} {y : X}, er st L ν xs ys → ys[j]? = some y → ∃ x, xs[j]? = some x ∧ (xG st L ν x y ∨ ∃ us vs, x = .agg us ∧ y = .agg vs ∧ er st L ν us vs ∧ X.v5 vs = true)
 | _,_,j,y,.nil,h=>by simp at h
 | _,_,0,y,.cons h _,hy=>by simp at hy; subst hy; exact ⟨_,rfl,.inl h⟩
 | _,_,j + 1,y,.cons _ hs,hy=>by simpa using er.get hs (by simpa using hy)
 | _,_,0,y,.agg h h1 _,hy=>by simp at hy; subst hy; exact ⟨_,rfl,.inr ⟨_,_,rfl,rfl,h,h1⟩⟩
 | _,_,j + 1,y,.agg _ _ hs,hy=>by simpa using er.get hs (by simpa using hy)
theorem er.length{L : List Nat}{ν : Nat → Nat} : ∀ {xs ys : List X}, er st L ν xs ys → xs.length = ys.length
 | _,_,.nil=>rfl
 | _,_,.cons _ hs=>by simp [hs.length]
 | _,_,.agg _ _ hs=>by simp [hs.length]
theorem er.Wo{G : Ctx}{E : Env}{RR : Own → List Nat}{a : Act}{L : List Nat}{ν : Nat → Nat}{LB : Nat → Prop}(hi : Inv G E RR st a)(Hs : ∀ o ∈ L, ∀ b ∈ RR (.obj o), LB b)(hle : ∀ c i v, E.φ c i = some v → (E.cB LB).φ c i = some v)
  (h0:∀ o ∈ L,∀ ob,look st.aF o = some ob -> jW ob):∀ {xs ys:List X} {cs:List Value} {R:List Nat},er st L ν xs ys -> b6 E xs cs R -> b6 ((E.cB LB).names ν) ys cs []
 | _,_,cs,R,.nil,h=>by simp only [b6] at h ⊢; exact ⟨h.1,trivial⟩
 | _,_,cs,R,.cons hl hs,h=>by
  simp only [b6] at h ⊢
  obtain ⟨c,dp,R₁,R₂,rfl,h1,h2,h3,_⟩:=h
  exact ⟨c,dp,[],[],rfl,h1,hl.rx hi Hs hle h0 h2,hs.Wo hi Hs hle h0 h3,rfl⟩
 | _,_,cs,R,.agg hl _ hs,h=>by
  simp only [b6] at h ⊢
  obtain ⟨c,dp,R₁,R₂,rfl,h1,h2,h3,_⟩:=h
  simp only [RX] at h2
  obtain ⟨ds,rfl,h4⟩:=h2
  exact h1.elim
end
end Go.AW
namespace Go.AW
open Go
section
variable {P:Program} {N:fo} {st:St} {Q:Exit -> St -> Prop} {all:Array Oper} {rest:List Oper} {d:Nat} {ty:TypeId} {pos:String} {af:Array Edge}
theorem r6{G : Ctx}{E : Env}{RR : Own → List Nat}{a : Act}(hi : Inv G E RR st a) : ∀ {l : List Operand} {xs : List X}, lI st l = some xs → xs.length = l.length ∧ ∀ (j : Nat) (x : X), xs[j]? = some x → ∃ o : Operand, l[j]? = some o ∧ ∃ R, RX E x (a.eval o) R
 | [],xs,h=>by simp only [lI,Option.some.injEq] at h; subst h; exact ⟨rfl,by simp⟩
 | o :: r,xs,h=>by
  simp only [lI] at h
  cases h1:bV st o with
  | none=>simp [h1] at h
  | some y =>
   cases h2:lI st r with
   | none=>simp [h1,h2] at h
   | some ys =>
    rw [h1,h2] at h
    simp only [Option.some.injEq] at h
    subst h
    obtain ⟨hl,hg⟩:=r6 hi h2
    refine ⟨by simp [hl],fun j x hx=>?_⟩
    cases j with
    | zero=>simp at hx; subst hx; exact ⟨o,rfl,hi.eval h1⟩
    | succ j=>simpa using hg j x (by simpa using hx)
theorem Inv.Jr{G : Ctx}{E : Env}{RR : Own → List Nat}{a : Act}{f : FuncId}{vs : List Value}{xs args : List X}{aF : List Obj}{F ν L : List Nat}{Q' : X → List Obj → Prop}(hi : Inv G E RR st a)(gT : aw P f args aF F Q')
  (xI:xs.length = vs.length) (Js:∀ (j:Nat) (x:X),xs[j]? = some x -> ∃ v:Value,vs[j]? = some v /\ ∃ R,RX E x v R) (eW:er st L (bY ν) xs args) (r7:∀ j ob,aF[j]? = some ob -> look st.aF (bY ν j) = some (ob.gB (bY ν))) (hlen:ν.length = aF.length) (Ee:ν.Nodup) (Ht:∀ o ∈ L,o ∉ ν)
  (h0:∀ o ∈ L,∃ ob,look st.aF o = some ob /\ jW ob) (Hu:∀ o ∈ loose ν F,G.fn.F.elem o = false) (hd:d < G.fn.n) :
  Calls P f vs.toArray E.w fun e w' => ∃ v r aJ, e = .returned v ∧ Q' r aJ ∧ aJ.length = aF.length ∧
   (r.lt aF.length = true -> (∀ ob ∈ aJ,ob.lt aF.length = true) -> (L = [] \/ (r.plain /\ ∀ ob ∈ aJ,ob.plain)) -> ∃ m8 uq,m8.w = w' /\ Inv G m8 uq ((oO st ν F aJ).put d (r.gB (bY ν))) (a.put (some d) v)):=by
 classical
 -- the blocks that are lent, and those that are handed wN
 let LB:Nat -> Prop:=fun b=>∃ o ∈ L,b ∈ RR (.obj o)
 let PB:Nat -> Prop:=fun b=>∃ j,j < aF.length /\ b ∈ RR (.obj (bY ν j))
 have Mw:∀ j,j < aF.length -> ν[j]? = some (bY ν j):=by
  intro j hj
  have:j < ν.length:=by omega
  simp [bY,List.getD,List.getElem?_eq_getElem this]
 have Wq:∀ b,LB b -> ∀ i,E.φ b i = none:=by
  rintro b ⟨o,Mx,hb⟩
  obtain ⟨ob,aW,np⟩:=h0 o Mx
  have h:=hi.aF o ob aW
  cases ob with
  | cells ys =>
   simp only [dK] at h
   obtain ⟨_,B,cs,tb,_,_,hφ,_,_,iI⟩:=h
   rw [iI] at hb
   simp only [List.mem_singleton] at hb
   rw [hb]; exact hφ
  | rows s rs =>
   simp only [dK] at h
   obtain ⟨_,h⟩:=h
   rcases h with ⟨_,_,h3⟩ | ⟨B,cs,tb,R',_,_,hφ,_,_,jS,iI⟩
   ·rw [h3] at hb; cases hb
   ·have Ed:=cE.free np jS
    subst Ed
    rw [iI] at hb
    simp only [List.mem_singleton] at hb
    rw [hb]; exact hφ
  | yU es =>
   simp only [dK] at h
   obtain ⟨B,tC,clock,_,_,hφ,_,iI⟩:=h
   rw [iI] at hb
   simp only [List.mem_singleton] at hb
   rw [hb]; exact hφ
  | gone =>
   simp only [dK] at h
   rw [h] at hb; cases hb
  | hole rs i q s n=>exact np.elim
 have Yf:∀ b,LB b -> ¬ PB b:=by
  rintro b ⟨o,Mx,hb⟩ ⟨j,hj,iG⟩
  have fH:o ≠ bY ν j:=fun e=>Ht o Mx (by rw [e]; exact List.mem_of_getElem? (Mw j hj))
  exact hi.apart (.obj o) (.obj (bY ν j)) (by simpa using fH) b hb iG
 have hle:∀ c i v,E.φ c i = some v -> (E.cB LB).φ c i = some v:=by
  intro c i v h
  have:¬ LB c:=fun hL=>by rw [Wq c hL i] at h; cases h
  rw [eg E this]; exact h
 let E1:Env:=(E.cB LB).names (bY ν)
 have Yg:E1.w = E.w:=rfl
 have Yh:∀ o,E1.β o = E.β (bY ν o):=fun _=>rfl
 have S0:∀ b i,E1.φ b i = (E.cB LB).φ b i:=fun _ _=>rfl
 let K1:Nat -> Prop:=fun b=>b < E.w.heap.size /\ ¬ PB b
 let GV:Own -> List Nat:=fun p=>match p with
  | .obj j=>if j < aF.length then RR (.obj (bY ν j)) else []
  | .slot _=>[]
 have S1:∀ i j,i < aF.length -> j < aF.length -> bY ν i = bY ν j -> i = j:=by
  intro i j iS r8 h
  have h1:=r5 Ee (Mw i iS)
  have h2:=r5 Ee (Mw j r8)
  rw [h] at h1
  rw [h1] at h2
  exact Option.some.inj h2
 have Yi:Inv (r3 K1 E1 ⟨args.length,F⟩) E1 GV ⟨dU 0 args,dU 0 aF⟩ ⟨vs.toArray,[]⟩:=by
  constructor
  ·intro b i v h
   rw [S0] at h
   by_cases hL:LB b
   ·rw [je E hL] at h; exact h
   ·rw [eg E hL] at h; exact hi.nM b i v h
  ·intro s y hy
   have GR:look (dU 0 args) s = some y:=hy
   rw [iv] at GR
   obtain ⟨x,hx,cU⟩:=eW.get GR
   obtain ⟨o,ho,R,hR⟩:=Js s x hx
   have Hv:vs.toArray.getD s undef = o:=by
    simp [Array.getD_eq_getD_getElem?,ho]
   show RX E1 y (vs.toArray.getD s undef) []
   rw [Hv]
   have Hs:∀ o ∈ L,∀ b ∈ RR (.obj o),LB b:=fun o ho b hb=>⟨o,ho,hb⟩
   have Wt:∀ o ∈ L,∀ ob,look st.aF o = some ob -> jW ob:=fun o ho ob aW=>by
    obtain ⟨yX,h1,h2⟩:=h0 o ho
    rw [h1] at aW
    obtain rfl:=Option.some.inj aW
    exact h2
   rcases cU with hl | ⟨us,vs,rfl,rfl,hl,_⟩
   ·exact hl.rx hi Hs hle Wt hR
   ·simp only [RX] at hR ⊢
    obtain ⟨cs,hc,h2⟩:=hR
    exact ⟨cs,hc,hl.Wo hi Hs hle Wt h2⟩
  ·intro j ob ho
   have nJ:look (dU 0 aF) j = some ob:=ho
   rw [iv] at nJ
   have hj:j < aF.length:=by
    rcases Nat.lt_or_ge j aF.length with h' | h'
    ·exact h'
    ·simp [List.getElem?_eq_none h'] at nJ
   have h1:=hi.aF _ _ (r7 j ob nJ)
   have sw:GV (.obj j) = RR (.obj (bY ν j)):=by simp [GV,hj]
   rw [sw]
   have h2:dK (E.names (bY ν)) j ob (RR (.obj (bY ν j))):=dK.gB.2 h1
   refine dK.mono (E:=E.names (bY ν)) ⟨hle,fun b hb=>⟨rfl,fun hφ i=>?_⟩⟩ rfl (fun _ _=>rfl) h2
   have:¬ LB b:=fun hL=>Yf b hL ⟨j,hj,hb⟩
   show (E.cB LB).φ b i = none
   rw [eg E this]; exact hφ i
  ·intro p
   cases p with
   | slot s=>exact List.nodup_nil
   | obj j=>by_cases hj:j < aF.length <;> simp [GV,hj,hi.nodup]
  ·intro p q nO b hb iG
   cases p with
   | slot s=>cases hb
   | obj i =>
    cases q with
    | slot s=>cases iG
    | obj j =>
     by_cases zE:i < aF.length
     ·by_cases oG:j < aF.length
      ·simp only [GV,zE,oG,if_true] at hb iG
       have fH:bY ν i ≠ bY ν j:=fun e=>nO (by rw [S1 i j zE oG e])
       exact hi.apart (.obj (bY ν i)) (.obj (bY ν j)) (by simpa using fH) b hb iG
      ·simp [GV,oG] at iG
     ·simp [GV,zE] at hb
  ·intro p b hb
   cases p with
   | slot s=>cases hb
   | obj j =>
    by_cases hj:j < aF.length
    ·simp only [GV,hj,if_true] at hb
     exact ⟨(hi.own _ _ hb).1,fun h=>h.2 ⟨j,hj,hb⟩⟩
    ·simp [GV,hj] at hb
  ·intro b _; rfl
  ·exact Nat.le_refl _
  ·intro b hb; exact hb.1
  ·rfl
  ·rfl
  ·rfl
  ·intro b i v h; exact h
  ·intro b i v h; exact .inl h
  ·intro o _; rfl
  ·show vs.toArray.size = args.length
   have:=eW.length
   simp; omega
  ·rfl
 refine (gT K1 E1 GV _ Yi).mono ?_
 rintro e w' ⟨v,r,aJ,he,NI,x5,E',gG,rfl,xJ⟩
 refine ⟨v,r,aJ,he,NI,x5,fun S2 S3 Ef=>?_⟩
 -- what the callee leaves
 have Jt:∀ b,b < E.w.heap.size -> ¬ PB b -> E'.w.heap[b]? = E.w.heap[b]?:=fun b h1 h2=>xJ.aj b ⟨h1,h2⟩
 have fY:E.w.heap.size <= E'.w.heap.size:=xJ.size
 let m8:Env:={ φ:=fun b i=>if LB b then none else E'.φ b i,β:=fun o=>match iW ν o with | some j=>E'.β j | none=>E.β o,w:=E'.w }
 have Hw:∀ b i,LB b -> m8.φ b i = none:=fun b i h=>by simp [m8,h]
 have vR:∀ b i,¬ LB b -> m8.φ b i = E'.φ b i:=fun b i h=>by simp [m8,h]
 have NJ:∀ b i v,E.φ b i = some v -> m8.φ b i = some v:=by
  intro b i v h
  have hn:¬ LB b:=fun hL=>by rw [Wq b hL i] at h; cases h
  rw [vR b i hn]
  refine xJ.φ0 b i v ?_
  show (E.cB LB).φ b i = some v
  exact hle b i v h
 have K3:∀ b,b < E.w.heap.size -> ¬ PB b -> (∀ i,E.φ b i = none) -> ∀ i,m8.φ b i = none:=by
  intro b hb hP hφ i
  by_cases hL:LB b
  ·exact Hw b i hL
  ·rw [vR b i hL]
   cases h:E'.φ b i with
   | none=>rfl
   | some v =>
    rcases xJ.grow b i v h with h1 | h1
    ·have NK:(E.cB LB).φ b i = some v:=h1
     rw [eg E hL,hφ i] at NK; cases NK
    ·exact absurd ⟨hb,hP⟩ h1
 have im:∀ R,(∀ b ∈ R,b < E.w.heap.size /\ ¬ PB b) -> E.On m8 R:=fun R h=>⟨NJ,fun b hb=>⟨Jt b (h b hb).1 (h b hb).2,K3 b (h b hb).1 (h b hb).2⟩⟩
 have hβ:∀ o,o ∉ loose ν F -> m8.β o = E.β o:=by
  intro o ho
  show (match iW ν o with | some j=>E'.β j | none=>E.β o) = E.β o
  cases hp:iW ν o with
  | none=>rfl
  | some j =>
   have h1:=qI hp
   have hF:=CA ho h1
   have h2:=xJ.fixed j hF
   have h3:(r3 K1 E1 ⟨1,F⟩).β0 j = E.β (bY ν j):=rfl
   rw [h3] at h2
   have h4:bY ν j = o:=by simp [bY,List.getD,h1]
   rw [h4] at h2
   exact h2
 have S4:∀ j,j < aF.length -> m8.β (bY ν j) = E'.β j:=by
  intro j hj
  show (match iW ν (bY ν j) with | some j=>E'.β j | none=>E.β (bY ν j)) = E'.β j
  rw [r5 Ee (Mw j hj)]
 -- who owns what then
 let pU:Own -> List Nat:=fun p=>match p with
  | .slot s=>match look st.aE s with
   | some x=>bif (loose ν F).any (fun o=>x.eO o) then [] else RR (.slot s)
   | none=>[]
  | .obj o=>match iW ν o with
   | some j=>gG (.obj j)
   | none=>RR (.obj o)
 have Hx:∀ s b,b ∈ pU (.slot s) -> b ∈ RR (.slot s):=by
  intro s b hb
  simp only [pU] at hb
  cases hs:look st.aE s with
  | none=>simp [hs] at hb
  | some x =>
   rw [hs] at hb
   simp only at hb
   cases hk:(loose ν F).any (fun o=>x.eO o) with
   | true=>simp [hk] at hb
   | false=>simpa [hk] using hb
 have zL:∀ p b,b ∈ RR p -> (∀ j,j < aF.length -> p ≠ .obj (bY ν j)) -> b < E.w.heap.size /\ ¬ PB b:=by
  intro p b hb hp
  refine ⟨(hi.own p b hb).1,?_⟩
  rintro ⟨j,hj,iG⟩
  exact hi.apart p _ (hp j hj) b hb iG
 have wO:∀ q b,b ∈ gG q -> b < E'.w.heap.size /\ (E.w.heap.size <= b \/ PB b):=by
  intro q b hb
  have h:=xJ.own q b hb
  refine ⟨h.1,?_⟩
  by_cases DX:b < E.w.heap.size
  ·right
   by_cases hP:PB b
   ·exact hP
   ·exact absurd ⟨DX,hP⟩ h.2
  ·left; omega
 have zM:∀ p b,b ∈ RR p -> (∀ j,j < aF.length -> p ≠ .obj (bY ν j)) -> ∀ q,b ∉ gG q:=by
  intro p b hb hp q hq
  have h1:=zL p b hb hp
  rcases (wO q b hq).2 with h | h
  ·omega
  ·exact h1.2 h
 have Ju:∀ q b,b ∈ gG q -> ¬ G.K b:=by
  intro q b hb hK
  rcases (wO q b hb).2 with h | ⟨j,hj,h⟩
  ·have:=hi.small b hK; have:=hi.size; omega
  ·exact (hi.own _ _ h).2 hK
 have Hy:∀ o j,iW ν o = some j -> j < aF.length /\ bY ν j = o:=by
  intro o j h
  have h1:=qI h
  have hj:j < ν.length:=by
   rcases Nat.lt_or_ge j ν.length with h' | h'
   ·exact h'
   ·simp [List.getElem?_eq_none h'] at h1
  exact ⟨om,by simp [bY,List.getD,h1]⟩
 have Bo:L = [] -> ∀ b i,m8.φ b i = E'.φ b i:=by
  intro hL b i
  refine vR b i ?_
  rintro ⟨o,ho,_⟩
  rw [hL] at ho; cases ho
 have Eg:∀ b,(∀ i,E'.φ b i = none) -> ∀ i,m8.φ b i = none:=by
  intro b h i
  by_cases hL:LB b
  ·exact Hw b i hL
  ·rw [vR b i hL]; exact h i
 have xK:∀ p b,b ∈ pU p -> (b ∈ RR p /\ ∀ j,j < aF.length -> p ≠ .obj (bY ν j)) \/ (∃ o j,p = .obj o /\ iW ν o = some j /\ b ∈ gG (.obj j)):=by
  intro p b hb
  cases p with
  | slot s=>exact .inl ⟨Hx s b hb,fun j hj=>by simp⟩
  | obj o =>
   simp only [pU] at hb
   cases hp:iW ν o with
   | some j=>rw [hp] at hb; exact .inr ⟨o,j,rfl,hp,hb⟩
   | none =>
    rw [hp] at hb
    refine .inl ⟨hb,fun j hj e=>qJ hp ?_⟩
    have:o = bY ν j:=by simpa using e
    rw [this]; exact List.mem_of_getElem? (Mw j hj)
 have CB:Inv G m8 pU (oO st ν F aJ) a:=by
  refine { hi with nM:=?_,aE:=?_,aF:=?_,nodup:=?_,apart:=?_,own:=?_,aj:=?_,size:=?_,os:=?_,tape:=?_,output:=?_,φ0:=?_,grow:=?_,fixed:=?_ }
  ·intro b i v h
   by_cases hL:LB b
   ·rw [Hw b i hL] at h; cases h
   ·rw [vR b i hL] at h; exact xJ.nM b i v h
  ·intro s y hy
   have GR:look ((st.aE).map fun p=>(p.1,AW.ec (loose ν F) p.2)) s = some y:=hy
   rw [oH (AW.ec (loose ν F))] at GR
   cases hs:look st.aE s with
   | none=>simp [hs] at GR
   | some x =>
    rw [hs] at GR
    simp only [Option.map_some,Option.some.injEq] at GR
    subst GR
    cases hk:(loose ν F).any (fun o=>x.eO o) with
    | true =>
     have:pU (.slot s) = []:=by simp [pU,hs,hk]
     rw [this]
     simp [AW.ec,hk,RX]
    | false =>
     have:pU (.slot s) = RR (.slot s):=by simp [pU,hs,hk]
     rw [this]
     simp only [AW.ec,hk,cond_false]
     refine RX.mono x _ _ (im _ (fun b hb=>zL _ b hb (fun j hj=>by simp))) (fun o ho=>hβ o (fun ta=>?_)) (hi.aE s x hs)
     have:(loose ν F).any (fun o=>x.eO o) = true:=List.any_eq_true.2 ⟨o,ta,ho⟩
     rw [hk] at this; cases this
  ·intro o ob ho
   have nJ:look (ν.zip (aJ.map (Obj.gB (bY ν))) ++ (st.aF.map fun p=>(p.1,p.2.ec (loose ν F)))) o = some ob:=ho
   rw [xH (by simp [x5,hlen])] at nJ
   cases hp:iW ν o with
   | some j =>
    rw [hp] at nJ
    simp only [List.getElem?_map,Option.map_eq_some_iff] at nJ
    obtain ⟨yX,Hz,rfl⟩:=nJ
    obtain ⟨hj,Yj⟩:=Hy o j hp
    have xD:pU (.obj o) = gG (.obj j):=by simp [pU,hp]
    rw [xD,<- Yj]
    have h1:dK E' j yX (gG (.obj j)):=xJ.aF j yX (by rw [iv]; exact Hz)
    have tG:yX ∈ aJ:=List.mem_of_getElem? Hz
    refine dK.gB.1 (?_:dK (m8.names (bY ν)) j yX (gG (.obj j)))
    have h3:dK { E' with φ:=m8.φ } j yX (gG (.obj j)):=by
     rcases Ef with hL | Dz
     ·exact dK.mono (E:=E') ⟨fun b i v h=>by show m8.φ b i = _; rw [Bo hL b i]; exact h,fun b _=>⟨rfl,fun h i=>by show m8.φ b i = _; rw [Bo hL b i]; exact h i⟩⟩ rfl (fun _ _=>rfl) h1
     ·exact dK.off (E:=E') (Dz.2 yX tG) (fun b _=>⟨rfl,Eg b⟩) (fun _=>rfl) h1
    refine dK.mono (E:={ E' with φ:=m8.φ }) ⟨fun _ _ _ h=>h,fun b _=>⟨rfl,fun h=>h⟩⟩ (S4 j hj) (fun q hq=>?_) h3
    exact S4 q (Obj.Ec (S3 _ tG) hq)
   | none =>
    rw [hp] at nJ
    simp only at nJ
    rw [oH (Obj.ec (loose ν F))] at nJ
    cases hs:look st.aF o with
    | none=>simp [hs] at nJ
    | some Nc =>
     rw [hs] at nJ
     simp only [Option.map_some,Option.some.injEq] at nJ
     subst nJ
     have xD:pU (.obj o) = RR (.obj o):=by simp [pU,hp]
     rw [xD]
     have NL:∀ j,j < aF.length -> Own.obj o ≠ .obj (bY ν j):=fun j hj e=>qJ hp (by
      have:o = bY ν j:=by simpa using e
      rw [this]; exact List.mem_of_getElem? (Mw j hj))
     have s0:=im _ (fun b hb=>zL _ b hb NL)
     have kF:=hi.aF o Nc hs
     have NM:m8.β o = E.β o:=by
      show (match iW ν o with | some j=>E'.β j | none=>E.β o) = E.β o
      rw [hp]
     cases Nc with
     | cells ys =>
      simp only [Obj.ec,dK] at kF ⊢
      obtain ⟨sX,B,cs,tb,hB,hw,hf,NN,jS,iI⟩:=kF
      have h2:=s0.2 B.b (by rw [iI]; simp)
      exact ⟨td _ sX, B, cs, tb, NM.trans hB, h2.1.trans hw, h2.2 hf, by simpa using NN,
       RO.mono _ cs _ [] (s0.sub (fun _ h=>by cases h)) (fun q hq=>hβ q (te hq)) (RO.ec sX jS),iI⟩
     | rows s rs=>exact dK.mono s0 NM (fun q h=>by cases h) kF
     | yU es=>exact dK.mono s0 NM (fun q h=>by cases h) kF
     | gone=>simpa [Obj.ec,dK] using kF
     | hole rs i p s n =>
      cases hb:(loose ν F).elem p with
      | false =>
       rw [show (Obj.hole rs i p s n).ec (loose ν F) = .hole rs i p s n by simp only [Obj.ec,hb,cond_false]]
       refine dK.mono s0 NM (fun x hx=>hβ x fun e=>?_) kF
       have h1:=Nat.eq_of_beq_eq_true (show Nat.beq p x = true from hx)
       subst h1; rw [List.elem_iff.2 e] at hb; cases hb
      | true =>
       rw [show (Obj.hole rs i p s n).ec (loose ν F) = .rows 1 rs by simp only [Obj.ec,hb,cond_true]]
       exact dK.mono s0 NM (fun q h=>by cases h) kF.wH
  ·intro p
   cases p with
   | slot s =>
    simp only [pU]
    cases hs:look st.aE s with
    | none=>exact List.nodup_nil
    | some x =>
     simp only
     cases (loose ν F).any (fun o=>x.eO o) with
     | true=>exact List.nodup_nil
     | false=>exact hi.nodup _
   | obj o =>
    simp only [pU]
    cases iW ν o with
    | some j=>exact xJ.nodup _
    | none=>exact hi.nodup _
  ·intro p q nO b hb iG
   rcases xK p b hb with ⟨h1,h2⟩ | ⟨o,j,rfl,hp,h1⟩
   ·rcases xK q b iG with ⟨h3,h4⟩ | ⟨o',j',rfl,Jq,h3⟩
    ·exact hi.apart p q nO b h1 h3
    ·exact zM p b h1 h2 _ h3
   ·rcases xK q b iG with ⟨h3,h4⟩ | ⟨o',j',rfl,Jq,h3⟩
    ·exact zM q b h3 h4 _ h1
    ·have Yk:j ≠ j':=fun e=>by
      subst e
      have:=(Hy o j hp).2.symm.trans (Hy o' j Jq).2
      exact nO (by rw [this])
     exact xJ.apart (.obj j) (.obj j') (by simpa using Yk) b h1 h3
  ·intro p b hb
   rcases xK p b hb with ⟨h1,h2⟩ | ⟨o,j,rfl,hp,h1⟩
   ·have h4:=hi.own p b h1
    exact ⟨Nat.lt_of_lt_of_le h4.1 fY,h4.2⟩
   ·exact ⟨(wO _ b h1).1,Ju _ b h1⟩
  ·intro b hK
   have h1:b < E.w.heap.size:=Nat.lt_of_lt_of_le (hi.small b hK) hi.size
   have h2:¬ PB b:=fun ⟨j,hj,h⟩=>(hi.own _ _ h).2 hK
   have:=Jt b h1 h2
   exact this.trans (hi.aj b hK)
  ·exact Nat.le_trans hi.size fY
  ·exact xJ.os.trans hi.os
  ·exact xJ.tape.trans hi.tape
  ·exact xJ.output.trans hi.output
  ·exact fun b i v h=>NJ b i v (hi.φ0 b i v h)
  ·intro b i v h
   by_cases hL:LB b
   ·rw [Hw b i hL] at h; cases h
   ·rw [vR b i hL] at h
    rcases xJ.grow b i v h with h1 | h1
    ·have NK:(E.cB LB).φ b i = some v:=h1
     rw [eg E hL] at NK
     exact hi.grow b i v NK
    ·right
     intro hK
     exact h1 ⟨Nat.lt_of_lt_of_le (hi.small b hK) hi.size,fun ⟨j,hj,h⟩=>(hi.own _ _ h).2 hK⟩
  ·intro o ho
   rw [hβ o (fun ta=>by rw [Hu o ta] at ho; cases ho)]
   exact hi.fixed o ho
 have hr:RX m8 (r.gB (bY ν)) v (gG (.slot 0)):=by
  have h1:RX E' r v (gG (.slot 0)):=xJ.aE 0 r rfl
  have h3:RX { E' with φ:=m8.φ } r v (gG (.slot 0)):=by
   rcases Ef with hL | Dz
   ·exact RX.mono (E:=E') r _ _ ⟨fun b i v h=>by show m8.φ b i = _; rw [Bo hL b i]; exact h,fun b _=>⟨rfl,fun h i=>by show m8.φ b i = _; rw [Bo hL b i]; exact h i⟩⟩ (fun _ _=>rfl) h1
   ·exact RX.off (E:=E') r _ _ Dz.1 (fun b _=>⟨rfl,Eg b⟩) (fun _=>rfl) h1
  refine (RX.gB r v _).1 (?_:RX (m8.names (bY ν)) r v (gG (.slot 0)))
  exact RX.mono (E:={ E' with φ:=m8.φ }) r _ _ ⟨fun _ _ _ h=>h,fun b _=>⟨rfl,fun h=>h⟩⟩ (fun q hq=>S4 q (X.Bn S2 hq)) h3
 refine ⟨m8,_,rfl,CB.put hd hr (xJ.nodup _) (fun b hb=>⟨(wO _ b hb).1,Ju _ b hb,fun p _ Bl=>?_⟩)⟩
 rcases xK p b Bl with ⟨h1,h2⟩ | ⟨o,j,rfl,hp,h1⟩
 ·exact zM p b h1 h2 _ hb
 ·exact xJ.apart (.slot 0) (.obj j) (by simp) b hb h1
theorem Inv.call{G : Ctx}{E : Env}{RR : Own → List Nat}{a : Act}{f : FuncId}{cI : List Operand}{xs args : List X}{aF : List Obj}{F ν L : List Nat}{Q' : X → List Obj → Prop}(hi : Inv G E RR st a)(gT : aw P f args aF F Q')
  (gN:lI st cI = some xs) (eW:er st L (bY ν) xs args) (r7:∀ j ob,aF[j]? = some ob -> look st.aF (bY ν j) = some (ob.gB (bY ν))) (hlen:ν.length = aF.length) (Ee:ν.Nodup) (Ht:∀ o ∈ L,o ∉ ν)
  (h0:∀ o ∈ L,∃ ob,look st.aF o = some ob /\ jW ob) (Hu:∀ o ∈ loose ν F,G.fn.F.elem o = false) (hd:d < G.fn.n) :
  Calls P f (cI.map a.eval).toArray E.w fun e w' => ∃ v r aJ, e = .returned v ∧ Q' r aJ ∧ aJ.length = aF.length ∧
   (r.lt aF.length = true -> (∀ ob ∈ aJ,ob.lt aF.length = true) -> (L = [] \/ (r.plain /\ ∀ ob ∈ aJ,ob.plain)) -> ∃ m8 uq,m8.w = w' /\ Inv G m8 uq ((oO st ν F aJ).put d (r.gB (bY ν))) (a.put (some d) v)):=by
 obtain ⟨xI,Js⟩:=r6 hi gN
 exact hi.Jr gT (by simpa using xI) (fun j x hx=>by
  obtain ⟨o,ho,R,hR⟩:=Js j x hx
  exact ⟨a.eval o,by simp [ho],R,hR⟩) eW r7 hlen Ee Ht h0 Hu hd
theorem aQ.call{f : FuncId}{cI : Array Operand}{q2 : Array TypeId}{xs args : List X}{aF : List Obj}{F : List Nat}{Q' : X → List Obj → Prop}(ν L : List Nat)(kW : aT P f = true)(gT : aw P f args aF F Q')
  (gN:lI st cI.toList = some xs) (eW:er st L (bY ν) xs args) (r7:∀ j ob,aF[j]? = some ob -> look st.aF (bY ν j) = some (ob.gB (bY ν))) (hlen:ν.length = aF.length) (Ee:ν.Nodup) (Ht:∀ o ∈ L,o ∉ ν)
  (h0:∀ o ∈ L,∃ ob,look st.aF o = some ob /\ jW ob) (Hu:∀ o ∈ loose ν F,N.F.elem o = false) (hd:d < N.n)
  (k:∀ r aJ,Q' r aJ -> aJ.length = aF.length -> (r.lt aF.length = true /\ (∀ ob ∈ aJ,ob.lt aF.length = true) /\ (L = [] \/ (r.plain /\ ∀ ob ∈ aJ,ob.plain))) /\ aQ P N all rest ((oO st ν F aJ).put d (r.gB (bY ν))) Q) :
  aQ P N all (⟨some d,.call ⟨.value (.func f),cI,q2⟩,ty,pos,af,none⟩ :: rest) st Q:=by
 intro G hn a w hh
 obtain ⟨E,RR,rfl,hi⟩:=hh
 have hc:=hi.call gT gN eW r7 hlen Ee Ht h0 (fun o ho=>by rw [hn]; exact Hu o ho) (d:=d) (by rw [hn]; exact hd)
 have jC:(execOp a.eval ⟨some d,.call ⟨.value (.func f),cI,q2⟩,ty,pos,af,none⟩).run P E.w = .ok (.enter f (cI.toList.map a.eval).toArray) E.w:=by
  have e:(execOp a.eval ⟨some d,.call ⟨.value (.func f),cI,q2⟩,ty,pos,af,none⟩).run P E.w = (callFunc f ((#[] ++ cI.map a.eval) ++ #[])).run P E.w:=rfl
  rw [e,uu kW]
  congr 2
  apply Array.ext'
  simp
 refine wpList_plain rfl fun K hK=>?_
 simp only [Oper.wp,jC,Oper.upon_enter]
 refine hc.mono ?_
 rintro e w' ⟨v,r,aJ,rfl,NI,x5,Eh⟩
 obtain ⟨⟨h1,h2,h3⟩,hk⟩:=k r aJ NI x5
 obtain ⟨m8,uq,hw,hI⟩:=Eh h1 h2 h3
 exact hK _ _ (hk G hn _ _ ⟨m8,uq,hw,hI⟩)
end
end Go.AW
namespace Go.AW
open Go
section
variable {P:Program} {N:fo} {st:St} {Q:Exit -> St -> Prop} {all:Array Oper} {rest:List Oper} {d:Nat} {ty:TypeId} {pos:String} {af:Array Edge}
theorem dx.aO{c:Operand}{x y:Code}(hc:bV st c = some (.v (.bool true)))(h:dx P N x st Q):dx P N (.cond c x y) st Q:=dx.cond hc (fun _=>h) (fun h=>by cases h)
theorem dx.cZ{c:Operand}{x y:Code}(hc:bV st c = some (.v (.bool false)))(h:dx P N y st Q):dx P N (.cond c x y) st Q:=dx.cond hc (fun h=>by cases h) (fun _=>h)
section ints
variable {dst:Option Nat} {g:Option (Nat × Bool)} {t t':TypeId} {x y:Operand} {a b:Int}
theorem Y.qb(hx:bV st x = some (.v (.int .i64 a)))(hy:bV st y = some (.v (.int .i64 b)))(hr:-9223372036854775808 <= a + b /\ a + b <= 9223372036854775807):Yields P N st ⟨dst,.binOp .add t x y t',ty,pos,af,g⟩ (.v (.int .i64 (a + b))) :=
 Y.qa hx hy (IntWalk.i64_in _ hr)
theorem Y.wc(hx:bV st x = some (.v (.int .i64 a)))(hy:bV st y = some (.v (.int .i64 b)))(hr:-9223372036854775808 <= a - b /\ a - b <= 9223372036854775807):Yields P N st ⟨dst,.binOp .sub t x y t',ty,pos,af,g⟩ (.v (.int .i64 (a - b))) :=
 Y.wb hx hy (IntWalk.i64_in _ hr)
theorem Y.zj(hx:bV st x = some (.v (.int .i64 a)))(hy:bV st y = some (.v (.int .i64 b)))(hr:-9223372036854775808 <= a * b /\ a * b <= 9223372036854775807):Yields P N st ⟨dst,.binOp .mul t x y t',ty,pos,af,g⟩ (.v (.int .i64 (a * b))) :=
 Y.zi hx hy (IntWalk.i64_in _ hr)
theorem Y.zq(hx:bV st x = some (.v (.int .i64 a)))(hy:bV st y = some (.v (.int .i64 b)))(hr:0 <= a /\ a <= 9223372036854775807 /\ 1 <= b):Yields P N st ⟨dst,.binOp .quo t x y t',ty,pos,af,g⟩ (.v (.int .i64 (a / b))) :=
 Y.zp hx hy om (IntWalk.i64_quo a b hr)
theorem Y.zt{k:IntKind}(hx:bV st x = some (.v (.int k a)))(hy:bV st y = some (.v (.int k b)))(hr:0 <= a /\ 1 <= b):Yields P N st ⟨dst,.binOp .rem t x y t',ty,pos,af,g⟩ (.v (.int k (a % b))) :=
 Y.zs hx hy om (IntWalk.rem_in a b hr.1)
end ints
theorem vS(x:X):ec [] x = x:=rfl
theorem nR(st:St):oO st [] [] [] = st:=by
 have h1:∀ (l:List (Nat × X)),l.map (fun p=>(p.1,AW.ec [] p.2)) = l:=by
  intro l
  induction l with
  | nil=>rfl
  | cons p r ih=>simp [vS]
 have h2:∀ ob:Obj,ob.ec [] = ob:=by
  intro ob
  cases ob with
  | cells xs =>
   have:xs.map (AW.ec []) = xs:=by
    induction xs with
    | nil=>rfl
    | cons x r ih=>simp [ih,vS]
   simp [Obj.ec,this]
  | rows=>rfl
  | yU=>rfl
  | gone=>rfl
  | hole=>rfl
 have h3:∀ (l:List (Nat × Obj)),l.map (fun p=>(p.1,p.2.ec [])) = l:=by
  intro l
  induction l with
  | nil=>rfl
  | cons p r ih=>simp [h2]
 cases st
 simp [oO,St.ec,loose,dU,h1,h3]
def qK(st : St)(ν : Nat → Nat) : Nat → List Obj → Prop
 | _,[]=>True
 | j,ob :: r=>look st.aF (ν j) = some (ob.gB ν) /\ qK st ν (j + 1) r
theorem qK.get{ν : Nat → Nat} : ∀ {aF : List Obj} {i : Nat}, qK st ν i aF → ∀ j ob, aF[j]? = some ob → look st.aF (ν (i + j)) = some (ob.gB ν)
 | [],_,_,_,_,h=>by simp at h
 | o :: r,i,h,j,ob,hj=>by
  simp only [qK] at h
  cases j with
  | zero=>simp at hj; subst hj; simpa using h.1
  | succ j =>
   have:=qK.get h.2 j ob (by simpa using hj)
   rw [show i + (j + 1) = i + 1 + j by omega]; exact this
theorem aQ.oP{f : FuncId}{cI : Array Operand}{q2 : Array TypeId}{xs args : List X}{Q' : X → List Obj → Prop}(kW : aT P f = true)(gT : aw P f args [] [] Q')
  (gN:lI st cI.toList = some xs) (eW:er st [] (bY []) xs args) (hd:d < N.n)
  (k:∀ r,Q' r [] -> r.lt 0 = true /\ aQ P N all rest (st.put d (r.gB (bY []))) Q) :
  aQ P N all (⟨some d,.call ⟨.value (.func f),cI,q2⟩,ty,pos,af,none⟩ :: rest) st Q:=by
 refine aQ.call [] [] kW gT gN eW (fun j ob h=>by simp at h) rfl List.nodup_nil (fun _ h=>by cases h) (fun _ h=>by cases h) (fun _ h=>by cases h) hd ?_
 intro r aJ hq hl
 have:aJ = []:=List.eq_nil_of_length_eq_zero hl
 subst this
 obtain ⟨h1,h2⟩:=k r hq
 refine ⟨⟨h1,fun _ h=>(by cases h),.inl rfl⟩,?_⟩
 rw [nR]; exact h2
theorem aQ.NO{f : FuncId}{cI : Array Operand}{q2 : Array TypeId}{xs args : List X}{R R' : X}(kW : aT P f = true)(gT : aw P f args [] [] (fun r o => r = R ∧ o = []))
  (gN:lI st cI.toList = some xs) (eW:er st [] (bY []) xs args) (hd:d < N.n) (gQ:R.lt 0 = true) (hR:R.gB (bY []) = R')
  (k:aQ P N all rest (st.put d R') Q):aQ P N all (⟨some d,.call ⟨.value (.func f),cI,q2⟩,ty,pos,af,none⟩ :: rest) st Q:=by
 refine aQ.oP kW gT gN eW hd ?_
 rintro r ⟨rfl,_⟩
 rw [hR]; exact ⟨gQ,k⟩
theorem aQ.NP{f : FuncId}{cI : Array Operand}{q2 : Array TypeId}{xs args : List X}{R R' : X}(L : List Nat)(kW : aT P f = true)(gT : aw P f args [] [] (fun r o => r = R ∧ o = []))
  (gN:lI st cI.toList = some xs) (eW:er st L (bY []) xs args) (h0:∀ o ∈ L,∃ ob,look st.aF o = some ob /\ jW ob) (hd:d < N.n) (gQ:R.lt 0 = true) (hR:R.gB (bY []) = R') (hp:R.plain)
  (k:aQ P N all rest (st.put d R') Q):aQ P N all (⟨some d,.call ⟨.value (.func f),cI,q2⟩,ty,pos,af,none⟩ :: rest) st Q:=by
 refine aQ.call [] L kW gT gN eW (fun j ob h=>by simp at h) rfl List.nodup_nil (fun _ _ h=>by cases h) h0 (fun _ h=>by cases h) hd ?_
 rintro r aJ ⟨rfl,rfl⟩ hl
 refine ⟨⟨gQ,fun _ h=>(by cases h),.inr ⟨hp,fun _ h=>(by cases h)⟩⟩,?_⟩
 rw [nR,hR]; exact k
theorem aQ.bw{f : FuncId}{cI : Array Operand}{q2 : Array TypeId}{xs args : List X}{aF : List Obj}{F : List Nat}{Q' : X → List Obj → Prop}(ν L : List Nat)(kW : aT P f = true)(gT : aw P f args aF F Q')
  (gN:lI st cI.toList = some xs) (eW:er st L (bY ν) xs args) (r7:qK st (bY ν) 0 aF) (hlen:ν.length = aF.length) (Ee:ν.Nodup) (Ht:∀ o ∈ L,o ∉ ν)
  (h0:∀ o ∈ L,∃ ob,look st.aF o = some ob /\ jW ob) (Hu:∀ o ∈ loose ν F,N.F.elem o = false) (hd:d < N.n)
  (k:∀ r aJ,Q' r aJ -> aJ.length = aF.length -> (r.lt aF.length = true /\ (∀ ob ∈ aJ,ob.lt aF.length = true) /\ (L = [] \/ (r.plain /\ ∀ ob ∈ aJ,ob.plain))) /\ aQ P N all rest ((oO st ν F aJ).put d (r.gB (bY ν))) Q) :
  aQ P N all (⟨some d,.call ⟨.value (.func f),cI,q2⟩,ty,pos,af,none⟩ :: rest) st Q :=
 aQ.call ν L kW gT gN eW (fun j ob h=>by have:=r7.get j ob h; rwa [Nat.zero_add] at this) hlen Ee Ht h0 Hu hd k
theorem bq{α:Type}{s:Nat}{f:α -> List X}{l:List α}(h:∀ a,X.bu (f a) = true):jW (.rows s (l.map f)):=by
 intro r hr
 obtain ⟨a,_,rfl⟩:=List.mem_map.1 hr
 exact h a
end
end Go.AW
namespace Go.AW
open Go
section
variable {P:Program} {N:fo} {st:St} {Q:Exit -> St -> Prop} {K:St -> Prop} {all:Array Oper} {rest:List Oper} {d:Nat} {ty:TypeId} {pos:String} {af:Array Edge}
def iB(P:Program)(N:fo)(all:Array Oper)(l:List Oper)(st:St)(K:St -> Prop):Prop :=
 ∀ G:Ctx,G.fn = N -> ∀ a w,cK G st a w -> wpStill P all w (fun a'=>∃ aY,K aY /\ cK G aY a' w) l a
theorem cK.drew{G:Ctx}{a:Act}{w:World}(h:cK G st a w):cK G st a { w with drawn:=w.drawn + 1 }:=by
 obtain ⟨E,RR,rfl,hi⟩:=h
 exact ⟨{ E with w:=E.w.drew },RR,rfl,hi.Bi (dg.drew G E) rfl⟩
theorem iB.nil(h:K st):iB P N all [] st K:=fun _ _ _ _ hh=>⟨st,h,hh⟩
theorem iB.val{op:Op}{x:X}(hy:Yields P N st ⟨some d,op,ty,pos,af,none⟩ x)(hd:d < N.n)(k:iB P N all rest (st.put d x) K):iB P N all (⟨some d,op,ty,pos,af,none⟩ :: rest) st K:=by
 intro G hn a w hh
 obtain ⟨E,RR,rfl,hi⟩:=hh
 obtain ⟨u,hr,hx⟩:=hy G E RR a hn hi
 unfold wpStill
 rw [if_pos (by simp [Region.wanted])]
 simp only [Oper.still,hr,Oper.stillUpon_value]
 exact k G hn _ _ ⟨E,_,rfl,hi.iT (hn ▸ hd) hx⟩
theorem iB.split{b:Bool}(hx:look st.aE d = some (.v (.bool b)))(ht:b = true -> iB P N all rest (st.put d (.v (.bool true))) K)(hf:b = false -> iB P N all rest (st.put d (.v (.bool false))) K):iB P N all rest st K:=by
 have:Le st (st.put d (.v (.bool b))):=⟨ir.cons hx (fun _ _ h=>h),fun _ _ h=>h⟩
 intro G hn a w hh
 cases b
 ·exact hf rfl G hn a w (this.holds hh)
 ·exact ht rfl G hn a w (this.holds hh)
theorem CC{G:Ctx}{E:Env}{RR:Own -> List Nat}{a:Act}(hi:Inv G E RR st a){b:Bool}(hd:d < G.fn.n)(hx:look st.aE d = some (.v (.bool b))):a.tmps[d]? = some (.bool b):=by
 have hs:=hi.aE d _ hx
 simp only [RX] at hs
 have fY:d < a.tmps.size:=by rw [hi.tmps]; exact hd
 have:=hs.1
 simp only [Array.getD,fY,dif_pos] at this
 rw [Array.getElem?_eq_getElem fY]
 exact congrArg some this
theorem iB.bn{dst : Option Nat}{op : Op}{j : Nat}{want : Bool}(hj : (all[j]?).bind (·.dst) = some d)(hd : d < N.n)(hx : look st.aE d = some (.v (.bool want)))
  (k:iB P N all (⟨dst,op,ty,pos,af,none⟩ :: rest) st K):iB P N all (⟨dst,op,ty,pos,af,some (j,want)⟩ :: rest) st K:=by
 intro G hn a w hh
 have hk:=k G hn a w hh
 obtain ⟨E,RR,rfl,hi⟩:=hh
 have hv:=CC hi (by rw [hn]; exact hd) hx
 have hw:Region.wanted ⟨dst,op,ty,pos,af,some (j,want)⟩ (yielded all a.tmps) = true:=by
  simp [Region.wanted,yielded,hj,hv]
 unfold wpStill at hk ⊢
 rw [if_pos hw]
 rw [if_pos (by simp [Region.wanted])] at hk
 exact hk
theorem dx.mA{id : Nat}{l : List Oper}(n : Nat)(hm : P.follows .mixedOrders = true)(hB : Region.lexTailB .any l.toArray n = true)
  (h:iB P N l.toArray (l.take n) st (fun aY=>aQ P N l.toArray (l.drop n) aY Q)):dx P N (.region id l.toArray true) st Q:=by
 intro G hn a w hh
 refine wp_region_still_tail n hm hB ?_
 have h1:=h G hn a _ hh.drew
 have mono:∀ (l':List Oper) (a:Act) {w:World} {K1 K2:Act -> Prop},(∀ a,K1 a -> K2 a) -> wpStill P l.toArray w K1 l' a -> wpStill P l.toArray w K2 l' a:=by
  intro l'
  induction l' with
  | nil=>intro a w K1 K2 hk h; exact hk _ h
  | cons o r ih =>
   intro a w K1 K2 hk h
   unfold wpStill at h ⊢
   split
   ·rename_i hw; rw [if_pos hw] at h; exact Oper.still_mono (fun a' h'=>ih a' hk h') h
   ·rename_i hw; rw [if_neg hw] at h; exact ih _ hk h
 exact mono _ _ (fun a' ⟨aY,hk,iR⟩=>hk G hn a' _ iR) h1
theorem dx.gy{id : Nat}{l : List Oper}(hm : P.follows .mixedOrders = true)(hB : Region.lexB .any l.toArray = true)
  (h:iB P N l.toArray l st (fun aY=>Q .normal aY)):dx P N (.region id l.toArray true) st Q:=by
 intro G hn a w hh
 refine wp_region_still_lit hm hB ?_
 have h1:=h G hn a _ hh.drew
 have mono:∀ (l':List Oper) (a:Act) {w:World} {K1 K2:Act -> Prop},(∀ a,K1 a -> K2 a) -> wpStill P l.toArray w K1 l' a -> wpStill P l.toArray w K2 l' a:=by
  intro l'
  induction l' with
  | nil=>intro a w K1 K2 hk h; exact hk _ h
  | cons o r ih =>
   intro a w K1 K2 hk h
   unfold wpStill at h ⊢
   split
   ·rename_i hw; rw [if_pos hw] at h; exact Oper.still_mono (fun a' h'=>ih a' hk h') h
   ·rename_i hw; rw [if_neg hw] at h; exact ih _ hk h
 exact mono _ _ (fun a' ⟨aY,hk,iR⟩=>⟨aY,iR,hk⟩) h1
end
end Go.AW
namespace Go.AW
open Go
section
variable {P:Program} {N:fo} {st aY:St} {Q:Exit -> St -> Prop} {K:St -> Prop} {all:Array Oper} {rest:List Oper} {d:Nat} {ty:TypeId} {pos:String} {af:Array Edge}
theorem dx.aA{c : Operand}{x y : Code}{p : Prop}{inst : Decidable p}(hc : bV st c = some (.v (.bool (decide p))))(ht : p → dx P N x st Q)(hf : ¬ p → dx P N y st Q) :
  dx P N (.cond c x y) st Q:=dx.cond hc (fun h=>ht (of_decide_eq_true h)) (fun h=>hf (of_decide_eq_false h))
theorem dx.lh{c : Operand}{x y : Code}{p : Prop}{inst : Decidable p}(hc : bV st c = some (.v (.bool (!decide p))))(ht : ¬ p → dx P N x st Q)(hf : p → dx P N y st Q) :
 dx P N (.cond c x y) st Q:=dx.cond hc (fun h=>ht (by simpa using h)) (fun h=>hf (by simpa using h))
theorem Le.test{b:Bool}(hx:look st.aE d = some (.v (.bool b))):Le st (st.put d (.v (.bool b))):=⟨ir.cons hx (fun _ _ h=>h),fun _ _ h=>h⟩
theorem dx.Ei{x y : Code}{b : Bool}(hc : look st.aE d = some (.v (.bool b)))(ht : b = true → dx P N x (st.put d (.v (.bool true))) Q)(hf : b = false → dx P N y (st.put d (.v (.bool false))) Q) :
  dx P N (.cond (.tmp d) x y) st Q:=by
 refine dx.cond (b:=b) hc (fun h=>?_) (fun h=>?_)
 ·subst h; exact (ht rfl).le (Le.test hc)
 ·subst h; exact (hf rfl).le (Le.test hc)
theorem dx.bm{x y : Code}{p : Prop}{inst : Decidable p}(hc : look st.aE d = some (.v (.bool (decide p))))(ht : p → dx P N x (st.put d (.v (.bool true))) Q)(hf : ¬ p → dx P N y (st.put d (.v (.bool false))) Q) :
  dx P N (.cond (.tmp d) x y) st Q:=dx.Ei hc (fun h=>ht (of_decide_eq_true h)) (fun h=>hf (of_decide_eq_false h))
theorem aQ.aC{p : Prop}{inst : Decidable p}(hx : look st.aE d = some (.v (.bool (decide p))))
  (ht:p -> aQ P N all rest (st.put d (.v (.bool true))) Q) (hf:¬ p -> aQ P N all rest (st.put d (.v (.bool false))) Q):aQ P N all rest st Q :=
 aQ.split hx (fun h=>ht (of_decide_eq_true h)) (fun h=>hf (of_decide_eq_false h))
theorem aQ.qL{p : Prop}{inst : Decidable p}(hx : look st.aE d = some (.v (.bool (!decide p))))
 (ht:¬ p -> aQ P N all rest (st.put d (.v (.bool true))) Q) (hf:p -> aQ P N all rest (st.put d (.v (.bool false))) Q):aQ P N all rest st Q :=
 aQ.split hx (fun h=>ht (by simpa using h)) (fun h=>hf (by simpa using h))
theorem iB.aC{p : Prop}{inst : Decidable p}(hx : look st.aE d = some (.v (.bool (decide p))))
  (ht:p -> iB P N all rest (st.put d (.v (.bool true))) K) (hf:¬ p -> iB P N all rest (st.put d (.v (.bool false))) K):iB P N all rest st K :=
 iB.split hx (fun h=>ht (of_decide_eq_true h)) (fun h=>hf (of_decide_eq_false h))
theorem dx.join{x y:Code}{ι:Type}(J:ι -> St)(I:ι -> Prop)(hx:dx P N x st (j5 (fun aY=>∃ i,I i /\ Le aY (J i)) Q))(hy:∀ i,I i -> dx P N y (J i) Q):dx P N (.seq x y) st Q:=by
 refine dx.seq (hx.mono ?_)
 intro e Ej h
 cases e with
 | normal=>obtain ⟨i,hI,hle⟩:=h; exact (hy i hI).le hle
 | _=>exact h
theorem er.aj{L:List Nat}{ν:Nat -> Nat}{x:X}{xs ys:List X}(h:x.free = true)(he:x.gB ν = x)(hs:er st L ν xs ys):er st L ν (x :: xs) (x :: ys):=by
 have:=xG.same (st:=st) (L:=L) (ν:=ν) h
 rw [he] at this
 exact .cons this hs
def cC(rs:List (List X)):Prop:=∀ r ∈ rs,X.bu r = true
theorem cC.map{α:Type}{f:α -> List X}{l:List α}(h:∀ a,X.bu (f a) = true):cC (l.map f):=by
 intro r hr
 obtain ⟨a,_,rfl⟩:=List.mem_map.1 hr
 exact h a
theorem ke{α : Type}{f : α → List X}(h : ∀ a, X.fw (f a)) : ∀ l : List α, X.mT (l.map f)
 | []=>by simp [X.mT]
 | a :: r=>by simp only [List.map_cons,X.mT]; exact ⟨h a,ke h r⟩
theorem Sh.freeze{s:Nat}{rows:List (List X)}(hx:look st.aE d = some (.dH s rows))(hf:cC rows):Sh N st (st.put d (.fz s rows)):=by
 intro G hn a w hh
 obtain ⟨E,RR,rfl,hi⟩:=hh
 have hv:=hi.aE d _ hx
 have jB:=hi.nodup (.slot d)
 simp only [RX] at hv
 obtain ⟨hu,base,cap,hc,cU⟩:=hv
 rcases cU with ⟨h1,h2,h3⟩ | ⟨b,off,cs,ty,R',hb,hw,hl,ho,hφ,jS,iI⟩
 ·refine ⟨E,_,rfl,hi.relabel (d:=d) (R:=[]) ?_ List.nodup_nil (fun _ h=>by cases h)⟩
  simp only [RX]
  exact ⟨trivial,hu,base,cap,hc,.inl ⟨h1,h2⟩⟩
 ·have Ed:=cE.free hf jS
  subst Ed
  have oM:b ∈ RR (.slot d):=by rw [iI]; simp
  have mw:=hi.no d
  have hle:∀ c i v,E.φ c i = some v -> (if c = b then cs[i]? else E.φ c i) = some v:=by
   intro c i v h
   by_cases lJ:c = b
   ·subst lJ; rw [hφ i] at h; cases h
   ·rw [if_neg lJ]; exact h
  have im:∀ R:List Nat,b ∉ R -> E.On { E with φ:=fun c i=>if c = b then cs[i]? else E.φ c i } R:=by
   intro R Kl
   refine ⟨hle,fun c rz=>⟨rfl,fun h i=>?_⟩⟩
   have:c ≠ b:=fun e=>Kl (e ▸ rz)
   show (if c = b then cs[i]? else E.φ c i) = none
   rw [if_neg this]; exact h i
  have K4:∀ p,b ∉ fI RR (.slot d) [] p:=by
   intro p hp
   unfold fI at hp
   split at hp
   ·cases hp
   ·rename_i h; exact hi.apart _ _ h b hp oM
  have NQ:Inv G { E with φ:=fun c i=>if c = b then cs[i]? else E.φ c i } (fI RR (.slot d) []) (st.put d .no) a :=
   {mw with
    nM:=by
     intro c i v h
     change (if c = b then cs[i]? else E.φ c i) = some v at h
     by_cases lJ:c = b
     ·subst lJ; rw [if_pos rfl] at h
      show E.w.cell? _ = _
      rw [dq hw]; exact h
     ·rw [if_neg lJ] at h; exact hi.nM c i v h
    aE:=fun q x hx=>RX.mono x _ _ (im _ (K4 _)) (fun _ _=>rfl) (mw.aE q x hx)
    aF:=fun o ob aW=>dK.mono (im _ (K4 _)) rfl (fun _ _=>rfl) (mw.aF o ob aW)
    φ0:=fun c i v h=>hle c i v (hi.φ0 c i v h)
    grow:=by
     intro c i v h
     change (if c = b then cs[i]? else E.φ c i) = some v at h
     by_cases lJ:c = b
     ·subst lJ; exact .inr (hi.own _ _ oM).2
     ·rw [if_neg lJ] at h; exact hi.grow c i v h }
  have h4:=NQ.relabel (d:=d) (x:=.fz s rows) (R:=[]) (by
   simp only [RX]
   refine ⟨trivial,hu,base,cap,hc,.inr ⟨b,off,hb,hl,?_⟩⟩
   refine cE.freeze (E:=E) (fun i v h=>?_) hle jS
   show (if b = b then cs[i]? else E.φ b i) = some v
   rw [if_pos rfl]; exact h) List.nodup_nil (fun _ h=>by cases h)
  refine ⟨{ E with φ:=fun c i=>if c = b then cs[i]? else E.φ c i },fI (fI RR (.slot d) []) (.slot d) [],rfl,{ h4 with aE:=fun q x hx=>?_,aF:=h4.aF }⟩
  refine h4.aE q x ?_
  simp only [St.put,look] at hx ⊢
  cases hq:Nat.beq d q with
  | true=>rw [hq] at hx; simpa using hx
  | false=>rw [hq] at hx; simpa using hx
end
end Go.AW
namespace Go.AW
open Go
mutual
def X.mC : X → X
 | .dH s rows=>.fz s (X.lK rows)
 | .agg xs=>.agg (X.jj xs)
 | .tup xs=>.tup (X.jj xs)
 | .v u=>.v u
 | .no=>.no
 | .fz s rows=>.fz s rows
 | .ptr o s i k=>.ptr o s i k
 | .aL o s lo n=>.aL o s lo n
 | .mref o=>.mref o
 | .fp row k=>.fp row k
 | .j7 f a b=>.j7 f a b
def X.jj : List X → List X
 | []=>[]
 | x :: r=>x.mC :: X.jj r
def X.lK : List (List X) → List (List X)
 | []=>[]
 | r :: rs=>X.jj r :: X.lK rs
end
theorem X.mD : ∀ xs : List X, (X.jj xs).length = xs.length
 | []=>rfl
 | _ :: r=>by simp [X.jj,X.mD r]
theorem X.mE : ∀ rs : List (List X), (X.lK rs).length = rs.length
 | []=>rfl
 | _ :: r=>by simp [X.lK,X.mE r]
theorem cz.lK{s : Nat} : ∀ {rs : List (List X)}, cz s rs → cz s (X.lK rs)
 | [],_=>fun _ h=>by cases h
 | r :: rs,h=>by
  intro q hq
  simp only [X.lK,List.mem_cons] at hq
  rcases hq with rfl | hq
  ·rw [X.mD]; exact h r (by simp)
  ·exact cz.lK (fun q hq=>h q (by simp [hq])) q hq
mutual
theorem X.Ek : ∀ {x : X}, x.free = true → x.mC = x
 | .v _,_ | .no,_ | .fz ..,_ | .ptr ..,_ | .aL ..,_ | .mref _,_ | .fp ..,_ | .j7 ..,_=>rfl
 | .dH ..,h=>by cases h
 | .agg xs,h=>by simp only [X.mC]; rw [X.lL (xs:=xs) h]
 | .tup xs,h=>by simp only [X.mC]; rw [X.lL (xs:=xs) h]
theorem X.lL : ∀ {xs : List X}, X.bu xs = true → X.jj xs = xs
 | [],_=>rfl
 | x :: r,h=>by
  simp only [X.bu,Bool.and_eq_true] at h
  simp only [X.jj]
  rw [X.Ek h.1,X.lL h.2]
end
theorem X.g5 : ∀ {rs : List (List X)}, cC rs → X.lK rs = rs
 | [],_=>rfl
 | r :: rs,h=>by
  simp only [X.lK]
  rw [X.lL (h r (by simp)),X.g5 (fun q hq=>h q (by simp [hq]))]
mutual
theorem X.El : ∀ {x : X}, x.nr = true → x.mC.nr = true
 | .v _,_ | .no,_ | .fz ..,_ | .fp ..,_=>rfl
 | .dH ..,_=>rfl
 | .agg xs,h=>X.tS (xs:=xs) h
 | .tup xs,h=>X.tS (xs:=xs) h
 | .j7 ..,h=>h
 | .ptr ..,h=>h
 | .aL ..,h=>h
 | .mref _,h=>h
theorem X.tS : ∀ {xs : List X}, X.iQ xs = true → X.iQ (X.jj xs) = true
 | [],_=>rfl
 | x :: r,h=>by
  simp only [X.iQ,Bool.and_eq_true] at h
  simp only [X.jj,X.iQ,Bool.and_eq_true]
  exact ⟨X.El h.1,X.tS h.2⟩
end
def Env.Bp(E E':Env)(R:List Nat):Prop :=
 E'.w = E.w /\ E'.β = E.β /\ (∀ c i v,E.φ c i = some v -> E'.φ c i = some v) /\ ∀ b ∈ R,∀ i v,E.w.cell? ⟨b,i,none⟩ = some v -> E'.φ b i = some v
theorem Env.Bp.sub{E E':Env}{R R':List Nat}(h:E.Bp E' R)(hs:∀ b ∈ R',b ∈ R):E.Bp E' R':=⟨h.1,h.2.1,h.2.2.1,fun b hb=>h.2.2.2 b (hs b hb)⟩
theorem Env.Bp.on{E E':Env}{R:List Nat}(h:E.Bp E' R):E.On E' []:=⟨h.2.2.1,fun _ h=>by cases h⟩
mutual
theorem RX.mC{E E' : Env} : ∀ (x : X) (c : Value) (R : List Nat), E.Bp E' R → RX E x c R → RX E' x.mC c []
 | .v u,c,R,hE,h=>by simp only [RX,X.mC] at h ⊢; exact ⟨h.1,trivial⟩
 | .no,c,R,hE,h=>by simp only [RX,X.mC]
 | .fz s rows,c,R,hE,h=>by
  have h0:R = []:=by simp only [RX] at h; exact h.1
  subst h0; exact RX.mono _ _ _ hE.on (fun _ _=>by rw [hE.2.1]) h
 | .ptr o s i k,c,R,hE,h=>by
  have h0:R = []:=by simp only [RX] at h; exact h.1
  subst h0; exact RX.mono _ _ _ hE.on (fun _ _=>by rw [hE.2.1]) h
 | .aL o s lo n,c,R,hE,h=>by
  have h0:R = []:=by simp only [RX] at h; exact h.1
  subst h0; exact RX.mono _ _ _ hE.on (fun _ _=>by rw [hE.2.1]) h
 | .mref o,c,R,hE,h=>by
  have h0:R = []:=by simp only [RX] at h; exact h.1
  subst h0; exact RX.mono _ _ _ hE.on (fun _ _=>by rw [hE.2.1]) h
 | .fp row k,c,R,hE,h=>by
  have h0:R = []:=by simp only [RX] at h; exact h.1
  subst h0; exact RX.mono _ _ _ hE.on (fun _ _=>by rw [hE.2.1]) h
 | .j7 fn a b,c,R,hE,h=>by
  have h0:R = []:=by simp only [RX] at h; exact h.1
  subst h0; exact RX.mono _ _ _ hE.on (fun _ _=>by rw [hE.2.1]) h
 | .dH s rows,c,R,hE,h=>by
  simp only [RX,X.mC] at h ⊢
  obtain ⟨hu,base,cap,hc,hh⟩:=h
  refine ⟨trivial,hu.lK,base,cap,by rw [X.mE]; exact hc,?_⟩
  rcases hh with ⟨h1,h2,h3⟩ | ⟨b,off,cs,ty,R',hb,hw,hl,ho,hφ,hr,hR⟩
  ·subst h1; exact .inl ⟨rfl,h2⟩
  ·subst hR
   refine .inr ⟨b,off,hb,by rw [X.mE]; exact hl,?_⟩
   exact cE.mC rows cs b off R' (fun i v hi=>hE.2.2.2 b (by simp) i v (by rw [dq hw]; exact hi)) (hE.sub (fun _ h=>by simp [h])) hr
 | .agg xs,c,R,hE,h=>by
  simp only [RX,X.mC] at h ⊢
  obtain ⟨cs,hc,hs⟩:=h
  exact ⟨cs,hc,b6.mC xs _ R hE hs⟩
 | .tup xs,c,R,hE,h=>by
  simp only [RX,X.mC] at h ⊢
  obtain ⟨cs,hc,hs⟩:=h
  exact ⟨cs,hc,eV.mC xs _ R hE hs⟩
theorem b6.mC{E E' : Env} : ∀ (xs : List X) (cs : List Value) (R : List Nat), E.Bp E' R → b6 E xs cs R → b6 E' (X.jj xs) cs []
 | [],cs,R,_,h=>by simp only [b6,X.jj] at h ⊢; exact ⟨h.1,trivial⟩
 | x :: r,cs,R,hE,h=>by
  simp only [b6,X.jj] at h ⊢
  obtain ⟨c,dp,R₁,R₂,hc,hs,h1,h2,hR⟩:=h
  subst hR
  exact ⟨c,dp,[],[],hc,hs,RX.mC x c R₁ (hE.sub (fun _ h=>cH h)) h1,b6.mC r dp R₂ (hE.sub (fun _ h=>ct h)) h2,rfl⟩
theorem eV.mC{E E' : Env} : ∀ (xs : List X) (cs : List Value) (R : List Nat), E.Bp E' R → eV E xs cs R → eV E' (X.jj xs) cs []
 | [],cs,R,_,h=>by simp only [eV,X.jj] at h ⊢; exact ⟨h.1,trivial⟩
 | x :: r,cs,R,hE,h=>by
  simp only [eV,X.jj] at h ⊢
  obtain ⟨c,dp,R₁,R₂,hc,h1,h2,hR⟩:=h
  subst hR
  exact ⟨c,dp,[],[],hc,RX.mC x c R₁ (hE.sub (fun _ h=>cH h)) h1,eV.mC r dp R₂ (hE.sub (fun _ h=>ct h)) h2,rfl⟩
theorem RO.mC{E E' : Env} : ∀ (xs : List X) (cs : Array Value) (b off : Nat) (R : List Nat), (∀ i v, cs[i]? = some v → E'.φ b i = some v) → E.Bp E' R → X.iQ xs = true → RO E xs cs off R → RF E' (X.jj xs) b off
 | [],_,_,_,_,_,_,_,_=>by simp [RF,X.jj]
 | x :: r,cs,b,off,R,hb,hE,hn,h=>by
  simp only [RO] at h
  obtain ⟨u,R₁,R₂,hu,hs,hx,hr,hR⟩:=h
  subst hR
  simp only [X.iQ,Bool.and_eq_true] at hn
  simp only [X.jj,RF]
  exact ⟨⟨u,hb _ _ hu,hs,X.El hn.1,RX.mC x u R₁ (hE.sub (fun _ h=>cH h)) hx⟩,RO.mC r cs b (off + 1) R₂ hb (hE.sub (fun _ h=>ct h)) hn.2 hr⟩
theorem cE.mC{E E' : Env} : ∀ (rs : List (List X)) (cs : Array Value) (b off : Nat) (R : List Nat), (∀ i v, cs[i]? = some v → E'.φ b i = some v) → E.Bp E' R → cE E rs cs off R → kX E' (X.lK rs) b off
 | [],_,_,_,_,_,_,_=>by simp [kX,X.lK]
 | r :: rs,cs,b,off,R,hb,hE,h=>by
  simp only [cE] at h
  obtain ⟨R₁,R₂,hn,hx,hr,hR⟩:=h
  subst hR
  simp only [X.lK,kX]
  refine ⟨RO.mC r cs b off R₁ hb (hE.sub (fun _ h=>cH h)) hn hx,?_⟩
  rw [X.mD]
  exact cE.mC rs cs b _ R₂ hb (hE.sub (fun _ h=>ct h)) hr
end
section
variable {N:fo} {st:St} {d:Nat}
theorem Sh.nS{x y:X}(hx:look st.aE d = some x)(he:x.mC = y):Sh N st (st.put d y):=by
 intro G hn a w hh
 obtain ⟨E,RR,rfl,hi⟩:=hh
 have hv:=hi.aE d _ hx
 have mw:=hi.no d
 have Kz:∀ p,∀ b ∈ fI RR (.slot d) [] p,b ∉ RR (.slot d):=by
  intro p b hp hb
  unfold fI at hp
  split at hp
  ·cases hp
  ·rename_i h; exact hi.apart _ _ h b hp hb
 -- what is frozen already is in no owned block
 have hle:∀ c i v,E.φ c i = some v -> (E.cB (fun b=>b ∈ RR (.slot d))).φ c i = some v:=by
  intro c i v h
  by_cases hc:c ∈ RR (.slot d)
  ·rw [je E (LB:=fun b=>b ∈ RR (.slot d)) hc]; exact hi.nM c i v h
  ·rw [eg E (LB:=fun b=>b ∈ RR (.slot d)) hc]; exact h
 have im:∀ p,E.On (E.cB (fun b=>b ∈ RR (.slot d))) (fI RR (.slot d) [] p):=by
  intro p
  refine ⟨hle,fun c hc=>⟨rfl,fun h i=>?_⟩⟩
  rw [eg E (LB:=fun b=>b ∈ RR (.slot d)) (Kz p c hc)]; exact h i
 have hf:E.Bp (E.cB (fun b=>b ∈ RR (.slot d))) (RR (.slot d)) :=
  ⟨rfl,rfl,hle,fun b hb i v h=>by rw [je E (LB:=fun b=>b ∈ RR (.slot d)) hb]; exact h⟩
 have NQ:Inv G (E.cB (fun b=>b ∈ RR (.slot d))) (fI RR (.slot d) []) (st.put d .no) a :=
  {mw with
   nM:=by
    intro c i v h
    by_cases hc:c ∈ RR (.slot d)
    ·rw [je E (LB:=fun b=>b ∈ RR (.slot d)) hc] at h; exact h
    ·rw [eg E (LB:=fun b=>b ∈ RR (.slot d)) hc] at h; exact hi.nM c i v h
   aE:=fun q x hx=>RX.mono x _ _ (im _) (fun _ _=>rfl) (mw.aE q x hx)
   aF:=fun o ob aW=>dK.mono (im _) rfl (fun _ _=>rfl) (mw.aF o ob aW)
   φ0:=fun c i v h=>hle c i v (hi.φ0 c i v h)
   grow:=by
    intro c i v h
    by_cases hc:c ∈ RR (.slot d)
    ·exact .inr (hi.own _ _ hc).2
    ·rw [eg E (LB:=fun b=>b ∈ RR (.slot d)) hc] at h; exact hi.grow c i v h }
 have h4:=NQ.relabel (d:=d) (x:=y) (R:=[]) (he ▸ RX.mC x _ _ hf hv) List.nodup_nil (fun _ h=>by cases h)
 refine ⟨E.cB (fun b=>b ∈ RR (.slot d)),fI (fI RR (.slot d) []) (.slot d) [],rfl,{ h4 with aE:=fun q x hx=>?_,aF:=h4.aF }⟩
 refine h4.aE q x ?_
 simp only [St.put,look] at hx ⊢
 cases hq:Nat.beq d q with
 | true=>rw [hq] at hx; simpa using hx
 | false=>rw [hq] at hx; simpa using hx
end
end Go.AW
namespace Go.AW
open Go
section
variable {P:Program} {N:fo} {st:St} {Q:Exit -> St -> Prop} {all:Array Oper} {rest:List Oper} {d:Nat} {ty:TypeId} {pos:String} {af:Array Edge}
theorem aQ.gU{t : TypeId}{x y : Operand}{o s i k m : Nat}{v : X}{ys row : List X}{rs : List (List X)}(tf : List (List X))(ht : TY.size P t = some m)(hx : bV st x = some (.ptr o s i k))(hy : bV st y = some v)(x9 : v.flat = some ys)(hf : X.bu ys = true)
  (hn:X.iQ ys = true) (hm:ys.length = m) (ho:look st.aF o = some (.rows s rs)) (hr:rs[i]? = some row) (hk:k + m <= row.length) (he:rs.set i (ly row k ys) = tf) (kk:aQ P N all rest (st.cV o (.rows s tf)) Q) :
  aQ P N all (⟨none,.store t x y,ty,pos,af,none⟩ :: rest) st Q:=by
 subst he
 exact aQ.Ku ht hx hy x9 hf hn hm ho hr hk kk
theorem Sh.K5{s n:Nat}{rows:List (List X)}(o:Nat)(hx:look st.aE d = some (.dH s rows))(hn:n = rows.length)(hF:N.F.elem o = false):Sh N st (((st.kill o).cV o (.rows s rows)).put d (.aL o s 0 n)):=by
 subst hn; exact Sh.Nq o hx hF
theorem aQ.HA{t e s de tv : Nat}{z : List Value}{x : Operand}{o lo n : Nat}{rs new : List (List X)}(tf : List (List X))(n' : Nat)(ht : TY.slice P t = some (e, s, de))(hz : TY.zero P e = some z)(sZ : Nat.beq z.length s = true)
  (hy:look st.aE tv = some (.dH s new)) (hx:bV (st.put tv .no) x = some (.aL o s lo n)) (ho:look st.aF o = some (.rows s rs)) (qG:lo + n <= rs.length)
  (he:((rs.drop lo).take n) ++ new = tf) (tD:n + new.length = n') (sx:n' * de <= 140737488355328) (DA:n' <= 4611686018427387904) (hF:N.F.elem o = false) (hd:d < N.n)
  (k:aQ P N all rest (((((st.put tv .no).kill o).cV o (.rows s tf))).put d (.aL o s 0 n')) Q) :
  aQ P N all (⟨some d,.call ⟨.builtin .append,#[x,.tmp tv],#[t,t]⟩,ty,pos,af,none⟩ :: rest) st Q:=by
 subst he tD
 exact aQ.append ht hz sZ hy hx ho qG sx DA hF hd k
theorem aQ.cL{α : Type}{t e s de tv : Nat}{z : List Value}{x : Operand}{o lo n : Nat}{rs new : List (List X)}(f : α → List X)(l : List α)(ht : TY.slice P t = some (e, s, de))(hz : TY.zero P e = some z)(sZ : Nat.beq z.length s = true)
 (hy:look st.aE tv = some (.dH s new)) (hx:bV (st.put tv .no) x = some (.aL o s lo n)) (ho:look st.aF o = some (.rows s rs)) (qG:lo + n <= rs.length)
 (he:((rs.drop lo).take n) ++ new = l.map f) (tD:n + new.length = l.length) (sx:l.length * de <= 140737488355328) (DA:l.length <= 4611686018427387904) (hF:N.F.elem o = false) (hd:d < N.n)
 (k:aQ P N all rest (((((st.put tv .no).kill o).cV o (.rows s (l.map f)))).put d (.aL o s 0 l.length)) Q) :
 aQ P N all (⟨some d,.call ⟨.builtin .append,#[x,.tmp tv],#[t,t]⟩,ty,pos,af,none⟩ :: rest) st Q:=aQ.HA (l.map f) l.length ht hz sZ hy hx ho qG he tD sx DA hF hd k
end
mutual
theorem X.tT{ν : Nat → Nat} : ∀ {x : X}, x.lt 0 = true → x.gB ν = x
 | .v _,_ | .no,_ | .fz ..,_ | .dH ..,_ | .fp ..,_=>rfl
 | .ptr o ..,h=>by simp [X.lt,Nat.blt] at h
 | .aL o ..,h=>by simp [X.lt,Nat.blt] at h
 | .mref o,h=>by simp [X.lt,Nat.blt] at h
 | .agg xs,h=>by simp only [X.gB]; rw [X.oQ (xs:=xs) h]
 | .tup xs,h=>by simp only [X.gB]; rw [X.oQ (xs:=xs) h]
 | .j7 f a b,h=>by
  simp only [X.lt,Bool.and_eq_true] at h
  simp only [X.gB]; rw [X.oQ h.1,X.oQ h.2]
theorem X.oQ{ν : Nat → Nat} : ∀ {xs : List X}, X.GU 0 xs = true → X.mS ν xs = xs
 | [],_=>rfl
 | x :: r,h=>by
  simp only [X.GU,Bool.and_eq_true] at h
  simp only [X.mS]; rw [X.tT h.1,X.oQ h.2]
end
section
variable {P:Program} {N:fo} {st:St} {Q:Exit -> St -> Prop} {all:Array Oper} {rest:List Oper} {d:Nat} {ty:TypeId} {pos:String} {af:Array Edge}
theorem aQ.aZ{f : FuncId}{cI : Array Operand}{q2 : Array TypeId}{xs args : List X}{R : X}(kW : aT P f = true)(gT : aw P f args [] [] (fun r o => r = R ∧ o = []))
  (gN:lI st cI.toList = some xs) (eW:er st [] (bY []) xs args) (hd:d < N.n) (gQ:R.lt 0 = true)
  (k:aQ P N all rest (st.put d R) Q):aQ P N all (⟨some d,.call ⟨.value (.func f),cI,q2⟩,ty,pos,af,none⟩ :: rest) st Q :=
 aQ.NO kW gT gN eW hd gQ (X.tT gQ) k
end
end Go.AW
namespace Go.AW
open Go
section
variable {P:Program} {N:fo} {st:St} {Q:Exit -> St -> Prop} {ops:Array Oper} {d:Nat} {ty:TypeId} {pos:String} {af:Array Edge}
def ax(P:Program)(N:fo)(st:St)(o:Oper)(x:X):Prop :=
 ∀ (G:Ctx) (E:Env) (RR:Own -> List Nat) (a:Act),G.fn = N -> Inv G E RR st a -> ∃ u,(∀ w,(execOp a.eval o).run P w = .ok (.value u) w) /\ RX E x u []
section
variable {dst:Option Nat} {g:Option (Nat × Bool)}
theorem ax.move{x:Operand}{y:X}(hx:bV st x = some y)(hf:y.free = true):ax P N st ⟨dst,.move x,ty,pos,af,g⟩ y:=by
 intro G E RR a _ hi
 obtain ⟨R,hv⟩:=hi.eval hx
 have:=RX.free hf hv
 subst this
 exact ⟨_,fun w=>rfl,hv⟩
theorem ax.assign{x:Operand}{y:X}(hx:bV st x = some y)(hf:y.free = true):ax P N st ⟨dst,.assign x,ty,pos,af,g⟩ y:=by
 intro G E RR a _ hi
 obtain ⟨R,hv⟩:=hi.eval hx
 have:=RX.free hf hv
 subst this
 exact ⟨_,fun w=>rfl,hv⟩
theorem ax.S5{t e s de : Nat}{x : Operand}{lo iS : Option Operand}{rows : List (List X)}{l h : Nat}{ni : List (List X)}(ht : TY.slice P t = some (e, s, de))(hx : bV st x = some (.fz s rows))
  (hl:Bd st lo 0 l) (hh:Bd st iS rows.length h) (h1:l <= h) (h2:h <= rows.length) (hr:(rows.take h).drop l = ni) :
  ax P N st ⟨dst,.slice t x lo iS none,ty,pos,af,g⟩ (.fz s ni):=by
 intro G E RR a _ hi
 obtain ⟨R,hp⟩:=hi.eval hx
 simp only [RX] at hp
 obtain ⟨_,hu,base,cap,hc,cU⟩:=hp
 obtain ⟨yW,i,iV,fY,_⟩:=TY.dT ht
 subst hr
 have lx:h <= cap:=by
  rcases cU with ⟨h',mx⟩ | ⟨_,_,_,x5,_⟩
  ·subst h'; simp at h2; omega
  ·omega
 refine ⟨.slice (if cap = l then base else base.map (·.add (l * s))) (h - l) (cap - l),fun w=>?_,?_⟩
 ·show (do let z <- Instr.sliceAt t (a.eval x) (lo.map a.eval) (iS.map a.eval) none; pure (Next.value z):Sem Next).run P w = _
  rw [hc]
  refine eb ?_
  simp only [Instr.sliceAt,Sem.run_bind,run_underlying yW,Result.andThen_ok,Instr.slice,jd hi hl hh h1 lx,run_sizeOf iV,fY]
  rfl
 ·have hlen:((rows.take h).drop l).length = h - l:=by simp; omega
  simp only [RX,hlen]
  refine ⟨trivial,(hu.take h).drop l,_,_,rfl,?_⟩
  rcases cU with ⟨h',mx⟩ | ⟨b,off,hb,x5,hf⟩
  ·exact .inl ⟨by subst h'; simp,om⟩
  ·refine .inr ?_
   subst hb
   by_cases vx:cap = l
   ·refine ⟨b,off,by rw [if_pos vx],om,?_⟩
    have:(rows.take h).drop l = []:=by
     apply List.eq_nil_of_length_eq_zero
     rw [hlen]; omega
    rw [this]; simp [kX]
   ·refine ⟨b,off + l * s,by rw [if_neg vx]; simp [iH],om,?_⟩
    exact kX.drop l (hu.take h) (by simp; omega) (hf.take h)
end
def fE(P:Program)(N:fo)(ops:Array Oper)(n:Nat)(ag:Array Bool)(st:St)(K:St -> Prop):Prop :=
 ∀ G:Ctx,G.fn = N -> ∀ a w,cK G st a w -> wpAny P .any ops (fun e a w=>e = .normal /\ ∃ aY,K aY /\ cK G aY a w) n ag a w
variable {K:St -> Prop}
theorem fE.blind{n : Nat}{ag : Array Bool}(i : Nat){op : Op}{x : X}(ho : ops[i]? = some ⟨some d, op, ty, pos, af, none⟩)
  (hB:(Region.noSelect ops && Region.free .any ops ag i && (Region.ready .any ops ag).contains i) = true) (hy:ax P N st ⟨some d,op,ty,pos,af,none⟩ x) (hd:d < N.n)
  (k:fE P N ops n (ag.setIfInBounds i true) (st.put d x) K):fE P N ops (n + 1) ag st K:=by
 intro G hn a w hh
 obtain ⟨E,RR,rfl,hi⟩:=hh
 obtain ⟨u,hr,hx⟩:=hy G E RR a hn hi
 simp only [Bool.and_eq_true] at hB
 refine wpAny_take (v:=u) ho hB.1.1 hB.1.2 hB.2 ?_ (.inl ⟨by simp [Region.wanted],hr⟩) (k G hn _ _ ⟨E,_,rfl,hi.iT (hn ▸ hd) hx⟩)
 intro c a w h
 cases h.1
theorem fE.step{n : Nat}{ag : Array Bool}(j : Nat){o : Oper}(ho : ops[j]? = some o)
  (k:aQ P N ops [o] st (fun e aY=>e = .normal /\ fE P N ops n (ag.setIfInBounds j true) aY K)) (G:Ctx) (hn:G.fn = N) (a:Act) (w:World) (hh:cK G st a w) :
  wpOp P ops (fun e a w=>e = .normal /\ ∃ aY,K aY /\ cK G aY a w) j (wpAny P .any ops (fun e a w=>e = .normal /\ ∃ aY,K aY /\ cK G aY a w) n (ag.setIfInBounds j true)) a w:=by
 have hk:=k G hn a w hh
 have key : wpOp P ops (fun e a w => oB G (fun e aY => e = .normal ∧ fE P N ops n (ag.setIfInBounds j true) aY K) e a w) j
   (fun a w=>oB G (fun e aY=>e = .normal /\ fE P N ops n (ag.setIfInBounds j true) aY K) .normal a w) a w:=by
  unfold wpOp; simp only [ho]; exact hk
 have mono:∀ {Q1 Q2:Exit -> Act -> World -> Prop} {K1 K2:Act -> World -> Prop},(∀ e a w,e ≠ .normal -> Q1 e a w -> False) -> (∀ a w,K1 a w -> K2 a w) -> wpOp P ops Q1 j K1 a w -> wpOp P ops Q2 j K2 a w:=by
  intro Q1 Q2 K1 K2 hQ hK h
  unfold wpOp at *
  simp only [ho] at *
  split
  ·rename_i hw
   simp only [hw,if_true] at h
   rcases h with h | ⟨_,hl⟩
   ·refine .inl ?_
    unfold Oper.wp at *
    generalize (execOp a.eval o).run P w = r at *
    cases r with
    | ok nx w' =>
     cases nx <;> simp only [Oper.upon] at h ⊢ <;> first
      | exact hK _ _ h
      | exact Calls.mono h (fun e Wu he=>by
        cases e with
        | returned u=>exact hK _ _ he
        | panicked c=>exact (hQ _ _ _ (by simp) he).elim
        | outgrown=>exact (let ⟨_,_,h'⟩:=he; hQ _ _ _ (by simp) h').elim)
      | exact Rows.mono h (fun _ _ he=>hK _ _ he)
    | halt x w'=>cases x <;> simp only [Oper.upon] at h ⊢ <;> first | exact (hQ _ _ _ (by simp) h).elim | exact (let ⟨_,_,h'⟩:=h; hQ _ _ _ (by simp) h').elim | exact h
   ·obtain ⟨_,_,h'⟩:=hl
    exact (hQ _ _ _ (by simp) h').elim
  ·rename_i hw
   simp only [hw] at h
   exact hK _ _ h
 refine mono ?_ ?_ key
 ·rintro e a w he ⟨aY,_,h,_⟩
  exact he h
 ·rintro a w ⟨aY,iR,_,Bq⟩
  exact Bq G hn a w iR
theorem fE.one{n : Nat}{ag : Array Bool}(i : Nat){o : Oper}(ho : ops[i]? = some o)(hr : (Region.ready .any ops ag == [i]) = true)
  (k:aQ P N ops [o] st (fun e aY=>e = .normal /\ fE P N ops n (ag.setIfInBounds i true) aY K)):fE P N ops (n + 1) ag st K:=by
 intro G hn a w hh
 refine wpAny_all (rs:=[i]) (by simpa using hr) (by simp) ?_
 intro j hj
 have:j = i:=by simpa using hj
 subst this
 exact fE.step j ho k G hn a w hh
theorem fE.two{n : Nat}{ag : Array Bool}(i i' : Nat){o o' : Oper}(ho : ops[i]? = some o)(nJ : ops[i']? = some o')(hr : (Region.ready .any ops ag == [i, i']) = true)
  (k:aQ P N ops [o] st (fun e aY=>e = .normal /\ fE P N ops n (ag.setIfInBounds i true) aY K))
  (k':aQ P N ops [o'] st (fun e aY=>e = .normal /\ fE P N ops n (ag.setIfInBounds i' true) aY K)):fE P N ops (n + 1) ag st K:=by
 intro G hn a w hh
 refine wpAny_all (rs:=[i,i']) (by simpa using hr) (by simp) ?_
 intro j hj
 simp only [List.mem_cons,List.not_mem_nil,or_false] at hj
 rcases hj with rfl | rfl
 ·exact fE.step j ho k G hn a w hh
 ·exact fE.step j nJ k' G hn a w hh
theorem fE.done{n:Nat}{ag:Array Bool}(hr:(Region.ready .any ops ag).isEmpty = true)(h:K st):fE P N ops n ag st K :=
 fun _ _ _ _ hh=>wpAny_done (by simpa using hr) ⟨rfl,st,h,hh⟩ n
theorem dx.dZ{id:Nat}(hm:P.follows .mixedOrders = true)(h:fE P N ops ops.size (Array.replicate ops.size false) st (fun aY=>Q .normal aY)):dx P N (.region id ops true) st Q:=by
 intro G hn a w hh
 refine wp_mono (wp_region_any hm (h G hn a _ hh.drew)) ?_
 rintro e a w ⟨rfl,aY,hk,iR⟩
 exact ⟨aY,iR,hk⟩
end
end Go.AW
namespace Go.AW
open Go
def uv(want : Bool) : Value → Bool
 | .bool b=>!(b == want)
 | _=>true
section
variable {P:Program} {N:fo} {st:St} {Q:Exit -> St -> Prop} {K:St -> Prop} {all:Array Oper} {rest:List Oper} {d dd:Nat} {ty:TypeId} {pos:String} {af:Array Edge} {dst:Option Nat} {op:Op} {j:Nat} {want:Bool} {u:Value}
theorem nq{G : Ctx}{E : Env}{RR : Own → List Nat}{a : Act}(hi : Inv G E RR st a)(hj : (all[j]?).bind (·.dst) = some d)(hd : d < G.fn.n)(hx : look st.aE d = some (.v u))(fH : uv want u = true) :
  Region.wanted ⟨dst,op,ty,pos,af,some (j,want)⟩ (yielded all a.tmps) = false:=by
 have hs:=hi.aE d _ hx
 simp only [RX] at hs
 have fY:d < a.tmps.size:=by rw [hi.tmps]; exact hd
 have hv:a.tmps[d]? = some u:=by
  have:=hs.1
  simp only [Array.getD,fY,dif_pos] at this
  rw [Array.getElem?_eq_getElem fY]
  exact congrArg some this
 have hy:yielded all a.tmps j ≠ some want:=by
  unfold yielded
  rw [hj,Option.bind_some,hv]
  intro h
  cases u <;> simp [uv] at fH h
  exact fH h
 simp only [Region.wanted]
 cases h:yielded all a.tmps j with
 | none=>rfl
 | some b=>rw [h] at hy; simpa using hy
theorem aQ.aV(hj : (all[j]?).bind (·.dst) = some d)(hd : d < N.n)(HB : dd < N.n)(hx : look st.aE d = some (.v u))(fH : uv want u = true)
  (k:aQ P N all rest (st.put dd (.v undef)) Q):aQ P N all (⟨some dd,op,ty,pos,af,some (j,want)⟩ :: rest) st Q:=by
 intro G hn a w hh
 obtain ⟨E,RR,rfl,hi⟩:=hh
 unfold wpList
 rw [if_neg (by rw [nq hi hj (hn ▸ hd) hx fH]; simp)]
 exact k G hn _ _ ⟨E,_,rfl,hi.iT (hn ▸ HB) (by simp [RX])⟩
theorem iB.aV(hj : (all[j]?).bind (·.dst) = some d)(hd : d < N.n)(HB : dd < N.n)(hx : look st.aE d = some (.v u))(fH : uv want u = true)
  (k:iB P N all rest (st.put dd (.v undef)) K):iB P N all (⟨some dd,op,ty,pos,af,some (j,want)⟩ :: rest) st K:=by
 intro G hn a w hh
 obtain ⟨E,RR,rfl,hi⟩:=hh
 unfold wpStill
 rw [if_neg (by rw [nq hi hj (hn ▸ hd) hx fH]; simp)]
 exact k G hn _ _ ⟨E,_,rfl,hi.iT (hn ▸ HB) (by simp [RX])⟩
end
end Go.AW
namespace Go.AW
open Go Go.ChangeShapes Go.WideShapes Go.Deep Go.RowKit
def E0(W:World):Env:=⟨fun b i=>W.cell? ⟨b,i,none⟩,fun _=>none,W⟩
theorem aw.row{P : Program}{f : FuncId}{args : List X}{u : Value}(h : aw P f args [] [] (fun r o => r = .v u ∧ o = [])){W : World}{dy : Array Value}(hn : dy.size = args.length)
  (hx:∀ (i:Nat) x,args[i]? = some x -> RX (E0 W) x (dy.getD i undef) []):Calls P f dy W (fun e W'=>e = .returned u /\ Below W.heap.size W W'):=by
 have hi:Inv (r3 (fun b=>b < W.heap.size) (E0 W) ⟨args.length,[]⟩) (E0 W) (fun _=>[]) ⟨dU 0 args,dU 0 []⟩ ⟨dy,[]⟩ :=
  {nM := fun _ _ _ h => h
   aE:=fun s x hs=>by
    rw [iv] at hs
    exact hx s x hs
   aF:=fun o ob ho=>by simp [dU,look] at ho
   nodup:=fun _=>List.nodup_nil
   apart:=fun _ _ _ _ h=>by cases h
   own:=fun _ _ h=>by cases h
   aj:=fun _ _=>rfl
   size:=Nat.le_refl _
   small:=fun _ h=>h
   os:=rfl
   tape:=rfl
   output:=rfl
   φ0:=fun _ _ _ h=>h
   grow:=fun _ _ _ h=>.inl h
   fixed:=fun _ _=>rfl
   tmps:=hn
   defers:=rfl }
 refine Calls.mono (h _ _ _ _ hi) ?_
 rintro e W' ⟨v,r,aJ,rfl,⟨rfl,_⟩,_,E',gG,rfl,iS⟩
 have hs:=iS.aE 0 (.v u) rfl
 simp only [RX] at hs
 have hv:v = u:=hs.1
 exact ⟨by rw [hv],iS.os,iS.tape,iS.output,iS.size,fun k hk=>iS.aj k hk⟩
theorem RF.of{E : Env}{b : Nat} : ∀ {row : List X} {off : Nat}, (∀ (j : Nat) x, row[j]? = some x → ∃ u, x = .v u ∧ ka u ∧ E.φ b (off + j) = some u) → RF E row b off
 | [],_,_=>by simp [RF]
 | x :: r,off,h=>by
  obtain ⟨u,rfl,hs,hu⟩:=h 0 x rfl
  simp only [RF]
  refine ⟨⟨u,by simpa using hu,hs,rfl,by simp [RX]⟩,RF.of fun j y hj=>?_⟩
  obtain ⟨u',h1,h2,h3⟩:=h (j + 1) y (by simpa using hj)
  exact ⟨u',h1,h2,by rw [show off + 1 + j = off + (j + 1) by omega]; exact h3⟩
theorem kX.of{E : Env}{b s : Nat} : ∀ {rows : List (List X)} {off : Nat}, cz s rows → (∀ (i : Nat) row, rows[i]? = some row → RF E row b (off + i * s)) → kX E rows b off
 | [],_,_,_=>by simp [kX]
 | r :: rs,off,hu,h=>by
  simp only [kX]
  refine ⟨by simpa using h 0 r rfl,kX.of (fun q hq=>hu q (by simp [hq])) fun i row hi=>?_⟩
  have:=h (i + 1) row (by simpa using hi)
  rw [hu r (by simp)]
  rw [Nat.add_mul,Nat.one_mul] at this
  rw [show off + s + i * s = off + (i * s + s) by omega]; exact this
section
variable {H:Type} {enc:TypeId × Value -> H} {P:Program} {W:World} {base:Nat} {spare:Nat -> Bool} {held:Bool} {n:Nat} {e:TypeId} {cs:List Value} {y:DataW H × List MemPlace}
end
end Go.AW
namespace Go.AW
open Go
section
variable {P:Program} {N:fo} {st:St} {Q:Exit -> St -> Prop} {all:Array Oper} {rest:List Oper} {dst:Option Nat} {d:Nat} {ty:TypeId} {pos:String} {af:Array Edge} {g:Option (Nat × Bool)}
theorem Y.ze{t t' : TypeId}{x y : Operand}{k : IntKind}{a b r : Int}(hx : bV st x = some (.v (.int k a)))(hy : bV st y = some (.v (.int k b)))(hr : r = if b > a then b else a) :
  Yields P N st ⟨dst,.call ⟨.builtin .max,#[x,y],#[t,t']⟩,ty,pos,af,g⟩ (.v (.int k r)):=by
 subst hr
 intro G E RR ac _ hi
 refine ⟨.int k (if b > a then b else a),iu ?_,by simp [RX]⟩
 have h1:=hi.val hx
 have h2:=hi.val hy
 simp [builtin,Builtin.max_,h1,h2,Builtin.max2]
theorem Y.zg{t t' : TypeId}{x y : Operand}{k : IntKind}{a b r : Int}(hx : bV st x = some (.v (.int k a)))(hy : bV st y = some (.v (.int k b)))(hr : r = if b < a then b else a) :
  Yields P N st ⟨dst,.call ⟨.builtin .min,#[x,y],#[t,t']⟩,ty,pos,af,g⟩ (.v (.int k r)):=by
 subst hr
 intro G E RR ac _ hi
 refine ⟨.int k (if b < a then b else a),iu ?_,by simp [RX]⟩
 have h1:=hi.val hx
 have h2:=hi.val hy
 simp [builtin,Builtin.min_,h1,h2,Builtin.min2]
theorem ax.extract{x:Operand}{xs:List X}{y:X}{k:Nat}(hx:bV st x = some (.tup xs))(hy:xs[k]? = some y)(hf:y.free = true):ax P N st ⟨dst,.extract x k,ty,pos,af,g⟩ y:=by
 intro G E RR a _ hi
 obtain ⟨R,hp⟩:=hi.eval hx
 simp only [RX] at hp
 obtain ⟨cs,hc,gN⟩:=hp
 obtain ⟨u,R₁,hu,h1⟩:=eV.get gN hy
 have h0:=RX.free hf h1
 subst h0
 refine ⟨u,fun w=>?_,h1⟩
 show (do let z <- Instr.extract (a.eval x) k; pure (Next.value z):Sem Next).run P w = _
 rw [hc]
 refine eb ?_
 have Cy:cs[k]? = some u:=by simpa using hu
 simp only [Instr.extract,Cy]; rfl
theorem aQ.uw{t e s de : Nat}{z : List Value}{x y : Operand}{o lo n : Nat}{rs new : List (List X)}(tf : List (List X))(n' : Nat)(ht : TY.slice P t = some (e, s, de))(hz : TY.zero P e = some z)(sZ : Nat.beq z.length s = true)
  (hy:bV st y = some (.fz s new)) (hx:bV st x = some (.aL o s lo n)) (ho:look st.aF o = some (.rows s rs)) (qG:lo + n <= rs.length)
  (he:((rs.drop lo).take n) ++ new = tf) (tD:n + new.length = n') (sx:n' * de <= 140737488355328) (DA:n' <= 4611686018427387904) (hF:N.F.elem o = false) (hd:d < N.n)
  (k:aQ P N all rest ((((st.kill o).cV o (.rows s tf))).put d (.aL o s 0 n')) Q) :
  aQ P N all (⟨some d,.call ⟨.builtin .append,#[x,y],#[t,t]⟩,ty,pos,af,none⟩ :: rest) st Q:=by
 subst he tD
 exact aQ.Hp ht hz sZ hy hx ho qG sx DA hF hd k
end
end Go.AW
namespace Go.AW
open Go
section
variable {P:Program} {N:fo} {st:St} {Q:Exit -> St -> Prop} {all:Array Oper} {rest:List Oper} {d:Nat} {ty:TypeId} {pos:String} {af:Array Edge}
theorem er.cB{L : List Nat}{ν : Nat → Nat}{o s lo n : Nat}{rs tf : List (List X)}{xs ys : List X}(ho : look st.aF o = some (.rows s rs))(hL : L.elem o = true)(qG : lo + n ≤ rs.length)(he : (rs.drop lo).take n = tf)
  (hs:er st L ν xs ys):er st L ν (.aL o s lo n :: xs) (.fz s tf :: ys):=by
 subst he
 exact .cons (.view ho (List.elem_iff.1 hL) qG) hs
theorem kH{o:Nat}{ob:Obj}(h:look st.aF o = some ob)(h':jW ob):∀ q ∈ [o],∃ ob,look st.aF q = some ob /\ jW ob:=by
 intro q hq
 simp only [List.mem_singleton] at hq
 subst hq
 exact ⟨ob,h,h'⟩
theorem eX{o:Nat}{ob:Obj}{L:List Nat}(h:look st.aF o = some ob)(h':jW ob)(hs:∀ q ∈ L,∃ ob,look st.aF q = some ob /\ jW ob):∀ q ∈ o :: L,∃ ob,look st.aF q = some ob /\ jW ob:=by
 intro q hq
 rcases List.mem_cons.1 hq with rfl | hq
 ·exact ⟨ob,h,h'⟩
 ·exact hs q hq
theorem aQ.jF{f : FuncId}{cI : Array Operand}{q2 : Array TypeId}{xs args : List X}{R : X}(L : List Nat)(kW : aT P f = true)(gT : aw P f args [] [] (fun r o => r = R ∧ o = []))
  (gN:lI st cI.toList = some xs) (eW:er st L (bY []) xs args) (h0:∀ o ∈ L,∃ ob,look st.aF o = some ob /\ jW ob) (hd:d < N.n) (gQ:R.lt 0 = true) (hp:R.plain)
  (k:aQ P N all rest (st.put d R) Q):aQ P N all (⟨some d,.call ⟨.value (.func f),cI,q2⟩,ty,pos,af,none⟩ :: rest) st Q :=
 aQ.NP L kW gT gN eW h0 hd gQ (X.tT gQ) hp k
end
end Go.AW
namespace Go.AW
open Go Go.Maps
section
variable {P:Program} {N:fo} {st:St} {Q:Exit -> St -> Prop} {all:Array Oper} {rest:List Oper} {dst:Option Nat} {d:Nat} {ty:TypeId} {pos:String} {af:Array Edge} {g:Option (Nat × Bool)}
theorem Inv.yU{G : Ctx}{E : Env}{RR : Own → List Nat}{a : Act}(hi : Inv G E RR st a){m : Operand}{o : Nat}{es : List (Value × Value)}(hm : bV st m = some (.mref o))(ho : look st.aF o = some (.yU es)) :
  ∃ B tC clock,E.β o = some B /\ a.eval m = .map (some B.b) /\ E.w.heap[B.b]? = some (.map tC clock) /\ (∀ i,E.φ B.b i = none) /\ tC.toList.map (fun e=>(e.key,e.val)) = es /\ RR (.obj o) = [B.b]:=by
 have aW:=hi.aF o _ ho
 simp only [dK] at aW
 obtain ⟨B,tC,clock,hB,hw,hf,he,hR⟩:=aW
 obtain ⟨R,hx⟩:=hi.eval hm
 simp only [RX] at hx
 obtain ⟨_,B',iU,hc⟩:=hx
 rw [hB] at iU
 obtain rfl:=Option.some.inj iU
 exact ⟨B,tC,clock,hB,hc,hw,hf,he,hR⟩
end
end Go.AW
namespace Go.AW
open Go
section
variable {P:Program} {N:fo} {st:St} {ty:TypeId} {pos:String} {af:Array Edge} {dst:Option Nat} {g:Option (Nat × Bool)}
theorem ax.nilCheck{x:Operand}{p q:X}(hx:bV st x = some p)(hq:p.on 0 = some q):ax P N st ⟨dst,.nilCheck x,ty,pos,af,g⟩ q:=by
 intro G E RR a _ hi
 obtain ⟨R,hp⟩:=hi.eval hx
 obtain ⟨b,off,hc,h⟩:=hp.on hq
 refine ⟨_,fun w=>?_,h⟩
 simp only [execOp,hc]; rfl
theorem ax.fieldAddr{t : TypeId}{x : Operand}{p q : X}{f off : Nat}{ft : TypeId}(ht : TY.jQ P t f = some (off, ft))(hx : bV st x = some p)(hq : p.on off = some q) :
  ax P N st ⟨dst,.fieldAddr t x f,ty,pos,af,g⟩ q:=by
 intro G E RR a _ hi
 obtain ⟨R,hp⟩:=hi.eval hx
 obtain ⟨b,o,hc,h⟩:=hp.on hq
 refine ⟨_,fun w=>?_,h⟩
 show (do let z <- Instr.fieldAt t (a.eval x) f; pure (Next.value z):Sem Next).run P w = _
 rw [hc]
 exact eb (TY.Bh ht b o w)
end
end Go.AW
namespace Go.AW
open Go
section
variable {P:Program} {N:fo} {st:St} {d:Nat}
theorem b6.swap{E E' : Env}{x y : X}{post : List X}(hE : E.On E' [])(zO : ∀ c, RX E x c [] → RX E' y c []) : ∀ {pre : List X} {cs : List Value}, (∀ q, X.cv q (pre ++ x :: post) = true → E'.β q = E.β q) →
  X.bu (pre ++ x :: post) = true -> b6 E (pre ++ x :: post) cs [] -> b6 E' (pre ++ y :: post) cs []
 | [],cs,hβ,hf,h=>by
  simp only [List.nil_append,b6] at h ⊢
  obtain ⟨c,dp,R₁,R₂,hc,hs,h1,h2,hR⟩:=h
  obtain ⟨rfl,rfl⟩:=List.append_eq_nil_iff.1 hR.symm
  exact ⟨c,dp,[],[],hc,hs,zO c h1,b6.mono post dp [] hE (fun q hq=>hβ q (by simp [X.cv,hq])) h2,rfl⟩
 | p :: pre,cs,hβ,hf,h=>by
  simp only [List.cons_append,b6] at h ⊢
  obtain ⟨c,dp,R₁,R₂,hc,hs,h1,h2,hR⟩:=h
  obtain ⟨rfl,rfl⟩:=List.append_eq_nil_iff.1 hR.symm
  simp only [List.cons_append,X.bu,Bool.and_eq_true] at hf
  exact ⟨c, dp, [], [], hc, hs, RX.mono p c [] hE (fun q hq => hβ q (by simp [X.cv, hq])) h1,
   b6.swap hE zO (pre:=pre) (fun q hq=>hβ q (by simp [X.cv,hq])) hf.2 h2,rfl⟩
theorem Sh.K6(o s : Nat)(pre post : List X)(hx : look st.aE d = some (.agg (pre ++ .v (.slice none 0 0) :: post)))(hf : X.bu (pre ++ .v (.slice none 0 0) :: post) = true)
  (hm:X.cv o (pre ++ .v (.slice none 0 0) :: post) = false) (hF:N.F.elem o = false):Sh N st (((st.kill o).cV o (.rows s [])).put d (.agg (pre ++ .aL o s 0 0 :: post))):=by
 intro G hn a w hh
 obtain ⟨E,RR,rfl,hi⟩:=hh
 have hv:=hi.aE d _ hx
 have h0:RR (.slot d) = []:=RX.free (x:=.agg (pre ++ .v (.slice none 0 0) :: post)) hf hv
 rw [h0] at hv
 simp only [RX] at hv
 obtain ⟨cs,hc,hs⟩:=hv
 have hβ:dg G E { E with β:=fun q=>if q = o then none else E.β q } (fun _=>False) :=
  ⟨rfl,fun _ h=>h.elim,fun _ h=>h.elim,fun _ _ _=>rfl,Nat.le_refl _,rfl,rfl,rfl⟩
 have h1 := hi.lF hβ (o := o) (ob := .rows s []) (R := []) (fun _ h => h.elim) (fun q hq => by simp [hq]) (fun h => by rw [hn, hF] at h; cases h)
  (by simp only [dK]; exact ⟨fun _ h=>(by cases h),.inl ⟨by simp,trivial,trivial⟩⟩) List.nodup_nil (fun _ h=>by cases h)
 have h2:RX { E with β:=fun q=>if q = o then none else E.β q } (.agg (pre ++ .aL o s 0 0 :: post)) (a.tmps.getD d undef) []:=by
  simp only [RX]
  refine ⟨cs,hc,b6.swap (E:=E) (E':={ E with β:=fun q=>if q = o then none else E.β q }) ⟨fun _ _ _ h=>h,fun _ h=>by cases h⟩ (fun c Wv=>?_) (fun q hq=>?_) hf hs⟩
  ·simp only [RX] at Wv ⊢
   exact ⟨trivial,none,0,Wv.1,.inl ⟨by simp,by trivial,by trivial,by trivial⟩⟩
  ·have:q ≠ o:=fun e=>by subst e; rw [hm] at hq; cases hq
   simp [this]
 exact ⟨{ E with β:=fun q=>if q = o then none else E.β q },_,rfl,h1.relabel h2 List.nodup_nil (fun _ h=>by cases h)⟩
theorem er.named{L:List Nat}{ν:Nat -> Nat}{x y:X}{xs ys:List X}(h:x.free = true)(he:x.gB ν = y)(hs:er st L ν xs ys):er st L ν (y :: xs) (x :: ys):=by
 subst he
 exact .cons (.same h) hs
end
end Go.AW
namespace Go.AW
open Go
section
variable {P:Program} {N:fo} {st:St} {Q:Exit -> St -> Prop}
theorem dx.ux{x y:Code}(J:St)(I:Prop)(hx:dx P N x st (j5 (fun aY=>I /\ Le aY J) Q))(hy:I -> dx P N y J Q):dx P N (.seq x y) st Q :=
 dx.join (fun _:Unit=>J) (fun _=>I) (hx.mono fun e _ h=>by cases e <;> first | exact ⟨(),h⟩ | exact h) (fun _ h=>hy h)
theorem dx.jt{α0 : Type}{c : Code}(S : α0 → St)(I : α0 → Prop)(μ : α0 → Nat)(i0 : α0)(hi : I i0)(hs : Le st (S i0))
  (round:∀ a0,I a0 -> dx P N c (S a0) (j5 (fun aY=>∃ b0,I b0 /\ μ b0 < μ a0 /\ Le aY (S b0)) Q)):dx P N (.loop c) st Q :=
 dx.loop (ι:=α0) (fun u=>S u) (fun u=>I u) (fun u=>μ u) i0 hi hs (fun u h=>(round u h).mono fun e _ h=>by
  cases e <;> first | exact h | (obtain ⟨b0,h⟩:=h; exact ⟨b0,h⟩))
theorem dx.iC{α0:Type}{x y:Code}(J:α0 -> St)(I:α0 -> Prop)(hx:dx P N x st (j5 (fun aY=>∃ b0,I b0 /\ Le aY (J b0)) Q))(hy:∀ a0,I a0 -> dx P N y (J a0) Q):dx P N (.seq x y) st Q :=
 dx.join (ι:=α0) (fun u=>J u) (fun u=>I u) (hx.mono fun e _ h=>by cases e <;> first | exact h | (obtain ⟨b0,h⟩:=h; exact ⟨b0,h⟩)) (fun u h=>hy u h)
theorem dx.iD{α0 α1 : Type}{c : Code}(S : α0 → α1 → St)(I : α0 → α1 → Prop)(μ : α0 → α1 → Nat)(i0 : α0)(i1 : α1)(hi : I i0 i1)(hs : Le st (S i0 i1))
  (round:∀ a0 a1,I a0 a1 -> dx P N c (S a0 a1) (j5 (fun aY=>∃ b0 b1,I b0 b1 /\ μ b0 b1 < μ a0 a1 /\ Le aY (S b0 b1)) Q)):dx P N (.loop c) st Q :=
 dx.loop (ι:=α0 × α1) (fun u=>S u.1 u.2) (fun u=>I u.1 u.2) (fun u=>μ u.1 u.2) (i0,i1) hi hs (fun u h=>(round u.1 u.2 h).mono fun e _ h=>by
  cases e <;> first | exact h | (obtain ⟨b0,b1,h⟩:=h; exact ⟨(b0,b1),h⟩))
theorem dx.lk{α0 α1:Type}{x y:Code}(J:α0 -> α1 -> St)(I:α0 -> α1 -> Prop)(hx:dx P N x st (j5 (fun aY=>∃ b0 b1,I b0 b1 /\ Le aY (J b0 b1)) Q))(hy:∀ a0 a1,I a0 a1 -> dx P N y (J a0 a1) Q):dx P N (.seq x y) st Q :=
 dx.join (ι:=α0 × α1) (fun u=>J u.1 u.2) (fun u=>I u.1 u.2) (hx.mono fun e _ h=>by cases e <;> first | exact h | (obtain ⟨b0,b1,h⟩:=h; exact ⟨(b0,b1),h⟩)) (fun u h=>hy u.1 u.2 h)
theorem dx.eh{α0 α1 α2 : Type}{c : Code}(S : α0 → α1 → α2 → St)(I : α0 → α1 → α2 → Prop)(μ : α0 → α1 → α2 → Nat)(i0 : α0)(i1 : α1)(i2 : α2)(hi : I i0 i1 i2)(hs : Le st (S i0 i1 i2))
  (round:∀ a0 a1 a2,I a0 a1 a2 -> dx P N c (S a0 a1 a2) (j5 (fun aY=>∃ b0 b1 b2,I b0 b1 b2 /\ μ b0 b1 b2 < μ a0 a1 a2 /\ Le aY (S b0 b1 b2)) Q)):dx P N (.loop c) st Q :=
 dx.loop (ι:=α0 × α1 × α2) (fun u=>S u.1 u.2.1 u.2.2) (fun u=>I u.1 u.2.1 u.2.2) (fun u=>μ u.1 u.2.1 u.2.2) (i0,i1,i2) hi hs (fun u h=>(round u.1 u.2.1 u.2.2 h).mono fun e _ h=>by
  cases e <;> first | exact h | (obtain ⟨b0,b1,b2,h⟩:=h; exact ⟨(b0,b1,b2),h⟩))
theorem dx.Br{α0 α1 α2:Type}{x y:Code}(J:α0 -> α1 -> α2 -> St)(I:α0 -> α1 -> α2 -> Prop)(hx:dx P N x st (j5 (fun aY=>∃ b0 b1 b2,I b0 b1 b2 /\ Le aY (J b0 b1 b2)) Q))(hy:∀ a0 a1 a2,I a0 a1 a2 -> dx P N y (J a0 a1 a2) Q):dx P N (.seq x y) st Q :=
 dx.join (ι:=α0 × α1 × α2) (fun u=>J u.1 u.2.1 u.2.2) (fun u=>I u.1 u.2.1 u.2.2) (hx.mono fun e _ h=>by cases e <;> first | exact h | (obtain ⟨b0,b1,b2,h⟩:=h; exact ⟨(b0,b1,b2),h⟩)) (fun u h=>hy u.1 u.2.1 u.2.2 h)
theorem dx.Bs{α0 α1 α2 α3 : Type}{c : Code}(S : α0 → α1 → α2 → α3 → St)(I : α0 → α1 → α2 → α3 → Prop)(μ : α0 → α1 → α2 → α3 → Nat)(i0 : α0)(i1 : α1)(i2 : α2)(i3 : α3)(hi : I i0 i1 i2 i3)(hs : Le st (S i0 i1 i2 i3))
  (round:∀ a0 a1 a2 a3,I a0 a1 a2 a3 -> dx P N c (S a0 a1 a2 a3) (j5 (fun aY=>∃ b0 b1 b2 b3,I b0 b1 b2 b3 /\ μ b0 b1 b2 b3 < μ a0 a1 a2 a3 /\ Le aY (S b0 b1 b2 b3)) Q)):dx P N (.loop c) st Q :=
 dx.loop (ι:=α0 × α1 × α2 × α3) (fun u=>S u.1 u.2.1 u.2.2.1 u.2.2.2) (fun u=>I u.1 u.2.1 u.2.2.1 u.2.2.2) (fun u=>μ u.1 u.2.1 u.2.2.1 u.2.2.2) (i0,i1,i2,i3) hi hs (fun u h=>(round u.1 u.2.1 u.2.2.1 u.2.2.2 h).mono fun e _ h=>by
  cases e <;> first | exact h | (obtain ⟨b0,b1,b2,b3,h⟩:=h; exact ⟨(b0,b1,b2,b3),h⟩))
theorem dx.Bt{α0 α1 α2 α3:Type}{x y:Code}(J:α0 -> α1 -> α2 -> α3 -> St)(I:α0 -> α1 -> α2 -> α3 -> Prop)(hx:dx P N x st (j5 (fun aY=>∃ b0 b1 b2 b3,I b0 b1 b2 b3 /\ Le aY (J b0 b1 b2 b3)) Q))(hy:∀ a0 a1 a2 a3,I a0 a1 a2 a3 -> dx P N y (J a0 a1 a2 a3) Q):dx P N (.seq x y) st Q :=
 dx.join (ι:=α0 × α1 × α2 × α3) (fun u=>J u.1 u.2.1 u.2.2.1 u.2.2.2) (fun u=>I u.1 u.2.1 u.2.2.1 u.2.2.2) (hx.mono fun e _ h=>by cases e <;> first | exact h | (obtain ⟨b0,b1,b2,b3,h⟩:=h; exact ⟨(b0,b1,b2,b3),h⟩)) (fun u h=>hy u.1 u.2.1 u.2.2.1 u.2.2.2 h)
theorem dx.NR{α0 α1 α2 α3 α4 : Type}{c : Code}(S : α0 → α1 → α2 → α3 → α4 → St)(I : α0 → α1 → α2 → α3 → α4 → Prop)(μ : α0 → α1 → α2 → α3 → α4 → Nat)(i0 : α0)(i1 : α1)(i2 : α2)(i3 : α3)(i4 : α4)(hi : I i0 i1 i2 i3 i4)(hs : Le st (S i0 i1 i2 i3 i4))
  (round:∀ a0 a1 a2 a3 a4,I a0 a1 a2 a3 a4 -> dx P N c (S a0 a1 a2 a3 a4) (j5 (fun aY=>∃ b0 b1 b2 b3 b4,I b0 b1 b2 b3 b4 /\ μ b0 b1 b2 b3 b4 < μ a0 a1 a2 a3 a4 /\ Le aY (S b0 b1 b2 b3 b4)) Q)):dx P N (.loop c) st Q :=
 dx.loop (ι:=α0 × α1 × α2 × α3 × α4) (fun u=>S u.1 u.2.1 u.2.2.1 u.2.2.2.1 u.2.2.2.2) (fun u=>I u.1 u.2.1 u.2.2.1 u.2.2.2.1 u.2.2.2.2) (fun u=>μ u.1 u.2.1 u.2.2.1 u.2.2.2.1 u.2.2.2.2) (i0,i1,i2,i3,i4) hi hs (fun u h=>(round u.1 u.2.1 u.2.2.1 u.2.2.2.1 u.2.2.2.2 h).mono fun e _ h=>by
  cases e <;> first | exact h | (obtain ⟨b0,b1,b2,b3,b4,h⟩:=h; exact ⟨(b0,b1,b2,b3,b4),h⟩))
end
section
variable {α:Type} {f:α -> List X} {l m:List α} {i n:Nat} {d a b:α}
theorem ao(h:i < l.length):(l.map f)[i]? = some (f (l.getD i d)):=by
 rw [List.getElem?_map,List.getElem?_eq_getElem h,List.getD_eq_getElem?_getD,List.getElem?_eq_getElem h]; rfl
theorem aM(h:i < l.length):(l.map f)[0 + i]? = some (f (l.getD i d)):=by rw [Nat.zero_add]; exact ao h
theorem e9{k:Nat}{ys:List X}(h:ly (f a) k ys = f b):(l.map f).set (0 + i) (ly (f a) k ys) = (l.set i b).map f:=by
 rw [h,Nat.zero_add,List.map_set]
theorem aR(h:n = l.length):(((l.map f).drop 0).take n) ++ m.map f = (l ++ m).map f:=by
 rw [List.drop_zero,List.take_of_length_le (by rw [List.length_map]; omega),List.map_append]
theorem bg(h:n = l.length):0 + n <= (l.map f).length:=by rw [List.length_map]; omega
theorem bz(h:n = l.length):n + (m.map f).length = (l ++ m).length:=by rw [List.length_map,List.length_append]; omega
theorem b7(h:n = l.length):0 + n <= (l.map f).length:=by rw [List.length_map]; omega
theorem b8(h:n = l.length):((l.map f).drop 0).take n = l.map f:=by
 rw [List.drop_zero,List.take_of_length_le (by rw [List.length_map]; omega)]
theorem HC{f:α -> List X}{z:List X}(h:z = f a):List.replicate n z = (List.replicate n a).map f:=by rw [List.map_replicate,h]
theorem iJ{p:Prop}(h:p:=by first | rfl | exact HC rfl):p:=h
theorem aU(h:n = l.length):n = (l.map f).length:=by rw [List.length_map]; exact h
theorem sm{p:Prop}(h:p:=by first | rfl | exact aU rfl | exact aU (by omega)):p:=h
end
section
variable {N:fo} {st:St} {d:Nat}
theorem Sh.dr{s n:Nat}{rows:List (List X)}(o:Nat)(ni:List (List X))(hx:look st.aE d = some (.dH s rows))(he:rows = ni)(hn:n = ni.length)(hF:N.F.elem o = false):Sh N st (((st.kill o).cV o (.rows s ni)).put d (.aL o s 0 n)):=by
 subst he; exact Sh.K5 o hx hn hF
theorem Sh.cG{s:Nat}{rows:List (List X)}(ni:List (List X))(hx:look st.aE d = some (.dH s rows))(he:rows = ni)(hf:cC ni):Sh N st (st.put d (.fz s ni)):=by
 subst he; exact Sh.freeze hx hf
end
section
variable {P:Program} {N:fo} {st:St} {dst:Option Nat} {ty:TypeId} {pos:String} {af:Array Edge} {g:Option (Nat × Bool)}
theorem Y.qk{s d : TypeId}{x : Operand}{k k' : IntKind}{n : Int}(hs : TY.isInt P s = some k')(hd : TY.isInt P d = some k)(hx : bV st x = some (.v (.int k' n)))(hr : k.wrap n = n) :
  Yields P N st ⟨dst,.convert s d x,ty,pos,af,g⟩ (.v (.int k n)):=Y.qj hs hd hx hr
end
theorem aN{l:List (Nat × X)}{i o s lo n n':Nat}(h:look l i = some (.aL o s lo n))(e:n = n'):look l i = some (.aL o s lo n'):=e ▸ h
theorem ak{l:List (Nat × X)}{i:Nat}{k:IntKind}{a b:Int}(h:look l i = some (.v (.int k a)))(e:a = b):look l i = some (.v (.int k b)):=e ▸ h
theorem a9{l:List (Nat × X)}{i:Nat}{a b:Bool}(h:look l i = some (.v (.bool a)))(e:a = b):look l i = some (.v (.bool b)):=e ▸ h
theorem ay{l:List (Nat × Obj)}{i:Nat}{a b:List X}(h:look l i = some (.cells a))(e:a = b):look l i = some (.cells b):=e ▸ h
theorem aq{α:Type}{s:Nat}{f:α -> List X}(h:∀ a,(f a).length = s){l:List α}:cz s (l.map f):=by
 intro r hr
 obtain ⟨a,_,rfl⟩:=List.mem_map.1 hr
 exact h a
theorem Em{α0 γ:Type}(f:α0 -> γ){a0 b0:α0}(h0:a0 = b0):f a0 = f b0:=by subst h0; rfl
end Go.AW
namespace Go.AW
section
variable {α:Type} {l m:List α} {i j n:Nat} {d a x:α}
theorem nt(h:i < n):(List.replicate n a).getD i d = a:=by
 rw [List.getD_eq_getElem?_getD,List.getElem?_replicate,if_pos h]; rfl
theorem zP{p:Nat -> Prop}(h:∀ j,j < i -> p j)(hp:p i):∀ j,j < i + 1 -> p j:=by
 intro j hj
 rcases Nat.lt_or_ge j i with h1 | h1
 ·exact h j h1
 ·obtain rfl:j = i:=by omega
  exact hp
end
end Go.AW
namespace Go.AW
open Go Go.ChangeShapes Go.WideShapes Go.Deep Go.RowKit
theorem b6.En{E : Env} : ∀ {xs ys : List X} {cs ds : List Value}, b6 E xs cs [] → b6 E ys ds [] → b6 E (xs ++ ys) (cs ++ ds) []
 | [],_,_,_,h,h'=>by simp only [b6] at h; rw [h.1]; exact h'
 | x :: r,ys,cs,ds,h,h'=>by
  simp only [b6] at h
  obtain ⟨c,dp,R₁,R₂,rfl,hs,h1,h2,hR⟩:=h
  obtain ⟨rfl,rfl⟩:=List.append_eq_nil_iff.1 hR.symm
  simp only [List.cons_append,b6]
  exact ⟨c,dp ++ ds,[],[],rfl,hs,h1,b6.En h2 h',rfl⟩
theorem b6.v1{E:Env}{u:Value}(h:ka u):b6 E [.v u] [u] []:=by
 simp only [b6]
 exact ⟨u,[],[],[],rfl,h,by simp [RX],⟨rfl,rfl⟩,rfl⟩
theorem b6.len{E : Env} : ∀ {xs : List X} {cs : List Value} {R : List Nat}, b6 E xs cs R → xs.length = cs.length
 | [],_,_,h=>by simp only [b6] at h; rw [h.1]; rfl
 | x :: r,cs,R,h=>by
  simp only [b6] at h
  obtain ⟨c,dp,R₁,R₂,rfl,_,_,h2,_⟩:=h
  simp [b6.len h2]
theorem RF.Ww{E : Env}{b : Nat} : ∀ {row : List X} {cs : List Value} {off : Nat}, b6 E row cs [] → X.iQ row = true → (∀ (j : Nat) c, cs[j]? = some c → E.φ b (off + j) = some c) → RF E row b off
 | [],_,_,_,_,_=>by simp [RF]
 | x :: r,cs,off,h,hn,hc=>by
  simp only [b6] at h
  obtain ⟨c,dp,R₁,R₂,rfl,hs,h1,h2,hR⟩:=h
  obtain ⟨rfl,rfl⟩:=List.append_eq_nil_iff.1 hR.symm
  simp only [X.iQ,Bool.and_eq_true] at hn
  simp only [RF]
  refine ⟨⟨c,by simpa using hc 0 c rfl,hs,hn.1,h1⟩,RF.Ww h2 hn.2 fun j c' hj=>?_⟩
  rw [show off + 1 + j = off + (j + 1) by omega]
  exact hc (j + 1) c' (by simpa using hj)
mutual
def v8{H : Type} : DataW H → Nat
 | .lit (.string bytes)=>bytes.length + 1
 | .lit _=>1
 | .nil=>1
 | .ptr d=>v8 d + 1
 | .slice elems spare=>lM elems + lM spare + 1
 | .agg parts=>lM parts + 1
 | .iface _ d=>v8 d + 1
 | .map entries=>uy entries + 1
 | .held _=>1
def lM{H : Type} : List (DataW H) → Nat
 | []=>0
 | d :: r=>v8 d + lM r
def uy{H : Type} : List (Lit × DataW H) → Nat
 | []=>0
 | x :: r=>Eo x + uy r
def Eo{H : Type} : Lit × DataW H → Nat
 | (.string bytes,d)=>bytes.length + v8 d + 1
 | (_,d)=>v8 d + 1
end
theorem q4{H α : Type}{m : α → Nat} : ∀ {l : List α} {ds : List (DataW H)}, l.length = ds.length → (∀ (i : Nat) a d, l[i]? = some a → ds[i]? = some d → m a ≤ v8 d) → (l.map m).sum ≤ lM ds
 | [],_,_,_=>by simp
 | a :: l,[],h,_=>by simp at h
 | a :: l,d :: ds,h,hm=>by
  have h1:=hm 0 a d rfl rfl
  have h2:=q4 (l:=l) (ds:=ds) (by simpa using h) (fun i a' d' ha hd=>hm (i + 1) a' d' (by simpa using ha) (by simpa using hd))
  simp only [List.map_cons,List.sum_cons,lM]; omega
section
variable {H:Type} (enc:TypeId × Value -> H) (P:Program) (W:World) (base:Nat)
def Sz{H:Type}(P:Program)(t:TypeId)(d:DataW H):Prop:=∀ n ∈ d.weights P t,n <= 140737488351232
def Reads(t:TypeId){α:Type}(f:α -> List X)(p:α -> Prop)(m:α -> Nat):Prop :=
 ∀ (n : Nat) (cs : List Value) (y : DataW H × List MemPlace), DataW.trod enc P W base (fun _ => true) true n t cs = some y → Sz P t y.1 →
  ∃ a:α,p a /\ b6 (E0 W) (f a) cs [] /\ X.bu (f a) = true /\ X.iQ (f a) = true /\ m a <= v8 y.1
def gJ(fl:List Field)(off m:Nat){α:Type}(f:α -> List X)(p:α -> Prop)(mm:α -> Nat):Prop :=
 ∀ (n : Nat) (cs : List Value) (xs : List (DataW H × List MemPlace)), off + m ≤ cs.length → xs.length = fl.length →
  (∀ (i:Nat) (fd:Field),fl[i]? = some fd -> DataW.trod enc P W base (fun _=>true) true n fd.type ((cs.drop fd.offset).take (P.cellsOf fd.type)) = xs[i]?) ->
  (∀ (i:Nat) (fd:Field) (x:DataW H × List MemPlace),fl[i]? = some fd -> xs[i]? = some x -> Sz P fd.type x.1) ->
  ∃ a:α,p a /\ b6 (E0 W) (f a) ((cs.drop off).take m) [] /\ X.bu (f a) = true /\ X.iQ (f a) = true /\ mm a <= lM (xs.map (·.1))
end
section
variable {H:Type} {enc:TypeId × Value -> H} {P:Program} {W:World} {base:Nat} {t e:TypeId} {α β:Type} {f:α -> List X} {p:α -> Prop} {g:β -> List X} {q:β -> Prop} {mf:α -> Nat} {mg:β -> Nat}
theorem nu : ∀ {a b : List X}, X.bu a = true → X.bu b = true → X.bu (a ++ b) = true
 | [],_,_,h=>h
 | x :: r,b,h,h'=>by
  simp only [X.bu,Bool.and_eq_true,List.cons_append] at h ⊢
  exact ⟨h.1,nu h.2 h'⟩
theorem r9 : ∀ {a b : List X}, X.iQ a = true → X.iQ b = true → X.iQ (a ++ b) = true
 | [],_,_,h=>h
 | x :: r,b,h,h'=>by
  simp only [X.iQ,Bool.and_eq_true,List.cons_append] at h ⊢
  exact ⟨h.1,r9 h.2 h'⟩
theorem Reads.map(φ:α -> β)(h:Reads enc P W base t f p mf)(hf:∀ a,g (φ a) = f a)(hp:∀ a,p a -> q (φ a))(hm:∀ a,mg (φ a) <= mf a):Reads enc P W base t g q mg:=by
 intro n cs y hy hs
 obtain ⟨a,h1,h2,h3,h4,h5⟩:=h n cs y hy hs
 exact ⟨φ a,hp a h1,by rw [hf]; exact h2,by rw [hf]; exact h3,by rw [hf]; exact h4,Nat.le_trans (hm a) h5⟩
theorem Reads.int{k:IntKind}(he:P.underlying t = some (.int k)):Reads enc P W base t (fun z:Int=>[.v (.int k z)]) (fun z=>(Lit.int k z).wf = true) (fun _=>1):=by
 intro n cs y hy _
 obtain ⟨z,rfl,hd,hw⟩:=DataW.trod_int he hy
 exact ⟨z,hw,b6.v1 trivial,rfl,rfl,by rw [hd]; exact Nat.le_refl _⟩
theorem Reads.bool(he:P.underlying t = some .bool):Reads enc P W base t (fun z:Bool=>[.v (.bool z)]) (fun _=>True) (fun _=>1):=by
 intro n cs y hy _
 obtain ⟨z,rfl,hd⟩:=DataW.trod_bool he hy
 exact ⟨z,trivial,b6.v1 trivial,rfl,rfl,by rw [hd]; exact Nat.le_refl _⟩
theorem Reads.NS(he:P.underlying t = some (.int .u64)):Reads enc P W base t (fun z:Nat=>[.v (.int .u64 (z:Int))]) (fun z=>z < 18446744073709551616) (fun _=>1):=by
 intro n cs y hy _
 obtain ⟨z,rfl,hd,hw⟩:=DataW.trod_int he hy
 simp only [Lit.wf,IntKind.min,IntKind.max,IntKind.signed,IntKind.bits] at hw
 simp at hw
 obtain ⟨m,rfl⟩:=Int.eq_ofNat_of_zero_le (show 0 <= z by omega)
 exact ⟨m,om,b6.v1 trivial,rfl,rfl,by rw [hd]; exact Nat.le_refl _⟩
theorem Reads.S6(he:P.underlying t = some (.int .u8)):Reads enc P W base t (fun z:Nat=>[.v (.int .u8 (z:Int))]) (fun z=>z < 256) (fun _=>1):=by
 intro n cs y hy _
 obtain ⟨z,rfl,hd,hw⟩:=DataW.trod_int he hy
 simp only [Lit.wf,IntKind.min,IntKind.max,IntKind.signed,IntKind.bits] at hw
 simp at hw
 obtain ⟨m,rfl⟩:=Int.eq_ofNat_of_zero_le (show 0 <= z by omega)
 exact ⟨m,om,b6.v1 trivial,rfl,rfl,by rw [hd]; exact Nat.le_refl _⟩
theorem Reads.str(he:P.underlying t = some .string):Reads enc P W base t (fun z:ByteArray=>[.v (.string z)]) (fun z=>z.size <= 140737488351232) (fun _=>0):=by
 intro n cs y hy hs
 obtain ⟨z,rfl,rfl,_⟩:=DataW.trod_string he hy
 refine ⟨z,?_,b6.v1 trivial,rfl,rfl,Nat.zero_le _⟩
 have:=hs z.data.toList.length (by simp [DataW.weights])
 simpa using this
theorem gV{H : Type}{P : Program}{e : TypeId} : ∀ {ds : List (DataW H)} {d : DataW H}, d ∈ ds → ∀ n ∈ d.weights P e, n ∈ DataW.weightsAll P e ds
 | d' :: r,d,h,n,hn=>by
  simp only [DataW.weightsAll,List.mem_append]
  rcases List.mem_cons.1 h with rfl | h
  ·exact .inl hn
  ·exact .inr (gV h n hn)
theorem Reads.slice[Inhabited α]{s B : Nat}(ht : P.underlying t = some (.slice e))(hC : P.cellsOf e = s)(hs : 0 < s)(hB : P.bytesOf e = B)(he : Reads enc P W base e f p mf) :
  Reads enc P W base t (fun l:List α=>[.fz s (l.map f)]) (fun l=>l.length * B <= 140737488351232 /\ ∀ a ∈ l,p a) (fun l=>(l.map mf).sum):=by
 intro fuel cs y hy fY
 rcases open_slice ht hy with ⟨rfl,rfl⟩ | ⟨a,len,cap,m,n,D,Pl,rfl,_,hl,_,hm,rfl,hi⟩
 ·refine ⟨[],⟨by simp,fun _ h=>by cases h⟩,?_,rfl,rfl,by simp⟩
  simp only [b6,List.map_nil]
  refine ⟨.slice none 0 0,[],[],[],rfl,trivial,?_,⟨rfl,by trivial⟩,rfl⟩
  simp only [RX]
  exact ⟨trivial,(fun _ h=>by cases h),none,0,rfl,.inl ⟨by trivial,rfl⟩⟩
 ·simp only [if_true] at hm
  subst hm
  rw [hC] at hi
  have hD:∀ i,i < m -> Sz P e (D i):=by
   intro i him k hk
   refine fY k ?_
   simp only [DataW.weights,ht,List.mem_cons,List.mem_append]
   right
   by_cases zE:i < len
   ·exact .inl (gV (List.mem_map.2 ⟨i,List.mem_range.2 zE,rfl⟩) k hk)
   ·refine .inr (gV (List.mem_map.2 ⟨i - len,List.mem_range.2 om,?_⟩) k hk)
    congr 1; omega
  have Yl:∀ i,∃ x:α,i < len -> ∃ cs,W.cells? base (a.add (i * s)) s = some cs /\ p x /\ b6 (E0 W) (f x) cs [] /\ X.bu (f x) = true /\ X.iQ (f x) = true /\ mf x <= v8 (D i):=by
   intro i
   by_cases zE:i < len
   ·obtain ⟨cs,hc,Sv⟩:=hi i om
    obtain ⟨x,h0,h1,h2,h3,h4⟩:=he n cs _ Sv (hD i om)
    exact ⟨x,fun _=>⟨cs,hc,h0,h1,h2,h3,h4⟩⟩
   ·exact ⟨default,fun h=>absurd h zE⟩
  obtain ⟨g,hg⟩:=Classical.axiomOfChoice Yl
  refine ⟨(List.range len).map g,⟨?_,?_⟩,?_,rfl,rfl,?_⟩
  rotate_right
  ·refine Nat.le_trans (q4 (m:=mf) (ds:=(List.range len).map D) (by simp) ?_) (by show _ <= lM _ + lM _ + 1; omega)
   intro i a' d' ha hd
   simp only [List.getElem?_map,Option.map_eq_some_iff] at ha hd
   obtain ⟨k,hk,rfl⟩:=ha
   obtain ⟨k',Bq,rfl⟩:=hd
   rw [hk] at Bq
   obtain rfl:=Option.some.inj Bq
   have DY:i < len:=by have:=(List.getElem?_eq_some_iff.1 hk).1; simpa using this
   have vz:k = i:=by rw [List.getElem?_range DY] at hk; exact (Option.some.inj hk).symm
   subst vz
   obtain ⟨_,_,_,_,_,_,h5⟩:=hg k DY
   exact h5
  ·have z:=fY ((((List.range len).map D).length + ((List.range (m - len)).map fun j=>D (len + j)).length) * P.bytesOf e) (by simp [DataW.weights,ht])
   rw [hB] at z
   simp only [List.length_map,List.length_range] at z ⊢
   exact Nat.le_trans (Nat.mul_le_mul_right _ om) z
  ·intro x hx
   simp only [List.mem_map,List.mem_range] at hx
   obtain ⟨i,iS,rfl⟩:=hx
   obtain ⟨_,_,h0,_⟩:=hg i iS
   exact h0
  ·have hu:cz s (((List.range len).map g).map f):=by
    intro r hr
    simp only [List.map_map,List.mem_map,List.mem_range,Function.comp] at hr
    obtain ⟨i,iS,rfl⟩:=hr
    obtain ⟨cs,hc,_,h1,_⟩:=hg i iS
    rw [b6.len h1]
    exact (World.cells?_some hc).2.1
   simp only [b6]
   refine ⟨_,[],[],[],rfl,trivial,?_,⟨rfl,rfl⟩,rfl⟩
   simp only [RX]
   refine ⟨trivial,hu,some a,m,by simp,?_⟩
   by_cases Wx:m = 0
   ·exact .inl ⟨by simp [show len = 0 by omega],Wx⟩
   ·have Jv:a = ⟨a.block,a.off,none⟩:=by
     obtain ⟨cs,hc,_⟩:=hi 0 om
     have h1:=(World.cells?_some hc).2.2 0 hs
     have hlen:=(World.cells?_some hc).2.1
     simp only [Nat.zero_mul,Addr.add,if_true] at h1
     rw [List.getElem?_eq_getElem (show 0 < cs.length by omega)] at h1
     unfold World.cell? at h1
     obtain ⟨b,o,sp⟩:=a
     cases sp with
     | none=>rfl
     | some q=>split at h1 <;> simp at h1
    refine .inr ⟨a.block,a.off,by rw [<- Jv],by simp; omega,kX.of hu ?_⟩
    intro i row qE
    simp only [List.map_map,List.getElem?_map,Option.map_eq_some_iff,Function.comp] at qE
    obtain ⟨k,hk,rfl⟩:=qE
    have DY:i < len:=by have:=(List.getElem?_eq_some_iff.1 hk).1; simpa using this
    have vz:k = i:=by rw [List.getElem?_range DY] at hk; exact (Option.some.inj hk).symm
    subst vz
    obtain ⟨cs,hc,_,h1,_,h2,_⟩:=hg k DY
    refine RF.Ww h1 h2 fun j c K7=>?_
    have oG:j < s:=by have:=(List.getElem?_eq_some_iff.1 K7).1; rw [(World.cells?_some hc).2.1] at this; exact this
    have h3:=(World.cells?_some hc).2.2 j oG
    rw [K7,add_add,Jv,iH] at h3
    show W.cell? _ = _
    rw [<- h3]
    congr 2
    omega
theorem gJ.nil{off:Nat}:gJ enc P W base [] off 0 (fun _:Unit=>[]) (fun _=>True) (fun _=>0):=by
 intro n cs xs _ _ _ _
 exact ⟨(),trivial,by simp [b6],rfl,rfl,Nat.zero_le _⟩
theorem gJ.cons{fd : Field}{fl : List Field}{off s m : Nat}(ho : fd.offset = off)(hC : P.cellsOf fd.type = s)(h : Reads enc P W base fd.type f p mf)(hr : gJ enc P W base fl (off + s) m g q mg) :
  gJ enc P W base (fd :: fl) off (s + m) (fun x:α × β=>f x.1 ++ g x.2) (fun x=>p x.1 /\ q x.2) (fun x=>mf x.1 + mg x.2):=by
 intro n cs xs hlen xI hx fY
 cases xs with
 | nil=>simp at xI
 | cons x xs =>
  have h0:=hx 0 fd rfl
  rw [ho,hC] at h0
  obtain ⟨a,ha,h1,h2,h3,h4⟩:=h n _ x h0 (fY 0 fd x rfl rfl)
  obtain ⟨b,hb,g1,g2,g3,g4⟩:=hr n cs xs om (by simpa using xI) (fun i S7 hi=>by simpa using hx (i + 1) S7 (by simpa using hi)) (fun i S7 x' hi j8=>fY (i + 1) S7 x' (by simpa using hi) (by simpa using j8))
  refine ⟨(a,b),⟨ha,hb⟩,?_,nu h2 g2,r9 h3 g3,by simp only [List.map_cons,lM]; omega⟩
  have uz:(cs.drop off).take (s + m) = (cs.drop off).take s ++ (cs.drop (off + s)).take m:=by
   rw [List.take_add,List.drop_drop]
  rw [uz]
  exact b6.En h1 g1
theorem oz{H : Type}{P : Program} : ∀ {fl : List Field} {xs : List (DataW H × List MemPlace)} {i : Nat} {fd : Field} {x : DataW H × List MemPlace}, fl[i]? = some fd → xs[i]? = some x →
  ∀ n ∈ x.1.weights P fd.type,n ∈ DataW.weightsEach P (fl.map (·.type)) (xs.map (·.1))
 | f :: fl,y :: xs,0,fd,x,h,h',n,hn=>by
  simp only [List.getElem?_cons_zero,Option.some.injEq] at h h'
  subst h h'
  simp only [List.map_cons,DataW.weightsEach,List.mem_append]
  exact .inl hn
 | f :: fl,y :: xs,i + 1,fd,x,h,h',n,hn=>by
  simp only [List.map_cons,DataW.weightsEach,List.mem_append]
  exact .inr (oz (i:=i) (by simpa using h) (by simpa using h') n hn)
theorem Reads.struct{fs:Array Field}{m:Nat}(ht:P.underlying t = some (.struct fs))(hC:P.cellsOf t = m)(h:gJ enc P W base fs.toList 0 m f p mf):Reads enc P W base t f p mf:=by
 intro fuel cs y hy fY
 obtain ⟨xs,n,_,rfl,hlen,xI,hx⟩:=DataW.trod_struct ht hy
 obtain ⟨a,ha,h1,h2,h3,h4⟩:=h n cs xs om (by simpa using xI) (fun i fd hi=>hx i fd (by simpa using hi)) (fun i fd x hi j8 k hk=>by
  refine fY k ?_
  simp only [DataW.weights,ht]
  exact oz hi j8 k hk)
 refine ⟨a,ha,?_,h2,h3,by show _ <= lM _ + 1; omega⟩
 rw [List.drop_zero,List.take_of_length_le om] at h1
 exact h1
theorem Reads.S8{s : Nat}(ht : P.underlying t = some (.array 2 e))(hC : P.cellsOf e = s)(hT : P.cellsOf t = 2 * s)(h : Reads enc P W base e f p mf) :
  Reads enc P W base t (fun x:α × α=>f x.1 ++ f x.2) (fun x=>p x.1 /\ p x.2) (fun _=>0):=by
 intro fuel cs y hy fY
 obtain ⟨xs,n,_,rfl,hlen,xI,hx⟩:=DataW.trod_array ht hy
 match xs,xI with
 | [x0,x1],_ =>
  have w0:∀ x ∈ [x0,x1],Sz P e x.1:=fun x hx k hk=>fY k (by
   simp only [DataW.weights,ht]
   exact gV (List.mem_map.2 ⟨x,hx,rfl⟩) k hk)
  obtain ⟨a,ha,a1,a2,a3,_⟩:=h n _ x0 (hx 0 om) (w0 x0 (by simp))
  obtain ⟨b,hb,b1,b2,b3,_⟩:=h n _ x1 (hx 1 om) (w0 x1 (by simp))
  refine ⟨(a,b),⟨ha,hb⟩,?_,nu a2 b2,r9 a3 b3,Nat.zero_le _⟩
  have uz:cs = (cs.drop (0 * P.cellsOf e)).take (P.cellsOf e) ++ (cs.drop (1 * P.cellsOf e)).take (P.cellsOf e):=by
   rw [Nat.zero_mul,Nat.one_mul,List.drop_zero,hC,List.take_of_length_le (l:=cs.drop s) (by rw [List.length_drop]; omega),List.take_append_drop]
  rw [uz]
  exact b6.En a1 b1
theorem Reads.S9{s : Nat}(ht : P.underlying t = some (.array 3 e))(hC : P.cellsOf e = s)(hT : P.cellsOf t = 3 * s)(h : Reads enc P W base e f p mf) :
  Reads enc P W base t (fun x:α × α × α=>f x.1 ++ (f x.2.1 ++ f x.2.2)) (fun x=>p x.1 /\ p x.2.1 /\ p x.2.2) (fun _=>0):=by
 intro fuel cs y hy fY
 obtain ⟨xs,n,_,rfl,hlen,xI,hx⟩:=DataW.trod_array ht hy
 match xs,xI with
 | [x0,x1,x2],_ =>
  have w0:∀ x ∈ [x0,x1,x2],Sz P e x.1:=fun x hx k hk=>fY k (by
   simp only [DataW.weights,ht]
   exact gV (List.mem_map.2 ⟨x,hx,rfl⟩) k hk)
  obtain ⟨a,ha,a1,a2,a3,_⟩:=h n _ x0 (hx 0 om) (w0 x0 (by simp))
  obtain ⟨b,hb,b1,b2,b3,_⟩:=h n _ x1 (hx 1 om) (w0 x1 (by simp))
  obtain ⟨c,hc,c1,c2,c3,_⟩:=h n _ x2 (hx 2 om) (w0 x2 (by simp))
  refine ⟨(a,b,c),⟨ha,hb,hc⟩,?_,nu a2 (nu b2 c2),r9 a3 (r9 b3 c3),Nat.zero_le _⟩
  have uz:cs = (cs.drop (0 * P.cellsOf e)).take (P.cellsOf e) ++ ((cs.drop (1 * P.cellsOf e)).take (P.cellsOf e) ++ (cs.drop (2 * P.cellsOf e)).take (P.cellsOf e)):=by
   rw [Nat.zero_mul,Nat.one_mul,List.drop_zero,hC,List.take_of_length_le (l:=cs.drop (2 * s)) (by rw [List.length_drop]; omega),show 2 * s = s + s by omega,<- List.drop_drop,List.take_append_drop,List.take_append_drop]
  rw [uz]
  exact b6.En a1 (b6.En b1 c1)
theorem Reads.one{x : α → X}{v : Value}{d : DataW H}{ps : List MemPlace}(h : Reads enc P W base t (fun a => [x a]) p mf)(hs : Sz P t d)(hv : v.cells.toList = [v])(ht : DataW.Trod enc P W base (fun _ => true) true t v d ps) :
  ∃ a,p a /\ RX (E0 W) (x a) v [] /\ mf a <= v8 d:=by
 obtain ⟨fuel,hf⟩:=ht
 rw [hv] at hf
 obtain ⟨a,ha,h1,_,_,h5⟩:=h fuel _ _ hf hs
 simp only [b6] at h1
 obtain ⟨c,dp,R₁,R₂,hc,_,h2,_,hR⟩:=h1
 obtain ⟨rfl,rfl⟩:=List.append_eq_nil_iff.1 hR.symm
 simp only [List.cons.injEq] at hc
 exact ⟨a,ha,by rw [hc.1]; exact h2,h5⟩
theorem Reads.agg{cs : Array Value}{d : DataW H}{ps : List MemPlace}(h : Reads enc P W base t f p mf)(hs : Sz P t d)(ht : DataW.Trod enc P W base (fun _ => true) true t (.agg cs) d ps) :
  ∃ a,p a /\ RX (E0 W) (.agg (f a)) (.agg cs) [] /\ mf a <= v8 d:=by
 obtain ⟨fuel,hf⟩:=ht
 obtain ⟨a,ha,h1,_,_,h5⟩:=h fuel _ _ hf hs
 exact ⟨a,ha,by simp only [RX]; exact ⟨cs,rfl,h1⟩,h5⟩
theorem Sz.of{ts:List TypeId}{ds:List (DataW H)}(h:(DataW.weightsEach P ts ds).all (· <= reachBytes) = true){j:Nat}{d:DataW H}(SA:ts[j]? = some t)(Ym:ds[j]? = some d):Sz P t d:=by
 intro n hn
 have:=List.all_eq_true.1 h _ (DataW.weights_mem_each SA Ym n hn)
 have h2:=of_decide_eq_true this
 exact h2
end
end Go.AW
namespace Go.AW
open Go
def qM(ops:Array Oper)(j i:Nat):Bool:=match ops[j]? with
 | some o=>o.after.any fun e=>Region.binds .any e && e.on == i
 | none=>false
def K8(ops:Array Oper)(l rest:List Nat)(t:Nat)(ag:Array Bool):Bool :=
 ag.size == ops.size && ((List.range ops.size).all fun j=>!ag.getD j false || match ops[j]? with
  | some o=>o.after.all fun e=>!Region.binds .any e || ag.getD e.on false
  | none=>true) && ((List.range ops.size).all fun j=>ag.getD j true || l.contains j || rest.contains j) && (rest.all fun j=>!ag.getD j true && !l.contains j) && (l.all fun j=>!ag.getD j true) &&
  (rest.isEmpty || l.all fun i=>(t :: l).any fun j=>decide (i < j) && qM ops j i) && (rest.all fun j=>j == t || rest.any fun k=>qM ops j k) && decide l.Nodup
structure On(ops:Array Oper)(l0 rest:List Nat)(t:Nat)(l:List Nat)(ag:Array Bool):Prop where
 size:ag.size = ops.size
 closed:∀ j o,ops[j]? = some o -> ag.getD j false = true -> ∀ e ∈ o.after,Region.binds .any e = true -> ag.getD e.on false = true
 part:∀ j,ag.getD j true = false -> j ∈ l \/ j ∈ rest
 out:∀ j ∈ rest,ag.getD j true = false /\ j ∉ l0
 open_:∀ j ∈ l,ag.getD j true = false
 sub:∀ j ∈ l,j ∈ l0
 sink:rest ≠ [] -> ∀ i ∈ l0,∃ j,(j = t \/ j ∈ l0) /\ i < j /\ qM ops j i = true
 wait:∀ j ∈ rest,j = t \/ ∃ k ∈ rest,qM ops j k = true
 nodup:l.Nodup
theorem vT{ag:Array Bool}{i:Nat}(h:ag.getD i true = false):ag.getD i false = false:=by
 rcases Nat.lt_or_ge i ag.size with h' | h'
 ·simp [h'] at h ⊢; exact h
 ·simp [Array.getElem?_eq_none h'] at h
theorem zQ{ag:Array Bool}{i:Nat}(hi:i < ag.size)(h:ag.getD i false = false):ag.getD i true = false:=by
 simp [hi] at h ⊢; exact h
theorem tg{ops:Array Oper}{j i:Nat}(h:qM ops j i = true):∃ o,ops[j]? = some o /\ ∃ e ∈ o.after,Region.binds .any e = true /\ e.on = i:=by
 unfold qM at h
 split at h
 ·rename_i o ho
  obtain ⟨e,he,hb⟩:=Array.any_eq_true'.1 h
  simp only [Bool.and_eq_true,beq_iff_eq] at hb
  exact ⟨o,ho,e,he,hb.1,hb.2⟩
 ·cases h
theorem HD{ops:Array Oper}{l rest:List Nat}{t:Nat}{ag:Array Bool}(h:K8 ops l rest t ag = true):On ops l rest t l ag:=by
 simp only [K8,Bool.and_eq_true,beq_iff_eq,List.all_eq_true,decide_eq_true_eq,List.mem_range,Bool.or_eq_true,Bool.not_eq_true',List.any_eq_true,List.contains_iff_mem] at h
 obtain ⟨⟨⟨⟨⟨⟨⟨h1,h2⟩,h3⟩,h4⟩,h5⟩,h6⟩,h7⟩,h8⟩:=h
 refine ⟨h1,?_,?_,?_,h5,fun _ h=>h,?_,?_,h8⟩
 ·intro j o ho hl e he hb
  have:=h2 j (Array.getElem?_eq_some_iff.1 ho).1
  rw [hl,ho] at this
  simp only [Bool.true_eq_false,false_or] at this
  have h9:=Array.all_eq_true_iff_forall_mem.1 this e he
  simpa [hb] using h9
 ·intro j hj
  have Mt:j < ops.size:=by
   rcases Nat.lt_or_ge j ag.size with h' | h'
   ·omega
   ·simp [Array.getElem?_eq_none h'] at hj
  have:=h3 j Mt
  rw [hj] at this
  simpa using this
 ·intro j hj
  have:=h4 j hj
  exact ⟨this.1,by simpa using this.2⟩
 ·intro fH i hi
  obtain ⟨j,hj,gQ,hw⟩:=(h6.resolve_left (by simpa using fH)) i hi
  exact ⟨j,by simpa using hj,gQ,hw⟩
 ·intro j hj
  exact h7 j hj
theorem vU{ops:Array Oper}{ag:Array Bool}{j k:Nat}(hw:qM ops j k = true)(hk:ag.getD k true = false):j ∉ Region.ready .any ops ag:=by
 intro hj
 obtain ⟨_,o,ho,v7⟩:=mem_ready.1 hj
 obtain ⟨o',nJ,e,he,hb,im⟩:=tg hw
 rw [ho] at nJ
 cases nJ
 have:=v7 e he hb
 rw [im,vT hk] at this
 cases this
theorem u0 : ∀ {l : List Nat}, l ≠ [] → ∃ m ∈ l, ∀ x ∈ l, x ≤ m
 | [],h=>absurd rfl h
 | [a],_=>⟨a,by simp,by simp⟩
 | a :: b :: r,_=>by
  obtain ⟨m,hm,hx⟩:=u0 (l:=b :: r) (by simp)
  rcases Nat.le_total a m with h | h
  ·exact ⟨m,List.mem_cons_of_mem _ hm,fun x j8=>by rcases List.mem_cons.1 j8 with rfl | j8; exact h; exact hx x j8⟩
  ·exact ⟨a,by simp,fun x j8=>by rcases List.mem_cons.1 j8 with rfl | j8; exact Nat.le_refl _; exact Nat.le_trans (hx x j8) h⟩
theorem On.ready{ops:Array Oper}{l0 rest l:List Nat}{t:Nat}{ag:Array Bool}(h:On ops l0 rest t l ag)(fH:l ≠ []):∀ j ∈ Region.ready .any ops ag,j ∈ l:=by
 intro j hj
 have yW:=(mem_ready.1 hj).1
 rcases h.part j yW with hl | hr
 ·exact hl
 ·exfalso
  rcases h.wait j hr with rfl | ⟨k,hk,hw⟩
  ·obtain ⟨m,hm,SB⟩:=u0 fH
   obtain ⟨j',r8,gQ,hw⟩:=h.sink (fun e=>by rw [e] at hr; cases hr) m (h.sub m hm)
   rcases r8 with rfl | r8
   ·exact vU hw (h.open_ m hm) hj
   ·obtain ⟨o,ho,e,he,hb,im⟩:=tg hw
    cases hl:ag.getD j' false with
    | true =>
     have:=h.closed j' o ho hl e he hb
     rw [im,vT (h.open_ m hm)] at this
     cases this
    | false =>
     have hs:j' < ag.size:=by rw [h.size]; exact (Array.getElem?_eq_some_iff.1 ho).1
     rcases h.part j' (zQ hs hl) with h1 | h1
     ·have:=SB j' h1; omega
     ·exact (h.out j' h1).2 r8
  ·exact vU hw (h.out k hk).1 hj
theorem On.step{ops:Array Oper}{l0 rest l:List Nat}{t j:Nat}{ag:Array Bool}(h:On ops l0 rest t l ag)(hj:j ∈ Region.ready .any ops ag)(hl:j ∈ l):On ops l0 rest t (l.erase j) (ag.setIfInBounds j true):=by
 obtain ⟨_,oj,DB,v7⟩:=mem_ready.1 hj
 have other:∀ k (d:Bool),j ≠ k -> (ag.setIfInBounds j true).getD k d = ag.getD k d:=fun k d vP=>by
  simp only [Array.getD_eq_getD_getElem?,Array.getElem?_setIfInBounds_ne vP]
 refine ⟨by simp [h.size],?_,?_,?_,?_,fun k hk=>h.sub k (List.mem_of_mem_erase hk),h.sink,h.wait,h.nodup.erase j⟩
 ·intro k o ho hk e he hb
  by_cases vP:j = k
  ·subst vP
   rw [DB] at ho
   cases ho
   exact getD_set_true (v7 e he hb)
  ·rw [other k false vP] at hk
   exact getD_set_true (h.closed k o ho hk e he hb)
 ·intro k hk
  by_cases vP:j = k
  ·subst vP
   rw [Array.getD_eq_getD_getElem?] at hk
   rcases Nat.lt_or_ge j ag.size with h' | h'
   ·simp [h'] at hk
   ·simp at hk
  ·rw [other k true vP] at hk
   rcases h.part k hk with h1 | h1
   ·exact .inl ((List.mem_erase_of_ne (fun e=>vP e.symm)).2 h1)
   ·exact .inr h1
 ·intro k hk
  have h1:=h.out k hk
  have vP:j ≠ k:=fun e=>h1.2 (e ▸ h.sub j hl)
  exact ⟨by rw [other k true vP]; exact h1.1,h1.2⟩
 ·intro k hk
  have vP:j ≠ k:=fun e=>by subst e; exact (List.Nodup.not_mem_erase h.nodup) hk
  rw [other k true vP]; exact h.open_ k (List.mem_of_mem_erase hk)
section
variable {P:Program} {N:fo} {ops:Array Oper} {d:Nat} {ty:TypeId} {pos:String} {af:Array Edge}
def o0(P : Program)(ops : Array Oper)(w : World)(L : Array Bool → Act → Prop) : Nat → Array Bool → Act → Prop
 | 0,ag,a=>L ag a
 | n + 1,ag,a=>Region.ready .any ops ag ≠ [] /\ ∀ j ∈ Region.ready .any ops ag,stOp P ops w j (o0 P ops w L n (ag.setIfInBounds j true)) a
theorem o0.any{w : World}{L : Array Bool → Act → Prop}{Q' : Exit → Act → World → Prop}{k : Nat}(hL : ∀ ag a, L ag a → wpAny P .any ops Q' k ag a w) :
  ∀ (n:Nat) (ag:Array Bool) (a:Act),o0 P ops w L n ag a -> wpAny P .any ops Q' (n + k) ag a w
 | 0,ag,a,h=>by rw [Nat.zero_add]; exact hL _ _ h
 | n + 1,ag,a,h=>by
  rw [Nat.add_right_comm]
  exact ⟨fun e=>absurd e h.1,fun j hj=>wpOp_of_stOp (fun a'=>o0.any hL n _ a') (h.2 j hj)⟩
theorem o0.first{l0 rest : List Nat}{t : Nat}{w : World}{L : Array Bool → Act → Prop}{i : Nat}{oi : Oper}{v : Value}(hi : ops[i]? = some oi)(Ep : Region.noSelect ops = true) : ∀ (n : Nat) (l : List Nat) (ag : Array Bool) (a : Act),
  l.length = n -> On ops l0 rest t (i :: l) ag -> (∀ j oj,ops[j]? = some oj -> j ≠ i -> ag.getD j true = false -> (∀ e ∈ oj.after,Region.binds .any e = true -> e.on ≠ i) -> oi.apart ops oj = true) ->
  i ∈ Region.ready .any ops ag -> YieldsAt P ops w oi v a -> o0 P ops w L n (ag.setIfInBounds i true) (a.put oi.dst v) -> o0 P ops w L (n + 1) ag a:=by
 intro n
 induction n with
 | zero =>
  intro l ag a hl hB _ hr hy H
  refine ⟨fun e=>(by rw [e] at hr; cases hr),fun j hj=>?_⟩
  have h1:=hB.ready (by simp) j hj
  have Yn:l = []:=List.length_eq_zero_iff.1 hl
  subst Yn
  obtain rfl:j = i:=by simpa using h1
  exact hy.stOp hi H
 | succ n ih =>
  intro l ag a hl hB nk hr hy H
  refine ⟨fun e=>(by rw [e] at hr; cases hr),fun j hj=>?_⟩
  by_cases yZ:j = i
  ·subst yZ; exact hy.stOp hi H
  ·have h1:=hB.ready (by simp) j hj
   have h2:=hB.step hj h1
   have oG:j ∈ l:=by simpa [yZ] using h1
   have fH:(i == j) = false:=by simpa using fun h=>yZ h.symm
   rw [List.erase_cons,fH] at h2
   obtain ⟨yW,oj,DB,v7⟩:=mem_ready.1 hj
   have HE:∀ e ∈ oj.after,Region.binds .any e = true -> e.on ≠ i:=by
    intro e he hb heq
    have h3:=v7 e he hb
    have h4:=(mem_ready.1 hr).1
    rw [heq] at h3
    rcases Nat.lt_or_ge i ag.size with h' | h'
    ·simp [h'] at h3 h4; rw [h3] at h4; cases h4
    ·simp [Array.getElem?_eq_none h'] at h3
   have h5:=stOp_put DB (nk j oj DB yZ yW HE) (fun cs b=>Region.noSelect_spec Ep i oi cs b hi) (fun cs b=>Region.noSelect_spec Ep j oj cs b DB) hy (H.2 j (ready_mono hj yZ))
   refine stOp_mono (fun a' h6=>ih (l.erase j) _ a' (by rw [List.length_erase_of_mem oG,hl]; rfl) h2 ?_ (ready_mono hr (fun h=>yZ h.symm)) h6.1 ?_) h5
   ·intro k ok hk vz NT NL
    refine nk k ok hk vz ?_ NL
    by_cases vP:j = k
    ·subst vP; exact yW
    ·have:(ag.setIfInBounds j true).getD k true = ag.getD k true:=by
      simp only [Array.getD_eq_getD_getElem?,Array.getElem?_setIfInBounds_ne vP]
     rw [this] at NT; exact NT
   ·have:(ag.setIfInBounds j true).setIfInBounds i true = (ag.setIfInBounds i true).setIfInBounds j true:=Array.setIfInBounds_comm _ _ yZ
    rw [this]; exact h6.2
def AQ(P:Program)(N:fo)(ops:Array Oper)(l0 rest:List Nat)(t:Nat)(l:List Nat)(ag:Array Bool)(st:St)(K:Array Bool -> St -> Prop):Prop :=
 On ops l0 rest t l ag -> ∀ G:Ctx,G.fn = N -> ∀ a w,cK G st a w -> o0 P ops w (fun tU a'=>∃ aY,K tU aY /\ cK G aY a' w) l.length ag a
theorem AQ.nil{l0 rest:List Nat}{t:Nat}{ag:Array Bool}{st:St}{K:Array Bool -> St -> Prop}(h:K ag st):AQ P N ops l0 rest t [] ag st K:=fun _ _ _ _ _ hh=>⟨st,h,hh⟩
theorem AQ.cons{l0 rest : List Nat}{t i : Nat}{l : List Nat}{ag : Array Bool}{st : St}{K : Array Bool → St → Prop}{op : Op}{x : X}(ho : ops[i]? = some ⟨some d, op, ty, pos, af, none⟩)
  (hB:(Region.noSelect ops && Region.free .any ops ag i && (Region.ready .any ops ag).contains i) = true) (hy:Yields P N st ⟨some d,op,ty,pos,af,none⟩ x) (hd:d < N.n)
  (k:AQ P N ops l0 rest t l (ag.setIfInBounds i true) (st.put d x) K):AQ P N ops l0 rest t (i :: l) ag st K:=by
 intro h4 G hn a w hh
 obtain ⟨E,RR,rfl,hi⟩:=hh
 obtain ⟨u,hr,hx⟩:=hy G E RR a hn hi
 simp only [Bool.and_eq_true] at hB
 obtain ⟨⟨h1,h2⟩,h3⟩:=hB
 have h5:=h4.step (j:=i) (by simpa using h3) (by simp)
 rw [List.erase_cons_head] at h5
 exact o0.first ho h1 l.length l ag a rfl h4 (Region.free_spec ho h2) (by simpa using h3) (v:=u) (.inl ⟨by simp [Region.wanted],.inl hr⟩) (k h5 G hn _ _ ⟨E,_,rfl,hi.iT (hn ▸ hd) hx⟩)
theorem AQ.skip{l0 rest : List Nat}{t i : Nat}{l : List Nat}{ag : Array Bool}{st : St}{K : Array Bool → St → Prop}{op : Op}{j dj : Nat}{want : Bool}{u : Value}(ho : ops[i]? = some ⟨some d, op, ty, pos, af, some (j, want)⟩)
  (hB:(Region.noSelect ops && Region.free .any ops ag i && (Region.ready .any ops ag).contains i) = true)
  (hj:(ops[j]?).bind (·.dst) = some dj) (vA:dj < N.n) (hd:d < N.n) (hx:look st.aE dj = some (.v u)) (fH:uv want u = true)
  (k:AQ P N ops l0 rest t l (ag.setIfInBounds i true) (st.put d (.v undef)) K):AQ P N ops l0 rest t (i :: l) ag st K:=by
 intro h4 G hn a w hh
 obtain ⟨E,RR,rfl,hi⟩:=hh
 simp only [Bool.and_eq_true] at hB
 obtain ⟨⟨h1,h2⟩,h3⟩:=hB
 have h5:=h4.step (j:=i) (by simpa using h3) (by simp)
 rw [List.erase_cons_head] at h5
 have hw:=nq (all:=ops) (dst:=some d) (op:=op) (ty:=ty) (pos:=pos) (af:=af) hi hj (hn ▸ vA) hx fH
 exact o0.first ho h1 l.length l ag a rfl h4 (Region.free_spec ho h2) (by simpa using h3) (v:=undef) (.inr ⟨hw,rfl⟩) (k h5 G hn _ _ ⟨E,_,rfl,hi.iT (hn ▸ hd) (by simp [RX])⟩)
theorem AQ.run{l0 rest : List Nat}{t i : Nat}{l : List Nat}{ag : Array Bool}{st : St}{K : Array Bool → St → Prop}{op : Op}{x : X}{j dj : Nat}{want : Bool}(ho : ops[i]? = some ⟨some d, op, ty, pos, af, some (j, want)⟩)
  (hB:(Region.noSelect ops && Region.free .any ops ag i && (Region.ready .any ops ag).contains i) = true)
  (hj:(ops[j]?).bind (·.dst) = some dj) (vA:dj < N.n) (hx:look st.aE dj = some (.v (.bool want))) (hy:Yields P N st ⟨some d,op,ty,pos,af,some (j,want)⟩ x) (hd:d < N.n)
  (k:AQ P N ops l0 rest t l (ag.setIfInBounds i true) (st.put d x) K):AQ P N ops l0 rest t (i :: l) ag st K:=by
 intro h4 G hn a w hh
 obtain ⟨E,RR,rfl,hi⟩:=hh
 obtain ⟨u,hr,j8⟩:=hy G E RR a hn hi
 simp only [Bool.and_eq_true] at hB
 obtain ⟨⟨h1,h2⟩,h3⟩:=hB
 have h5:=h4.step (j:=i) (by simpa using h3) (by simp)
 rw [List.erase_cons_head] at h5
 have hs:=hi.aE dj _ hx
 simp only [RX] at hs
 have fY:dj < a.tmps.size:=by rw [hi.tmps,hn]; exact vA
 have hv:a.tmps[dj]? = some (.bool want):=by
  have:=hs.1
  simp only [Array.getD,fY,dif_pos] at this
  rw [Array.getElem?_eq_getElem fY]
  exact congrArg some this
 have hw:Region.wanted ⟨some d,op,ty,pos,af,some (j,want)⟩ (yielded ops a.tmps) = true:=by
  simp [Region.wanted,yielded,hj,hv]
 exact o0.first ho h1 l.length l ag a rfl h4 (Region.free_spec ho h2) (by simpa using h3) (v:=u) (.inl ⟨hw,.inl hr⟩) (k h5 G hn _ _ ⟨E,_,rfl,hi.iT (hn ▸ hd) j8⟩)
theorem fE.bP(l rest : List Nat)(t : Nat){m n : Nat}(hm : m = l.length + n){ag : Array Bool}{st : St}{K : St → Prop}(hB : K8 ops l rest t ag = true)
  (h:AQ P N ops l rest t l ag st (fun tU aY=>fE P N ops n tU aY K)):fE P N ops m ag st K:=by
 subst hm
 intro G hn a w hh
 refine o0.any (fun tU a' ⟨aY,hk,iR⟩=>?_) l.length ag a (h (HD hB) G hn a w hh)
 exact hk G hn a' w iR
end
end Go.AW
namespace Go.AW
open Go
section
variable {P:Program} {N:fo} {st:St} {Q:Exit -> St -> Prop} {all:Array Oper} {rest:List Oper} {d:Nat} {ty:TypeId} {pos:String} {af:Array Edge}
theorem Inv.oR{G : Ctx}{E : Env}{RR : Own → List Nat}{a : Act}(hi : Inv G E RR st a){tv : Nat}{x : X}(hy : look st.aE tv = some x)(hd : d < G.fn.n) :
  ∃ gG,Inv G E gG ((st.put tv .no).put d x) (a.put (some d) (a.eval (.tmp tv))):=by
 have hv:=hi.aE tv _ hy
 have mw:=hi.no tv
 refine ⟨_,mw.put (R:=RR (.slot tv)) hd hv (hi.nodup _) (fun b hb=>⟨(hi.own _ _ hb).1,(hi.own _ _ hb).2,fun p _ hp=>?_⟩)⟩
 unfold fI at hp
 split at hp
 ·cases hp
 ·rename_i h; exact hi.apart _ _ h b hp hb
theorem aQ.bQ{tv : Nat}{x : X}(hy : look st.aE tv = some x)(hd : d < N.n)(k : aQ P N all rest ((st.put tv .no).put d x) Q) :
  aQ P N all (⟨some d,.assign (.tmp tv),ty,pos,af,none⟩ :: rest) st Q :=
 aQ.DQ (fun G E RR a hn hi=>let ⟨gG,h⟩:=hi.oR hy (by rw [hn]; exact hd); ⟨a.eval (.tmp tv),E,gG,rfl,h⟩) k
theorem aQ.oR{tv : Nat}{x : X}(hy : look st.aE tv = some x)(hd : d < N.n)(k : aQ P N all rest ((st.put tv .no).put d x) Q) :
  aQ P N all (⟨some d,.move (.tmp tv),ty,pos,af,none⟩ :: rest) st Q :=
 aQ.DQ (fun G E RR a hn hi=>let ⟨gG,h⟩:=hi.oR hy (by rw [hn]; exact hd); ⟨a.eval (.tmp tv),E,gG,rfl,h⟩) k
theorem eV.Bu{E : Env} : ∀ {xs : List X} {cs : List Value} {R : List Nat} {k : Nat} {x : X}, eV E xs cs R → xs[k]? = some x →
  ∃ u Ra Rk Rb,cs[k]? = some u /\ RX E x u Rk /\ R = Ra ++ (Rk ++ Rb) /\ eV E (xs.set k .no) cs (Ra ++ Rb)
 | [],_,_,_,_,_,h=>by simp at h
 | y :: r,cs,R,0,x,h,hx=>by
  simp only [eV] at h
  simp only [List.getElem?_cons_zero,Option.some.injEq] at hx
  subst hx
  obtain ⟨c,dp,R₁,R₂,rfl,h1,h2,rfl⟩:=h
  refine ⟨c,[],R₁,R₂,rfl,h1,rfl,?_⟩
  simp only [List.set_cons_zero,eV,List.nil_append]
  exact ⟨c,dp,[],R₂,rfl,by simp [RX],h2,rfl⟩
 | y :: r,cs,R,k + 1,x,h,hx=>by
  simp only [eV] at h
  obtain ⟨c,dp,R₁,R₂,rfl,h1,h2,rfl⟩:=h
  obtain ⟨u,Ra,Rk,Rb,hu,h3,rfl,h4⟩:=eV.Bu (k:=k) h2 (by simpa using hx)
  refine ⟨u,R₁ ++ Ra,Rk,Rb,by simpa using hu,h3,by simp,?_⟩
  simp only [List.set_cons_succ,eV]
  exact ⟨c,dp,R₁,Ra ++ Rb,rfl,h1,h4,by simp⟩
theorem aQ.iX{tv : Nat}{xs : List X}{y : X}{k : Nat}(hx : look st.aE tv = some (.tup xs))(hy : xs[k]? = some y)(hd : d < N.n)
  (kk:aQ P N all rest ((st.put tv (.tup (xs.set k .no))).put d y) Q):aQ P N all (⟨some d,.extract (.tmp tv) k,ty,pos,af,none⟩ :: rest) st Q:=by
 refine aQ.DQ (fun G E RR a hn hi=>?_) kk
 have hp:=hi.aE tv _ hx
 have jB:=hi.nodup (.slot tv)
 simp only [RX] at hp
 obtain ⟨cs,hc,gN⟩:=hp
 obtain ⟨u,Ra,Rk,Rb,hu,h1,hR,h2⟩:=eV.Bu gN hy
 have dR:∀ b ∈ Ra ++ Rb,b ∈ RR (.slot tv):=by
  intro b hb
  rw [hR]
  rcases List.mem_append.1 hb with h | h
  ·exact cH h
  ·exact ct (ct h)
 have Er:∀ b ∈ Rk,b ∈ RR (.slot tv):=fun b hb=>by rw [hR]; exact ct (cH hb)
 rw [hR,List.nodup_append,List.nodup_append] at jB
 obtain ⟨Jw,⟨Rf,K4,SC⟩,Kn⟩:=jB
 have NU:(Ra ++ Rb).Nodup:=List.nodup_append.2 ⟨Jw,K4,fun x hx y hy=>Kn x hx y (ct hy)⟩
 have mw := hi.relabel (d := tv) (x := .tup (xs.set k .no)) (R := Ra ++ Rb) (by simp only [RX]; exact ⟨cs, hc, h2⟩) NU
  (fun b hb=>⟨(hi.own _ _ (dR b hb)).1,(hi.own _ _ (dR b hb)).2,fun p hp Bl=>hi.apart p (.slot tv) hp b Bl (dR b hb)⟩)
 refine ⟨u,E,_,?_,mw.put (R:=Rk) (by rw [hn]; exact hd) h1 Rf (fun b hb=>⟨(hi.own _ _ (Er b hb)).1,(hi.own _ _ (Er b hb)).2,fun p _ Bl=>?_⟩)⟩
 ·show (do let z <- Instr.extract (a.eval (.tmp tv)) k; pure (Next.value z):Sem Next).run P E.w = _
  have rz:a.eval (.tmp tv) = .tuple cs:=hc
  rw [rz]
  refine eb ?_
  have Cy:cs[k]? = some u:=by simpa using hu
  simp only [Instr.extract,Cy]; rfl
 ·unfold fI at Bl
  split at Bl
  ·rcases List.mem_append.1 Bl with h | h
   ·exact Kn b h b (cH hb) rfl
   ·exact SC b hb b h rfl
  ·rename_i h; exact hi.apart _ _ h b Bl (Er b hb)
end
end Go.AW
namespace Go.AW
open Go
section
variable {P:Program} {N:fo} {st:St} {Q:Exit -> St -> Prop} {all:Array Oper} {rest:List Oper} {d:Nat} {ty:TypeId} {pos:String} {af:Array Edge}
theorem aQ.Es{f : FuncId}{cI : Array Operand}{q2 : Array TypeId}{xs args : List X}{Q' : X → List Obj → Prop}(L : List Nat)(kW : aT P f = true)(gT : aw P f args [] [] Q')
  (gN:lI st cI.toList = some xs) (eW:er st L (bY []) xs args) (h0:∀ o ∈ L,∃ ob,look st.aF o = some ob /\ jW ob) (hd:d < N.n)
  (k:∀ r,Q' r [] -> r.lt 0 = true /\ r.plain /\ aQ P N all rest (st.put d (r.gB (bY []))) Q) :
  aQ P N all (⟨some d,.call ⟨.value (.func f),cI,q2⟩,ty,pos,af,none⟩ :: rest) st Q:=by
 refine aQ.call [] L kW gT gN eW (fun j ob h=>by simp at h) rfl List.nodup_nil (fun _ _ h=>by cases h) h0 (fun _ h=>by cases h) hd ?_
 intro r aJ hq hl
 have:aJ = []:=List.eq_nil_of_length_eq_zero hl
 subst this
 obtain ⟨h1,h2,h3⟩:=k r hq
 refine ⟨⟨h1,fun _ h=>(by cases h),.inr ⟨h2,fun _ h=>(by cases h)⟩⟩,?_⟩
 rw [nR]; exact h3
end
end Go.AW
namespace Go.AW
open Go
mutual
def X.rr(o : Nat)(row : List X) : X → X
 | .ptr p s i k=>bif Nat.beq p o && Nat.beq (i * s) 0 then .fp row k else .ptr p s i k
 | .agg xs=>.agg (X.nT o row xs)
 | .tup xs=>.tup (X.nT o row xs)
 | .j7 f a b=>.j7 f (X.nT o row a) (X.nT o row b)
 | .v u=>.v u
 | .no=>.no
 | .fz s rs=>.fz s rs
 | .dH s rs=>.dH s rs
 | .aL p s l n=>.aL p s l n
 | .mref p=>.mref p
 | .fp r k=>.fp r k
def X.nT(o : Nat)(row : List X) : List X → List X
 | []=>[]
 | x :: r=>X.rr o row x :: X.nT o row r
end
def Obj.rr(o : Nat)(row : List X) : Obj → Obj
 | .cells xs=>.cells (X.nT o row xs)
 | .hole rs i q s n=>.rows 1 rs
 | ob=>ob
mutual
theorem X.Et{o : Nat}{row : List X} : ∀ {x : X}, x.free = true → (x.rr o row).free = true
 | .ptr p s i k,_=>by
  simp only [X.rr]
  cases Nat.beq p o && Nat.beq (i * s) 0 <;> rfl
 | .agg xs,h=>X.nU (xs:=xs) h
 | .tup xs,h=>X.nU (xs:=xs) h
 | .j7 f a b,_=>rfl
 | .v u,_ | .no,_ | .fz s rs,_ | .aL p s l n,_ | .mref p,_ | .fp r k,_=>rfl
theorem X.nU{o : Nat}{row : List X} : ∀ {xs : List X}, X.bu xs = true → X.bu (X.nT o row xs) = true
 | [],_=>rfl
 | x :: r,h=>by
  simp only [X.bu,Bool.and_eq_true] at h
  simp only [X.nT,X.bu,X.Et h.1,X.nU h.2,Bool.and_self]
end
theorem X.xL{o : Nat}{row : List X} : ∀ {xs : List X}, (X.nT o row xs).length = xs.length
 | []=>rfl
 | x :: r=>by simp [X.nT,X.xL (xs:=r)]
mutual
theorem RX.rr{E E' : Env}{o : Nat}{row : List X}{B : Bg}(hB : E.β o = some B)(hF : RF E' row B.b B.off)(hβ : E'.β = E.β) : ∀ (x : X) (c : Value) (R : List Nat), E.On E' R → RX E x c R → RX E' (x.rr o row) c R
 | .ptr p s i k,c,R,hE,h=>by
  simp only [X.rr]
  cases hc:Nat.beq p o && Nat.beq (i * s) 0 with
  | false=>simp only [cond_false]; exact RX.mono _ c R hE (fun q _=>by rw [hβ]) h
  | true =>
   simp only [Bool.and_eq_true] at hc
   have h1:=Nat.eq_of_beq_eq_true hc.1
   have h2:=Nat.eq_of_beq_eq_true hc.2
   subst h1
   simp only [cond_true,RX] at h ⊢
   obtain ⟨hR,B',iU,rfl⟩:=h
   rw [hB] at iU
   obtain rfl:=Option.some.inj iU
   exact ⟨hR,B.b,B.off,by rw [h2,Nat.zero_add],hF⟩
 | .agg xs,c,R,hE,h=>by
  simp only [RX,X.rr] at h ⊢
  obtain ⟨cs,hc,hs⟩:=h
  exact ⟨cs,hc,b6.rr hB hF hβ xs _ R hE hs⟩
 | .tup xs,c,R,hE,h=>by
  simp only [RX,X.rr] at h ⊢
  obtain ⟨cs,hc,hs⟩:=h
  exact ⟨cs,hc,eV.rr hB hF hβ xs _ R hE hs⟩
 | .j7 fn a b,c,R,hE,h=>by
  simp only [RX,X.rr] at h ⊢
  obtain ⟨hR,f,cc,hc,h1,h2⟩:=h
  exact ⟨hR,f,cc,hc,eV.rr hB hF hβ a _ [] (hE.sub (by simp)) h1,eV.rr hB hF hβ b _ [] (hE.sub (by simp)) h2⟩
 | .v u,c,R,hE,h=>RX.mono (.v u) c R hE (fun q _=>by rw [hβ]) h
 | .no,c,R,hE,h=>RX.mono .no c R hE (fun q _=>by rw [hβ]) h
 | .fz s rs,c,R,hE,h=>RX.mono (.fz s rs) c R hE (fun q _=>by rw [hβ]) h
 | .dH s rs,c,R,hE,h=>RX.mono (.dH s rs) c R hE (fun q _=>by rw [hβ]) h
 | .aL p s l n,c,R,hE,h=>RX.mono (.aL p s l n) c R hE (fun q _=>by rw [hβ]) h
 | .mref p,c,R,hE,h=>RX.mono (.mref p) c R hE (fun q _=>by rw [hβ]) h
 | .fp r k,c,R,hE,h=>RX.mono (.fp r k) c R hE (fun q _=>by rw [hβ]) h
theorem b6.rr{E E' : Env}{o : Nat}{row : List X}{B : Bg}(hB : E.β o = some B)(hF : RF E' row B.b B.off)(hβ : E'.β = E.β) : ∀ (xs : List X) (cs : List Value) (R : List Nat), E.On E' R → b6 E xs cs R → b6 E' (X.nT o row xs) cs R
 | [],_,_,_,h=>by simpa [b6,X.nT] using h
 | x :: r,cs,R,hE,h=>by
  simp only [b6,X.nT] at h ⊢
  obtain ⟨c,dp,R₁,R₂,hc,hs,h1,h2,hR⟩:=h
  subst hR
  exact ⟨c,dp,R₁,R₂,hc,hs,RX.rr hB hF hβ x c R₁ (hE.sub (fun _ h=>cH h)) h1,b6.rr hB hF hβ r dp R₂ (hE.sub (fun _ h=>ct h)) h2,rfl⟩
theorem eV.rr{E E' : Env}{o : Nat}{row : List X}{B : Bg}(hB : E.β o = some B)(hF : RF E' row B.b B.off)(hβ : E'.β = E.β) : ∀ (xs : List X) (cs : List Value) (R : List Nat), E.On E' R → eV E xs cs R → eV E' (X.nT o row xs) cs R
 | [],_,_,_,h=>by simpa [eV,X.nT] using h
 | x :: r,cs,R,hE,h=>by
  simp only [eV,X.nT] at h ⊢
  obtain ⟨c,dp,R₁,R₂,hc,h1,h2,hR⟩:=h
  subst hR
  exact ⟨c,dp,R₁,R₂,hc,RX.rr hB hF hβ x c R₁ (hE.sub (fun _ h=>cH h)) h1,eV.rr hB hF hβ r dp R₂ (hE.sub (fun _ h=>ct h)) h2,rfl⟩
theorem RO.rr{E E' : Env}{o : Nat}{row : List X}{B : Bg}(hB : E.β o = some B)(hF : RF E' row B.b B.off)(hβ : E'.β = E.β) : ∀ (xs : List X) (cs : Array Value) (off : Nat) (R : List Nat), E.On E' R → RO E xs cs off R → RO E' (X.nT o row xs) cs off R
 | [],_,_,_,_,h=>by simpa [RO,X.nT] using h
 | x :: r,cs,off,R,hE,h=>by
  simp only [RO,X.nT] at h ⊢
  obtain ⟨u,R₁,R₂,hu,hs,h1,h2,hR⟩:=h
  subst hR
  exact ⟨u,R₁,R₂,hu,hs,RX.rr hB hF hβ x u R₁ (hE.sub (fun _ h=>cH h)) h1,RO.rr hB hF hβ r cs (off + 1) R₂ (hE.sub (fun _ h=>ct h)) h2,rfl⟩
end
def SD(o:Nat)(row:List X)(l:List (Nat × X)):List (Nat × X):=l.map fun p=>(p.1,p.2.rr o row)
def SE(o:Nat)(row:List X)(l:List (Nat × Obj)):List (Nat × Obj):=l.map fun p=>(p.1,p.2.rr o row)
theorem s4{α β : Type}{f : α → β} : ∀ {l : List (Nat × α)} {s : Nat} {y : β}, look (l.map fun p => (p.1, f p.2)) s = some y → ∃ x, look l s = some x ∧ y = f x
 | [],_,_,h=>by cases h
 | (t,x) :: r,s,y,h=>by
  simp only [List.map_cons,look] at h ⊢
  cases hb:Nat.beq t s with
  | true=>rw [hb] at h; simp only [cond_true,Option.some.injEq] at h ⊢; exact ⟨x,rfl,h.symm⟩
  | false=>rw [hb] at h; simp only [cond_false] at h ⊢; exact s4 h
section
variable {N:fo} {st:St}
theorem Sh.eQ(o:Nat){xs:List X}(ho:look st.aF o = some (.cells xs))(hn:X.iQ xs = true):Sh N st ⟨SD o xs st.aE,(o,.gone) :: SE o xs st.aF⟩:=by
 intro G _ a w hh
 obtain ⟨E,RR,rfl,hi⟩:=hh
 have aW:=hi.aF o _ ho
 simp only [dK] at aW
 obtain ⟨sX,B,cs,ty,hB,hw,hφ,hlen,jS,iI⟩:=aW
 have jA:∀ i v,cs[i]? = some v -> (E.cB (fun b=>b = B.b)).φ B.b i = some v:=by
  intro i v h
  rw [je E (LB:=fun b=>b = B.b) rfl]
  unfold World.cell?
  simp [hw,h]
 have hle:∀ c i v,E.φ c i = some v -> (E.cB (fun b=>b = B.b)).φ c i = some v:=by
  intro c i v h
  by_cases hc:c = B.b
  ·subst hc; rw [hφ i] at h; cases h
  ·rw [eg E (LB:=fun b=>b = B.b) hc]; exact h
 have hF:RF (E.cB (fun b=>b = B.b)) xs B.b B.off:=by
  have h1:=RO.mC (E:=E) (E':=E.cB (fun b=>b = B.b)) xs cs B.b B.off [] jA ⟨rfl,rfl,hle,fun _ h=>by cases h⟩ hn jS
  rw [X.lL sX] at h1
  exact h1
 have kG:∀ p,p ≠ .obj o -> B.b ∉ RR p:=fun p hp hb=>hi.apart p (.obj o) hp _ hb (by rw [iI]; simp)
 have im:∀ p,p ≠ .obj o -> E.On (E.cB (fun b=>b = B.b)) (RR p):=by
  intro p hp
  refine ⟨hle,fun c hc=>⟨rfl,fun h i=>?_⟩⟩
  rw [eg E (LB:=fun b=>b = B.b) (fun e=>kG p hp (e ▸ hc))]; exact h i
 have nK:B.b ∈ RR (.obj o):=by rw [iI]; simp
 have q5:∀ p,p ≠ .obj o -> fI RR (.obj o) [] p = RR p:=fun p hp=>by simp [fI,hp]
 have dR:∀ p,∀ b ∈ fI RR (.obj o) [] p,b ∈ RR p:=by
  intro p b hb
  unfold fI at hb
  split at hb
  ·cases hb
  ·exact hb
 refine ⟨E.cB (fun b=>b = B.b),fI RR (.obj o) [],rfl,{ hi with nM:=?_,aE:=?_,aF:=?_,nodup:=?_,apart:=?_,own:=?_,φ0:=?_,grow:=?_ }⟩
 ·intro c i v h
  by_cases hc:c = B.b
  ·rw [je E (LB:=fun b=>b = B.b) hc] at h; exact h
  ·rw [eg E (LB:=fun b=>b = B.b) hc] at h; exact hi.nM c i v h
 ·intro s x hx
  obtain ⟨y,hy,rfl⟩:=s4 (f:=X.rr o xs) hx
  rw [q5 _ (by simp)]
  exact RX.rr hB hF rfl y _ _ (im _ (by simp)) (hi.aE s y hy)
 ·intro q ob aW
  simp only [look] at aW
  cases hq:Nat.beq o q with
  | true =>
   rw [hq] at aW
   simp only [cond_true,Option.some.injEq] at aW
   obtain rfl:=Nat.eq_of_beq_eq_true hq
   subst aW
   simp [dK,fI]
  | false =>
   rw [hq] at aW
   simp only [cond_false] at aW
   have fH:q ≠ o:=fun e=>by subst e; simp at hq
   obtain ⟨yX,Hz,rfl⟩:=s4 (f:=Obj.rr o xs) aW
   rw [q5 _ (by simp [fH])]
   have h1:=hi.aF q yX Hz
   have s0:=im (.obj q) (by simp [fH])
   cases yX with
   | cells ys =>
    simp only [dK,Obj.rr] at h1 ⊢
    obtain ⟨h1,B',dp,Rg,h2,h3,h4,h5,h6,h7⟩:=h1
    exact ⟨X.nU h1,B',dp,Rg,h2,h3,(s0.2 B'.b (by rw [h7]; simp)).2 h4,by rw [X.xL]; exact h5,RO.rr hB hF rfl ys dp _ [] (s0.sub (fun _ h=>by cases h)) h6,h7⟩
   | rows s rs=>exact dK.mono s0 rfl (fun _ _=>rfl) h1
   | yU es=>exact dK.mono s0 rfl (fun _ _=>rfl) h1
   | gone=>exact dK.mono s0 rfl (fun _ _=>rfl) h1
   | hole rs i p s n=>exact dK.mono s0 rfl (fun _ _=>rfl) h1.wH
 ·intro p
  unfold fI
  split
  ·exact List.nodup_nil
  ·exact hi.nodup p
 ·intro p q nO b hb iG
  exact hi.apart p q nO b (dR p b hb) (dR q b iG)
 ·intro p b hb
  exact hi.own p b (dR p b hb)
 ·intro c i v h
  exact hle c i v (hi.φ0 c i v h)
 ·intro c i v h
  by_cases hc:c = B.b
  ·subst hc; exact .inr (hi.own _ _ nK).2
  ·rw [eg E (LB:=fun b=>b = B.b) hc] at h; exact hi.grow c i v h
end
section
variable {P:Program} {N:fo} {st:St} {Q:Exit -> St -> Prop} {all:Array Oper} {rest:List Oper} {dst:Option Nat} {d:Nat} {ty:TypeId} {pos:String} {af:Array Edge} {g:Option (Nat × Bool)}
theorem u3{G : Ctx}{E : Env}{RR : Own → List Nat}{a : Act}(hi : Inv G E RR st a) : ∀ {l : List Operand} {xs : List X}, lI st l = some xs → X.bu xs = true → eV E xs (l.map a.eval) []
 | [],xs,h,_=>by simp only [lI,Option.some.injEq] at h; subst h; simp [eV]
 | o :: r,xs,h,hf=>by
  simp only [lI] at h
  cases h1:bV st o with
  | none=>simp [h1] at h
  | some y =>
   cases h2:lI st r with
   | none=>simp [h1,h2] at h
   | some ys =>
    rw [h1,h2] at h
    simp only [Option.some.injEq] at h
    subst h
    simp only [X.bu,Bool.and_eq_true] at hf
    obtain ⟨R,hR⟩:=hi.eval h1
    have h0:=RX.free hf.1 hR
    subst h0
    simp only [List.map_cons,eV]
    exact ⟨_,_,[],[],rfl,hR,u3 hi h2 hf.2,rfl⟩
theorem Y.zd{fn : Fn}{first ss : Array Operand}{xs ys : List X}(hx : lI st first.toList = some xs)(hy : lI st ss.toList = some ys)(Mu : X.bu xs = true)(Yo : X.bu ys = true) :
  Yields P N st ⟨dst,.makeFunc fn first ss,ty,pos,af,g⟩ (.j7 fn xs ys):=by
 intro G E RR a _ hi
 refine ⟨.func fn (first.map a.eval) (ss.map a.eval),rfl,?_⟩
 simp only [RX]
 refine ⟨trivial,_,_,rfl,?_,?_⟩
 ·rw [Array.toList_map]; exact u3 hi hx Mu
 ·rw [Array.toList_map]; exact u3 hi hy Yo
theorem aQ.K9{f : FuncId}{x : Operand}{cI : Array Operand}{q2 : Array TypeId}{ss xs args : List X}{aF : List Obj}{F : List Nat}{Q' : X → List Obj → Prop}(ν L : List Nat)(hx : bV st x = some (.j7 (.func f) [] ss))(kW : aT P f = true)(gT : aw P f args aF F Q')
  (gN:lI st cI.toList = some xs) (eW:er st L (bY ν) (xs ++ ss) args) (r7:qK st (bY ν) 0 aF) (hlen:ν.length = aF.length) (Ee:ν.Nodup) (Ht:∀ o ∈ L,o ∉ ν)
  (h0:∀ o ∈ L,∃ ob,look st.aF o = some ob /\ jW ob) (Hu:∀ o ∈ loose ν F,N.F.elem o = false) (hd:d < N.n)
  (k:∀ r aJ,Q' r aJ -> aJ.length = aF.length -> (r.lt aF.length = true /\ (∀ ob ∈ aJ,ob.lt aF.length = true) /\ (L = [] \/ (r.plain /\ ∀ ob ∈ aJ,ob.plain))) /\ aQ P N all rest ((oO st ν F aJ).put d (r.gB (bY ν))) Q) :
  aQ P N all (⟨some d,.call ⟨.value x,cI,q2⟩,ty,pos,af,none⟩ :: rest) st Q:=by
 intro G hn a w hh
 obtain ⟨E,RR,rfl,hi⟩:=hh
 obtain ⟨Rx,Mu⟩:=hi.eval hx
 simp only [RX] at Mu
 obtain ⟨_,ff,cc,Yp,Wy,Wz⟩:=Mu
 simp only [eV] at Wy
 have SF:ff = #[]:=by
  have:=Wy.1
  cases ff; simp_all
 subst SF
 obtain ⟨xI,Js⟩:=r6 hi gN
 have vx:ss.length = cc.toList.length:=by
  have:∀ {l:List X} {c:List Value} {R:List Nat},eV E l c R -> l.length = c.length:=by
   intro l
   induction l with
   | nil=>intro c R h; simp only [eV] at h; rw [h.1]; rfl
   | cons y r ih =>
    intro c R h
    simp only [eV] at h
    obtain ⟨_,c',_,_,rfl,_,h2,_⟩:=h
    simp [ih h2]
  exact this Wz
 have hc:=hi.Jr (vs:=cI.toList.map a.eval ++ cc.toList) gT (by simp only [List.length_append,List.length_map]; omega) (fun j y hy=>by
  rcases Nat.lt_or_ge j xs.length with hj | hj
  ·rw [List.getElem?_append_left hj] at hy
   obtain ⟨o,ho,R,hR⟩:=Js j y hy
   exact ⟨a.eval o,by rw [List.getElem?_append_left (by rw [List.length_map]; omega)]; simp [ho],R,hR⟩
  ·rw [List.getElem?_append_right hj] at hy
   obtain ⟨u,R,hu,hR⟩:=eV.get Wz hy
   exact ⟨u,by rw [List.getElem?_append_right (by rw [List.length_map]; omega),List.length_map,<- xI]; exact hu,R,hR⟩) eW
  (fun j ob h=>by have:=r7.get j ob h; rwa [Nat.zero_add] at this) hlen Ee Ht h0 (fun o ho=>by rw [hn]; exact Hu o ho) (d:=d) (by rw [hn]; exact hd)
 have jC:(execOp a.eval ⟨some d,.call ⟨.value x,cI,q2⟩,ty,pos,af,none⟩).run P E.w = .ok (.enter f (cI.toList.map a.eval ++ cc.toList).toArray) E.w:=by
  have e:(execOp a.eval ⟨some d,.call ⟨.value x,cI,q2⟩,ty,pos,af,none⟩).run P E.w = (do let d <- Deferred.ofValue (a.eval x) (cI.map a.eval); invoke d.target d.args:Sem Next).run P E.w:=rfl
  rw [e,Yp]
  have e2:(do let d <- Deferred.ofValue (.func (.func f) #[] cc) (cI.map a.eval); invoke d.target d.args:Sem Next).run P E.w = (callFunc f ((#[] ++ cI.map a.eval) ++ cc)).run P E.w:=rfl
  rw [e2,uu kW]
  congr 2
  apply Array.ext'
  simp
 refine wpList_plain rfl fun K hK=>?_
 simp only [Oper.wp,jC,Oper.upon_enter]
 refine hc.mono ?_
 rintro e w' ⟨v,r,aJ,rfl,NI,x5,Eh⟩
 obtain ⟨⟨h1,h2,h3⟩,hk⟩:=k r aJ NI x5
 obtain ⟨m8,uq,hw,hI⟩:=Eh h1 h2 h3
 exact hK _ _ (hk G hn _ _ ⟨m8,uq,hw,hI⟩)
theorem aQ.nV{f : FuncId}{x : Operand}{cI : Array Operand}{q2 : Array TypeId}{ss xs args : List X}{R : X}(hx : bV st x = some (.j7 (.func f) [] ss))(kW : aT P f = true)(gT : aw P f args [] [] (fun r o => r = R ∧ o = []))
  (gN:lI st cI.toList = some xs) (eW:er st [] (bY []) (xs ++ ss) args) (hd:d < N.n) (gQ:R.lt 0 = true)
  (k:aQ P N all rest (st.put d R) Q):aQ P N all (⟨some d,.call ⟨.value x,cI,q2⟩,ty,pos,af,none⟩ :: rest) st Q:=by
 refine aQ.K9 [] [] hx kW gT gN eW trivial rfl List.nodup_nil (fun _ h=>by cases h) (fun _ h=>by cases h) (fun _ h=>by cases h) hd ?_
 rintro r aJ ⟨rfl,rfl⟩ _
 refine ⟨⟨gQ,fun _ h=>(by cases h),.inl rfl⟩,?_⟩
 rw [nR,X.tT gQ]; exact k
end
section
variable {P:Program} {N:fo} {ops:Array Oper} {st:St} {d:Nat} {ag:Array Bool} {n:Nat} {K:St -> Prop} {KK:Array Bool -> St -> Prop} {l0 rest l:List Nat} {t:Nat}
theorem fE.le{aY:St}(hl:Le st aY)(h:fE P N ops n ag aY K):fE P N ops n ag st K:=fun G hn a w hh=>h G hn a w (hl.holds hh)
theorem fE.split{b:Bool}(hx:look st.aE d = some (.v (.bool b)))(ht:b = true -> fE P N ops n ag (st.put d (.v (.bool true))) K)(hf:b = false -> fE P N ops n ag (st.put d (.v (.bool false))) K):fE P N ops n ag st K:=by
 have:Le st (st.put d (.v (.bool b))):=⟨ir.cons hx (fun _ _ h=>h),fun _ _ h=>h⟩
 cases b
 ·exact (hf rfl).le this
 ·exact (ht rfl).le this
theorem fE.aC{p:Prop}{inst:Decidable p}(hx:look st.aE d = some (.v (.bool (decide p))))(ht:p -> fE P N ops n ag (st.put d (.v (.bool true))) K)(hf:¬ p -> fE P N ops n ag (st.put d (.v (.bool false))) K):fE P N ops n ag st K :=
 fE.split hx (fun h=>ht (of_decide_eq_true h)) (fun h=>hf (of_decide_eq_false h))
theorem AQ.le{aY:St}(hl:Le st aY)(h:AQ P N ops l0 rest t l ag aY KK):AQ P N ops l0 rest t l ag st KK:=fun ho G hn a w hh=>h ho G hn a w (hl.holds hh)
theorem AQ.split{b:Bool}(hx:look st.aE d = some (.v (.bool b)))(ht:b = true -> AQ P N ops l0 rest t l ag (st.put d (.v (.bool true))) KK)(hf:b = false -> AQ P N ops l0 rest t l ag (st.put d (.v (.bool false))) KK):AQ P N ops l0 rest t l ag st KK:=by
 have:Le st (st.put d (.v (.bool b))):=⟨ir.cons hx (fun _ _ h=>h),fun _ _ h=>h⟩
 cases b
 ·exact (hf rfl).le this
 ·exact (ht rfl).le this
theorem AQ.aC{p:Prop}{inst:Decidable p}(hx:look st.aE d = some (.v (.bool (decide p))))(ht:p -> AQ P N ops l0 rest t l ag (st.put d (.v (.bool true))) KK)(hf:¬ p -> AQ P N ops l0 rest t l ag (st.put d (.v (.bool false))) KK):AQ P N ops l0 rest t l ag st KK :=
 AQ.split hx (fun h=>ht (of_decide_eq_true h)) (fun h=>hf (of_decide_eq_false h))
end
def b9(b:ByteArray)(m:Nat):Nat:=(b.data.toList.getD m 0).toNat
theorem Y.qw{P : Program}{N : fo}{st : St}{dst : Option Nat}{ty : TypeId}{pos : String}{af : Array Edge}{g : Option (Nat × Bool)}{t : TypeId}{x ix : Operand}{b : ByteArray}{k : IntKind}{n : Int}{m : Nat}(ht : P.underlying t = some .string)(hx : bV st x = some (.v (.string b)))
  (z7:bV st ix = some (.v (.int k n))) (hn:n = (m:Int)) (hm:m < b.size):Yields P N st ⟨dst,.index t x ix,ty,pos,af,g⟩ (.v (.int .u8 ((b9 b m:Nat):Int))):=by
 have h:=Y.qv (P:=P) (N:=N) (st:=st) (dst:=dst) (ty:=ty) (pos:=pos) (af:=af) (g:=g) ht hx z7 hn hm
 have e:b[m].toNat = b9 b m:=by
  unfold b9
  have:b.data.toList.getD m 0 = b[m]:=by
   rw [List.getD_eq_getElem?_getD,List.getElem?_eq_getElem (by simpa using hm)]
   rfl
  rw [this]
 rw [e] at h
 exact h
theorem Eu(b:ByteArray)(m:Nat):b9 b m <= 255:=by
 unfold b9
 have:=(b.data.toList.getD m 0).toNat_lt
 omega
end Go.AW
namespace Go.AW
open Go
theorem s5(n:Nat):IntKind.u64.wrap (n:Int) = ((n % 18446744073709551616:Nat):Int):=by
 simp [IntKind.wrap,IntKind.bits,IntKind.signed]
theorem xM(n:Nat)(h:n < 18446744073709551616):IntKind.u64.wrap (n:Int) = (n:Int):=by rw [s5,Nat.mod_eq_of_lt h]
theorem vV(n:Int)(h:0 <= n /\ n <= 18446744073709551615):IntKind.u64.wrap n = ((n.toNat:Nat):Int):=by rw [IntWalk.u64_in n h]; omega
theorem xO(n w:Nat):BitVec.ofInt w (n:Int) = BitVec.ofNat w n:=by
 apply BitVec.eq_of_toNat_eq
 simp [BitVec.toNat_ofInt,BitVec.toNat_ofNat]
section
variable {P:Program} {N:fo} {st:St} {dst:Option Nat} {ty:TypeId} {pos:String} {af:Array Edge} {g:Option (Nat × Bool)} {t t':TypeId} {x y:Operand} {a b:Nat}
theorem Y.qc(hx:bV st x = some (.v (.int .u64 (a:Int))))(hy:bV st y = some (.v (.int .u64 (b:Int)))):Yields P N st ⟨dst,.binOp .add t x y t',ty,pos,af,g⟩ (.v (.int .u64 (((a + b) % 18446744073709551616:Nat):Int))) :=
 Y.qa hx hy (by rw [<- s5]; congr 1)
theorem Y.zk(hx:bV st x = some (.v (.int .u64 (a:Int))))(hy:bV st y = some (.v (.int .u64 (b:Int)))):Yields P N st ⟨dst,.binOp .mul t x y t',ty,pos,af,g⟩ (.v (.int .u64 (((a * b) % 18446744073709551616:Nat):Int))) :=
 Y.zi hx hy (by rw [<- s5]; congr 1)
theorem Y.zr(hx:bV st x = some (.v (.int .u64 (a:Int))))(hy:bV st y = some (.v (.int .u64 (b:Int))))(hr:a < 18446744073709551616 /\ 1 <= b):Yields P N st ⟨dst,.binOp .quo t x y t',ty,pos,af,g⟩ (.v (.int .u64 ((a / b:Nat):Int))) :=
 Y.zp hx hy om (by
  rw [Int.tdiv_eq_ediv_of_nonneg om,<- Int.natCast_ediv]
  exact xM _ (Nat.lt_of_le_of_lt (Nat.div_le_self a b) hr.1))
theorem Y.zu{k:IntKind}(hx:bV st x = some (.v (.int k (a:Int))))(hy:bV st y = some (.v (.int k (b:Int))))(hr:1 <= b):Yields P N st ⟨dst,.binOp .rem t x y t',ty,pos,af,g⟩ (.v (.int k ((a % b:Nat):Int))) :=
 Y.zs hx hy om (by rw [Int.tmod_eq_emod_of_nonneg om]; exact (Int.natCast_emod a b).symm)
theorem Y.qe(hx:bV st x = some (.v (.int .u64 (a:Int))))(hy:bV st y = some (.v (.int .u64 (b:Int))))(hr:a < 18446744073709551616 /\ b < 18446744073709551616):Yields P N st ⟨dst,.binOp .and t x y t',ty,pos,af,g⟩ (.v (.int .u64 ((a &&& b:Nat):Int))) :=
 Y.qd hx hy (by
  rw [xO,xO,BitVec.toNat_and,BitVec.toNat_ofNat,BitVec.toNat_ofNat,show 2 ^ IntKind.u64.bits = 18446744073709551616 from rfl,Nat.mod_eq_of_lt hr.1,Nat.mod_eq_of_lt hr.2]
  exact xM _ (Nat.lt_of_le_of_lt Nat.and_le_left hr.1))
theorem CD(a b:Nat)(h:a < 18446744073709551616):a / 2 ^ (min b 64) = a / 2 ^ b:=by
 rcases Nat.le_total b 64 with hb | hb
 ·rw [Nat.min_eq_left hb]
 ·rw [Nat.min_eq_right hb,Nat.div_eq_of_lt h]
  exact (Nat.div_eq_of_lt (Nat.lt_of_lt_of_le h (Nat.pow_le_pow_right (show 0 < 2 by decide) hb))).symm
theorem Y.zx{k':IntKind}{i:Int}(b:Nat)(hx:bV st x = some (.v (.int .u64 (a:Int))))(hy:bV st y = some (.v (.int k' i)))(hi:i = (b:Int))(hr:a < 18446744073709551616):Yields P N st ⟨dst,.binOp .shr t x y t',ty,pos,af,g⟩ (.v (.int .u64 ((a / 2 ^ b:Nat):Int))) :=
 Y.zw hx hy om (by
  subst hi
  show (a:Int).fdiv (2 ^ (Min.min b 64)) = _
  have h2:(0:Int) <= 2 ^ (Min.min b 64):=Int.le_of_lt (Int.pow_pos (show (0:Int) < 2 by decide))
  rw [<- CD a b hr,Int.fdiv_eq_ediv_of_nonneg _ h2]
  norm_cast)
end
end Go.AW
namespace Go.AW
open Go
section
variable {P:Program} {N:fo} {ops:Array Oper} {st:St} {d:Nat} {ty:TypeId} {pos:String} {af:Array Edge} {K:St -> Prop}
theorem fE.cQ{n : Nat}{ag : Array Bool}(i : Nat){op : Op}{j dj : Nat}{want : Bool}{u : Value}(ho : ops[i]? = some ⟨some d, op, ty, pos, af, some (j, want)⟩)
  (hB:(Region.noSelect ops && Region.free .any ops ag i && (Region.ready .any ops ag).contains i) = true)
  (hj:(ops[j]?).bind (·.dst) = some dj) (vA:dj < N.n) (hd:d < N.n) (hx:look st.aE dj = some (.v u)) (fH:uv want u = true)
  (k:fE P N ops n (ag.setIfInBounds i true) (st.put d (.v undef)) K):fE P N ops (n + 1) ag st K:=by
 intro G hn a w hh
 obtain ⟨E,RR,rfl,hi⟩:=hh
 simp only [Bool.and_eq_true] at hB
 have hw:=nq (all:=ops) (dst:=some d) (op:=op) (ty:=ty) (pos:=pos) (af:=af) hi hj (hn ▸ vA) hx fH
 refine wpAny_take (v:=undef) ho hB.1.1 hB.1.2 hB.2 ?_ (.inr ⟨hw,rfl⟩) (k G hn _ _ ⟨E,_,rfl,hi.iT (hn ▸ hd) (by simp [RX])⟩)
 intro c a w h
 cases h.1
theorem fE.lN{n : Nat}{ag : Array Bool}(i : Nat){op : Op}{x : X}{j dj : Nat}{want : Bool}(ho : ops[i]? = some ⟨some d, op, ty, pos, af, some (j, want)⟩)
  (hB:(Region.noSelect ops && Region.free .any ops ag i && (Region.ready .any ops ag).contains i) = true)
  (hj:(ops[j]?).bind (·.dst) = some dj) (vA:dj < N.n) (hx:look st.aE dj = some (.v (.bool want))) (hy:ax P N st ⟨some d,op,ty,pos,af,some (j,want)⟩ x) (hd:d < N.n)
  (k:fE P N ops n (ag.setIfInBounds i true) (st.put d x) K):fE P N ops (n + 1) ag st K:=by
 intro G hn a w hh
 obtain ⟨E,RR,rfl,hi⟩:=hh
 obtain ⟨u,hr,j8⟩:=hy G E RR a hn hi
 simp only [Bool.and_eq_true] at hB
 have hs:=hi.aE dj _ hx
 simp only [RX] at hs
 have fY:dj < a.tmps.size:=by rw [hi.tmps,hn]; exact vA
 have hv:a.tmps[dj]? = some (.bool want):=by
  have:=hs.1
  simp only [Array.getD,fY,dif_pos] at this
  rw [Array.getElem?_eq_getElem fY]
  exact congrArg some this
 have hw:Region.wanted ⟨some d,op,ty,pos,af,some (j,want)⟩ (yielded ops a.tmps) = true:=by
  simp [Region.wanted,yielded,hj,hv]
 refine wpAny_take (v:=u) ho hB.1.1 hB.1.2 hB.2 ?_ (.inl ⟨hw,hr⟩) (k G hn _ _ ⟨E,_,rfl,hi.iT (hn ▸ hd) j8⟩)
 intro c a w h
 cases h.1
end
end Go.AW
namespace Go.AW
open Go
section
variable {P:Program} {N:fo} {G:Ctx} {E:Env} {RR:Own -> List Nat} {st:St} {a:Act} {Q:Exit -> St -> Prop} {all:Array Oper} {rest:List Oper} {d:Nat} {dst:Option Nat} {ty:TypeId} {pos:String} {af:Array Edge} {g:Option (Nat × Bool)}
theorem Y.qi{t e s de : Nat}{x : Operand}(ht : TY.slice P t = some (e, s, de))(hx : bV st x = some (.v (.slice none 0 0))) :
  Yields P N st ⟨dst,.call ⟨.builtin .cap,#[x],#[t]⟩,ty,pos,af,g⟩ (.v (.int .i64 0)):=by
 intro G E RR a _ hi
 refine ⟨.int .i64 0,iu ?_,by simp [RX]⟩
 obtain ⟨hu,_⟩:=TY.dT ht
 have hc:=hi.val hx
 simp [builtin,Builtin.cap_,hc,run_underlying hu,goInt]
theorem Y.zz{t e s de : Nat}{x : Operand}{lo iS : Option Operand}(ht : TY.slice P t = some (e, s, de))(hx : bV st x = some (.v (.slice none 0 0)))(hl : Bd st lo 0 0)(hh : Bd st iS 0 0) :
  Yields P N st ⟨dst,.slice t x lo iS none,ty,pos,af,g⟩ (.v (.slice none 0 0)):=by
 intro G E RR a _ hi
 obtain ⟨yW,i,iV,fY,_⟩:=TY.dT ht
 have hc:=hi.val hx
 refine ⟨.slice none 0 0,?_,by simp [RX]⟩
 show (do let z <- Instr.sliceAt t (a.eval x) (lo.map a.eval) (iS.map a.eval) none; pure (Next.value z):Sem Next).run P E.w = _
 rw [hc]
 refine eb ?_
 simp only [Instr.sliceAt,Sem.run_bind,run_underlying yW,Result.andThen_ok,Instr.slice,jd hi hl hh (Nat.le_refl 0) (Nat.le_refl 0),run_sizeOf iV,fY]
 rfl
theorem aQ.zR{t tn e s de n : Nat}{x y : Operand}{z : List Value}{k kn : IntKind}(ht : TY.slice P t = some (e, s, de))(hz : TY.zero P e = some z)(sZ : z.length = s)(h1 : X.v5 (z.map X.v) = true)(NV : TY.isInt P tn = some kn)
  (hx:bV st x = some (.v (.slice none 0 0))) (hy:bV st y = some (.v (.int k (n:Int)))) (h0:0 < n) (QU:0 < s) (hb:n * de <= 281474976710656) (XU:n <= 9223372036854775807) (hd:d < N.n)
  (kk:aQ P N all rest (st.put d (.dH s (List.replicate n (z.map X.v)))) Q):aQ P N all (⟨some d,.call ⟨.builtin .append,#[x,y],#[t,tn]⟩,ty,pos,af,none⟩ :: rest) st Q:=by
 refine aQ.DQ (fun G E RR a hn hi=>?_) kk
 obtain ⟨hu,i,iV,hs,Jl⟩:=TY.dT ht
 obtain ⟨i',z0,rp,Dw,Dx⟩:=TY.gH hz
 rw [iV] at rp
 obtain rfl:=Option.some.inj rp
 have xA:z0.cells = z.toArray:=by rw [<- Dx]
 have jC:=Lib.run_append_nil_zeros (P:=P) E.w t tn ty e i z0 k kn hu (by unfold TY.isInt at NV; split at NV <;> simp_all:P.underlying tn = some (.int kn)) iV Dw n h0 (by rw [hs]; exact QU) om (by rw [Jl]; exact hb)
 rw [xA] at jC
 have hU:cz s (List.replicate n (z.map X.v)):=by
  intro r hr
  rw [(List.mem_replicate.1 hr).2]; simpa using sZ
 have mw:=hi.Bi (dg.drew G E) rfl
 have lx:=grownCap_ge E.w n 0 e
 have fY:(Builtin.zeroCells z.toArray n ++ Builtin.zeroCells z.toArray (grownCap E.w n 0 e - n)).size = grownCap E.w n 0 e * s:=by
  rw [Array.size_append,size_zeroCells,size_zeroCells,<- Nat.add_mul]
  simp only [List.size_toArray,sZ]
  congr 1; omega
 obtain ⟨gG,iS⟩:=mw.newRow (cs:=Builtin.zeroCells z.toArray n ++ Builtin.zeroCells z.toArray (grownCap E.w n 0 e - n)) (e:=e) (s:=s) (cap:=grownCap E.w n 0 e) (d:=d) hU (by rw [List.length_replicate]; exact lx) (by rw [fY]; exact Nat.le_refl _) (by
  refine cE.zC hU fun j row hr=>?_
  have hj:j < n:=by
   rcases Nat.lt_or_ge j n with h' | h'
   ·exact h'
   ·rw [List.getElem?_eq_none (by rw [List.length_replicate]; exact h')] at hr; cases hr
  have:row = z.map X.v:=by
   have:=List.mem_of_getElem? hr
   exact (List.mem_replicate.1 this).2
  subst this
  refine ⟨DP z,b6.Kr (vM h1) fun q hq=>?_⟩
  have C6:q < s:=by simpa [sZ] using hq
  have gQ:j * s + q < n * s:=by
   have:(j + 1) * s <= n * s:=Nat.mul_le_mul_right s hj
   rw [Nat.add_mul] at this; omega
  have Ks:q < z.length:=by omega
  rw [Array.getElem?_append_left (by rw [size_zeroCells]; simp only [List.size_toArray,sZ]; omega)]
  simp only [Nat.zero_add,Builtin.zeroCells]
  rw [Array.getElem?_map,Array.getElem?_range,if_pos (by simpa [sZ] using gQ)]
  simp only [Option.map_some,List.size_toArray,sZ,DR C6]
  rw [List.getElem?_eq_getElem Ks]
  simp [Ks]) (by rw [hn]; exact hd)
 simp only [List.length_replicate] at iS
 refine ⟨_,_,_,?_,iS⟩
 refine iu (g:=none) ?_
 have e':(#[x,y]:Array Operand).map a.eval = #[.slice none 0 0,.int k (n:Int)]:=by simp [hi.val hx,hi.val hy]
 rw [e']
 exact eb jC
theorem Sh.Jx{d o s lo n : Nat}{rs : List (List X)}(tf : List (List X))(hx : look st.aE d = some (.aL o s lo n))(ho : look st.aF o = some (.rows s rs))(qG : lo + n ≤ rs.length)(he : (rs.drop lo).take n = tf)(hF : N.F.elem o = false) :
  Sh N st (((st.kill o).cV o (.rows s tf)).put d (.aL o s 0 n)):=by subst he; exact Sh.trim hx ho qG hF
end
end Go.AW
namespace Go.AW
open Go
theorem X.Bv : ∀ {xs : List X} (k : Nat), X.iQ xs = true → X.iQ (xs.set k .no) = true
 | [],_,_=>rfl
 | x :: r,0,h=>by
  simp only [X.iQ,Bool.and_eq_true] at h
  simp [List.set,X.iQ,X.nr,h.2]
 | x :: r,k + 1,h=>by
  simp only [X.iQ,Bool.and_eq_true] at h
  simp [List.set,X.iQ,h.1,X.Bv k h.2]
theorem RO.pick{E : Env}{cs : Array Value}{y : X} : ∀ {xs : List X} {off k : Nat} {R : List Nat}, RO E xs cs off R → xs[k]? = some y →
  ∃ u Ry R1,cs[off + k]? = some u /\ ka u /\ RX E y u Ry /\ RO E (xs.set k .no) cs off R1 /\ (R.Nodup -> (Ry ++ R1).Nodup) /\ ∀ b ∈ Ry ++ R1,b ∈ R
 | [],_,_,_,_,h=>by simp at h
 | x :: r,off,0,R,h,hy=>by
  simp only [RO] at h
  obtain ⟨u,R₁,R₂,hu,hs,h1,h2,rfl⟩:=h
  simp only [List.getElem?_cons_zero,Option.some.injEq] at hy
  subst hy
  refine ⟨u,R₁,R₂,hu,hs,h1,?_,fun h=>h,fun b hb=>hb⟩
  simp only [List.set,RO]
  exact ⟨u,[],R₂,hu,hs,by simp [RX],h2,rfl⟩
 | x :: r,off,k + 1,R,h,hy=>by
  simp only [RO] at h
  obtain ⟨u,R₁,R₂,hu,hs,h1,h2,rfl⟩:=h
  simp only [List.getElem?_cons_succ] at hy
  obtain ⟨v,Ry,R',hv,Yq,CE,xv,jB,dR⟩:=RO.pick h2 hy
  refine ⟨v,Ry,R₁ ++ R',by rw [show off + (k + 1) = off + 1 + k by omega]; exact hv,Yq,CE,?_,fun hn=>?_,fun b hb=>?_⟩
  ·simp only [List.set,RO]
   exact ⟨u,R₁,R',hu,hs,h1,xv,rfl⟩
  ·obtain ⟨n1,n2,n3⟩:=List.nodup_append.1 hn
   have h3:=jB n2
   rw [<- List.append_assoc,List.nodup_append]
   obtain ⟨m1,m2,m3⟩:=List.nodup_append.1 h3
   refine ⟨?_,m2,fun a ha b hb=>?_⟩
   ·rw [List.nodup_append]
    exact ⟨m1,n1,fun a ha b hb e=>n3 b hb a (dR a (List.mem_append.2 (.inl ha))) e.symm⟩
   ·rcases List.mem_append.1 ha with h | h
    ·exact m3 a h b hb
    ·exact n3 a h b (dR b (List.mem_append.2 (.inr hb)))
  ·rcases List.mem_append.1 hb with h | h
   ·exact List.mem_append.2 (.inr (dR b (List.mem_append.2 (.inl h))))
   ·rcases List.mem_append.1 h with h | h
    ·exact List.mem_append.2 (.inl h)
    ·exact List.mem_append.2 (.inr (dR b (List.mem_append.2 (.inr h))))
theorem cE.pick{E : Env}{cs : Array Value}{y : X}{s : Nat} : ∀ {rs : List (List X)} {row : List X} {off i k : Nat} {R : List Nat}, cz s rs → cE E rs cs off R → rs[i]? = some row → row[k]? = some y →
  ∃ u Ry R1,cs[off + (i * s + k)]? = some u /\ ka u /\ RX E y u Ry /\ cE E (rs.set i (row.set k .no)) cs off R1 /\ (R.Nodup -> (Ry ++ R1).Nodup) /\ ∀ b ∈ Ry ++ R1,b ∈ R
 | [],_,_,_,_,_,_,_,h,_=>by simp at h
 | r :: rs,row,off,0,k,R,_,h,hr,hy=>by
  simp only [cE] at h
  obtain ⟨R₁,R₂,hn,h1,h2,rfl⟩:=h
  simp only [List.getElem?_cons_zero,Option.some.injEq] at hr
  subst hr
  obtain ⟨u,Ry,R',hu,hs,CE,xv,jB,dR⟩:=RO.pick h1 hy
  refine ⟨u,Ry,R' ++ R₂,by rw [Nat.zero_mul,Nat.zero_add]; exact hu,hs,CE,?_,fun tD=>?_,fun b hb=>?_⟩
  ·simp only [List.set,cE,List.length_set]
   exact ⟨R',R₂,X.Bv k hn,xv,h2,rfl⟩
  ·obtain ⟨n1,n2,n3⟩:=List.nodup_append.1 tD
   rw [<- List.append_assoc,List.nodup_append]
   exact ⟨jB n1,n2,fun a ha b hb=>n3 a (dR a ha) b hb⟩
  ·rw [<- List.append_assoc] at hb
   rcases List.mem_append.1 hb with h | h
   ·exact List.mem_append.2 (.inl (dR b h))
   ·exact List.mem_append.2 (.inr h)
 | r :: rs,row,off,i + 1,k,R,hU,h,hr,hy=>by
  simp only [cE] at h
  obtain ⟨R₁,R₂,hn,h1,h2,rfl⟩:=h
  simp only [List.getElem?_cons_succ] at hr
  have hl:r.length = s:=hU r (List.mem_cons_self ..)
  obtain ⟨u,Ry,R',hu,hs,CE,xv,jB,dR⟩:=cE.pick (fun x hx=>hU x (List.mem_cons_of_mem _ hx)) h2 hr hy
  refine ⟨u,Ry,R₁ ++ R',by rw [show off + ((i + 1) * s + k) = off + r.length + (i * s + k) by rw [Nat.add_mul,hl]; omega]; exact hu,hs,CE,?_,fun tD=>?_,fun b hb=>?_⟩
  ·simp only [List.set,cE]
   exact ⟨R₁,R',hn,h1,xv,rfl⟩
  ·obtain ⟨n1,n2,n3⟩:=List.nodup_append.1 tD
   have h3:=jB n2
   rw [<- List.append_assoc,List.nodup_append]
   obtain ⟨m1,m2,m3⟩:=List.nodup_append.1 h3
   refine ⟨?_,m2,fun a ha b hb=>?_⟩
   ·rw [List.nodup_append]
    exact ⟨m1,n1,fun a ha b hb e=>n3 b hb a (dR a (List.mem_append.2 (.inl ha))) e.symm⟩
   ·rcases List.mem_append.1 ha with h | h
    ·exact m3 a h b hb
    ·exact n3 a h b (dR b (List.mem_append.2 (.inr hb)))
  ·rcases List.mem_append.1 hb with h | h
   ·exact List.mem_append.2 (.inr (dR b (List.mem_append.2 (.inl h))))
   ·rcases List.mem_append.1 h with h | h
    ·exact List.mem_append.2 (.inl h)
    ·exact List.mem_append.2 (.inr (dR b (List.mem_append.2 (.inr h))))
section
variable {P:Program} {N:fo} {st:St} {Q:Exit -> St -> Prop} {all:Array Oper} {rest:List Oper} {d:Nat} {ty:TypeId} {pos:String} {af:Array Edge}
theorem aQ.NW{t : TypeId}{x : Operand}{o s i k : Nat}{y : X}{row : List X}{rs : List (List X)}(tf : List (List X))(ht : TY.shape P t = some none)(hx : bV st x = some (.ptr o s i k))(ho : look st.aF o = some (.rows s rs))(hr : rs[i]? = some row)(hy : row[k]? = some y)
  (he:rs.set i (row.set k .no) = tf) (hd:d < N.n) (kk:aQ P N all rest ((st.cV o (.rows s tf)).put d y) Q) :
  aQ P N all (⟨some d,.load t x,ty,pos,af,none⟩ :: rest) st Q:=by
 subst he
 refine aQ.DQ (fun G E RR a hn hi=>?_) kk
 obtain ⟨R,hp⟩:=hi.eval hx
 simp only [RX] at hp
 obtain ⟨_,B,hB,hc⟩:=hp
 have aW:=hi.aF o _ ho
 have jB:=hi.nodup (.obj o)
 simp only [dK] at aW
 obtain ⟨hu,aW⟩:=aW
 rcases aW with ⟨_,h,_⟩ | ⟨B',cs,tb,R',iU,hw,hφ,lx,hlen,jS,iI⟩
 ·subst h; simp at hr
 rw [hB] at iU
 obtain rfl:=Option.some.inj iU
 obtain ⟨u,Ry,R1,yV,hs,CE,xv,KA,dR⟩:=cE.pick hu jS hr hy
 rw [iI] at jB
 obtain ⟨sy,nj⟩:=List.nodup_cons.1 jB
 have Nn:=KA nj
 obtain ⟨m1,m2,m3⟩:=List.nodup_append.1 Nn
 have xP:∀ b ∈ Ry ++ R1,b ∈ RR (.obj o):=fun b hb=>by rw [iI]; exact List.mem_cons.2 (.inr (dR b hb))
 have mw:Inv G E (fI RR (.obj o) (B.b :: R1)) (st.cV o (.rows s (rs.set i (row.set k .no)))) a:=by
  refine hi.cV ?_ ?_ ?_
  ·simp only [dK]
   refine ⟨hu.set (by rw [List.length_set]; exact hu row (List.mem_of_getElem? hr)),.inr ⟨B,cs,tb,R1,hB,hw,hφ,by simpa using lx,hlen,xv,rfl⟩⟩
  ·exact List.nodup_cons.2 ⟨fun h=>sy (dR _ (List.mem_append.2 (.inr h))),m2⟩
  ·intro b hb
   have oM:b ∈ RR (.obj o):=by
    rcases List.mem_cons.1 hb with h | h
    ·rw [iI,h]; simp
    ·exact xP b (List.mem_append.2 (.inr h))
   exact ⟨(hi.own _ _ oM).1,(hi.own _ _ oM).2,fun p hp h=>hi.apart _ _ hp b h oM⟩
 refine ⟨u,E,_,?_,mw.put (by rw [hn]; exact hd) CE m1 fun b hb=>?_⟩
 ·show (do let z <- Instr.loadAt t (a.eval x); pure (Next.value z):Sem Next).run P E.w = _
  rw [hc]
  refine eb ?_
  have jA:E.w.cell? ⟨B.b,B.off + (i * s + k),none⟩ = some u:=by rw [dq hw]; exact yV
  simp only [Instr.loadAt,Instr.sureAddr,loadVar,Sem.run_bind,Sem.run_pure,Result.andThen_ok,(TY.kb ht E.w).1]
  simp [jA]
 ·have oM:=xP b (List.mem_append.2 (.inl hb))
  refine ⟨(hi.own _ _ oM).1,(hi.own _ _ oM).2,fun p hp h=>?_⟩
  unfold fI at h
  split at h
  ·rename_i Rh
   rcases List.mem_cons.1 h with h' | h'
   ·exact sy (h' ▸ dR b (List.mem_append.2 (.inl hb)))
   ·exact m3 b hb b h' rfl
  ·rename_i Rh
   exact hi.apart _ _ Rh b h oM
theorem aQ.Bw{t : TypeId}{x : Operand}{o s i k Mv tv : Nat}{rows : List (List X)}{Hm : List X}{rs : List (List X)}(tf : List (List X))(ht : TY.size P t = some 1)(hx : bV st x = some (.ptr o s i k))(hy : look st.aE tv = some (.dH Mv rows))
  (ho:look st.aF o = some (.rows s rs)) (hr:rs[i]? = some Hm) (hk:k + 1 <= Hm.length) (he:rs.set i (ly Hm k [.dH Mv rows]) = tf) (kk:aQ P N all rest ((st.put tv .no).cV o (.rows s tf)) Q) :
  aQ P N all (⟨none,.store t x (.tmp tv),ty,pos,af,none⟩ :: rest) st Q:=by
 subst he; exact aQ.Kw ht hx hy (row:=[]) rfl ho hr hk kk
end
end Go.AW
namespace Go.AW
open Go
theorem RO.HF{E:Env}{cs:Array Value}{e off:Nat}{R:List Nat}(h:RO E [.v (.slice none 0 0)] cs off R):RO E [.dH e []] cs off R:=by
 simp only [RO] at h ⊢
 obtain ⟨u,R₁,R₂,hu,hs,h1,h2,h3⟩:=h
 simp only [RX] at h1
 refine ⟨u,R₁,R₂,hu,hs,?_,h2,h3⟩
 simp only [RX]
 exact ⟨fun _ h=>(by cases h),none,0,h1.1,.inl ⟨by trivial,by trivial,h1.2⟩⟩
theorem cE.HF{E : Env}{cs : Array Value}{e : Nat} : ∀ {n off : Nat} {R : List Nat}, cE E (List.replicate n [.v (.slice none 0 0)]) cs off R → cE E (List.replicate n [.dH e []]) cs off R
 | 0,_,_,h=>by simpa [cE] using h
 | n + 1,off,R,h=>by
  simp only [List.replicate_succ,cE] at h ⊢
  obtain ⟨R₁,R₂,_,h1,h2,h3⟩:=h
  exact ⟨R₁,R₂,rfl,h1.HF,cE.HF h2,h3⟩
section
variable {N:fo} {st:St} {d:Nat}
theorem Sh.p8(e:Nat){n:Nat}(hx:look st.aE d = some (.dH 1 (List.replicate n [.v (.slice none 0 0)]))):Sh N st (st.put d (.dH 1 (List.replicate n [.dH e []]))):=by
 intro G hn a w hh
 obtain ⟨E,RR,rfl,hi⟩:=hh
 have hv:=hi.aE d _ hx
 refine ⟨E,_,rfl,hi.relabel (d:=d) (R:=RR (.slot d)) ?_ (hi.nodup _) (fun b hb=>⟨(hi.own _ _ hb).1,(hi.own _ _ hb).2,fun p hp h=>hi.apart _ _ hp b h hb⟩)⟩
 simp only [RX] at hv ⊢
 obtain ⟨_,base,cap,hc,h⟩:=hv
 refine ⟨fun r hr=>by rw [(List.mem_replicate.1 hr).2]; rfl,base,cap,by simpa using hc,?_⟩
 rcases h with ⟨h1,h2,h3⟩ | ⟨b,off,cs,ty,R',h1,h2,h3,h4,h5,h6,h7⟩
 ·refine .inl ⟨?_,h2,h3⟩
  have:n = 0:=by simpa using congrArg List.length h1
  subst this; rfl
 ·exact .inr ⟨b,off,cs,ty,R',h1,h2,by simpa using h3,h4,h5,h6.HF,h7⟩
end
theorem Bx{α:Type}{l:List α}{f:α -> List X}{m:Nat}{r:List X}(h:m < l.length):((l.map f).set (0 + m) r)[0 + m]? = some r:=by
 rw [Nat.zero_add,List.getElem?_set_self (by simpa using h)]
theorem xQ{α:Type}{l:List α}{f:α -> List X}{m:Nat}{r q:List X}{v:α}(h:q = f v):((l.map f).set (0 + m) r).set (0 + m) q = (l.set m v).map f:=by
 rw [Nat.zero_add,List.set_set,h,List.map_set]
theorem CF{α:Type}{l:List α}{f:α -> List X}{m n:Nat}(h:n = l.length - m):((l.map f).drop (0 + m)).take n = (l.drop m).map f:=by
 rw [Nat.zero_add,<- List.map_drop,List.take_of_length_le (by simp; omega)]
theorem X.rA{α : Type}{f g : α → List X}(h : ∀ a, X.jj (f a) = g a) : ∀ l : List α, X.lK (l.map f) = l.map g
 | []=>rfl
 | a :: r=>by simp only [List.map_cons,X.lK,h,X.rA h r]
theorem Sh.zS{α:Type}{f g:α -> List X}{N:fo}{st:St}{d s:Nat}{l:List α}(h:∀ a,X.jj (f a) = g a)(hx:look st.aE d = some (.dH s (l.map f))):Sh N st (st.put d (.fz s (l.map g))) :=
 Sh.nS hx (by simp only [X.mC,X.rA h])
end Go.AW
namespace Go.AW
open Go
section
variable {P:Program} {N:fo} {st:St} {Q:Exit -> St -> Prop} {all:Array Oper} {rest:List Oper} {d:Nat} {ty:TypeId} {pos:String} {af:Array Edge}
theorem aQ.Jy{t t' e s de : Nat}{x y : Operand}{s' : Nat}{rows : List (List X)}(ht : TY.slice P t = some (e, s, de))(hx : bV st x = some (.fz s' rows))(hy : bV st y = some (.v (.slice none 0 0)))(hd : d < N.n)
  (k:∀ b:Bool,(b = true -> rows = []) -> aQ P N all rest (st.put d (.v (.bool b))) Q):aQ P N all (⟨some d,.binOp .eql t x y t',ty,pos,af,none⟩ :: rest) st Q:=by
 intro G hn a w hh
 obtain ⟨E,RR,rfl,hi⟩:=hh
 obtain ⟨R,hp⟩:=hi.eval hx
 have Yr:=hi.val hy
 obtain ⟨hu,_⟩:=TY.dT ht
 simp only [RX] at hp
 obtain ⟨_,hU,base,cap,hc,cU⟩:=hp
 have hr:(execOp a.eval ⟨some d,.binOp .eql t x y t',ty,pos,af,none⟩).run P E.w = .ok (.value (.bool base.isNone)) E.w:=by
  show (do let x <- (do eqGuard .eql t x y (a.eval x) (a.eval y); binOp .eql t (a.eval x) (a.eval y):Sem Value); pure (Next.value x):Sem Next).run P E.w = _
  rw [Yr,hc]
  refine eb ?_
  have:=Lib.run_eql_slice_nil (P:=P) E.w t e base rows.length cap 0 0 hu
  simp only [eqGuard,Sem.run_bind]
  simpa using this
 refine wpList_plain rfl fun K hK=>?_
 simp only [Oper.wp,hr,Oper.upon_value]
 refine hK _ _ (k base.isNone (fun h=>?_) G hn _ _ ⟨E,_,rfl,hi.iT (by rw [hn]; exact hd) (by simp [RX])⟩)
 rcases cU with ⟨h1,_⟩ | ⟨b,off,h1,_⟩
 ·exact h1
 ·rw [h1] at h; cases h
theorem RO.s6{E : Env}{cs : Array Value}{x y : X}(zO : ∀ c, RX E x c [] → RX E y c [])(hf : x.free = true) : ∀ {xs : List X} {off k : Nat} {R : List Nat}, RO E xs cs off R → xs[k]? = some x → RO E (xs.set k y) cs off R
 | [],_,_,_,_,h=>by simp at h
 | z :: r,off,0,R,h,hy=>by
  simp only [RO] at h
  obtain ⟨u,R₁,R₂,hu,hs,h1,h2,rfl⟩:=h
  simp only [List.getElem?_cons_zero,Option.some.injEq] at hy
  subst hy
  have h0:=RX.free hf h1
  subst h0
  simp only [List.set,RO]
  exact ⟨u,[],R₂,hu,hs,zO u h1,h2,rfl⟩
 | z :: r,off,k + 1,R,h,hy=>by
  simp only [RO] at h
  obtain ⟨u,R₁,R₂,hu,hs,h1,h2,rfl⟩:=h
  simp only [List.getElem?_cons_succ] at hy
  simp only [List.set,RO]
  exact ⟨u,R₁,R₂,hu,hs,h1,RO.s6 zO hf h2 hy,rfl⟩
theorem Sh.eu(o q s k : Nat){xs : List X}(ho : look (st.kill q).aF o = some (.cells xs))(hk : xs[k]? = some (.v (.slice none 0 0)))(sX : X.bu (xs.set k (.aL q s 0 0)) = true)(Ys : Nat.beq q o = false)(hF : N.F.elem q = false) :
  Sh N st (((st.kill q).cV q (.rows s [])).cV o (.cells (xs.set k (.aL q s 0 0)))):=by
 intro G hn a w hh
 obtain ⟨E,RR,rfl,hi⟩:=hh
 obtain ⟨E',gG,hw,h1,h2⟩:=hi.nil q s (by rw [hn]; exact hF)
 have aW:=h1.aF o (.cells xs) (by simp only [St.cV,look,Ys,cond_false]; exact ho)
 have HG:=aW
 simp only [dK] at HG
 obtain ⟨_,B,cs,ty,hB,rq,hφ,fY,xv,hR⟩:=HG
 refine ⟨E',_,hw,h1.cV (R:=gG (.obj o)) ?_ (h1.nodup _) (fun b hb=>⟨(h1.own _ _ hb).1,(h1.own _ _ hb).2,fun p hp h=>h1.apart _ _ hp b h hb⟩)⟩
 simp only [dK]
 refine ⟨sX,B,cs,ty,hB,rq,hφ,by rw [List.length_set]; exact fY,RO.s6 (x:=.v (.slice none 0 0)) (fun c hc=>?_) rfl xv hk,hR⟩
 simp only [RX] at hc
 rw [hc.1]; exact h2
theorem b6.s6{E : Env}{x y : X}(zO : ∀ c, RX E x c [] → RX E y c [])(hf : x.free = true) : ∀ {xs : List X} {k : Nat} {cs : List Value} {R : List Nat}, b6 E xs cs R → xs[k]? = some x → b6 E (xs.set k y) cs R
 | [],_,_,_,_,h=>by simp at h
 | z :: r,0,cs,R,h,hy=>by
  simp only [b6] at h
  obtain ⟨c,dp,R₁,R₂,tE,hs,h1,h2,rfl⟩:=h
  simp only [List.getElem?_cons_zero,Option.some.injEq] at hy
  subst hy
  have h0:=RX.free hf h1
  subst h0
  simp only [List.set,b6]
  exact ⟨c,dp,[],R₂,tE,hs,zO c h1,h2,rfl⟩
 | z :: r,k + 1,cs,R,h,hy=>by
  simp only [b6] at h
  obtain ⟨c,dp,R₁,R₂,tE,hs,h1,h2,rfl⟩:=h
  simp only [List.getElem?_cons_succ] at hy
  simp only [List.set,b6]
  exact ⟨c,dp,R₁,R₂,tE,hs,h1,b6.s6 zO hf h2 hy,rfl⟩
theorem Sh.Ev(s k:Nat){d:Nat}{xs:List X}(hx:look st.aE d = some (.agg xs))(hk:xs[k]? = some (.v (.slice none 0 0))):Sh N st (st.put d (.agg (xs.set k (.fz s [])))):=by
 intro G hn a w hh
 obtain ⟨E,RR,rfl,hi⟩:=hh
 have hv:=hi.aE d _ hx
 refine ⟨E,_,rfl,hi.relabel (d:=d) (R:=RR (.slot d)) ?_ (hi.nodup _) (fun b hb=>⟨(hi.own _ _ hb).1,(hi.own _ _ hb).2,fun p hp h=>hi.apart _ _ hp b h hb⟩)⟩
 simp only [RX] at hv ⊢
 obtain ⟨cs,hc,h⟩:=hv
 refine ⟨cs,hc,b6.s6 (x:=.v (.slice none 0 0)) (fun c hc=>?_) rfl h hk⟩
 simp only [RX] at hc ⊢
 exact ⟨trivial,fun _ h=>(by cases h),none,0,hc.1,.inl ⟨by trivial,by trivial⟩⟩
theorem Sh.u4(o s k : Nat){xs : List X}(ho : look st.aF o = some (.cells xs))(hk : xs[k]? = some (.v (.slice none 0 0)))(sX : X.bu (xs.set k (.fz s [])) = true) :
  Sh N st (st.cV o (.cells (xs.set k (.fz s [])))):=by
 intro G hn a w hh
 obtain ⟨E,RR,rfl,hi⟩:=hh
 have aW:=hi.aF o _ ho
 simp only [dK] at aW
 obtain ⟨_,B,cs,ty,hB,rq,hφ,fY,xv,hR⟩:=aW
 refine ⟨E,_,rfl,hi.cV (R:=RR (.obj o)) ?_ (hi.nodup _) (fun b hb=>⟨(hi.own _ _ hb).1,(hi.own _ _ hb).2,fun p hp h=>hi.apart _ _ hp b h hb⟩)⟩
 simp only [dK]
 refine ⟨sX,B,cs,ty,hB,rq,hφ,by rw [List.length_set]; exact fY,RO.s6 (x:=.v (.slice none 0 0)) (fun c hc=>?_) rfl xv hk,hR⟩
 simp only [RX] at hc ⊢
 exact ⟨trivial,fun _ h=>(by cases h),none,0,hc.1,.inl ⟨by trivial,by trivial⟩⟩
end
end Go.AW
