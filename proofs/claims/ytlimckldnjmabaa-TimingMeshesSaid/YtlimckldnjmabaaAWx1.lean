/- Part of the abstract walk: names of objects in a callee and in its caller; values that ef no frozen memory. -/
import Derived.Test.YtlimckldnjmabaaAWx0
import Derived.StillTail
import Derived.Orders
import Derived.Below
import Derived.Carry
import Derived.Deep.Slices
import Derived.Deep.Fields
import Derived.ChangeSame
import Derived.ChangeSlices
import Derived.SizedLaws
import Derived.Deep.Grids
import Derived.Maps.Keyed
import Derived.DeepKeys4
import Derived.OpenShut
import Derived.Lib.AppendZeros
import Derived.Lib.SliceRun
set_option linter.unusedSimpArgs false
set_option linter.unusedVariables false
set_option linter.unusedSectionVars false
namespace Go.AW
open Go
mutual
def X.gy(ν : Nat → Nat) : X → X
 | .ptr o s i k=>.ptr (ν o) s i k
 | .aR o s lo n=>.aR (ν o) s lo n
 | .mref o=>.mref (ν o)
 | .agg xs=>.agg (X.mn ν xs)
 | .tup xs=>.tup (X.mn ν xs)
 | .jv f a b=>.jv f (X.mn ν a) (X.mn ν b)
 | .v u=>.v u
 | .no=>.no
 | .fz s rows=>.fz s rows
 | .dn s rows=>.dn s rows
 | .fp row k=>.fp row k
def X.mn(ν : Nat → Nat) : List X → List X
 | []=>[]
 | x :: r=>x.gy ν :: X.mn ν r
end
def Env.names(E:Env)(ν:Nat -> Nat):Env:={ E with β:=fun o=>E.β (ν o) }
theorem fQ(E:Env)(ν:Nat -> Nat)(R:List Nat):(E.names ν).On E R /\ E.On (E.names ν) R:=⟨⟨fun _ _ _ h=>h,fun _ _=>⟨rfl,fun h=>h⟩⟩,⟨fun _ _ _ h=>h,fun _ _=>⟨rfl,fun h=>h⟩⟩⟩
mutual
theorem RX.gy{E : Env}{ν : Nat → Nat} : ∀ (x : X) (c : Value) (R : List Nat), RX (E.names ν) x c R ↔ RX E (x.gy ν) c R
 | .ptr ..,_,_=>by simp only [X.gy,RX]; exact Iff.rfl
 | .aR ..,_,_=>by simp only [X.gy,RX]; exact Iff.rfl
 | .mref _,_,_=>by simp only [X.gy,RX]; exact Iff.rfl
 | .v _,_,_=>by simp only [X.gy,RX]
 | .no,_,_=>by simp only [X.gy,RX]
 | .fz s rows,c,R=>⟨RX.mono _ c R (fQ E ν R).1 (fun o h=>by simp [X.e6] at h),RX.mono _ c R (fQ E ν R).2 (fun o h=>by simp [X.gy,X.e6] at h)⟩
 | .dn s rows,c,R=>⟨RX.mono _ c R (fQ E ν R).1 (fun o h=>by simp [X.e6] at h),RX.mono _ c R (fQ E ν R).2 (fun o h=>by simp [X.gy,X.e6] at h)⟩
 | .fp row k,c,R=>⟨RX.mono _ c R (fQ E ν R).1 (fun o h=>by simp [X.e6] at h),RX.mono _ c R (fQ E ν R).2 (fun o h=>by simp [X.gy,X.e6] at h)⟩
 | .agg xs,c,R=>by
  simp only [X.gy,RX]
  exact ⟨fun ⟨cs,h1,h2⟩=>⟨cs,h1,(b6.gy xs _ R).1 h2⟩,fun ⟨cs,h1,h2⟩=>⟨cs,h1,(b6.gy xs _ R).2 h2⟩⟩
 | .tup xs,c,R=>by
  simp only [X.gy,RX]
  exact ⟨fun ⟨cs,h1,h2⟩=>⟨cs,h1,(eC.gy xs _ R).1 h2⟩,fun ⟨cs,h1,h2⟩=>⟨cs,h1,(eC.gy xs _ R).2 h2⟩⟩
 | .jv f xs ys,c,R=>by
  simp only [X.gy,RX]
  exact ⟨fun ⟨h0,f,cc,h1,h2,h3⟩=>⟨h0,f,cc,h1,(eC.gy xs _ []).1 h2,(eC.gy ys _ []).1 h3⟩,fun ⟨h0,f,cc,h1,h2,h3⟩=>⟨h0,f,cc,h1,(eC.gy xs _ []).2 h2,(eC.gy ys _ []).2 h3⟩⟩
theorem b6.gy{E : Env}{ν : Nat → Nat} : ∀ (xs : List X) (cs : List Value) (R : List Nat), b6 (E.names ν) xs cs R ↔ b6 E (X.mn ν xs) cs R
 | [],_,_=>by simp only [X.mn,b6]
 | x :: r,cs,R=>by
  simp only [X.mn,b6]
  exact ⟨fun ⟨c, dg, R₁, R₂, h1, h2, h3, h4, h5⟩ => ⟨c, dg, R₁, R₂, h1, h2, (RX.gy x c R₁).1 h3, (b6.gy r dg R₂).1 h4, h5⟩,
   fun ⟨c,dg,R₁,R₂,h1,h2,h3,h4,h5⟩=>⟨c,dg,R₁,R₂,h1,h2,(RX.gy x c R₁).2 h3,(b6.gy r dg R₂).2 h4,h5⟩⟩
theorem eC.gy{E : Env}{ν : Nat → Nat} : ∀ (xs : List X) (cs : List Value) (R : List Nat), eC (E.names ν) xs cs R ↔ eC E (X.mn ν xs) cs R
 | [],_,_=>by simp only [X.mn,eC]
 | x :: r,cs,R=>by
  simp only [X.mn,eC]
  exact ⟨fun ⟨c, dg, R₁, R₂, h1, h3, h4, h5⟩ => ⟨c, dg, R₁, R₂, h1, (RX.gy x c R₁).1 h3, (eC.gy r dg R₂).1 h4, h5⟩,
   fun ⟨c,dg,R₁,R₂,h1,h3,h4,h5⟩=>⟨c,dg,R₁,R₂,h1,(RX.gy x c R₁).2 h3,(eC.gy r dg R₂).2 h4,h5⟩⟩
end
theorem RO.gy{E : Env}{ν : Nat → Nat} : ∀ (xs : List X) (cs : Array Value) (off : Nat) (R : List Nat), RO (E.names ν) xs cs off R ↔ RO E (X.mn ν xs) cs off R
 | [],_,_,_=>by simp only [X.mn,RO]
 | x :: r,cs,off,R=>by
  simp only [X.mn,RO]
  exact ⟨fun ⟨u, R₁, R₂, h1, h2, h3, h4, h5⟩ => ⟨u, R₁, R₂, h1, h2, (RX.gy x u R₁).1 h3, (RO.gy r cs _ R₂).1 h4, h5⟩,
   fun ⟨u,R₁,R₂,h1,h2,h3,h4,h5⟩=>⟨u,R₁,R₂,h1,h2,(RX.gy x u R₁).2 h3,(RO.gy r cs _ R₂).2 h4,h5⟩⟩
theorem sL(ν : Nat → Nat) : ∀ xs : List X, (X.mn ν xs).length = xs.length
 | []=>rfl
 | _ :: r=>by simp [X.mn,sL ν r]
mutual
theorem X.xG(ν : Nat → Nat) : ∀ x : X, (x.gy ν).free = x.free
 | .ptr .. | .aR .. | .mref _ | .v _ | .no | .fz .. | .dn .. | .fp .. | .jv ..=>rfl
 | .agg xs=>X.pw ν xs
 | .tup xs=>X.pw ν xs
theorem X.pw(ν : Nat → Nat) : ∀ xs : List X, X.b5 (X.mn ν xs) = X.b5 xs
 | []=>rfl
 | x :: r=>by simp only [X.mn,X.b5,X.xG ν x,X.pw ν r]
end
def Obj.gy(ν : Nat → Nat) : Obj → Obj
 | .cells xs=>.cells (X.mn ν xs)
 | .rows s rs=>.rows s rs
 | .xy es=>.xy es
 | .gone=>.gone
 | .hole rs i q s n=>.hole rs i (ν q) s n
theorem dh.gy{E:Env}{ν:Nat -> Nat}{j:Nat}{ob:Obj}{R:List Nat}:dh (E.names ν) j ob R ↔ dh E (ν j) (ob.gy ν) R:=by
 cases ob with
 | cells xs =>
  simp only [Obj.gy,dh,X.pw,sL]
  exact ⟨fun ⟨h0, B, cs, ty, h1, h2, h3, h4, h5, h6⟩ => ⟨h0, B, cs, ty, h1, h2, h3, h4, (RO.gy xs cs _ []).1 h5, h6⟩,
   fun ⟨h0,B,cs,ty,h1,h2,h3,h4,h5,h6⟩=>⟨h0,B,cs,ty,h1,h2,h3,h4,(RO.gy xs cs _ []).2 h5,h6⟩⟩
 | rows s rs =>
  simp only [Obj.gy,dh]
  refine ⟨fun ⟨hu,h⟩=>⟨hu,h.imp (fun h=>h) ?_⟩,fun ⟨hu,h⟩=>⟨hu,h.imp (fun h=>h) ?_⟩⟩
  ·exact fun ⟨B,cs,ty,R',h1,h2,h3,h4,h5,h6,h7⟩=>⟨B,cs,ty,R',h1,h2,h3,h4,h5,cE.mono rs cs _ R' (fQ E ν R').1 h6,h7⟩
  ·exact fun ⟨B,cs,ty,R',h1,h2,h3,h4,h5,h6,h7⟩=>⟨B,cs,ty,R',h1,h2,h3,h4,h5,cE.mono rs cs _ R' (fQ E ν R').2 h6,h7⟩
 | xy es=>exact Iff.rfl
 | gone=>simp only [Obj.gy,dh]
 | hole rs i q s n =>
  simp only [Obj.gy,dh]
  refine ⟨fun ⟨hu, B, cs, ty, R', u, h1, h2, h3, h4, h5, h6, h7, h8, h9, S8, Rs⟩ => ⟨hu, B, cs, ty, R', u, h1, h2, h3, h4, h5, cE.mono rs cs _ R' (fQ E ν R').1 h6, h7, h8, h9, S8, (RX.gy (.aR q s 0 n) u []).1 Rs⟩,
   fun ⟨hu,B,cs,ty,R',u,h1,h2,h3,h4,h5,h6,h7,h8,h9,S8,Rs⟩=>⟨hu,B,cs,ty,R',u,h1,h2,h3,h4,h5,cE.mono rs cs _ R' (fQ E ν R').2 h6,h7,h8,h9,S8,(RX.gy (.aR q s 0 n) u []).2 Rs⟩⟩
mutual
def X.plain : X → Prop
 | .v _ | .no | .ptr .. | .aR .. | .mref _=>True
 | .fz _ _ | .fp _ _ | .jv ..=>False
 | .dn _ rows=>X.mo rows
 | .agg xs=>X.fj xs
 | .tup xs=>X.fj xs
def X.fj : List X → Prop
 | []=>True
 | x :: r=>x.plain /\ X.fj r
def X.mo : List (List X) → Prop
 | []=>True
 | x :: r=>X.fj x /\ X.mo r
end
def Env.HG(E E':Env)(R:List Nat):Prop:=∀ b ∈ R,E'.w.heap[b]? = E.w.heap[b]? /\ ((∀ i,E.φ b i = none) -> ∀ i,E'.φ b i = none)
theorem Env.HG.sub{E E':Env}{R R':List Nat}(h:E.HG E' R)(hs:∀ b ∈ R',b ∈ R):E.HG E' R':=fun b hb=>h b (hs b hb)
mutual
theorem RX.off{E E' : Env} : ∀ (x : X) (c : Value) (R : List Nat), x.plain → E.HG E' R → (∀ o, E'.β o = E.β o) → RX E x c R → RX E' x c R
 | .v _,_,_,_,_,_,h=>by simpa [RX] using h
 | .no,_,_,_,_,_,h=>by simpa [RX] using h
 | .fz ..,_,_,hp,_,_,_=>hp.elim
 | .fp ..,_,_,hp,_,_,_=>hp.elim
 | .jv ..,_,_,hp,_,_,_=>hp.elim
 | .ptr o ..,_,_,_,_,hβ,h=>by simp only [RX] at h ⊢; rw [hβ]; exact h
 | .aR o ..,_,_,_,_,hβ,h=>by simp only [RX] at h ⊢; rw [hβ]; exact h
 | .mref o,_,_,_,_,hβ,h=>by simp only [RX] at h ⊢; rw [hβ]; exact h
 | .dn s rows,c,R,hp,hE,hβ,h=>by
  simp only [RX] at h ⊢
  obtain ⟨hu,base,cap,hc,hh⟩:=h
  refine ⟨hu,base,cap,hc,?_⟩
  rcases hh with hh | ⟨b,off,cs,ty,R',hb,hw,hl,ho,hf,hr,hR⟩
  ·exact .inl hh
  ·subst hR
   have h2:=hE b (by simp)
   exact .inr ⟨b,off,cs,ty,R',hb,h2.1.trans hw,hl,ho,h2.2 hf,cE.off rows cs off R' hp (hE.sub (fun _ h=>by simp [h])) hβ hr,rfl⟩
 | .agg xs,c,R,hp,hE,hβ,h=>by
  simp only [RX] at h ⊢
  obtain ⟨cs,hc,hs⟩:=h
  exact ⟨cs,hc,b6.off xs _ R hp hE hβ hs⟩
 | .tup xs,c,R,hp,hE,hβ,h=>by
  simp only [RX] at h ⊢
  obtain ⟨cs,hc,hs⟩:=h
  exact ⟨cs,hc,eC.off xs _ R hp hE hβ hs⟩
theorem b6.off{E E' : Env} : ∀ (xs : List X) (cs : List Value) (R : List Nat), X.fj xs → E.HG E' R → (∀ o, E'.β o = E.β o) → b6 E xs cs R → b6 E' xs cs R
 | [],_,_,_,_,_,h=>by simpa [b6] using h
 | x :: r,cs,R,hp,hE,hβ,h=>by
  simp only [b6] at h ⊢
  simp only [X.fj] at hp
  obtain ⟨c,dg,R₁,R₂,hc,hs,h1,h2,hR⟩:=h
  subst hR
  exact ⟨c,dg,R₁,R₂,hc,hs,RX.off x c R₁ hp.1 (hE.sub (fun _ h=>cM h)) hβ h1,b6.off r dg R₂ hp.2 (hE.sub (fun _ h=>cu h)) hβ h2,rfl⟩
theorem eC.off{E E' : Env} : ∀ (xs : List X) (cs : List Value) (R : List Nat), X.fj xs → E.HG E' R → (∀ o, E'.β o = E.β o) → eC E xs cs R → eC E' xs cs R
 | [],_,_,_,_,_,h=>by simpa [eC] using h
 | x :: r,cs,R,hp,hE,hβ,h=>by
  simp only [eC] at h ⊢
  simp only [X.fj] at hp
  obtain ⟨c,dg,R₁,R₂,hc,h1,h2,hR⟩:=h
  subst hR
  exact ⟨c,dg,R₁,R₂,hc,RX.off x c R₁ hp.1 (hE.sub (fun _ h=>cM h)) hβ h1,eC.off r dg R₂ hp.2 (hE.sub (fun _ h=>cu h)) hβ h2,rfl⟩
theorem RO.off{E E' : Env} : ∀ (xs : List X) (cs : Array Value) (off : Nat) (R : List Nat), X.fj xs → E.HG E' R → (∀ o, E'.β o = E.β o) → RO E xs cs off R → RO E' xs cs off R
 | [],_,_,_,_,_,_,h=>by simpa [RO] using h
 | x :: r,cs,off,R,hp,hE,hβ,h=>by
  simp only [RO] at h ⊢
  simp only [X.fj] at hp
  obtain ⟨u,R₁,R₂,hu,hs,h1,h2,hR⟩:=h
  subst hR
  exact ⟨u,R₁,R₂,hu,hs,RX.off x u R₁ hp.1 (hE.sub (fun _ h=>cM h)) hβ h1,RO.off r cs (off + 1) R₂ hp.2 (hE.sub (fun _ h=>cu h)) hβ h2,rfl⟩
theorem cE.off{E E' : Env} : ∀ (rs : List (List X)) (cs : Array Value) (off : Nat) (R : List Nat), X.mo rs → E.HG E' R → (∀ o, E'.β o = E.β o) → cE E rs cs off R → cE E' rs cs off R
 | [],_,_,_,_,_,_,h=>by simpa [cE] using h
 | r :: rs,cs,off,R,hp,hE,hβ,h=>by
  simp only [cE] at h ⊢
  simp only [X.mo] at hp
  obtain ⟨R₁,R₂,hn,h1,h2,hR⟩:=h
  subst hR
  exact ⟨R₁,R₂,hn,RO.off r cs off R₁ hp.1 (hE.sub (fun _ h=>cM h)) hβ h1,cE.off rs cs _ R₂ hp.2 (hE.sub (fun _ h=>cu h)) hβ h2,rfl⟩
end
def Obj.plain : Obj → Prop
 | .cells xs=>X.fj xs
 | .rows _ rs=>X.mo rs
 | .xy _=>True
 | .gone=>True
 | .hole rs ..=>X.mo rs
theorem dh.off{E E':Env}{o:Nat}{ob:Obj}{R:List Nat}(hp:ob.plain)(hE:E.HG E' R)(hβ:∀ o,E'.β o = E.β o)(h:dh E o ob R):dh E' o ob R:=by
 cases ob with
 | cells xs =>
  simp only [dh] at h ⊢
  obtain ⟨tw,B,cs,ty,hB,hw,hf,hl,hR,rfl⟩:=h
  have h2:=hE B.b (by simp)
  exact ⟨tw,B,cs,ty,(hβ o).trans hB,h2.1.trans hw,h2.2 hf,hl,RO.off xs cs _ [] hp (hE.sub (fun _ h=>by cases h)) hβ hR,rfl⟩
 | rows s rs =>
  simp only [dh] at h ⊢
  obtain ⟨hu,h⟩:=h
  refine ⟨hu,?_⟩
  rcases h with ⟨h1,h2,h3⟩ | ⟨B,cs,ty,R',hB,hw,hf,hl,hc,hR,rfl⟩
  ·exact .inl ⟨(hβ o).trans h1,h2,h3⟩
  ·have h2:=hE B.b (by simp)
   exact .inr ⟨B,cs,ty,R',(hβ o).trans hB,h2.1.trans hw,h2.2 hf,hl,hc,cE.off rs cs _ R' hp (hE.sub (fun _ h=>by simp [h])) hβ hR,rfl⟩
 | xy es =>
  simp only [dh] at h ⊢
  obtain ⟨B,sd,clock,hB,hw,hf,he,rfl⟩:=h
  have h2:=hE B.b (by simp)
  exact ⟨B,sd,clock,(hβ o).trans hB,h2.1.trans hw,h2.2 hf,he,rfl⟩
 | gone=>simpa [dh] using h
 | hole rs i q s n =>
  simp only [dh] at h ⊢
  obtain ⟨hu,B,cs,ty,R',u,hB,hw,hf,hl,hc,hR,rfl,hi,z3,hs,hx⟩:=h
  have h2:=hE B.b (by simp)
  exact ⟨hu,B,cs,ty,R',u,(hβ o).trans hB,h2.1.trans hw,h2.2 hf,hl,hc,cE.off rs cs _ R' hp (hE.sub (fun _ h=>by simp [h])) hβ hR,rfl,hi,z3,hs,RX.off (.aR q s 0 n) u [] trivial (hE.sub (fun _ h=>by cases h)) hβ hx⟩
mutual
def X.lt(k : Nat) : X → Bool
 | .v _ | .no | .fz .. | .dn .. | .fp ..=>true
 | .ptr o ..=>Nat.blt o k
 | .aR o ..=>Nat.blt o k
 | .mref o=>Nat.blt o k
 | .agg xs=>X.Hk k xs
 | .tup xs=>X.Hk k xs
 | .jv _ a b=>X.Hk k a && X.Hk k b
def X.Hk(k : Nat) : List X → Bool
 | []=>true
 | x :: r=>x.lt k && X.Hk k r
end
theorem zZ{o k:Nat}(h:Nat.blt o k = true):o < k:=Nat.le_of_ble_eq_true h
mutual
theorem X.BD{k o : Nat} : ∀ {x : X}, x.lt k = true → x.e6 o = true → o < k
 | .v _,_,h | .no,_,h | .fz ..,_,h | .dn ..,_,h | .fp ..,_,h=>by simp [X.e6] at h
 | .ptr p ..,h,hm=>by simp only [X.e6] at hm; rw [<- Nat.eq_of_beq_eq_true hm]; exact zZ h
 | .aR p ..,h,hm=>by simp only [X.e6] at hm; rw [<- Nat.eq_of_beq_eq_true hm]; exact zZ h
 | .mref p,h,hm=>by simp only [X.e6] at hm; rw [<- Nat.eq_of_beq_eq_true hm]; exact zZ h
 | .agg xs,h,hm=>X.kY (xs:=xs) h hm
 | .tup xs,h,hm=>X.kY (xs:=xs) h hm
 | .jv _ a b,h,hm=>by
  simp only [X.lt,Bool.and_eq_true] at h
  simp only [X.e6,Bool.or_eq_true] at hm
  exact hm.elim (X.kY h.1) (X.kY h.2)
theorem X.kY{k o : Nat} : ∀ {xs : List X}, X.Hk k xs = true → X.cw o xs = true → o < k
 | [],_,h=>by simp [X.cw] at h
 | x :: r,h,hm=>by
  simp only [X.Hk,Bool.and_eq_true] at h
  simp only [X.cw,Bool.or_eq_true] at hm
  exact hm.elim (X.BD h.1) (X.kY h.2)
end
def Obj.lt(k : Nat) : Obj → Bool
 | .cells xs=>X.Hk k xs
 | .hole _ _ q _ _=>Nat.blt q k
 | _=>true
theorem Obj.Ew{k q : Nat} : ∀ {ob : Obj}, ob.lt k = true → ob.cw q = true → q < k
 | .cells _,h,hq=>X.kY h hq
 | .hole _ _ p _ _,h,hq=>by
  have h1:=Nat.eq_of_beq_eq_true (show Nat.beq p q = true from hq)
  subst h1; exact Nat.le_of_ble_eq_true h
 | .rows ..,_,hq | .xy _,_,hq | .gone,_,hq=>by cases hq
def dT(l:List Nat)(x:X):X:=bif l.any (fun o=>x.e6 o) then .no else x
def Obj.dT(l : List Nat) : Obj → Obj
 | .cells xs=>.cells (xs.map (AW.dT l))
 | .hole rs i q s n=>bif l.elem q then .rows 1 rs else .hole rs i q s n
 | ob=>ob
def St.dT(st:St)(l:List Nat):St:=⟨st.aC.map fun p=>(p.1,AW.dT l p.2),st.aD.map fun p=>(p.1,p.2.dT l)⟩
theorem Aa{l:List Nat}{x:X}{q:Nat}(h:(dT l x).e6 q = true):q ∉ l /\ dT l x = x /\ x.e6 q = true:=by
 unfold dT at h ⊢
 cases hk:l.any (fun o=>x.e6 o) with
 | true=>simp [hk,X.e6] at h
 | false =>
  rw [hk] at h
  simp only [cond_false] at h ⊢
  refine ⟨fun hq=>?_,trivial,h⟩
  have:l.any (fun o=>x.e6 o) = true:=List.any_eq_true.2 ⟨q,hq,h⟩
  rw [hk] at this; cases this
theorem sM(l : List Nat) : ∀ {xs : List X}, X.b5 xs = true → X.b5 (xs.map (dT l)) = true
 | [],_=>rfl
 | x :: r,h=>by
  simp only [X.b5,Bool.and_eq_true] at h
  have h1:(dT l x).free = true:=by
   unfold dT
   cases l.any (fun o=>x.e6 o) with
   | true=>rfl
   | false=>exact h.1
  simp only [List.map_cons,X.b5,h1,sM l h.2,Bool.and_self]
theorem RO.dT{E : Env}{l : List Nat} : ∀ {xs : List X} {cs : Array Value} {off : Nat}, X.b5 xs = true → RO E xs cs off [] → RO E (xs.map (AW.dT l)) cs off []
 | [],_,_,_,h=>h
 | x :: r,_,_,hf,h=>by
  simp only [RO] at h
  obtain ⟨u,R₁,R₂,hu,hs,h1,h2,hR⟩:=h
  simp only [X.b5,Bool.and_eq_true] at hf
  have Sj:=RX.free hf.1 h1
  have Sk:=RO.free hf.2 h2
  subst Sj; subst Sk
  have h3:=RO.dT (l:=l) hf.2 h2
  simp only [List.map_cons,RO]
  refine ⟨u,[],[],hu,hs,?_,h3,rfl⟩
  unfold AW.dT
  cases l.any (fun o=>x.e6 o) with
  | true=>simp [RX]
  | false=>exact h1
theorem sN{l : List Nat} : ∀ {xs : List X} {q : Nat}, X.cw q (xs.map (dT l)) = true → q ∉ l
 | [],_,h=>by simp [X.cw] at h
 | x :: r,q,h=>by
  simp only [List.map_cons,X.cw,Bool.or_eq_true] at h
  rcases h with h | h
  ·exact (Aa h).1
  ·exact sN h
end Go.AW
namespace Go.AW
open Go
inductive xH (st:St) (L:List Nat) (ν:Nat -> Nat):X -> X -> Prop where
 | same {x:X} (h:x.free = true):xH st L ν (x.gy ν) x
 | view {o s lo n:Nat} {rs:List (List X)} (ho:look st.aD o = some (.rows s rs)) (hL:o ∈ L) (qA:lo + n <= rs.length):xH st L ν (.aR o s lo n) (.fz s ((rs.drop lo).take n))
 | deref {o s i k:Nat} {row:List X} (ho:rowAt st (.ptr o s i k) = some row) (hL:o ∈ L) (xu:X.iG row = true):xH st L ν (.ptr o s i k) (.fp row k)
inductive ed (st:St) (L:List Nat) (ν:Nat -> Nat):List X -> List X -> Prop where
 | nil:ed st L ν [] []
 | cons {x y:X} {xs ys:List X} (h:xH st L ν x y) (hs:ed st L ν xs ys):ed st L ν (x :: xs) (y :: ys)
 | agg {us vs xs ys:List X} (h:ed st L ν us vs) (h1:X.tR vs = true) (hs:ed st L ν xs ys):ed st L ν (.agg us :: xs) (.agg vs :: ys)
def iK : List Nat → Nat → Option Nat
 | [],_=>none
 | o :: r,q=>bif Nat.beq o q then some 0 else (iK r q).map (· + 1)
theorem qD : ∀ {l : List Nat} {q j : Nat}, iK l q = some j → l[j]? = some q
 | [],_,_,h=>by cases h
 | o :: r,q,j,h=>by
  simp only [iK] at h
  cases hb:Nat.beq o q with
  | true=>rw [hb] at h; simp at h; subst h; simp [Nat.eq_of_beq_eq_true hb]
  | false =>
   rw [hb] at h
   simp only [cond_false,Option.map_eq_some_iff] at h
   obtain ⟨j',h1,rfl⟩:=h
   simpa using qD h1
theorem qY : ∀ {l : List Nat} {q j : Nat}, l.Nodup → l[j]? = some q → iK l q = some j
 | [],_,_,_,h=>by simp at h
 | o :: r,q,j,hn,h=>by
  simp only [iK]
  have rY:=List.nodup_cons.1 hn
  cases j with
  | zero =>
   simp at h; subst h
   simp
  | succ j =>
   have h':r[j]? = some q:=by simpa using h
   have fb:o ≠ q:=fun e=>rY.1 (by rw [e]; exact List.mem_of_getElem? h')
   have:Nat.beq o q = false:=by
    cases hb:Nat.beq o q with
    | false=>rfl
    | true=>exact absurd (Nat.eq_of_beq_eq_true hb) fb
   rw [this]
   simp [qY rY.2 h']
theorem qE : ∀ {l : List Nat} {q : Nat}, iK l q = none → q ∉ l
 | [],_,_=>by simp
 | o :: r,q,h=>by
  simp only [iK] at h
  cases hb:Nat.beq o q with
  | true=>simp [hb] at h
  | false =>
   rw [hb] at h
   simp only [cond_false,Option.map_eq_none_iff] at h
   have:=qE h
   have fb:=Nat.ne_of_beq_eq_false hb
   simp [this,Ne.symm fb]
def lr(st : St) : List Operand → Option (List X)
 | []=>some []
 | x :: r=>match bW st x,lr st r with
  | some y,some l=>some (y :: l)
  | _,_=>none
def aU(P:Program)(f:FuncId):Bool :=
 match P.funcs[f]? with
 | some fn => fn.body.isSome && fn.name != "runtime.NumGoroutine"
 | none=>false
theorem ny{P:Program}{f:FuncId}(h:aU P f = true)(args:Array Value)(w:World):(callFunc f args).run P w = .ok (.enter f args) w:=by
 unfold aU at h
 cases hf:P.funcs[f]? with
 | none=>simp [hf] at h
 | some fn =>
  rw [hf] at h
  simp only [Bool.and_eq_true] at h
  have h1 : fn.name ≠ "runtime.NumGoroutine" := by
   have:=h.2
   simpa [bne] using this
  have h2:fn.body ≠ none:=fun e=>by rw [e] at h; simp at h
  simp [callFunc,hf,h1,h2]
def loose(ν F:List Nat):List Nat:=((dE 0 ν).filter fun p=>!F.elem p.1).map (·.2)
theorem CO{ν F:List Nat}{o:Nat}(h:o ∉ loose ν F){j:Nat}(hj:ν[j]? = some o):F.elem j = true:=by
 cases hF:F.elem j with
 | true=>rfl
 | false =>
  refine absurd ?_ h
  unfold loose
  refine List.mem_map.2 ⟨(j,o),List.mem_filter.2 ⟨?_,by simpa using hF⟩,rfl⟩
  have:∀ (l:List Nat) (i:Nat),l[j]? = some o -> (i + j,o) ∈ dE i l:=by
   clear h hj hF
   induction j with
   | zero =>
    intro l i h
    cases l with
    | nil=>simp at h
    | cons x r=>simp at h; subst h; simp [dE]
   | succ j ih =>
    intro l i h
    cases l with
    | nil=>simp at h
    | cons x r =>
     simp only [dE,List.mem_cons]
     right
     have:=ih r (i + 1) (by simpa using h)
     rw [show i + (j + 1) = i + 1 + j by omega]; exact this
  simpa using this ν 0 hj
def bZ(ν:List Nat)(j:Nat):Nat:=ν.getD j 0
def oG(st:St)(ν F:List Nat)(aJ:List Obj):St :=
 ⟨(st.dT (loose ν F)).aC,ν.zip (aJ.map (Obj.gy (bZ ν))) ++ (st.dT (loose ν F)).aD⟩
theorem xI : ∀ {ν : List Nat} {l : List Obj} {r : List (Nat × Obj)} {o : Nat}, ν.length = l.length → look (ν.zip l ++ r) o = match iK ν o with | some j => l[j]? | none => look r o
 | [],[],_,_,_=>rfl
 | [],_ :: _,_,_,h=>by simp at h
 | _ :: _,[],_,_,h=>by simp at h
 | q :: ν,x :: l,r,o,h=>by
  simp only [List.zip_cons_cons,List.cons_append,look,iK]
  cases hb:Nat.beq q o with
  | true=>simp
  | false =>
   simp only [cond_false]
   rw [xI (by simpa using h)]
   cases hp:iK ν o with
   | none=>simp
   | some j=>simp
section
variable {P:Program} {N:eZ} {st:St} {Q:Exit -> St -> Prop} {all:Array Oper} {rest:List Oper} {d:Nat} {ty:TypeId} {pos:String} {af:Array Edge}
theorem RO.freeze{E E1 : Env}{b : Nat} : ∀ {xs : List X} {cs : Array Value} {off : Nat} , (∀ i v, cs[i]? = some v → E1.φ b i = some v) → (∀ c i v, E.φ c i = some v → E1.φ c i = some v) → X.iG xs = true →
  RO E xs cs off [] -> RF E1 xs b off
 | [],_,_,_,_,_,_=>by simp [RF]
 | x :: r,cs,off,h1,h2,hn,h=>by
  simp only [RO] at h
  obtain ⟨u,R₁,R₂,hu,hs,hx,hr,hR⟩:=h
  obtain ⟨rfl,rfl⟩:=List.append_eq_nil_iff.1 hR.symm
  simp only [X.iG,Bool.and_eq_true] at hn
  simp only [RF]
  refine ⟨⟨u,h1 _ _ hu,hs,hn.1,RX.mono x u [] ⟨h2,fun _ h=>by cases h⟩ (fun o ho=>by rw [X.q5 hn.1] at ho; cases ho) hx⟩,RO.freeze h1 h2 hn.2 hr⟩
theorem cE.freeze{E E1 : Env}{b : Nat} : ∀ {rs : List (List X)} {cs : Array Value} {off : Nat}, (∀ i v, cs[i]? = some v → E1.φ b i = some v) → (∀ c i v, E.φ c i = some v → E1.φ c i = some v) →
  cE E rs cs off [] -> kD E1 rs b off
 | [],_,_,_,_,_=>by simp [kD]
 | r :: rs,cs,off,h1,h2,h=>by
  simp only [cE] at h
  obtain ⟨R₁,R₂,hn,hx,hr,hR⟩:=h
  obtain ⟨rfl,rfl⟩:=List.append_eq_nil_iff.1 hR.symm
  simp only [kD]
  exact ⟨RO.freeze h1 h2 hn hx,cE.freeze h1 h2 hr⟩
def jy : Obj → Prop
 | .rows _ rs=>∀ r ∈ rs,X.b5 r = true
 | .cells _=>True
 | .xy _=>True
 | .gone=>True
 | .hole ..=>False
theorem cE.free{E : Env} : ∀ {rs : List (List X)} {cs : Array Value} {off : Nat} {R : List Nat}, (∀ r ∈ rs, X.b5 r = true) → cE E rs cs off R → R = []
 | [],_,_,_,_,h=>by simpa [cE] using h
 | r :: rs,_,_,_,hf,h=>by
  simp only [cE] at h
  obtain ⟨R₁,R₂,_,h1,h2,hR⟩:=h
  rw [hR,RO.free (hf r (by simp)) h1,cE.free (fun q hq=>hf q (by simp [hq])) h2]; rfl
noncomputable def Env.cI(E:Env)(LB:Nat -> Prop):Env:=by
 classical
 exact { E with φ:=fun b i=>if LB b then E.w.cell? ⟨b,i,none⟩ else E.φ b i }
theorem iU(E:Env){LB:Nat -> Prop}{b:Nat}(h:LB b)(i:Nat):(E.cI LB).φ b i = E.w.cell? ⟨b,i,none⟩:=by simp [Env.cI,h]
theorem dY(E:Env){LB:Nat -> Prop}{b:Nat}(h:¬ LB b)(i:Nat):(E.cI LB).φ b i = E.φ b i:=by simp [Env.cI,h]
theorem xH.rx{G : Ctx}{E : Env}{RR : Own → List Nat}{a : Act}{L : List Nat}{ν : Nat → Nat}{LB : Nat → Prop}(hi : Inv G E RR st a)(HH : ∀ o ∈ L, ∀ b ∈ RR (.obj o), LB b)(hle : ∀ c i v, E.φ c i = some v → (E.cI LB).φ c i = some v)
  (h0:∀ o ∈ L,∀ ob,look st.aD o = some ob -> jy ob) {x y:X} {c:Value} {R:List Nat} (h:xH st L ν x y) (hx:RX E x c R):RX ((E.cI LB).names ν) y c []:=by
 have g9:E.On (E.cI LB) []:=⟨hle,fun _ h=>by cases h⟩
 cases h with
 | same hf =>
  have:R = []:=RX.free (by rw [X.xG]; exact hf) hx
  subst this
  exact (RX.gy y c []).2 (RX.mono _ c [] g9 (fun _ _=>rfl) hx)
 | view ho hL qA =>
  rename_i o s lo n rs
  have aY:=hi.aD o _ ho
  have mG:∀ r ∈ rs,X.b5 r = true:=h0 o hL _ ho
  simp only [RX] at hx ⊢
  obtain ⟨_,base,cap,rfl,cX⟩:=hx
  simp only [dh] at aY
  obtain ⟨hu,aY⟩:=aY
  have xC:((rs.drop lo).take n).length = n:=by simp; omega
  refine ⟨trivial,(hu.drop lo).take n,base,cap,by rw [xC],?_⟩
  by_cases oE:cap = 0
  ·refine .inl ⟨?_,oE⟩
   have zA:n = 0:=by rcases cX with ⟨_,_,h,_⟩ | ⟨_,_,_,h,_⟩ <;> omega
   subst zA; simp
  ·rcases cX with ⟨_,_,_,h⟩ | ⟨B,hB,Nu,rY,hb⟩
   ·exact absurd h oE
   have gY:=hb.resolve_left oE
   rcases aY with ⟨h1,_⟩ | ⟨B',cs,tb,R',iI,hw,hφ,lN,fB,jF,gK⟩
   ·rw [hB] at h1; cases h1
   rw [hB] at iI
   obtain rfl:=Option.some.inj iI
   have Ex:=cE.free mG jF
   subst Ex
   obtain ⟨R1,CM,dG,_⟩:=cE.zV hu jF qA
   have sf:R1 = []:=by
    cases R1 with
    | nil=>rfl
    | cons b r=>have:=dG b (by simp); cases this
   subst sf
   have NX:LB B.b:=HH o hL _ (by rw [gK]; simp)
   refine .inr ⟨B.b,B.off + lo * s,gY,om,?_⟩
   have tw:kD (E.cI LB) ((rs.drop lo).take n) B.b (B.off + lo * s):=cE.freeze (fun i v hv=>by rw [iU E NX,dq hw]; exact hv) hle CM
   exact kD.mono _ _ _ (fQ (E.cI LB) ν []).2 tw
 | deref ho hL xu =>
  rename_i o s i k row
  simp only [RX] at hx ⊢
  obtain ⟨_,B,hB,rfl⟩:=hx
  simp only [rowAt] at ho
  split at ho
  ·rename_i xs kl
   have aY:=hi.aD o _ kl
   simp only [dh] at aY
   obtain ⟨_,B',cs,tb,iI,hw,_,_,jF,gK⟩:=aY
   rw [hB] at iI
   obtain rfl:=Option.some.inj iI
   cases q7:Nat.beq i 0 with
   | false=>simp [q7] at ho
   | true =>
    have:=Nat.eq_of_beq_eq_true q7
    subst this
    simp only [q7,cond_true,Option.some.injEq] at ho
    subst ho
    have NX:LB B.b:=HH o hL _ (by rw [gK]; simp)
    refine ⟨trivial,B.b,B.off,by simp,?_⟩
    exact RF.mono _ _ _ (fQ (E.cI LB) ν []).2 (RO.freeze (fun i v hv=>by rw [iU E NX,dq hw]; exact hv) hle xu jF)
  ·rename_i s' rs kl
   have aY:=hi.aD o _ kl
   have mG:∀ r ∈ rs,X.b5 r = true:=h0 o hL _ kl
   simp only [dh] at aY
   obtain ⟨hu,aY⟩:=aY
   cases Kq:Nat.beq s s' with
   | false=>simp [Kq] at ho
   | true =>
    have:=Nat.eq_of_beq_eq_true Kq
    subst this
    simp only [Kq,cond_true] at ho
    rcases aY with ⟨_,h1,_⟩ | ⟨B',cs,tb,R',iI,hw,_,_,_,jF,gK⟩
    ·subst h1; simp at ho
    rw [hB] at iI
    obtain rfl:=Option.some.inj iI
    have Ex:=cE.free mG jF
    subst Ex
    obtain ⟨R1,_,q9,dG⟩:=cE.get hu jF ho
    have sf:R1 = []:=by
     cases R1 with
     | nil=>rfl
     | cons b r=>have:=dG b (by simp); cases this
    subst sf
    have NX:LB B.b:=HH o hL _ (by rw [gK]; simp)
    refine ⟨trivial,B.b,B.off + i * s,by rw [Nat.add_assoc],?_⟩
    exact RF.mono _ _ _ (fQ (E.cI LB) ν []).2 (RO.freeze (fun i v hv=>by rw [iU E NX,dq hw]; exact hv) hle xu q9)
  ·rename_i kl
   exact (h0 o hL _ kl).elim
  ·cases ho
theorem ed.get{L : List Nat}{ν : Nat → Nat} : ∀ {xs ys : List X} {j : Nat} {y : X}, ed st L ν xs ys → ys[j]? = some y → ∃ x, xs[j]? = some x ∧ (xH st L ν x y ∨ ∃ us vs, x = .agg us ∧ y = .agg vs ∧ ed st L ν us vs ∧ X.tR vs = true)
 | _,_,j,y,.nil,h=>by simp at h
 | _,_,0,y,.cons h _,hy=>by simp at hy; subst hy; exact ⟨_,rfl,.inl h⟩
 | _,_,j + 1,y,.cons _ hs,hy=>by simpa using ed.get hs (by simpa using hy)
 | _,_,0,y,.agg h h1 _,hy=>by simp at hy; subst hy; exact ⟨_,rfl,.inr ⟨_,_,rfl,rfl,h,h1⟩⟩
 | _,_,j + 1,y,.agg _ _ hs,hy=>by simpa using ed.get hs (by simpa using hy)
theorem ed.length{L : List Nat}{ν : Nat → Nat} : ∀ {xs ys : List X}, ed st L ν xs ys → xs.length = ys.length
 | _,_,.nil=>rfl
 | _,_,.cons _ hs=>by simp [hs.length]
 | _,_,.agg _ _ hs=>by simp [hs.length]
theorem ed.WQ{G : Ctx}{E : Env}{RR : Own → List Nat}{a : Act}{L : List Nat}{ν : Nat → Nat}{LB : Nat → Prop}(hi : Inv G E RR st a)(HH : ∀ o ∈ L, ∀ b ∈ RR (.obj o), LB b)(hle : ∀ c i v, E.φ c i = some v → (E.cI LB).φ c i = some v)
  (h0:∀ o ∈ L,∀ ob,look st.aD o = some ob -> jy ob):∀ {xs ys:List X} {cs:List Value} {R:List Nat},ed st L ν xs ys -> b6 E xs cs R -> b6 ((E.cI LB).names ν) ys cs []
 | _,_,cs,R,.nil,h=>by simp only [b6] at h ⊢; exact ⟨h.1,trivial⟩
 | _,_,cs,R,.cons hl hs,h=>by
  simp only [b6] at h ⊢
  obtain ⟨c,dg,R₁,R₂,rfl,h1,h2,h3,_⟩:=h
  exact ⟨c,dg,[],[],rfl,h1,hl.rx hi HH hle h0 h2,hs.WQ hi HH hle h0 h3,rfl⟩
 | _,_,cs,R,.agg hl _ hs,h=>by
  simp only [b6] at h ⊢
  obtain ⟨c,dg,R₁,R₂,rfl,h1,h2,h3,_⟩:=h
  simp only [RX] at h2
  obtain ⟨ds,rfl,h4⟩:=h2
  exact h1.elim
end
end Go.AW
namespace Go.AW
open Go
section
variable {P:Program} {N:eZ} {st:St} {Q:Exit -> St -> Prop} {all:Array Oper} {rest:List Oper} {d:Nat} {ty:TypeId} {pos:String} {af:Array Edge}
theorem qZ{G : Ctx}{E : Env}{RR : Own → List Nat}{a : Act}(hi : Inv G E RR st a) : ∀ {l : List Operand} {xs : List X}, lr st l = some xs → xs.length = l.length ∧ ∀ (j : Nat) (x : X), xs[j]? = some x → ∃ o : Operand, l[j]? = some o ∧ ∃ R, RX E x (a.eval o) R
 | [],xs,h=>by simp only [lr,Option.some.injEq] at h; subst h; exact ⟨rfl,by simp⟩
 | o :: r,xs,h=>by
  simp only [lr] at h
  cases h1:bW st o with
  | none=>simp [h1] at h
  | some y =>
   cases h2:lr st r with
   | none=>simp [h1,h2] at h
   | some ys =>
    rw [h1,h2] at h
    simp only [Option.some.injEq] at h
    subst h
    obtain ⟨hl,hg⟩:=qZ hi h2
    refine ⟨by simp [hl],fun j x hx=>?_⟩
    cases j with
    | zero=>simp at hx; subst hx; exact ⟨o,rfl,hi.eval h1⟩
    | succ j=>simpa using hg j x (by simpa using hx)
theorem Inv.J1{G : Ctx}{E : Env}{RR : Own → List Nat}{a : Act}{f : FuncId}{vs : List Value}{xs args : List X}{aD : List Obj}{F ν L : List Nat}{Q' : X → List Obj → Prop}(hi : Inv G E RR st a)(fR : ay P f args aD F Q')
  (xJ:xs.length = vs.length) (J2:∀ (j:Nat) (x:X),xs[j]? = some x -> ∃ v:Value,vs[j]? = some v /\ ∃ R,RX E x v R) (fe:ed st L (bZ ν) xs args) (ra:∀ j ob,aD[j]? = some ob -> look st.aD (bZ ν j) = some (ob.gy (bZ ν))) (hlen:ν.length = aD.length) (Ey:ν.Nodup) (HJ:∀ o ∈ L,o ∉ ν)
  (h0:∀ o ∈ L,∃ ob,look st.aD o = some ob /\ jy ob) (vh:∀ o ∈ loose ν F,G.fn.F.elem o = false) (hd:d < G.fn.n) :
  Calls P f vs.toArray E.w fun e w' => ∃ v r aJ, e = .returned v ∧ Q' r aJ ∧ aJ.length = aD.length ∧
   (r.lt aD.length = true -> (∀ ob ∈ aJ,ob.lt aD.length = true) -> (L = [] \/ (r.plain /\ ∀ ob ∈ aJ,ob.plain)) -> ∃ lQ tY,lQ.w = w' /\ Inv G lQ tY ((oG st ν F aJ).put d (r.gy (bZ ν))) (a.put (some d) v)):=by
 classical
 -- the blocks that are lent, and those that are handed wz
 let LB:Nat -> Prop:=fun b=>∃ o ∈ L,b ∈ RR (.obj o)
 let PB:Nat -> Prop:=fun b=>∃ j,j < aD.length /\ b ∈ RR (.obj (bZ ν j))
 have MJ:∀ j,j < aD.length -> ν[j]? = some (bZ ν j):=by
  intro j hj
  have:j < ν.length:=by omega
  simp [bZ,List.getD,List.getElem?_eq_getElem this]
 have WR:∀ b,LB b -> ∀ i,E.φ b i = none:=by
  rintro b ⟨o,MK,hb⟩
  obtain ⟨ob,aY,mH⟩:=h0 o MK
  have h:=hi.aD o ob aY
  cases ob with
  | cells ys =>
   simp only [dh] at h
   obtain ⟨_,B,cs,tb,_,_,hφ,_,_,gK⟩:=h
   rw [gK] at hb
   simp only [List.mem_singleton] at hb
   rw [hb]; exact hφ
  | rows s rs =>
   simp only [dh] at h
   obtain ⟨_,h⟩:=h
   rcases h with ⟨_,_,h3⟩ | ⟨B,cs,tb,R',_,_,hφ,_,_,jF,gK⟩
   ·rw [h3] at hb; cases hb
   ·have Ex:=cE.free mH jF
    subst Ex
    rw [gK] at hb
    simp only [List.mem_singleton] at hb
    rw [hb]; exact hφ
  | xy es =>
   simp only [dh] at h
   obtain ⟨B,sd,clock,_,_,hφ,_,gK⟩:=h
   rw [gK] at hb
   simp only [List.mem_singleton] at hb
   rw [hb]; exact hφ
  | gone =>
   simp only [dh] at h
   rw [h] at hb; cases hb
  | hole rs i q s n=>exact mH.elim
 have Y6:∀ b,LB b -> ¬ PB b:=by
  rintro b ⟨o,MK,hb⟩ ⟨j,hj,gY⟩
  have fb:o ≠ bZ ν j:=fun e=>HJ o MK (by rw [e]; exact List.mem_of_getElem? (MJ j hj))
  exact hi.apart (.obj o) (.obj (bZ ν j)) (by simpa using fb) b hb gY
 have hle:∀ c i v,E.φ c i = some v -> (E.cI LB).φ c i = some v:=by
  intro c i v h
  have:¬ LB c:=fun hL=>by rw [WR c hL i] at h; cases h
  rw [dY E this]; exact h
 let E1:Env:=(E.cI LB).names (bZ ν)
 have Y7:E1.w = E.w:=rfl
 have Y8:∀ o,E1.β o = E.β (bZ ν o):=fun _=>rfl
 have S9:∀ b i,E1.φ b i = (E.cI LB).φ b i:=fun _ _=>rfl
 let K1:Nat -> Prop:=fun b=>b < E.w.heap.size /\ ¬ PB b
 let Hl:Own -> List Nat:=fun p=>match p with
  | .obj j=>if j < aD.length then RR (.obj (bZ ν j)) else []
  | .slot _=>[]
 have SA:∀ i j,i < aD.length -> j < aD.length -> bZ ν i = bZ ν j -> i = j:=by
  intro i j im vy h
  have h1:=qY Ey (MJ i im)
  have h2:=qY Ey (MJ j vy)
  rw [h] at h1
  rw [h1] at h2
  exact Option.some.inj h2
 have SB:Inv (oF K1 E1 ⟨args.length,F⟩) E1 Hl ⟨dE 0 args,dE 0 aD⟩ ⟨vs.toArray,[]⟩:=by
  constructor
  ·intro b i v h
   rw [S9] at h
   by_cases hL:LB b
   ·rw [iU E hL] at h; exact h
   ·rw [dY E hL] at h; exact hi.lh b i v h
  ·intro s y hy
   have Hh:look (dE 0 args) s = some y:=hy
   rw [ib] at Hh
   obtain ⟨x,hx,cX⟩:=fe.get Hh
   obtain ⟨o,ho,R,hR⟩:=J2 s x hx
   have Ez:vs.toArray.getD s undef = o:=by
    simp [Array.getD_eq_getD_getElem?,ho]
   show RX E1 y (vs.toArray.getD s undef) []
   rw [Ez]
   have HH:∀ o ∈ L,∀ b ∈ RR (.obj o),LB b:=fun o ho b hb=>⟨o,ho,hb⟩
   have WS:∀ o ∈ L,∀ ob,look st.aD o = some ob -> jy ob:=fun o ho ob aY=>by
    obtain ⟨z6,h1,h2⟩:=h0 o ho
    rw [h1] at aY
    obtain rfl:=Option.some.inj aY
    exact h2
   rcases cX with hl | ⟨us,vs,rfl,rfl,hl,_⟩
   ·exact hl.rx hi HH hle WS hR
   ·simp only [RX] at hR ⊢
    obtain ⟨cs,hc,h2⟩:=hR
    exact ⟨cs,hc,hl.WQ hi HH hle WS h2⟩
  ·intro j ob ho
   have lS:look (dE 0 aD) j = some ob:=ho
   rw [ib] at lS
   have hj:j < aD.length:=by
    rcases Nat.lt_or_ge j aD.length with h' | h'
    ·exact h'
    ·simp [List.getElem?_eq_none h'] at lS
   have h1:=hi.aD _ _ (ra j ob lS)
   have sf:Hl (.obj j) = RR (.obj (bZ ν j)):=by simp [Hl,hj]
   rw [sf]
   have h2:dh (E.names (bZ ν)) j ob (RR (.obj (bZ ν j))):=dh.gy.2 h1
   refine dh.mono (E:=E.names (bZ ν)) ⟨hle,fun b hb=>⟨rfl,fun hφ i=>?_⟩⟩ rfl (fun _ _=>rfl) h2
   have:¬ LB b:=fun hL=>Y6 b hL ⟨j,hj,hb⟩
   show (E.cI LB).φ b i = none
   rw [dY E this]; exact hφ i
  ·intro p
   cases p with
   | slot s=>exact List.nodup_nil
   | obj j=>by_cases hj:j < aD.length <;> simp [Hl,hj,hi.nodup]
  ·intro p q mE b hb gY
   cases p with
   | slot s=>cases hb
   | obj i =>
    cases q with
    | slot s=>cases gY
    | obj j =>
     by_cases zT:i < aD.length
     ·by_cases o5:j < aD.length
      ·simp only [Hl,zT,o5,if_true] at hb gY
       have fb:bZ ν i ≠ bZ ν j:=fun e=>mE (by rw [SA i j zT o5 e])
       exact hi.apart (.obj (bZ ν i)) (.obj (bZ ν j)) (by simpa using fb) b hb gY
      ·simp [Hl,o5] at gY
     ·simp [Hl,zT] at hb
  ·intro p b hb
   cases p with
   | slot s=>cases hb
   | obj j =>
    by_cases hj:j < aD.length
    ·simp only [Hl,hj,if_true] at hb
     exact ⟨(hi.own _ _ hb).1,fun h=>h.2 ⟨j,hj,hb⟩⟩
    ·simp [Hl,hj] at hb
  ·intro b _; rfl
  ·exact Nat.le_refl _
  ·intro b hb; exact hb.1
  ·rfl
  ·rfl
  ·rfl
  ·intro b i v h; exact h
  ·intro b i v h; exact .inl h
  ·intro o _; rfl
  ·show vs.toArray.size = args.length
   have:=fe.length
   simp; omega
  ·rfl
 refine (fR K1 E1 Hl _ SB).mono ?_
 rintro e w' ⟨v,r,aJ,he,NY,x5,E',fO,rfl,xK⟩
 refine ⟨v,r,aJ,he,NY,x5,fun SC SD E5=>?_⟩
 -- what the callee leaves
 have J3:∀ b,b < E.w.heap.size -> ¬ PB b -> E'.w.heap[b]? = E.w.heap[b]?:=fun b h1 h2=>xK.ai b ⟨h1,h2⟩
 have fB:E.w.heap.size <= E'.w.heap.size:=xK.size
 let lQ:Env:={ φ:=fun b i=>if LB b then none else E'.φ b i,β:=fun o=>match iK ν o with | some j=>E'.β j | none=>E.β o,w:=E'.w }
 have HK:∀ b i,LB b -> lQ.φ b i = none:=fun b i h=>by simp [lQ,h]
 have vz:∀ b i,¬ LB b -> lQ.φ b i = E'.φ b i:=fun b i h=>by simp [lQ,h]
 have NZ:∀ b i v,E.φ b i = some v -> lQ.φ b i = some v:=by
  intro b i v h
  have hn:¬ LB b:=fun hL=>by rw [WR b hL i] at h; cases h
  rw [vz b i hn]
  refine xK.φ0 b i v ?_
  show (E.cI LB).φ b i = some v
  exact hle b i v h
 have KB:∀ b,b < E.w.heap.size -> ¬ PB b -> (∀ i,E.φ b i = none) -> ∀ i,lQ.φ b i = none:=by
  intro b hb hP hφ i
  by_cases hL:LB b
  ·exact HK b i hL
  ·rw [vz b i hL]
   cases h:E'.φ b i with
   | none=>rfl
   | some v =>
    rcases xK.grow b i v h with h1 | h1
    ·have Kr:(E.cI LB).φ b i = some v:=h1
     rw [dY E hL,hφ i] at Kr; cases Kr
    ·exact absurd ⟨hb,hP⟩ h1
 have g9:∀ R,(∀ b ∈ R,b < E.w.heap.size /\ ¬ PB b) -> E.On lQ R:=fun R h=>⟨NZ,fun b hb=>⟨J3 b (h b hb).1 (h b hb).2,KB b (h b hb).1 (h b hb).2⟩⟩
 have hβ:∀ o,o ∉ loose ν F -> lQ.β o = E.β o:=by
  intro o ho
  show (match iK ν o with | some j=>E'.β j | none=>E.β o) = E.β o
  cases hp:iK ν o with
  | none=>rfl
  | some j =>
   have h1:=qD hp
   have hF:=CO ho h1
   have h2:=xK.fixed j hF
   have h3:(oF K1 E1 ⟨1,F⟩).β0 j = E.β (bZ ν j):=rfl
   rw [h3] at h2
   have h4:bZ ν j = o:=by simp [bZ,List.getD,h1]
   rw [h4] at h2
   exact h2
 have SE:∀ j,j < aD.length -> lQ.β (bZ ν j) = E'.β j:=by
  intro j hj
  show (match iK ν (bZ ν j) with | some j=>E'.β j | none=>E.β (bZ ν j)) = E'.β j
  rw [qY Ey (MJ j hj)]
 -- who owns what then
 let pM:Own -> List Nat:=fun p=>match p with
  | .slot s=>match look st.aC s with
   | some x=>bif (loose ν F).any (fun o=>x.e6 o) then [] else RR (.slot s)
   | none=>[]
  | .obj o=>match iK ν o with
   | some j=>fO (.obj j)
   | none=>RR (.obj o)
 have HL:∀ s b,b ∈ pM (.slot s) -> b ∈ RR (.slot s):=by
  intro s b hb
  simp only [pM] at hb
  cases hs:look st.aC s with
  | none=>simp [hs] at hb
  | some x =>
   rw [hs] at hb
   simp only at hb
   cases hk:(loose ν F).any (fun o=>x.e6 o) with
   | true=>simp [hk] at hb
   | false=>simpa [hk] using hb
 have Ab:∀ p b,b ∈ RR p -> (∀ j,j < aD.length -> p ≠ .obj (bZ ν j)) -> b < E.w.heap.size /\ ¬ PB b:=by
  intro p b hb hp
  refine ⟨(hi.own p b hb).1,?_⟩
  rintro ⟨j,hj,gY⟩
  exact hi.apart p _ (hp j hj) b hb gY
 have w4:∀ q b,b ∈ fO q -> b < E'.w.heap.size /\ (E.w.heap.size <= b \/ PB b):=by
  intro q b hb
  have h:=xK.own q b hb
  refine ⟨h.1,?_⟩
  by_cases xD:b < E.w.heap.size
  ·right
   by_cases hP:PB b
   ·exact hP
   ·exact absurd ⟨xD,hP⟩ h.2
  ·left; omega
 have Ac:∀ p b,b ∈ RR p -> (∀ j,j < aD.length -> p ≠ .obj (bZ ν j)) -> ∀ q,b ∉ fO q:=by
  intro p b hb hp q hq
  have h1:=Ab p b hb hp
  rcases (w4 q b hq).2 with h | h
  ·omega
  ·exact h1.2 h
 have J4:∀ q b,b ∈ fO q -> ¬ G.K b:=by
  intro q b hb hK
  rcases (w4 q b hb).2 with h | ⟨j,hj,h⟩
  ·have:=hi.small b hK; have:=hi.size; omega
  ·exact (hi.own _ _ h).2 hK
 have HM:∀ o j,iK ν o = some j -> j < aD.length /\ bZ ν j = o:=by
  intro o j h
  have h1:=qD h
  have hj:j < ν.length:=by
   rcases Nat.lt_or_ge j ν.length with h' | h'
   ·exact h'
   ·simp [List.getElem?_eq_none h'] at h1
  exact ⟨om,by simp [bZ,List.getD,h1]⟩
 have BE:L = [] -> ∀ b i,lQ.φ b i = E'.φ b i:=by
  intro hL b i
  refine vz b i ?_
  rintro ⟨o,ho,_⟩
  rw [hL] at ho; cases ho
 have E6:∀ b,(∀ i,E'.φ b i = none) -> ∀ i,lQ.φ b i = none:=by
  intro b h i
  by_cases hL:LB b
  ·exact HK b i hL
  ·rw [vz b i hL]; exact h i
 have xL:∀ p b,b ∈ pM p -> (b ∈ RR p /\ ∀ j,j < aD.length -> p ≠ .obj (bZ ν j)) \/ (∃ o j,p = .obj o /\ iK ν o = some j /\ b ∈ fO (.obj j)):=by
  intro p b hb
  cases p with
  | slot s=>exact .inl ⟨HL s b hb,fun j hj=>by simp⟩
  | obj o =>
   simp only [pM] at hb
   cases hp:iK ν o with
   | some j=>rw [hp] at hb; exact .inr ⟨o,j,rfl,hp,hb⟩
   | none =>
    rw [hp] at hb
    refine .inl ⟨hb,fun j hj e=>qE hp ?_⟩
    have:o = bZ ν j:=by simpa using e
    rw [this]; exact List.mem_of_getElem? (MJ j hj)
 have Ad:Inv G lQ pM (oG st ν F aJ) a:=by
  refine { hi with lh:=?_,aC:=?_,aD:=?_,nodup:=?_,apart:=?_,own:=?_,ai:=?_,size:=?_,os:=?_,tape:=?_,output:=?_,φ0:=?_,grow:=?_,fixed:=?_ }
  ·intro b i v h
   by_cases hL:LB b
   ·rw [HK b i hL] at h; cases h
   ·rw [vz b i hL] at h; exact xK.lh b i v h
  ·intro s y hy
   have Hh:look ((st.aC).map fun p=>(p.1,AW.dT (loose ν F) p.2)) s = some y:=hy
   rw [o7 (AW.dT (loose ν F))] at Hh
   cases hs:look st.aC s with
   | none=>simp [hs] at Hh
   | some x =>
    rw [hs] at Hh
    simp only [Option.map_some,Option.some.injEq] at Hh
    subst Hh
    cases hk:(loose ν F).any (fun o=>x.e6 o) with
    | true =>
     have:pM (.slot s) = []:=by simp [pM,hs,hk]
     rw [this]
     simp [AW.dT,hk,RX]
    | false =>
     have:pM (.slot s) = RR (.slot s):=by simp [pM,hs,hk]
     rw [this]
     simp only [AW.dT,hk,cond_false]
     refine RX.mono x _ _ (g9 _ (fun b hb=>Ab _ b hb (fun j hj=>by simp))) (fun o ho=>hβ o (fun sK=>?_)) (hi.aC s x hs)
     have:(loose ν F).any (fun o=>x.e6 o) = true:=List.any_eq_true.2 ⟨o,sK,ho⟩
     rw [hk] at this; cases this
  ·intro o ob ho
   have lS:look (ν.zip (aJ.map (Obj.gy (bZ ν))) ++ (st.aD.map fun p=>(p.1,p.2.dT (loose ν F)))) o = some ob:=ho
   rw [xI (by simp [x5,hlen])] at lS
   cases hp:iK ν o with
   | some j =>
    rw [hp] at lS
    simp only [List.getElem?_map,Option.map_eq_some_iff] at lS
    obtain ⟨z6,HN,rfl⟩:=lS
    obtain ⟨hj,Y9⟩:=HM o j hp
    have xB:pM (.obj o) = fO (.obj j):=by simp [pM,hp]
    rw [xB,<- Y9]
    have h1:dh E' j z6 (fO (.obj j)):=xK.aD j z6 (by rw [ib]; exact HN)
    have ti:z6 ∈ aJ:=List.mem_of_getElem? HN
    refine dh.gy.1 (?_:dh (lQ.names (bZ ν)) j z6 (fO (.obj j)))
    have h3:dh { E' with φ:=lQ.φ } j z6 (fO (.obj j)):=by
     rcases E5 with hL | Hi
     ·exact dh.mono (E:=E') ⟨fun b i v h=>by show lQ.φ b i = _; rw [BE hL b i]; exact h,fun b _=>⟨rfl,fun h i=>by show lQ.φ b i = _; rw [BE hL b i]; exact h i⟩⟩ rfl (fun _ _=>rfl) h1
     ·exact dh.off (E:=E') (Hi.2 z6 ti) (fun b _=>⟨rfl,E6 b⟩) (fun _=>rfl) h1
    refine dh.mono (E:={ E' with φ:=lQ.φ }) ⟨fun _ _ _ h=>h,fun b _=>⟨rfl,fun h=>h⟩⟩ (SE j hj) (fun q hq=>?_) h3
    exact SE q (Obj.Ew (SD _ ti) hq)
   | none =>
    rw [hp] at lS
    simp only at lS
    rw [o7 (Obj.dT (loose ν F))] at lS
    cases hs:look st.aD o with
    | none=>simp [hs] at lS
    | some Nv =>
     rw [hs] at lS
     simp only [Option.map_some,Option.some.injEq] at lS
     subst lS
     have xB:pM (.obj o) = RR (.obj o):=by simp [pM,hp]
     rw [xB]
     have HO:∀ j,j < aD.length -> Own.obj o ≠ .obj (bZ ν j):=fun j hj e=>qE hp (by
      have:o = bZ ν j:=by simpa using e
      rw [this]; exact List.mem_of_getElem? (MJ j hj))
     have sm:=g9 _ (fun b hb=>Ab _ b hb HO)
     have kl:=hi.aD o Nv hs
     have Oa:lQ.β o = E.β o:=by
      show (match iK ν o with | some j=>E'.β j | none=>E.β o) = E.β o
      rw [hp]
     cases Nv with
     | cells ys =>
      simp only [Obj.dT,dh] at kl ⊢
      obtain ⟨tw,B,cs,tb,hB,hw,hf,Ob,jF,gK⟩:=kl
      have h2:=sm.2 B.b (by rw [gK]; simp)
      exact ⟨sM _ tw, B, cs, tb, Oa.trans hB, h2.1.trans hw, h2.2 hf, by simpa using Ob,
       RO.mono _ cs _ [] (sm.sub (fun _ h=>by cases h)) (fun q hq=>hβ q (sN hq)) (RO.dT tw jF),gK⟩
     | rows s rs=>exact dh.mono sm Oa (fun q h=>by cases h) kl
     | xy es=>exact dh.mono sm Oa (fun q h=>by cases h) kl
     | gone=>simpa [Obj.dT,dh] using kl
     | hole rs i p s n =>
      cases hb:(loose ν F).elem p with
      | false =>
       rw [show (Obj.hole rs i p s n).dT (loose ν F) = .hole rs i p s n by simp only [Obj.dT,hb,cond_false]]
       refine dh.mono sm Oa (fun x hx=>hβ x fun e=>?_) kl
       have h1:=Nat.eq_of_beq_eq_true (show Nat.beq p x = true from hx)
       subst h1; rw [List.elem_iff.2 e] at hb; cases hb
      | true =>
       rw [show (Obj.hole rs i p s n).dT (loose ν F) = .rows 1 rs by simp only [Obj.dT,hb,cond_true]]
       exact dh.mono sm Oa (fun q h=>by cases h) kl.wm
  ·intro p
   cases p with
   | slot s =>
    simp only [pM]
    cases hs:look st.aC s with
    | none=>exact List.nodup_nil
    | some x =>
     simp only
     cases (loose ν F).any (fun o=>x.e6 o) with
     | true=>exact List.nodup_nil
     | false=>exact hi.nodup _
   | obj o =>
    simp only [pM]
    cases iK ν o with
    | some j=>exact xK.nodup _
    | none=>exact hi.nodup _
  ·intro p q mE b hb gY
   rcases xL p b hb with ⟨h1,h2⟩ | ⟨o,j,rfl,hp,h1⟩
   ·rcases xL q b gY with ⟨h3,h4⟩ | ⟨o',j',rfl,J0,h3⟩
    ·exact hi.apart p q mE b h1 h3
    ·exact Ac p b h1 h2 _ h3
   ·rcases xL q b gY with ⟨h3,h4⟩ | ⟨o',j',rfl,J0,h3⟩
    ·exact Ac q b h3 h4 _ h1
    ·have YA:j ≠ j':=fun e=>by
      subst e
      have:=(HM o j hp).2.symm.trans (HM o' j J0).2
      exact mE (by rw [this])
     exact xK.apart (.obj j) (.obj j') (by simpa using YA) b h1 h3
  ·intro p b hb
   rcases xL p b hb with ⟨h1,h2⟩ | ⟨o,j,rfl,hp,h1⟩
   ·have h4:=hi.own p b h1
    exact ⟨Nat.lt_of_lt_of_le h4.1 fB,h4.2⟩
   ·exact ⟨(w4 _ b h1).1,J4 _ b h1⟩
  ·intro b hK
   have h1:b < E.w.heap.size:=Nat.lt_of_lt_of_le (hi.small b hK) hi.size
   have h2:¬ PB b:=fun ⟨j,hj,h⟩=>(hi.own _ _ h).2 hK
   have:=J3 b h1 h2
   exact this.trans (hi.ai b hK)
  ·exact Nat.le_trans hi.size fB
  ·exact xK.os.trans hi.os
  ·exact xK.tape.trans hi.tape
  ·exact xK.output.trans hi.output
  ·exact fun b i v h=>NZ b i v (hi.φ0 b i v h)
  ·intro b i v h
   by_cases hL:LB b
   ·rw [HK b i hL] at h; cases h
   ·rw [vz b i hL] at h
    rcases xK.grow b i v h with h1 | h1
    ·have Kr:(E.cI LB).φ b i = some v:=h1
     rw [dY E hL] at Kr
     exact hi.grow b i v Kr
    ·right
     intro hK
     exact h1 ⟨Nat.lt_of_lt_of_le (hi.small b hK) hi.size,fun ⟨j,hj,h⟩=>(hi.own _ _ h).2 hK⟩
  ·intro o ho
   rw [hβ o (fun sK=>by rw [vh o sK] at ho; cases ho)]
   exact hi.fixed o ho
 have hr:RX lQ (r.gy (bZ ν)) v (fO (.slot 0)):=by
  have h1:RX E' r v (fO (.slot 0)):=xK.aC 0 r rfl
  have h3:RX { E' with φ:=lQ.φ } r v (fO (.slot 0)):=by
   rcases E5 with hL | Hi
   ·exact RX.mono (E:=E') r _ _ ⟨fun b i v h=>by show lQ.φ b i = _; rw [BE hL b i]; exact h,fun b _=>⟨rfl,fun h i=>by show lQ.φ b i = _; rw [BE hL b i]; exact h i⟩⟩ (fun _ _=>rfl) h1
   ·exact RX.off (E:=E') r _ _ Hi.1 (fun b _=>⟨rfl,E6 b⟩) (fun _=>rfl) h1
  refine (RX.gy r v _).1 (?_:RX (lQ.names (bZ ν)) r v (fO (.slot 0)))
  exact RX.mono (E:={ E' with φ:=lQ.φ }) r _ _ ⟨fun _ _ _ h=>h,fun b _=>⟨rfl,fun h=>h⟩⟩ (fun q hq=>SE q (X.BD SC hq)) h3
 refine ⟨lQ,_,rfl,Ad.put hd hr (xK.nodup _) (fun b hb=>⟨(w4 _ b hb).1,J4 _ b hb,fun p _ CL=>?_⟩)⟩
 rcases xL p b CL with ⟨h1,h2⟩ | ⟨o,j,rfl,hp,h1⟩
 ·exact Ac p b h1 h2 _ hb
 ·exact xK.apart (.slot 0) (.obj j) (by simp) b hb h1
theorem Inv.call{G : Ctx}{E : Env}{RR : Own → List Nat}{a : Act}{f : FuncId}{cN : List Operand}{xs args : List X}{aD : List Obj}{F ν L : List Nat}{Q' : X → List Obj → Prop}(hi : Inv G E RR st a)(fR : ay P f args aD F Q')
  (gf:lr st cN = some xs) (fe:ed st L (bZ ν) xs args) (ra:∀ j ob,aD[j]? = some ob -> look st.aD (bZ ν j) = some (ob.gy (bZ ν))) (hlen:ν.length = aD.length) (Ey:ν.Nodup) (HJ:∀ o ∈ L,o ∉ ν)
  (h0:∀ o ∈ L,∃ ob,look st.aD o = some ob /\ jy ob) (vh:∀ o ∈ loose ν F,G.fn.F.elem o = false) (hd:d < G.fn.n) :
  Calls P f (cN.map a.eval).toArray E.w fun e w' => ∃ v r aJ, e = .returned v ∧ Q' r aJ ∧ aJ.length = aD.length ∧
   (r.lt aD.length = true -> (∀ ob ∈ aJ,ob.lt aD.length = true) -> (L = [] \/ (r.plain /\ ∀ ob ∈ aJ,ob.plain)) -> ∃ lQ tY,lQ.w = w' /\ Inv G lQ tY ((oG st ν F aJ).put d (r.gy (bZ ν))) (a.put (some d) v)):=by
 obtain ⟨xJ,J2⟩:=qZ hi gf
 exact hi.J1 fR (by simpa using xJ) (fun j x hx=>by
  obtain ⟨o,ho,R,hR⟩:=J2 j x hx
  exact ⟨a.eval o,by simp [ho],R,hR⟩) fe ra hlen Ey HJ h0 vh hd
theorem aS.call{f : FuncId}{cN : Array Operand}{o6 : Array TypeId}{xs args : List X}{aD : List Obj}{F : List Nat}{Q' : X → List Obj → Prop}(ν L : List Nat)(kC : aU P f = true)(fR : ay P f args aD F Q')
  (gf:lr st cN.toList = some xs) (fe:ed st L (bZ ν) xs args) (ra:∀ j ob,aD[j]? = some ob -> look st.aD (bZ ν j) = some (ob.gy (bZ ν))) (hlen:ν.length = aD.length) (Ey:ν.Nodup) (HJ:∀ o ∈ L,o ∉ ν)
  (h0:∀ o ∈ L,∃ ob,look st.aD o = some ob /\ jy ob) (vh:∀ o ∈ loose ν F,N.F.elem o = false) (hd:d < N.n)
  (k:∀ r aJ,Q' r aJ -> aJ.length = aD.length -> (r.lt aD.length = true /\ (∀ ob ∈ aJ,ob.lt aD.length = true) /\ (L = [] \/ (r.plain /\ ∀ ob ∈ aJ,ob.plain))) /\ aS P N all rest ((oG st ν F aJ).put d (r.gy (bZ ν))) Q) :
  aS P N all (⟨some d,.call ⟨.value (.func f),cN,o6⟩,ty,pos,af,none⟩ :: rest) st Q:=by
 intro G hn a w hh
 obtain ⟨E,RR,rfl,hi⟩:=hh
 have hc:=hi.call fR gf fe ra hlen Ey HJ h0 (fun o ho=>by rw [hn]; exact vh o ho) (d:=d) (by rw [hn]; exact hd)
 have iZ:(execOp a.eval ⟨some d,.call ⟨.value (.func f),cN,o6⟩,ty,pos,af,none⟩).run P E.w = .ok (.enter f (cN.toList.map a.eval).toArray) E.w:=by
  have e:(execOp a.eval ⟨some d,.call ⟨.value (.func f),cN,o6⟩,ty,pos,af,none⟩).run P E.w = (callFunc f ((#[] ++ cN.map a.eval) ++ #[])).run P E.w:=rfl
  rw [e,ny kC]
  congr 2
  apply Array.ext'
  simp
 refine wpList_plain rfl fun K hK=>?_
 simp only [Oper.wp,iZ,Oper.upon_enter]
 refine hc.mono ?_
 rintro e w' ⟨v,r,aJ,rfl,NY,x5,E7⟩
 obtain ⟨⟨h1,h2,h3⟩,hk⟩:=k r aJ NY x5
 obtain ⟨lQ,tY,hw,hI⟩:=E7 h1 h2 h3
 exact hK _ _ (hk G hn _ _ ⟨lQ,tY,hw,hI⟩)
end
end Go.AW
namespace Go.AW
open Go
section
variable {P:Program} {N:eZ} {st:St} {Q:Exit -> St -> Prop} {all:Array Oper} {rest:List Oper} {d:Nat} {ty:TypeId} {pos:String} {af:Array Edge}
theorem dy.bf{c:Operand}{x y:Code}(hc:bW st c = some (.v (.bool true)))(h:dy P N x st Q):dy P N (.cond c x y) st Q:=dy.cond hc (fun _=>h) (fun h=>by cases h)
theorem dy.dA{c:Operand}{x y:Code}(hc:bW st c = some (.v (.bool false)))(h:dy P N y st Q):dy P N (.cond c x y) st Q:=dy.cond hc (fun h=>by cases h) (fun _=>h)
section ints
variable {dst:Option Nat} {g:Option (Nat × Bool)} {t t':TypeId} {x y:Operand} {a b:Int}
theorem Y.qb(hx:bW st x = some (.v (.int .i64 a)))(hy:bW st y = some (.v (.int .i64 b)))(hr:-9223372036854775808 <= a + b /\ a + b <= 9223372036854775807):Yields P N st ⟨dst,.binOp .add t x y t',ty,pos,af,g⟩ (.v (.int .i64 (a + b))) :=
 Y.qa hx hy (IntWalk.i64_in _ hr)
theorem Y.wc(hx:bW st x = some (.v (.int .i64 a)))(hy:bW st y = some (.v (.int .i64 b)))(hr:-9223372036854775808 <= a - b /\ a - b <= 9223372036854775807):Yields P N st ⟨dst,.binOp .sub t x y t',ty,pos,af,g⟩ (.v (.int .i64 (a - b))) :=
 Y.wb hx hy (IntWalk.i64_in _ hr)
theorem Y.zj(hx:bW st x = some (.v (.int .i64 a)))(hy:bW st y = some (.v (.int .i64 b)))(hr:-9223372036854775808 <= a * b /\ a * b <= 9223372036854775807):Yields P N st ⟨dst,.binOp .mul t x y t',ty,pos,af,g⟩ (.v (.int .i64 (a * b))) :=
 Y.zi hx hy (IntWalk.i64_in _ hr)
theorem Y.zq(hx:bW st x = some (.v (.int .i64 a)))(hy:bW st y = some (.v (.int .i64 b)))(hr:0 <= a /\ a <= 9223372036854775807 /\ 1 <= b):Yields P N st ⟨dst,.binOp .quo t x y t',ty,pos,af,g⟩ (.v (.int .i64 (a / b))) :=
 Y.zp hx hy om (IntWalk.i64_quo a b hr)
theorem Y.zt{k:IntKind}(hx:bW st x = some (.v (.int k a)))(hy:bW st y = some (.v (.int k b)))(hr:0 <= a /\ 1 <= b):Yields P N st ⟨dst,.binOp .rem t x y t',ty,pos,af,g⟩ (.v (.int k (a % b))) :=
 Y.zs hx hy om (IntWalk.rem_in a b hr.1)
end ints
theorem v3(x:X):dT [] x = x:=rfl
theorem nz(st:St):oG st [] [] [] = st:=by
 have h1:∀ (l:List (Nat × X)),l.map (fun p=>(p.1,AW.dT [] p.2)) = l:=by
  intro l
  induction l with
  | nil=>rfl
  | cons p r ih=>simp [v3]
 have h2:∀ ob:Obj,ob.dT [] = ob:=by
  intro ob
  cases ob with
  | cells xs =>
   have:xs.map (AW.dT []) = xs:=by
    induction xs with
    | nil=>rfl
    | cons x r ih=>simp [ih,v3]
   simp [Obj.dT,this]
  | rows=>rfl
  | xy=>rfl
  | gone=>rfl
  | hole=>rfl
 have h3:∀ (l:List (Nat × Obj)),l.map (fun p=>(p.1,p.2.dT [])) = l:=by
  intro l
  induction l with
  | nil=>rfl
  | cons p r ih=>simp [h2]
 cases st
 simp [oG,St.dT,loose,dE,h1,h3]
def qF(st : St)(ν : Nat → Nat) : Nat → List Obj → Prop
 | _,[]=>True
 | j,ob :: r=>look st.aD (ν j) = some (ob.gy ν) /\ qF st ν (j + 1) r
theorem qF.get{ν : Nat → Nat} : ∀ {aD : List Obj} {i : Nat}, qF st ν i aD → ∀ j ob, aD[j]? = some ob → look st.aD (ν (i + j)) = some (ob.gy ν)
 | [],_,_,_,_,h=>by simp at h
 | o :: r,i,h,j,ob,hj=>by
  simp only [qF] at h
  cases j with
  | zero=>simp at hj; subst hj; simpa using h.1
  | succ j =>
   have:=qF.get h.2 j ob (by simpa using hj)
   rw [show i + (j + 1) = i + 1 + j by omega]; exact this
theorem aS.oH{f : FuncId}{cN : Array Operand}{o6 : Array TypeId}{xs args : List X}{Q' : X → List Obj → Prop}(kC : aU P f = true)(fR : ay P f args [] [] Q')
  (gf:lr st cN.toList = some xs) (fe:ed st [] (bZ []) xs args) (hd:d < N.n)
  (k:∀ r,Q' r [] -> r.lt 0 = true /\ aS P N all rest (st.put d (r.gy (bZ []))) Q) :
  aS P N all (⟨some d,.call ⟨.value (.func f),cN,o6⟩,ty,pos,af,none⟩ :: rest) st Q:=by
 refine aS.call [] [] kC fR gf fe (fun j ob h=>by simp at h) rfl List.nodup_nil (fun _ h=>by cases h) (fun _ h=>by cases h) (fun _ h=>by cases h) hd ?_
 intro r aJ hq hl
 have:aJ = []:=List.eq_nil_of_length_eq_zero hl
 subst this
 obtain ⟨h1,h2⟩:=k r hq
 refine ⟨⟨h1,fun _ h=>(by cases h),.inl rfl⟩,?_⟩
 rw [nz]; exact h2
theorem aS.Oc{f : FuncId}{cN : Array Operand}{o6 : Array TypeId}{xs args : List X}{R R' : X}(kC : aU P f = true)(fR : ay P f args [] [] (fun r o => r = R ∧ o = []))
  (gf:lr st cN.toList = some xs) (fe:ed st [] (bZ []) xs args) (hd:d < N.n) (gG:R.lt 0 = true) (hR:R.gy (bZ []) = R')
  (k:aS P N all rest (st.put d R') Q):aS P N all (⟨some d,.call ⟨.value (.func f),cN,o6⟩,ty,pos,af,none⟩ :: rest) st Q:=by
 refine aS.oH kC fR gf fe hd ?_
 rintro r ⟨rfl,_⟩
 rw [hR]; exact ⟨gG,k⟩
theorem aS.Od{f : FuncId}{cN : Array Operand}{o6 : Array TypeId}{xs args : List X}{R R' : X}(L : List Nat)(kC : aU P f = true)(fR : ay P f args [] [] (fun r o => r = R ∧ o = []))
  (gf:lr st cN.toList = some xs) (fe:ed st L (bZ []) xs args) (h0:∀ o ∈ L,∃ ob,look st.aD o = some ob /\ jy ob) (hd:d < N.n) (gG:R.lt 0 = true) (hR:R.gy (bZ []) = R') (hp:R.plain)
  (k:aS P N all rest (st.put d R') Q):aS P N all (⟨some d,.call ⟨.value (.func f),cN,o6⟩,ty,pos,af,none⟩ :: rest) st Q:=by
 refine aS.call [] L kC fR gf fe (fun j ob h=>by simp at h) rfl List.nodup_nil (fun _ _ h=>by cases h) h0 (fun _ h=>by cases h) hd ?_
 rintro r aJ ⟨rfl,rfl⟩ hl
 refine ⟨⟨gG,fun _ h=>(by cases h),.inr ⟨hp,fun _ h=>(by cases h)⟩⟩,?_⟩
 rw [nz,hR]; exact k
theorem aS.bI{f : FuncId}{cN : Array Operand}{o6 : Array TypeId}{xs args : List X}{aD : List Obj}{F : List Nat}{Q' : X → List Obj → Prop}(ν L : List Nat)(kC : aU P f = true)(fR : ay P f args aD F Q')
  (gf:lr st cN.toList = some xs) (fe:ed st L (bZ ν) xs args) (ra:qF st (bZ ν) 0 aD) (hlen:ν.length = aD.length) (Ey:ν.Nodup) (HJ:∀ o ∈ L,o ∉ ν)
  (h0:∀ o ∈ L,∃ ob,look st.aD o = some ob /\ jy ob) (vh:∀ o ∈ loose ν F,N.F.elem o = false) (hd:d < N.n)
  (k:∀ r aJ,Q' r aJ -> aJ.length = aD.length -> (r.lt aD.length = true /\ (∀ ob ∈ aJ,ob.lt aD.length = true) /\ (L = [] \/ (r.plain /\ ∀ ob ∈ aJ,ob.plain))) /\ aS P N all rest ((oG st ν F aJ).put d (r.gy (bZ ν))) Q) :
  aS P N all (⟨some d,.call ⟨.value (.func f),cN,o6⟩,ty,pos,af,none⟩ :: rest) st Q :=
 aS.call ν L kC fR gf fe (fun j ob h=>by have:=ra.get j ob h; rwa [Nat.zero_add] at this) hlen Ey HJ h0 vh hd k
theorem br{α:Type}{s:Nat}{f:α -> List X}{l:List α}(h:∀ a,X.b5 (f a) = true):jy (.rows s (l.map f)):=by
 intro r hr
 obtain ⟨a,_,rfl⟩:=List.mem_map.1 hr
 exact h a
end
end Go.AW
namespace Go.AW
open Go
section
variable {P:Program} {N:eZ} {st:St} {Q:Exit -> St -> Prop} {K:St -> Prop} {all:Array Oper} {rest:List Oper} {d:Nat} {ty:TypeId} {pos:String} {af:Array Edge}
def iq(P:Program)(N:eZ)(all:Array Oper)(l:List Oper)(st:St)(K:St -> Prop):Prop :=
 ∀ G:Ctx,G.fn = N -> ∀ a w,cF G st a w -> wpStill P all w (fun a'=>∃ aW,K aW /\ cF G aW a' w) l a
theorem cF.drew{G:Ctx}{a:Act}{w:World}(h:cF G st a w):cF G st a { w with drawn:=w.drawn + 1 }:=by
 obtain ⟨E,RR,rfl,hi⟩:=h
 exact ⟨{ E with w:=E.w.drew },RR,rfl,hi.Bw (di.drew G E) rfl⟩
theorem iq.nil(h:K st):iq P N all [] st K:=fun _ _ _ _ hh=>⟨st,h,hh⟩
theorem iq.val{op:Op}{x:X}(hy:Yields P N st ⟨some d,op,ty,pos,af,none⟩ x)(hd:d < N.n)(k:iq P N all rest (st.put d x) K):iq P N all (⟨some d,op,ty,pos,af,none⟩ :: rest) st K:=by
 intro G hn a w hh
 obtain ⟨E,RR,rfl,hi⟩:=hh
 obtain ⟨u,hr,hx⟩:=hy G E RR a hn hi
 unfold wpStill
 rw [if_pos (by simp [Region.wanted])]
 simp only [Oper.still,hr,Oper.stillUpon_value]
 exact k G hn _ _ ⟨E,_,rfl,hi.gZ (hn ▸ hd) hx⟩
theorem iq.split{b:Bool}(hx:look st.aC d = some (.v (.bool b)))(ht:b = true -> iq P N all rest (st.put d (.v (.bool true))) K)(hf:b = false -> iq P N all rest (st.put d (.v (.bool false))) K):iq P N all rest st K:=by
 have:Le st (st.put d (.v (.bool b))):=⟨gd.cons hx (fun _ _ h=>h),fun _ _ h=>h⟩
 intro G hn a w hh
 cases b
 ·exact hf rfl G hn a w (this.holds hh)
 ·exact ht rfl G hn a w (this.holds hh)
theorem CP{G:Ctx}{E:Env}{RR:Own -> List Nat}{a:Act}(hi:Inv G E RR st a){b:Bool}(hd:d < G.fn.n)(hx:look st.aC d = some (.v (.bool b))):a.tmps[d]? = some (.bool b):=by
 have hs:=hi.aC d _ hx
 simp only [RX] at hs
 have fB:d < a.tmps.size:=by rw [hi.tmps]; exact hd
 have:=hs.1
 simp only [Array.getD,fB,dif_pos] at this
 rw [Array.getElem?_eq_getElem fB]
 exact congrArg some this
theorem iq.aX{dst : Option Nat}{op : Op}{j : Nat}{want : Bool}(hj : (all[j]?).bind (·.dst) = some d)(hd : d < N.n)(hx : look st.aC d = some (.v (.bool want)))
  (k:iq P N all (⟨dst,op,ty,pos,af,none⟩ :: rest) st K):iq P N all (⟨dst,op,ty,pos,af,some (j,want)⟩ :: rest) st K:=by
 intro G hn a w hh
 have hk:=k G hn a w hh
 obtain ⟨E,RR,rfl,hi⟩:=hh
 have hv:=CP hi (by rw [hn]; exact hd) hx
 have hw:Region.wanted ⟨dst,op,ty,pos,af,some (j,want)⟩ (yielded all a.tmps) = true:=by
  simp [Region.wanted,yielded,hj,hv]
 unfold wpStill at hk ⊢
 rw [if_pos hw]
 rw [if_pos (by simp [Region.wanted])] at hk
 exact hk
theorem dy.px{id : Nat}{l : List Oper}(n : Nat)(hm : P.follows .mixedOrders = true)(hB : Region.lexTailB .any l.toArray n = true)
  (h:iq P N l.toArray (l.take n) st (fun aW=>aS P N l.toArray (l.drop n) aW Q)):dy P N (.region id l.toArray true) st Q:=by
 intro G hn a w hh
 refine wp_region_still_tail n hm hB ?_
 have h1:=h G hn a _ hh.drew
 have mono:∀ (l':List Oper) (a:Act) {w:World} {K1 K2:Act -> Prop},(∀ a,K1 a -> K2 a) -> wpStill P l.toArray w K1 l' a -> wpStill P l.toArray w K2 l' a:=by
  intro l'
  induction l' with
  | nil=>intro a w K1 K2 hk h; exact hk _ h
  | cons o r ih =>
   intro a w K1 K2 hk h
   unfold wpStill at h ⊢
   split
   ·rename_i hw; rw [if_pos hw] at h; exact Oper.still_mono (fun a' h'=>ih a' hk h') h
   ·rename_i hw; rw [if_neg hw] at h; exact ih _ hk h
 exact mono _ _ (fun a' ⟨aW,hk,iH⟩=>hk G hn a' _ iH) h1
theorem dy.kb{id : Nat}{l : List Oper}(hm : P.follows .mixedOrders = true)(hB : Region.lexB .any l.toArray = true)
  (h:iq P N l.toArray l st (fun aW=>Q .normal aW)):dy P N (.region id l.toArray true) st Q:=by
 intro G hn a w hh
 refine wp_region_still_lit hm hB ?_
 have h1:=h G hn a _ hh.drew
 have mono:∀ (l':List Oper) (a:Act) {w:World} {K1 K2:Act -> Prop},(∀ a,K1 a -> K2 a) -> wpStill P l.toArray w K1 l' a -> wpStill P l.toArray w K2 l' a:=by
  intro l'
  induction l' with
  | nil=>intro a w K1 K2 hk h; exact hk _ h
  | cons o r ih =>
   intro a w K1 K2 hk h
   unfold wpStill at h ⊢
   split
   ·rename_i hw; rw [if_pos hw] at h; exact Oper.still_mono (fun a' h'=>ih a' hk h') h
   ·rename_i hw; rw [if_neg hw] at h; exact ih _ hk h
 exact mono _ _ (fun a' ⟨aW,hk,iH⟩=>⟨aW,iH,hk⟩) h1
end
end Go.AW
namespace Go.AW
open Go
section
variable {P:Program} {N:eZ} {st aW:St} {Q:Exit -> St -> Prop} {K:St -> Prop} {all:Array Oper} {rest:List Oper} {d:Nat} {ty:TypeId} {pos:String} {af:Array Edge}
theorem dy.a8{c : Operand}{x y : Code}{p : Prop}{inst : Decidable p}(hc : bW st c = some (.v (.bool (decide p))))(ht : p → dy P N x st Q)(hf : ¬ p → dy P N y st Q) :
  dy P N (.cond c x y) st Q:=dy.cond hc (fun h=>ht (of_decide_eq_true h)) (fun h=>hf (of_decide_eq_false h))
theorem dy.kM{c : Operand}{x y : Code}{p : Prop}{inst : Decidable p}(hc : bW st c = some (.v (.bool (!decide p))))(ht : ¬ p → dy P N x st Q)(hf : p → dy P N y st Q) :
 dy P N (.cond c x y) st Q:=dy.cond hc (fun h=>ht (by simpa using h)) (fun h=>hf (by simpa using h))
theorem Le.test{b:Bool}(hx:look st.aC d = some (.v (.bool b))):Le st (st.put d (.v (.bool b))):=⟨gd.cons hx (fun _ _ h=>h),fun _ _ h=>h⟩
theorem dy.E8{x y : Code}{b : Bool}(hc : look st.aC d = some (.v (.bool b)))(ht : b = true → dy P N x (st.put d (.v (.bool true))) Q)(hf : b = false → dy P N y (st.put d (.v (.bool false))) Q) :
  dy P N (.cond (.tmp d) x y) st Q:=by
 refine dy.cond (b:=b) hc (fun h=>?_) (fun h=>?_)
 ·subst h; exact (ht rfl).le (Le.test hc)
 ·subst h; exact (hf rfl).le (Le.test hc)
theorem dy.bT{x y : Code}{p : Prop}{inst : Decidable p}(hc : look st.aC d = some (.v (.bool (decide p))))(ht : p → dy P N x (st.put d (.v (.bool true))) Q)(hf : ¬ p → dy P N y (st.put d (.v (.bool false))) Q) :
  dy P N (.cond (.tmp d) x y) st Q:=dy.E8 hc (fun h=>ht (of_decide_eq_true h)) (fun h=>hf (of_decide_eq_false h))
theorem aS.aG{p : Prop}{inst : Decidable p}(hx : look st.aC d = some (.v (.bool (decide p))))
  (ht:p -> aS P N all rest (st.put d (.v (.bool true))) Q) (hf:¬ p -> aS P N all rest (st.put d (.v (.bool false))) Q):aS P N all rest st Q :=
 aS.split hx (fun h=>ht (of_decide_eq_true h)) (fun h=>hf (of_decide_eq_false h))
theorem aS.sn{p : Prop}{inst : Decidable p}(hx : look st.aC d = some (.v (.bool (!decide p))))
 (ht:¬ p -> aS P N all rest (st.put d (.v (.bool true))) Q) (hf:p -> aS P N all rest (st.put d (.v (.bool false))) Q):aS P N all rest st Q :=
 aS.split hx (fun h=>ht (by simpa using h)) (fun h=>hf (by simpa using h))
theorem iq.aG{p : Prop}{inst : Decidable p}(hx : look st.aC d = some (.v (.bool (decide p))))
  (ht:p -> iq P N all rest (st.put d (.v (.bool true))) K) (hf:¬ p -> iq P N all rest (st.put d (.v (.bool false))) K):iq P N all rest st K :=
 iq.split hx (fun h=>ht (of_decide_eq_true h)) (fun h=>hf (of_decide_eq_false h))
theorem dy.join{x y:Code}{ι:Type}(J:ι -> St)(I:ι -> Prop)(hx:dy P N x st (iW (fun aW=>∃ i,I i /\ Le aW (J i)) Q))(hy:∀ i,I i -> dy P N y (J i) Q):dy P N (.seq x y) st Q:=by
 refine dy.seq (hx.mono ?_)
 intro e CQ h
 cases e with
 | normal=>obtain ⟨i,hI,hle⟩:=h; exact (hy i hI).le hle
 | _=>exact h
theorem ed.ai{L:List Nat}{ν:Nat -> Nat}{x:X}{xs ys:List X}(h:x.free = true)(he:x.gy ν = x)(hs:ed st L ν xs ys):ed st L ν (x :: xs) (x :: ys):=by
 have:=xH.same (st:=st) (L:=L) (ν:=ν) h
 rw [he] at this
 exact .cons this hs
def bN(rs:List (List X)):Prop:=∀ r ∈ rs,X.b5 r = true
theorem bN.map{α:Type}{f:α -> List X}{l:List α}(h:∀ a,X.b5 (f a) = true):bN (l.map f):=by
 intro r hr
 obtain ⟨a,_,rfl⟩:=List.mem_map.1 hr
 exact h a
theorem lu{α : Type}{f : α → List X}(h : ∀ a, X.fj (f a)) : ∀ l : List α, X.mo (l.map f)
 | []=>by simp [X.mo]
 | a :: r=>by simp only [List.map_cons,X.mo]; exact ⟨h a,lu h r⟩
theorem Sh.freeze{s:Nat}{rows:List (List X)}(hx:look st.aC d = some (.dn s rows))(hf:bN rows):Sh N st (st.put d (.fz s rows)):=by
 intro G hn a w hh
 obtain ⟨E,RR,rfl,hi⟩:=hh
 have hv:=hi.aC d _ hx
 have js:=hi.nodup (.slot d)
 simp only [RX] at hv
 obtain ⟨hu,base,cap,hc,cX⟩:=hv
 rcases cX with ⟨h1,h2,h3⟩ | ⟨b,off,cs,ty,R',hb,hw,hl,ho,hφ,jF,gK⟩
 ·refine ⟨E,_,rfl,hi.relabel (d:=d) (R:=[]) ?_ List.nodup_nil (fun _ h=>by cases h)⟩
  simp only [RX]
  exact ⟨trivial,hu,base,cap,hc,.inl ⟨h1,h2⟩⟩
 ·have Ex:=cE.free hf jF
  subst Ex
  have oD:b ∈ RR (.slot d):=by rw [gK]; simp
  have lM:=hi.no d
  have hle:∀ c i v,E.φ c i = some v -> (if c = b then cs[i]? else E.φ c i) = some v:=by
   intro c i v h
   by_cases tz:c = b
   ·subst tz; rw [hφ i] at h; cases h
   ·rw [if_neg tz]; exact h
  have g9:∀ R:List Nat,b ∉ R -> E.On { E with φ:=fun c i=>if c = b then cs[i]? else E.φ c i } R:=by
   intro R Ks
   refine ⟨hle,fun c q6=>⟨rfl,fun h i=>?_⟩⟩
   have:c ≠ b:=fun e=>Ks (e ▸ q6)
   show (if c = b then cs[i]? else E.φ c i) = none
   rw [if_neg this]; exact h i
  have KC:∀ p,b ∉ fA RR (.slot d) [] p:=by
   intro p hp
   unfold fA at hp
   split at hp
   ·cases hp
   ·rename_i h; exact hi.apart _ _ h b hp oD
  have Oe:Inv G { E with φ:=fun c i=>if c = b then cs[i]? else E.φ c i } (fA RR (.slot d) []) (st.put d .no) a :=
   {lM with
    lh:=by
     intro c i v h
     change (if c = b then cs[i]? else E.φ c i) = some v at h
     by_cases tz:c = b
     ·subst tz; rw [if_pos rfl] at h
      show E.w.cell? _ = _
      rw [dq hw]; exact h
     ·rw [if_neg tz] at h; exact hi.lh c i v h
    aC:=fun q x hx=>RX.mono x _ _ (g9 _ (KC _)) (fun _ _=>rfl) (lM.aC q x hx)
    aD:=fun o ob aY=>dh.mono (g9 _ (KC _)) rfl (fun _ _=>rfl) (lM.aD o ob aY)
    φ0:=fun c i v h=>hle c i v (hi.φ0 c i v h)
    grow:=by
     intro c i v h
     change (if c = b then cs[i]? else E.φ c i) = some v at h
     by_cases tz:c = b
     ·subst tz; exact .inr (hi.own _ _ oD).2
     ·rw [if_neg tz] at h; exact hi.grow c i v h }
  have h4:=Oe.relabel (d:=d) (x:=.fz s rows) (R:=[]) (by
   simp only [RX]
   refine ⟨trivial,hu,base,cap,hc,.inr ⟨b,off,hb,hl,?_⟩⟩
   refine cE.freeze (E:=E) (fun i v h=>?_) hle jF
   show (if b = b then cs[i]? else E.φ b i) = some v
   rw [if_pos rfl]; exact h) List.nodup_nil (fun _ h=>by cases h)
  refine ⟨{ E with φ:=fun c i=>if c = b then cs[i]? else E.φ c i },fA (fA RR (.slot d) []) (.slot d) [],rfl,{ h4 with aC:=fun q x hx=>?_,aD:=h4.aD }⟩
  refine h4.aC q x ?_
  simp only [St.put,look] at hx ⊢
  cases hq:Nat.beq d q with
  | true=>rw [hq] at hx; simpa using hx
  | false=>rw [hq] at hx; simpa using hx
end
end Go.AW
namespace Go.AW
open Go
mutual
def X.mD : X → X
 | .dn s rows=>.fz s (X.lv rows)
 | .agg xs=>.agg (X.jt xs)
 | .tup xs=>.tup (X.jt xs)
 | .v u=>.v u
 | .no=>.no
 | .fz s rows=>.fz s rows
 | .ptr o s i k=>.ptr o s i k
 | .aR o s lo n=>.aR o s lo n
 | .mref o=>.mref o
 | .fp row k=>.fp row k
 | .jv f a b=>.jv f a b
def X.jt : List X → List X
 | []=>[]
 | x :: r=>x.mD :: X.jt r
def X.lv : List (List X) → List (List X)
 | []=>[]
 | r :: rs=>X.jt r :: X.lv rs
end
theorem X.lT : ∀ xs : List X, (X.jt xs).length = xs.length
 | []=>rfl
 | _ :: r=>by simp [X.jt,X.lT r]
theorem X.lU : ∀ rs : List (List X), (X.lv rs).length = rs.length
 | []=>rfl
 | _ :: r=>by simp [X.lv,X.lU r]
theorem cC.lv{s : Nat} : ∀ {rs : List (List X)}, cC s rs → cC s (X.lv rs)
 | [],_=>fun _ h=>by cases h
 | r :: rs,h=>by
  intro q hq
  simp only [X.lv,List.mem_cons] at hq
  rcases hq with rfl | hq
  ·rw [X.lT]; exact h r (by simp)
  ·exact cC.lv (fun q hq=>h q (by simp [hq])) q hq
mutual
theorem X.E9 : ∀ {x : X}, x.free = true → x.mD = x
 | .v _,_ | .no,_ | .fz ..,_ | .ptr ..,_ | .aR ..,_ | .mref _,_ | .fp ..,_ | .jv ..,_=>rfl
 | .dn ..,h=>by cases h
 | .agg xs,h=>by simp only [X.mD]; rw [X.lx (xs:=xs) h]
 | .tup xs,h=>by simp only [X.mD]; rw [X.lx (xs:=xs) h]
theorem X.lx : ∀ {xs : List X}, X.b5 xs = true → X.jt xs = xs
 | [],_=>rfl
 | x :: r,h=>by
  simp only [X.b5,Bool.and_eq_true] at h
  simp only [X.jt]
  rw [X.E9 h.1,X.lx h.2]
end
theorem X.ja : ∀ {rs : List (List X)}, bN rs → X.lv rs = rs
 | [],_=>rfl
 | r :: rs,h=>by
  simp only [X.lv]
  rw [X.lx (h r (by simp)),X.ja (fun q hq=>h q (by simp [hq]))]
mutual
theorem X.EA : ∀ {x : X}, x.nr = true → x.mD.nr = true
 | .v _,_ | .no,_ | .fz ..,_ | .fp ..,_=>rfl
 | .dn ..,_=>rfl
 | .agg xs,h=>X.tA (xs:=xs) h
 | .tup xs,h=>X.tA (xs:=xs) h
 | .jv ..,h=>h
 | .ptr ..,h=>h
 | .aR ..,h=>h
 | .mref _,h=>h
theorem X.tA : ∀ {xs : List X}, X.iG xs = true → X.iG (X.jt xs) = true
 | [],_=>rfl
 | x :: r,h=>by
  simp only [X.iG,Bool.and_eq_true] at h
  simp only [X.jt,X.iG,Bool.and_eq_true]
  exact ⟨X.EA h.1,X.tA h.2⟩
end
def Env.BF(E E':Env)(R:List Nat):Prop :=
 E'.w = E.w /\ E'.β = E.β /\ (∀ c i v,E.φ c i = some v -> E'.φ c i = some v) /\ ∀ b ∈ R,∀ i v,E.w.cell? ⟨b,i,none⟩ = some v -> E'.φ b i = some v
theorem Env.BF.sub{E E':Env}{R R':List Nat}(h:E.BF E' R)(hs:∀ b ∈ R',b ∈ R):E.BF E' R':=⟨h.1,h.2.1,h.2.2.1,fun b hb=>h.2.2.2 b (hs b hb)⟩
theorem Env.BF.on{E E':Env}{R:List Nat}(h:E.BF E' R):E.On E' []:=⟨h.2.2.1,fun _ h=>by cases h⟩
mutual
theorem RX.mD{E E' : Env} : ∀ (x : X) (c : Value) (R : List Nat), E.BF E' R → RX E x c R → RX E' x.mD c []
 | .v u,c,R,hE,h=>by simp only [RX,X.mD] at h ⊢; exact ⟨h.1,trivial⟩
 | .no,c,R,hE,h=>by simp only [RX,X.mD]
 | .fz s rows,c,R,hE,h=>by
  have h0:R = []:=by simp only [RX] at h; exact h.1
  subst h0; exact RX.mono _ _ _ hE.on (fun _ _=>by rw [hE.2.1]) h
 | .ptr o s i k,c,R,hE,h=>by
  have h0:R = []:=by simp only [RX] at h; exact h.1
  subst h0; exact RX.mono _ _ _ hE.on (fun _ _=>by rw [hE.2.1]) h
 | .aR o s lo n,c,R,hE,h=>by
  have h0:R = []:=by simp only [RX] at h; exact h.1
  subst h0; exact RX.mono _ _ _ hE.on (fun _ _=>by rw [hE.2.1]) h
 | .mref o,c,R,hE,h=>by
  have h0:R = []:=by simp only [RX] at h; exact h.1
  subst h0; exact RX.mono _ _ _ hE.on (fun _ _=>by rw [hE.2.1]) h
 | .fp row k,c,R,hE,h=>by
  have h0:R = []:=by simp only [RX] at h; exact h.1
  subst h0; exact RX.mono _ _ _ hE.on (fun _ _=>by rw [hE.2.1]) h
 | .jv fn a b,c,R,hE,h=>by
  have h0:R = []:=by simp only [RX] at h; exact h.1
  subst h0; exact RX.mono _ _ _ hE.on (fun _ _=>by rw [hE.2.1]) h
 | .dn s rows,c,R,hE,h=>by
  simp only [RX,X.mD] at h ⊢
  obtain ⟨hu,base,cap,hc,hh⟩:=h
  refine ⟨trivial,hu.lv,base,cap,by rw [X.lU]; exact hc,?_⟩
  rcases hh with ⟨h1,h2,h3⟩ | ⟨b,off,cs,ty,R',hb,hw,hl,ho,hφ,hr,hR⟩
  ·subst h1; exact .inl ⟨rfl,h2⟩
  ·subst hR
   refine .inr ⟨b,off,hb,by rw [X.lU]; exact hl,?_⟩
   exact cE.mD rows cs b off R' (fun i v hi=>hE.2.2.2 b (by simp) i v (by rw [dq hw]; exact hi)) (hE.sub (fun _ h=>by simp [h])) hr
 | .agg xs,c,R,hE,h=>by
  simp only [RX,X.mD] at h ⊢
  obtain ⟨cs,hc,hs⟩:=h
  exact ⟨cs,hc,b6.mD xs _ R hE hs⟩
 | .tup xs,c,R,hE,h=>by
  simp only [RX,X.mD] at h ⊢
  obtain ⟨cs,hc,hs⟩:=h
  exact ⟨cs,hc,eC.mD xs _ R hE hs⟩
theorem b6.mD{E E' : Env} : ∀ (xs : List X) (cs : List Value) (R : List Nat), E.BF E' R → b6 E xs cs R → b6 E' (X.jt xs) cs []
 | [],cs,R,_,h=>by simp only [b6,X.jt] at h ⊢; exact ⟨h.1,trivial⟩
 | x :: r,cs,R,hE,h=>by
  simp only [b6,X.jt] at h ⊢
  obtain ⟨c,dg,R₁,R₂,hc,hs,h1,h2,hR⟩:=h
  subst hR
  exact ⟨c,dg,[],[],hc,hs,RX.mD x c R₁ (hE.sub (fun _ h=>cM h)) h1,b6.mD r dg R₂ (hE.sub (fun _ h=>cu h)) h2,rfl⟩
theorem eC.mD{E E' : Env} : ∀ (xs : List X) (cs : List Value) (R : List Nat), E.BF E' R → eC E xs cs R → eC E' (X.jt xs) cs []
 | [],cs,R,_,h=>by simp only [eC,X.jt] at h ⊢; exact ⟨h.1,trivial⟩
 | x :: r,cs,R,hE,h=>by
  simp only [eC,X.jt] at h ⊢
  obtain ⟨c,dg,R₁,R₂,hc,h1,h2,hR⟩:=h
  subst hR
  exact ⟨c,dg,[],[],hc,RX.mD x c R₁ (hE.sub (fun _ h=>cM h)) h1,eC.mD r dg R₂ (hE.sub (fun _ h=>cu h)) h2,rfl⟩
theorem RO.mD{E E' : Env} : ∀ (xs : List X) (cs : Array Value) (b off : Nat) (R : List Nat), (∀ i v, cs[i]? = some v → E'.φ b i = some v) → E.BF E' R → X.iG xs = true → RO E xs cs off R → RF E' (X.jt xs) b off
 | [],_,_,_,_,_,_,_,_=>by simp [RF,X.jt]
 | x :: r,cs,b,off,R,hb,hE,hn,h=>by
  simp only [RO] at h
  obtain ⟨u,R₁,R₂,hu,hs,hx,hr,hR⟩:=h
  subst hR
  simp only [X.iG,Bool.and_eq_true] at hn
  simp only [X.jt,RF]
  exact ⟨⟨u,hb _ _ hu,hs,X.EA hn.1,RX.mD x u R₁ (hE.sub (fun _ h=>cM h)) hx⟩,RO.mD r cs b (off + 1) R₂ hb (hE.sub (fun _ h=>cu h)) hn.2 hr⟩
theorem cE.mD{E E' : Env} : ∀ (rs : List (List X)) (cs : Array Value) (b off : Nat) (R : List Nat), (∀ i v, cs[i]? = some v → E'.φ b i = some v) → E.BF E' R → cE E rs cs off R → kD E' (X.lv rs) b off
 | [],_,_,_,_,_,_,_=>by simp [kD,X.lv]
 | r :: rs,cs,b,off,R,hb,hE,h=>by
  simp only [cE] at h
  obtain ⟨R₁,R₂,hn,hx,hr,hR⟩:=h
  subst hR
  simp only [X.lv,kD]
  refine ⟨RO.mD r cs b off R₁ hb (hE.sub (fun _ h=>cM h)) hn hx,?_⟩
  rw [X.lT]
  exact cE.mD rs cs b _ R₂ hb (hE.sub (fun _ h=>cu h)) hr
end
section
variable {N:eZ} {st:St} {d:Nat}
theorem Sh.py{x y:X}(hx:look st.aC d = some x)(he:x.mD = y):Sh N st (st.put d y):=by
 intro G hn a w hh
 obtain ⟨E,RR,rfl,hi⟩:=hh
 have hv:=hi.aC d _ hx
 have lM:=hi.no d
 have K9:∀ p,∀ b ∈ fA RR (.slot d) [] p,b ∉ RR (.slot d):=by
  intro p b hp hb
  unfold fA at hp
  split at hp
  ·cases hp
  ·rename_i h; exact hi.apart _ _ h b hp hb
 -- what is frozen already is in no owned block
 have hle:∀ c i v,E.φ c i = some v -> (E.cI (fun b=>b ∈ RR (.slot d))).φ c i = some v:=by
  intro c i v h
  by_cases hc:c ∈ RR (.slot d)
  ·rw [iU E (LB:=fun b=>b ∈ RR (.slot d)) hc]; exact hi.lh c i v h
  ·rw [dY E (LB:=fun b=>b ∈ RR (.slot d)) hc]; exact h
 have g9:∀ p,E.On (E.cI (fun b=>b ∈ RR (.slot d))) (fA RR (.slot d) [] p):=by
  intro p
  refine ⟨hle,fun c hc=>⟨rfl,fun h i=>?_⟩⟩
  rw [dY E (LB:=fun b=>b ∈ RR (.slot d)) (K9 p c hc)]; exact h i
 have hf:E.BF (E.cI (fun b=>b ∈ RR (.slot d))) (RR (.slot d)) :=
  ⟨rfl,rfl,hle,fun b hb i v h=>by rw [iU E (LB:=fun b=>b ∈ RR (.slot d)) hb]; exact h⟩
 have Oe:Inv G (E.cI (fun b=>b ∈ RR (.slot d))) (fA RR (.slot d) []) (st.put d .no) a :=
  {lM with
   lh:=by
    intro c i v h
    by_cases hc:c ∈ RR (.slot d)
    ·rw [iU E (LB:=fun b=>b ∈ RR (.slot d)) hc] at h; exact h
    ·rw [dY E (LB:=fun b=>b ∈ RR (.slot d)) hc] at h; exact hi.lh c i v h
   aC:=fun q x hx=>RX.mono x _ _ (g9 _) (fun _ _=>rfl) (lM.aC q x hx)
   aD:=fun o ob aY=>dh.mono (g9 _) rfl (fun _ _=>rfl) (lM.aD o ob aY)
   φ0:=fun c i v h=>hle c i v (hi.φ0 c i v h)
   grow:=by
    intro c i v h
    by_cases hc:c ∈ RR (.slot d)
    ·exact .inr (hi.own _ _ hc).2
    ·rw [dY E (LB:=fun b=>b ∈ RR (.slot d)) hc] at h; exact hi.grow c i v h }
 have h4:=Oe.relabel (d:=d) (x:=y) (R:=[]) (he ▸ RX.mD x _ _ hf hv) List.nodup_nil (fun _ h=>by cases h)
 refine ⟨E.cI (fun b=>b ∈ RR (.slot d)),fA (fA RR (.slot d) []) (.slot d) [],rfl,{ h4 with aC:=fun q x hx=>?_,aD:=h4.aD }⟩
 refine h4.aC q x ?_
 simp only [St.put,look] at hx ⊢
 cases hq:Nat.beq d q with
 | true=>rw [hq] at hx; simpa using hx
 | false=>rw [hq] at hx; simpa using hx
end
end Go.AW
namespace Go.AW
open Go
section
variable {P:Program} {N:eZ} {st:St} {Q:Exit -> St -> Prop} {all:Array Oper} {rest:List Oper} {d:Nat} {ty:TypeId} {pos:String} {af:Array Edge}
theorem aS.eH{t : TypeId}{x y : Operand}{o s i k m : Nat}{v : X}{ys row : List X}{rs : List (List X)}(sO : List (List X))(ht : TY.size P t = some m)(hx : bW st x = some (.ptr o s i k))(hy : bW st y = some v)(x8 : v.flat = some ys)(hf : X.b5 ys = true)
  (hn:X.iG ys = true) (hm:ys.length = m) (ho:look st.aD o = some (.rows s rs)) (hr:rs[i]? = some row) (hk:k + m <= row.length) (he:rs.set i (kT row k ys) = sO) (kk:aS P N all rest (st.de o (.rows s sO)) Q) :
  aS P N all (⟨none,.store t x y,ty,pos,af,none⟩ :: rest) st Q:=by
 subst he
 exact aS.K5 ht hx hy x8 hf hn hm ho hr hk kk
theorem Sh.KD{s n:Nat}{rows:List (List X)}(o:Nat)(hx:look st.aC d = some (.dn s rows))(hn:n = rows.length)(hF:N.F.elem o = false):Sh N st (((st.kill o).de o (.rows s rows)).put d (.aR o s 0 n)):=by
 subst hn; exact Sh.NH o hx hF
theorem aS.HP{t e s dJ tv : Nat}{z : List Value}{x : Operand}{o lo n : Nat}{rs new : List (List X)}(sO : List (List X))(n' : Nat)(ht : TY.slice P t = some (e, s, dJ))(hz : TY.zero P e = some z)(sJ : Nat.beq z.length s = true)
  (hy:look st.aC tv = some (.dn s new)) (hx:bW (st.put tv .no) x = some (.aR o s lo n)) (ho:look st.aD o = some (.rows s rs)) (qA:lo + n <= rs.length)
  (he:((rs.drop lo).take n) ++ new = sO) (rY:n + new.length = n') (si:n' * dJ <= 140737488355328) (DU:n' <= 4611686018427387904) (hF:N.F.elem o = false) (hd:d < N.n)
  (k:aS P N all rest (((((st.put tv .no).kill o).de o (.rows s sO))).put d (.aR o s 0 n')) Q) :
  aS P N all (⟨some d,.call ⟨.builtin .append,#[x,.tmp tv],#[t,t]⟩,ty,pos,af,none⟩ :: rest) st Q:=by
 subst he rY
 exact aS.append ht hz sJ hy hx ho qA si DU hF hd k
theorem aS.cL{α : Type}{t e s dJ tv : Nat}{z : List Value}{x : Operand}{o lo n : Nat}{rs new : List (List X)}(f : α → List X)(l : List α)(ht : TY.slice P t = some (e, s, dJ))(hz : TY.zero P e = some z)(sJ : Nat.beq z.length s = true)
 (hy:look st.aC tv = some (.dn s new)) (hx:bW (st.put tv .no) x = some (.aR o s lo n)) (ho:look st.aD o = some (.rows s rs)) (qA:lo + n <= rs.length)
 (he:((rs.drop lo).take n) ++ new = l.map f) (rY:n + new.length = l.length) (si:l.length * dJ <= 140737488355328) (DU:l.length <= 4611686018427387904) (hF:N.F.elem o = false) (hd:d < N.n)
 (k:aS P N all rest (((((st.put tv .no).kill o).de o (.rows s (l.map f)))).put d (.aR o s 0 l.length)) Q) :
 aS P N all (⟨some d,.call ⟨.builtin .append,#[x,.tmp tv],#[t,t]⟩,ty,pos,af,none⟩ :: rest) st Q:=aS.HP (l.map f) l.length ht hz sJ hy hx ho qA he rY si DU hF hd k
end
mutual
theorem X.tB{ν : Nat → Nat} : ∀ {x : X}, x.lt 0 = true → x.gy ν = x
 | .v _,_ | .no,_ | .fz ..,_ | .dn ..,_ | .fp ..,_=>rfl
 | .ptr o ..,h=>by simp [X.lt,Nat.blt] at h
 | .aR o ..,h=>by simp [X.lt,Nat.blt] at h
 | .mref o,h=>by simp [X.lt,Nat.blt] at h
 | .agg xs,h=>by simp only [X.gy]; rw [X.oI (xs:=xs) h]
 | .tup xs,h=>by simp only [X.gy]; rw [X.oI (xs:=xs) h]
 | .jv f a b,h=>by
  simp only [X.lt,Bool.and_eq_true] at h
  simp only [X.gy]; rw [X.oI h.1,X.oI h.2]
theorem X.oI{ν : Nat → Nat} : ∀ {xs : List X}, X.Hk 0 xs = true → X.mn ν xs = xs
 | [],_=>rfl
 | x :: r,h=>by
  simp only [X.Hk,Bool.and_eq_true] at h
  simp only [X.mn]; rw [X.tB h.1,X.oI h.2]
end
section
variable {P:Program} {N:eZ} {st:St} {Q:Exit -> St -> Prop} {all:Array Oper} {rest:List Oper} {d:Nat} {ty:TypeId} {pos:String} {af:Array Edge}
theorem aS.bm{f : FuncId}{cN : Array Operand}{o6 : Array TypeId}{xs args : List X}{R : X}(kC : aU P f = true)(fR : ay P f args [] [] (fun r o => r = R ∧ o = []))
  (gf:lr st cN.toList = some xs) (fe:ed st [] (bZ []) xs args) (hd:d < N.n) (gG:R.lt 0 = true)
  (k:aS P N all rest (st.put d R) Q):aS P N all (⟨some d,.call ⟨.value (.func f),cN,o6⟩,ty,pos,af,none⟩ :: rest) st Q :=
 aS.Oc kC fR gf fe hd gG (X.tB gG) k
end
end Go.AW
namespace Go.AW
open Go
section
variable {P:Program} {N:eZ} {st:St} {Q:Exit -> St -> Prop} {ops:Array Oper} {d:Nat} {ty:TypeId} {pos:String} {af:Array Edge}
def aw(P:Program)(N:eZ)(st:St)(o:Oper)(x:X):Prop :=
 ∀ (G:Ctx) (E:Env) (RR:Own -> List Nat) (a:Act),G.fn = N -> Inv G E RR st a -> ∃ u,(∀ w,(execOp a.eval o).run P w = .ok (.value u) w) /\ RX E x u []
section
variable {dst:Option Nat} {g:Option (Nat × Bool)}
theorem aw.move{x:Operand}{y:X}(hx:bW st x = some y)(hf:y.free = true):aw P N st ⟨dst,.move x,ty,pos,af,g⟩ y:=by
 intro G E RR a _ hi
 obtain ⟨R,hv⟩:=hi.eval hx
 have:=RX.free hf hv
 subst this
 exact ⟨_,fun w=>rfl,hv⟩
theorem aw.assign{x:Operand}{y:X}(hx:bW st x = some y)(hf:y.free = true):aw P N st ⟨dst,.assign x,ty,pos,af,g⟩ y:=by
 intro G E RR a _ hi
 obtain ⟨R,hv⟩:=hi.eval hx
 have:=RX.free hf hv
 subst this
 exact ⟨_,fun w=>rfl,hv⟩
theorem aw.SF{t e s dJ : Nat}{x : Operand}{lo im : Option Operand}{rows : List (List X)}{l h : Nat}{kL : List (List X)}(ht : TY.slice P t = some (e, s, dJ))(hx : bW st x = some (.fz s rows))
  (hl:Bd st lo 0 l) (hh:Bd st im rows.length h) (h1:l <= h) (h2:h <= rows.length) (hr:(rows.take h).drop l = kL) :
  aw P N st ⟨dst,.slice t x lo im none,ty,pos,af,g⟩ (.fz s kL):=by
 intro G E RR a _ hi
 obtain ⟨R,hp⟩:=hi.eval hx
 simp only [RX] at hp
 obtain ⟨_,hu,base,cap,hc,cX⟩:=hp
 obtain ⟨z4,i,ia,fB,_⟩:=TY.dP ht
 subst hr
 have kS:h <= cap:=by
  rcases cX with ⟨h',lN⟩ | ⟨_,_,_,x5,_⟩
  ·subst h'; simp at h2; omega
  ·omega
 refine ⟨.slice (if cap = l then base else base.map (·.add (l * s))) (h - l) (cap - l),fun w=>?_,?_⟩
 ·show (do let z <- Instr.sliceAt t (a.eval x) (lo.map a.eval) (im.map a.eval) none; pure (Next.value z):Sem Next).run P w = _
  rw [hc]
  refine dN ?_
  simp only [Instr.sliceAt,Sem.run_bind,run_underlying z4,Result.andThen_ok,Instr.slice,iT hi hl hh h1 kS,run_sizeOf ia,fB]
  rfl
 ·have hlen:((rows.take h).drop l).length = h - l:=by simp; omega
  simp only [RX,hlen]
  refine ⟨trivial,(hu.take h).drop l,_,_,rfl,?_⟩
  rcases cX with ⟨h',lN⟩ | ⟨b,off,hb,x5,hf⟩
  ·exact .inl ⟨by subst h'; simp,om⟩
  ·refine .inr ?_
   subst hb
   by_cases z5:cap = l
   ·refine ⟨b,off,by rw [if_pos z5],om,?_⟩
    have:(rows.take h).drop l = []:=by
     apply List.eq_nil_of_length_eq_zero
     rw [hlen]; omega
    rw [this]; simp [kD]
   ·refine ⟨b,off + l * s,by rw [if_neg z5]; simp [iu],om,?_⟩
    exact kD.drop l (hu.take h) (by simp; omega) (hf.take h)
end
def fo(P:Program)(N:eZ)(ops:Array Oper)(n:Nat)(ah:Array Bool)(st:St)(K:St -> Prop):Prop :=
 ∀ G:Ctx,G.fn = N -> ∀ a w,cF G st a w -> wpAny P .any ops (fun e a w=>e = .normal /\ ∃ aW,K aW /\ cF G aW a w) n ah a w
variable {K:St -> Prop}
theorem fo.blind{n : Nat}{ah : Array Bool}(i : Nat){op : Op}{x : X}(ho : ops[i]? = some ⟨some d, op, ty, pos, af, none⟩)
  (hB:(Region.noSelect ops && Region.free .any ops ah i && (Region.ready .any ops ah).contains i) = true) (hy:aw P N st ⟨some d,op,ty,pos,af,none⟩ x) (hd:d < N.n)
  (k:fo P N ops n (ah.setIfInBounds i true) (st.put d x) K):fo P N ops (n + 1) ah st K:=by
 intro G hn a w hh
 obtain ⟨E,RR,rfl,hi⟩:=hh
 obtain ⟨u,hr,hx⟩:=hy G E RR a hn hi
 simp only [Bool.and_eq_true] at hB
 refine wpAny_take (v:=u) ho hB.1.1 hB.1.2 hB.2 ?_ (.inl ⟨by simp [Region.wanted],hr⟩) (k G hn _ _ ⟨E,_,rfl,hi.gZ (hn ▸ hd) hx⟩)
 intro c a w h
 cases h.1
theorem fo.step{n : Nat}{ah : Array Bool}(j : Nat){o : Oper}(ho : ops[j]? = some o)
  (k:aS P N ops [o] st (fun e aW=>e = .normal /\ fo P N ops n (ah.setIfInBounds j true) aW K)) (G:Ctx) (hn:G.fn = N) (a:Act) (w:World) (hh:cF G st a w) :
  wpOp P ops (fun e a w=>e = .normal /\ ∃ aW,K aW /\ cF G aW a w) j (wpAny P .any ops (fun e a w=>e = .normal /\ ∃ aW,K aW /\ cF G aW a w) n (ah.setIfInBounds j true)) a w:=by
 have hk:=k G hn a w hh
 have key : wpOp P ops (fun e a w => oe G (fun e aW => e = .normal ∧ fo P N ops n (ah.setIfInBounds j true) aW K) e a w) j
   (fun a w=>oe G (fun e aW=>e = .normal /\ fo P N ops n (ah.setIfInBounds j true) aW K) .normal a w) a w:=by
  unfold wpOp; simp only [ho]; exact hk
 have mono:∀ {Q1 Q2:Exit -> Act -> World -> Prop} {K1 K2:Act -> World -> Prop},(∀ e a w,e ≠ .normal -> Q1 e a w -> False) -> (∀ a w,K1 a w -> K2 a w) -> wpOp P ops Q1 j K1 a w -> wpOp P ops Q2 j K2 a w:=by
  intro Q1 Q2 K1 K2 hQ hK h
  unfold wpOp at *
  simp only [ho] at *
  split
  ·rename_i hw
   simp only [hw,if_true] at h
   rcases h with h | ⟨_,hl⟩
   ·refine .inl ?_
    unfold Oper.wp at *
    generalize (execOp a.eval o).run P w = r at *
    cases r with
    | ok nx w' =>
     cases nx <;> simp only [Oper.upon] at h ⊢ <;> first
      | exact hK _ _ h
      | exact Calls.mono h (fun e WT he=>by
        cases e with
        | returned u=>exact hK _ _ he
        | panicked c=>exact (hQ _ _ _ (by simp) he).elim
        | outgrown=>exact (let ⟨_,_,h'⟩:=he; hQ _ _ _ (by simp) h').elim)
      | exact Rows.mono h (fun _ _ he=>hK _ _ he)
    | halt x w'=>cases x <;> simp only [Oper.upon] at h ⊢ <;> first | exact (hQ _ _ _ (by simp) h).elim | exact (let ⟨_,_,h'⟩:=h; hQ _ _ _ (by simp) h').elim | exact h
   ·obtain ⟨_,_,h'⟩:=hl
    exact (hQ _ _ _ (by simp) h').elim
  ·rename_i hw
   simp only [hw] at h
   exact hK _ _ h
 refine mono ?_ ?_ key
 ·rintro e a w he ⟨aW,_,h,_⟩
  exact he h
 ·rintro a w ⟨aW,iH,_,zB⟩
  exact zB G hn a w iH
theorem fo.one{n : Nat}{ah : Array Bool}(i : Nat){o : Oper}(ho : ops[i]? = some o)(hr : (Region.ready .any ops ah == [i]) = true)
  (k:aS P N ops [o] st (fun e aW=>e = .normal /\ fo P N ops n (ah.setIfInBounds i true) aW K)):fo P N ops (n + 1) ah st K:=by
 intro G hn a w hh
 refine wpAny_all (rs:=[i]) (by simpa using hr) (by simp) ?_
 intro j hj
 have:j = i:=by simpa using hj
 subst this
 exact fo.step j ho k G hn a w hh
theorem fo.two{n : Nat}{ah : Array Bool}(i i' : Nat){o o' : Oper}(ho : ops[i]? = some o)(lS : ops[i']? = some o')(hr : (Region.ready .any ops ah == [i, i']) = true)
  (k:aS P N ops [o] st (fun e aW=>e = .normal /\ fo P N ops n (ah.setIfInBounds i true) aW K))
  (k':aS P N ops [o'] st (fun e aW=>e = .normal /\ fo P N ops n (ah.setIfInBounds i' true) aW K)):fo P N ops (n + 1) ah st K:=by
 intro G hn a w hh
 refine wpAny_all (rs:=[i,i']) (by simpa using hr) (by simp) ?_
 intro j hj
 simp only [List.mem_cons,List.not_mem_nil,or_false] at hj
 rcases hj with rfl | rfl
 ·exact fo.step j ho k G hn a w hh
 ·exact fo.step j lS k' G hn a w hh
theorem fo.done{n:Nat}{ah:Array Bool}(hr:(Region.ready .any ops ah).isEmpty = true)(h:K st):fo P N ops n ah st K :=
 fun _ _ _ _ hh=>wpAny_done (by simpa using hr) ⟨rfl,st,h,hh⟩ n
theorem dy.dS{id:Nat}(hm:P.follows .mixedOrders = true)(h:fo P N ops ops.size (Array.replicate ops.size false) st (fun aW=>Q .normal aW)):dy P N (.region id ops true) st Q:=by
 intro G hn a w hh
 refine wp_mono (wp_region_any hm (h G hn a _ hh.drew)) ?_
 rintro e a w ⟨rfl,aW,hk,iH⟩
 exact ⟨aW,iH,hk⟩
end
end Go.AW
namespace Go.AW
open Go
def ua(want : Bool) : Value → Bool
 | .bool b=>!(b == want)
 | _=>true
section
variable {P:Program} {N:eZ} {st:St} {Q:Exit -> St -> Prop} {K:St -> Prop} {all:Array Oper} {rest:List Oper} {d dd:Nat} {ty:TypeId} {pos:String} {af:Array Edge} {dst:Option Nat} {op:Op} {j:Nat} {want:Bool} {u:Value}
theorem mI{G : Ctx}{E : Env}{RR : Own → List Nat}{a : Act}(hi : Inv G E RR st a)(hj : (all[j]?).bind (·.dst) = some d)(hd : d < G.fn.n)(hx : look st.aC d = some (.v u))(fb : ua want u = true) :
  Region.wanted ⟨dst,op,ty,pos,af,some (j,want)⟩ (yielded all a.tmps) = false:=by
 have hs:=hi.aC d _ hx
 simp only [RX] at hs
 have fB:d < a.tmps.size:=by rw [hi.tmps]; exact hd
 have hv:a.tmps[d]? = some u:=by
  have:=hs.1
  simp only [Array.getD,fB,dif_pos] at this
  rw [Array.getElem?_eq_getElem fB]
  exact congrArg some this
 have hy:yielded all a.tmps j ≠ some want:=by
  unfold yielded
  rw [hj,Option.bind_some,hv]
  intro h
  cases u <;> simp [ua] at fb h
  exact fb h
 simp only [Region.wanted]
 cases h:yielded all a.tmps j with
 | none=>rfl
 | some b=>rw [h] at hy; simpa using hy
theorem aS.aN(hj : (all[j]?).bind (·.dst) = some d)(hd : d < N.n)(HQ : dd < N.n)(hx : look st.aC d = some (.v u))(fb : ua want u = true)
  (k:aS P N all rest (st.put dd (.v undef)) Q):aS P N all (⟨some dd,op,ty,pos,af,some (j,want)⟩ :: rest) st Q:=by
 intro G hn a w hh
 obtain ⟨E,RR,rfl,hi⟩:=hh
 unfold wpList
 rw [if_neg (by rw [mI hi hj (hn ▸ hd) hx fb]; simp)]
 exact k G hn _ _ ⟨E,_,rfl,hi.gZ (hn ▸ HQ) (by simp [RX])⟩
theorem iq.aN(hj : (all[j]?).bind (·.dst) = some d)(hd : d < N.n)(HQ : dd < N.n)(hx : look st.aC d = some (.v u))(fb : ua want u = true)
  (k:iq P N all rest (st.put dd (.v undef)) K):iq P N all (⟨some dd,op,ty,pos,af,some (j,want)⟩ :: rest) st K:=by
 intro G hn a w hh
 obtain ⟨E,RR,rfl,hi⟩:=hh
 unfold wpStill
 rw [if_neg (by rw [mI hi hj (hn ▸ hd) hx fb]; simp)]
 exact k G hn _ _ ⟨E,_,rfl,hi.gZ (hn ▸ HQ) (by simp [RX])⟩
end
end Go.AW
namespace Go.AW
open Go Go.ChangeShapes Go.WideShapes Go.Deep Go.RowKit
def E0(W:World):Env:=⟨fun b i=>W.cell? ⟨b,i,none⟩,fun _=>none,W⟩
theorem ay.row{P : Program}{f : FuncId}{args : List X}{u : Value}(h : ay P f args [] [] (fun r o => r = .v u ∧ o = [])){W : World}{cS : Array Value}(hn : cS.size = args.length)
  (hx:∀ (i:Nat) x,args[i]? = some x -> RX (E0 W) x (cS.getD i undef) []):Calls P f cS W (fun e W'=>e = .returned u /\ Below W.heap.size W W'):=by
 have hi:Inv (oF (fun b=>b < W.heap.size) (E0 W) ⟨args.length,[]⟩) (E0 W) (fun _=>[]) ⟨dE 0 args,dE 0 []⟩ ⟨cS,[]⟩ :=
  {lh := fun _ _ _ h => h
   aC:=fun s x hs=>by
    rw [ib] at hs
    exact hx s x hs
   aD:=fun o ob ho=>by simp [dE,look] at ho
   nodup:=fun _=>List.nodup_nil
   apart:=fun _ _ _ _ h=>by cases h
   own:=fun _ _ h=>by cases h
   ai:=fun _ _=>rfl
   size:=Nat.le_refl _
   small:=fun _ h=>h
   os:=rfl
   tape:=rfl
   output:=rfl
   φ0:=fun _ _ _ h=>h
   grow:=fun _ _ _ h=>.inl h
   fixed:=fun _ _=>rfl
   tmps:=hn
   defers:=rfl }
 refine Calls.mono (h _ _ _ _ hi) ?_
 rintro e W' ⟨v,r,aJ,rfl,⟨rfl,_⟩,_,E',fO,rfl,im⟩
 have hs:=im.aC 0 (.v u) rfl
 simp only [RX] at hs
 have hv:v = u:=hs.1
 exact ⟨by rw [hv],im.os,im.tape,im.output,im.size,fun k hk=>im.ai k hk⟩
theorem RF.of{E : Env}{b : Nat} : ∀ {row : List X} {off : Nat}, (∀ (j : Nat) x, row[j]? = some x → ∃ u, x = .v u ∧ jK u ∧ E.φ b (off + j) = some u) → RF E row b off
 | [],_,_=>by simp [RF]
 | x :: r,off,h=>by
  obtain ⟨u,rfl,hs,hu⟩:=h 0 x rfl
  simp only [RF]
  refine ⟨⟨u,by simpa using hu,hs,rfl,by simp [RX]⟩,RF.of fun j y hj=>?_⟩
  obtain ⟨u',h1,h2,h3⟩:=h (j + 1) y (by simpa using hj)
  exact ⟨u',h1,h2,by rw [show off + 1 + j = off + (j + 1) by omega]; exact h3⟩
theorem kD.of{E : Env}{b s : Nat} : ∀ {rows : List (List X)} {off : Nat}, cC s rows → (∀ (i : Nat) row, rows[i]? = some row → RF E row b (off + i * s)) → kD E rows b off
 | [],_,_,_=>by simp [kD]
 | r :: rs,off,hu,h=>by
  simp only [kD]
  refine ⟨by simpa using h 0 r rfl,kD.of (fun q hq=>hu q (by simp [hq])) fun i row hi=>?_⟩
  have:=h (i + 1) row (by simpa using hi)
  rw [hu r (by simp)]
  rw [Nat.add_mul,Nat.one_mul] at this
  rw [show off + s + i * s = off + (i * s + s) by omega]; exact this
section
variable {H:Type} {enc:TypeId × Value -> H} {P:Program} {W:World} {base:Nat} {spare:Nat -> Bool} {held:Bool} {n:Nat} {e:TypeId} {cs:List Value} {y:DataW H × List MemPlace}
end
end Go.AW
namespace Go.AW
open Go
section
variable {P:Program} {N:eZ} {st:St} {Q:Exit -> St -> Prop} {all:Array Oper} {rest:List Oper} {dst:Option Nat} {d:Nat} {ty:TypeId} {pos:String} {af:Array Edge} {g:Option (Nat × Bool)}
theorem Y.zf{t t' : TypeId}{x y : Operand}{k : IntKind}{a b r : Int}(hx : bW st x = some (.v (.int k a)))(hy : bW st y = some (.v (.int k b)))(hr : r = if b > a then b else a) :
  Yields P N st ⟨dst,.call ⟨.builtin .max,#[x,y],#[t,t']⟩,ty,pos,af,g⟩ (.v (.int k r)):=by
 subst hr
 intro G E RR ac _ hi
 refine ⟨.int k (if b > a then b else a),jg ?_,by simp [RX]⟩
 have h1:=hi.val hx
 have h2:=hi.val hy
 simp [builtin,Builtin.max_,h1,h2,Builtin.max2]
theorem Y.zg{t t' : TypeId}{x y : Operand}{k : IntKind}{a b r : Int}(hx : bW st x = some (.v (.int k a)))(hy : bW st y = some (.v (.int k b)))(hr : r = if b < a then b else a) :
  Yields P N st ⟨dst,.call ⟨.builtin .min,#[x,y],#[t,t']⟩,ty,pos,af,g⟩ (.v (.int k r)):=by
 subst hr
 intro G E RR ac _ hi
 refine ⟨.int k (if b < a then b else a),jg ?_,by simp [RX]⟩
 have h1:=hi.val hx
 have h2:=hi.val hy
 simp [builtin,Builtin.min_,h1,h2,Builtin.min2]
theorem aw.extract{x:Operand}{xs:List X}{y:X}{k:Nat}(hx:bW st x = some (.tup xs))(hy:xs[k]? = some y)(hf:y.free = true):aw P N st ⟨dst,.extract x k,ty,pos,af,g⟩ y:=by
 intro G E RR a _ hi
 obtain ⟨R,hp⟩:=hi.eval hx
 simp only [RX] at hp
 obtain ⟨cs,hc,gf⟩:=hp
 obtain ⟨u,R₁,hu,h1⟩:=eC.get gf hy
 have h0:=RX.free hf h1
 subst h0
 refine ⟨u,fun w=>?_,h1⟩
 show (do let z <- Instr.extract (a.eval x) k; pure (Next.value z):Sem Next).run P w = _
 rw [hc]
 refine dN ?_
 have CG:cs[k]? = some u:=by simpa using hu
 simp only [Instr.extract,CG]; rfl
theorem aS.g5{t e s dJ : Nat}{z : List Value}{x y : Operand}{o lo n : Nat}{rs new : List (List X)}(sO : List (List X))(n' : Nat)(ht : TY.slice P t = some (e, s, dJ))(hz : TY.zero P e = some z)(sJ : Nat.beq z.length s = true)
  (hy:bW st y = some (.fz s new)) (hx:bW st x = some (.aR o s lo n)) (ho:look st.aD o = some (.rows s rs)) (qA:lo + n <= rs.length)
  (he:((rs.drop lo).take n) ++ new = sO) (rY:n + new.length = n') (si:n' * dJ <= 140737488355328) (DU:n' <= 4611686018427387904) (hF:N.F.elem o = false) (hd:d < N.n)
  (k:aS P N all rest ((((st.kill o).de o (.rows s sO))).put d (.aR o s 0 n')) Q) :
  aS P N all (⟨some d,.call ⟨.builtin .append,#[x,y],#[t,t]⟩,ty,pos,af,none⟩ :: rest) st Q:=by
 subst he rY
 exact aS.HE ht hz sJ hy hx ho qA si DU hF hd k
end
end Go.AW
namespace Go.AW
open Go
section
variable {P:Program} {N:eZ} {st:St} {Q:Exit -> St -> Prop} {all:Array Oper} {rest:List Oper} {d:Nat} {ty:TypeId} {pos:String} {af:Array Edge}
theorem ed.cI{L : List Nat}{ν : Nat → Nat}{o s lo n : Nat}{rs sO : List (List X)}{xs ys : List X}(ho : look st.aD o = some (.rows s rs))(hL : L.elem o = true)(qA : lo + n ≤ rs.length)(he : (rs.drop lo).take n = sO)
  (hs:ed st L ν xs ys):ed st L ν (.aR o s lo n :: xs) (.fz s sO :: ys):=by
 subst he
 exact .cons (.view ho (List.elem_iff.1 hL) qA) hs
theorem kN{o:Nat}{ob:Obj}(h:look st.aD o = some ob)(h':jy ob):∀ q ∈ [o],∃ ob,look st.aD q = some ob /\ jy ob:=by
 intro q hq
 simp only [List.mem_singleton] at hq
 subst hq
 exact ⟨ob,h,h'⟩
theorem eJ{o:Nat}{ob:Obj}{L:List Nat}(h:look st.aD o = some ob)(h':jy ob)(hs:∀ q ∈ L,∃ ob,look st.aD q = some ob /\ jy ob):∀ q ∈ o :: L,∃ ob,look st.aD q = some ob /\ jy ob:=by
 intro q hq
 rcases List.mem_cons.1 hq with rfl | hq
 ·exact ⟨ob,h,h'⟩
 ·exact hs q hq
theorem aS.jL{f : FuncId}{cN : Array Operand}{o6 : Array TypeId}{xs args : List X}{R : X}(L : List Nat)(kC : aU P f = true)(fR : ay P f args [] [] (fun r o => r = R ∧ o = []))
  (gf:lr st cN.toList = some xs) (fe:ed st L (bZ []) xs args) (h0:∀ o ∈ L,∃ ob,look st.aD o = some ob /\ jy ob) (hd:d < N.n) (gG:R.lt 0 = true) (hp:R.plain)
  (k:aS P N all rest (st.put d R) Q):aS P N all (⟨some d,.call ⟨.value (.func f),cN,o6⟩,ty,pos,af,none⟩ :: rest) st Q :=
 aS.Od L kC fR gf fe h0 hd gG (X.tB gG) hp k
end
end Go.AW
namespace Go.AW
open Go Go.Maps
section
variable {P:Program} {N:eZ} {st:St} {Q:Exit -> St -> Prop} {all:Array Oper} {rest:List Oper} {dst:Option Nat} {d:Nat} {ty:TypeId} {pos:String} {af:Array Edge} {g:Option (Nat × Bool)}
theorem Inv.xy{G : Ctx}{E : Env}{RR : Own → List Nat}{a : Act}(hi : Inv G E RR st a){m : Operand}{o : Nat}{es : List (Value × Value)}(hm : bW st m = some (.mref o))(ho : look st.aD o = some (.xy es)) :
  ∃ B sd clock,E.β o = some B /\ a.eval m = .map (some B.b) /\ E.w.heap[B.b]? = some (.map sd clock) /\ (∀ i,E.φ B.b i = none) /\ sd.toList.map (fun e=>(e.key,e.val)) = es /\ RR (.obj o) = [B.b]:=by
 have aY:=hi.aD o _ ho
 simp only [dh] at aY
 obtain ⟨B,sd,clock,hB,hw,hf,he,hR⟩:=aY
 obtain ⟨R,hx⟩:=hi.eval hm
 simp only [RX] at hx
 obtain ⟨_,B',iI,hc⟩:=hx
 rw [hB] at iI
 obtain rfl:=Option.some.inj iI
 exact ⟨B,sd,clock,hB,hc,hw,hf,he,hR⟩
end
end Go.AW
namespace Go.AW
open Go
section
variable {P:Program} {N:eZ} {st:St} {ty:TypeId} {pos:String} {af:Array Edge} {dst:Option Nat} {g:Option (Nat × Bool)}
theorem aw.nilCheck{x:Operand}{p q:X}(hx:bW st x = some p)(hq:p.on 0 = some q):aw P N st ⟨dst,.nilCheck x,ty,pos,af,g⟩ q:=by
 intro G E RR a _ hi
 obtain ⟨R,hp⟩:=hi.eval hx
 obtain ⟨b,off,hc,h⟩:=hp.on hq
 refine ⟨_,fun w=>?_,h⟩
 simp only [execOp,hc]; rfl
theorem aw.fieldAddr{t : TypeId}{x : Operand}{p q : X}{f off : Nat}{ft : TypeId}(ht : TY.jH P t f = some (off, ft))(hx : bW st x = some p)(hq : p.on off = some q) :
  aw P N st ⟨dst,.fieldAddr t x f,ty,pos,af,g⟩ q:=by
 intro G E RR a _ hi
 obtain ⟨R,hp⟩:=hi.eval hx
 obtain ⟨b,o,hc,h⟩:=hp.on hq
 refine ⟨_,fun w=>?_,h⟩
 show (do let z <- Instr.fieldAt t (a.eval x) f; pure (Next.value z):Sem Next).run P w = _
 rw [hc]
 exact dN (TY.Bv ht b o w)
end
end Go.AW
namespace Go.AW
open Go
section
variable {P:Program} {N:eZ} {st:St} {d:Nat}
theorem b6.swap{E E' : Env}{x y : X}{post : List X}(hE : E.On E' [])(Ae : ∀ c, RX E x c [] → RX E' y c []) : ∀ {pre : List X} {cs : List Value}, (∀ q, X.cw q (pre ++ x :: post) = true → E'.β q = E.β q) →
  X.b5 (pre ++ x :: post) = true -> b6 E (pre ++ x :: post) cs [] -> b6 E' (pre ++ y :: post) cs []
 | [],cs,hβ,hf,h=>by
  simp only [List.nil_append,b6] at h ⊢
  obtain ⟨c,dg,R₁,R₂,hc,hs,h1,h2,hR⟩:=h
  obtain ⟨rfl,rfl⟩:=List.append_eq_nil_iff.1 hR.symm
  exact ⟨c,dg,[],[],hc,hs,Ae c h1,b6.mono post dg [] hE (fun q hq=>hβ q (by simp [X.cw,hq])) h2,rfl⟩
 | p :: pre,cs,hβ,hf,h=>by
  simp only [List.cons_append,b6] at h ⊢
  obtain ⟨c,dg,R₁,R₂,hc,hs,h1,h2,hR⟩:=h
  obtain ⟨rfl,rfl⟩:=List.append_eq_nil_iff.1 hR.symm
  simp only [List.cons_append,X.b5,Bool.and_eq_true] at hf
  exact ⟨c, dg, [], [], hc, hs, RX.mono p c [] hE (fun q hq => hβ q (by simp [X.cw, hq])) h1,
   b6.swap hE Ae (pre:=pre) (fun q hq=>hβ q (by simp [X.cw,hq])) hf.2 h2,rfl⟩
theorem Sh.KE(o s : Nat)(pre post : List X)(hx : look st.aC d = some (.agg (pre ++ .v (.slice none 0 0) :: post)))(hf : X.b5 (pre ++ .v (.slice none 0 0) :: post) = true)
  (hm:X.cw o (pre ++ .v (.slice none 0 0) :: post) = false) (hF:N.F.elem o = false):Sh N st (((st.kill o).de o (.rows s [])).put d (.agg (pre ++ .aR o s 0 0 :: post))):=by
 intro G hn a w hh
 obtain ⟨E,RR,rfl,hi⟩:=hh
 have hv:=hi.aC d _ hx
 have h0:RR (.slot d) = []:=RX.free (x:=.agg (pre ++ .v (.slice none 0 0) :: post)) hf hv
 rw [h0] at hv
 simp only [RX] at hv
 obtain ⟨cs,hc,hs⟩:=hv
 have hβ:di G E { E with β:=fun q=>if q = o then none else E.β q } (fun _=>False) :=
  ⟨rfl,fun _ h=>h.elim,fun _ h=>h.elim,fun _ _ _=>rfl,Nat.le_refl _,rfl,rfl,rfl⟩
 have h1 := hi.ln hβ (o := o) (ob := .rows s []) (R := []) (fun _ h => h.elim) (fun q hq => by simp [hq]) (fun h => by rw [hn, hF] at h; cases h)
  (by simp only [dh]; exact ⟨fun _ h=>(by cases h),.inl ⟨by simp,trivial,trivial⟩⟩) List.nodup_nil (fun _ h=>by cases h)
 have h2:RX { E with β:=fun q=>if q = o then none else E.β q } (.agg (pre ++ .aR o s 0 0 :: post)) (a.tmps.getD d undef) []:=by
  simp only [RX]
  refine ⟨cs,hc,b6.swap (E:=E) (E':={ E with β:=fun q=>if q = o then none else E.β q }) ⟨fun _ _ _ h=>h,fun _ h=>by cases h⟩ (fun c WU=>?_) (fun q hq=>?_) hf hs⟩
  ·simp only [RX] at WU ⊢
   exact ⟨trivial,none,0,WU.1,.inl ⟨by simp,by trivial,by trivial,by trivial⟩⟩
  ·have:q ≠ o:=fun e=>by subst e; rw [hm] at hq; cases hq
   simp [this]
 exact ⟨{ E with β:=fun q=>if q = o then none else E.β q },_,rfl,h1.relabel h2 List.nodup_nil (fun _ h=>by cases h)⟩
theorem ed.named{L:List Nat}{ν:Nat -> Nat}{x y:X}{xs ys:List X}(h:x.free = true)(he:x.gy ν = y)(hs:ed st L ν xs ys):ed st L ν (y :: xs) (x :: ys):=by
 subst he
 exact .cons (.same h) hs
end
end Go.AW
namespace Go.AW
open Go
section
variable {P:Program} {N:eZ} {st:St} {Q:Exit -> St -> Prop}
theorem dy.ub{x y:Code}(J:St)(I:Prop)(hx:dy P N x st (iW (fun aW=>I /\ Le aW J) Q))(hy:I -> dy P N y J Q):dy P N (.seq x y) st Q :=
 dy.join (fun _:Unit=>J) (fun _=>I) (hx.mono fun e _ h=>by cases e <;> first | exact ⟨(),h⟩ | exact h) (fun _ h=>hy h)
theorem dy.kO{α0 : Type}{c : Code}(S : α0 → St)(I : α0 → Prop)(μ : α0 → Nat)(i0 : α0)(hi : I i0)(hs : Le st (S i0))
  (round:∀ a0,I a0 -> dy P N c (S a0) (iW (fun aW=>∃ b0,I b0 /\ μ b0 < μ a0 /\ Le aW (S b0)) Q)):dy P N (.loop c) st Q :=
 dy.loop (ι:=α0) (fun u=>S u) (fun u=>I u) (fun u=>μ u) i0 hi hs (fun u h=>(round u h).mono fun e _ h=>by
  cases e <;> first | exact h | (obtain ⟨b0,h⟩:=h; exact ⟨b0,h⟩))
theorem dy.fS{α0:Type}{x y:Code}(J:α0 -> St)(I:α0 -> Prop)(hx:dy P N x st (iW (fun aW=>∃ b0,I b0 /\ Le aW (J b0)) Q))(hy:∀ a0,I a0 -> dy P N y (J a0) Q):dy P N (.seq x y) st Q :=
 dy.join (ι:=α0) (fun u=>J u) (fun u=>I u) (hx.mono fun e _ h=>by cases e <;> first | exact h | (obtain ⟨b0,h⟩:=h; exact ⟨b0,h⟩)) (fun u h=>hy u h)
theorem dy.fH{α0 α1 : Type}{c : Code}(S : α0 → α1 → St)(I : α0 → α1 → Prop)(μ : α0 → α1 → Nat)(i0 : α0)(i1 : α1)(hi : I i0 i1)(hs : Le st (S i0 i1))
  (round:∀ a0 a1,I a0 a1 -> dy P N c (S a0 a1) (iW (fun aW=>∃ b0 b1,I b0 b1 /\ μ b0 b1 < μ a0 a1 /\ Le aW (S b0 b1)) Q)):dy P N (.loop c) st Q :=
 dy.loop (ι:=α0 × α1) (fun u=>S u.1 u.2) (fun u=>I u.1 u.2) (fun u=>μ u.1 u.2) (i0,i1) hi hs (fun u h=>(round u.1 u.2 h).mono fun e _ h=>by
  cases e <;> first | exact h | (obtain ⟨b0,b1,h⟩:=h; exact ⟨(b0,b1),h⟩))
theorem dy.kP{α0 α1:Type}{x y:Code}(J:α0 -> α1 -> St)(I:α0 -> α1 -> Prop)(hx:dy P N x st (iW (fun aW=>∃ b0 b1,I b0 b1 /\ Le aW (J b0 b1)) Q))(hy:∀ a0 a1,I a0 a1 -> dy P N y (J a0 a1) Q):dy P N (.seq x y) st Q :=
 dy.join (ι:=α0 × α1) (fun u=>J u.1 u.2) (fun u=>I u.1 u.2) (hx.mono fun e _ h=>by cases e <;> first | exact h | (obtain ⟨b0,b1,h⟩:=h; exact ⟨(b0,b1),h⟩)) (fun u h=>hy u.1 u.2 h)
theorem dy.eg{α0 α1 α2 : Type}{c : Code}(S : α0 → α1 → α2 → St)(I : α0 → α1 → α2 → Prop)(μ : α0 → α1 → α2 → Nat)(i0 : α0)(i1 : α1)(i2 : α2)(hi : I i0 i1 i2)(hs : Le st (S i0 i1 i2))
  (round:∀ a0 a1 a2,I a0 a1 a2 -> dy P N c (S a0 a1 a2) (iW (fun aW=>∃ b0 b1 b2,I b0 b1 b2 /\ μ b0 b1 b2 < μ a0 a1 a2 /\ Le aW (S b0 b1 b2)) Q)):dy P N (.loop c) st Q :=
 dy.loop (ι:=α0 × α1 × α2) (fun u=>S u.1 u.2.1 u.2.2) (fun u=>I u.1 u.2.1 u.2.2) (fun u=>μ u.1 u.2.1 u.2.2) (i0,i1,i2) hi hs (fun u h=>(round u.1 u.2.1 u.2.2 h).mono fun e _ h=>by
  cases e <;> first | exact h | (obtain ⟨b0,b1,b2,h⟩:=h; exact ⟨(b0,b1,b2),h⟩))
theorem dy.EB{α0 α1 α2:Type}{x y:Code}(J:α0 -> α1 -> α2 -> St)(I:α0 -> α1 -> α2 -> Prop)(hx:dy P N x st (iW (fun aW=>∃ b0 b1 b2,I b0 b1 b2 /\ Le aW (J b0 b1 b2)) Q))(hy:∀ a0 a1 a2,I a0 a1 a2 -> dy P N y (J a0 a1 a2) Q):dy P N (.seq x y) st Q :=
 dy.join (ι:=α0 × α1 × α2) (fun u=>J u.1 u.2.1 u.2.2) (fun u=>I u.1 u.2.1 u.2.2) (hx.mono fun e _ h=>by cases e <;> first | exact h | (obtain ⟨b0,b1,b2,h⟩:=h; exact ⟨(b0,b1,b2),h⟩)) (fun u h=>hy u.1 u.2.1 u.2.2 h)
theorem dy.EC{α0 α1 α2 α3 : Type}{c : Code}(S : α0 → α1 → α2 → α3 → St)(I : α0 → α1 → α2 → α3 → Prop)(μ : α0 → α1 → α2 → α3 → Nat)(i0 : α0)(i1 : α1)(i2 : α2)(i3 : α3)(hi : I i0 i1 i2 i3)(hs : Le st (S i0 i1 i2 i3))
  (round:∀ a0 a1 a2 a3,I a0 a1 a2 a3 -> dy P N c (S a0 a1 a2 a3) (iW (fun aW=>∃ b0 b1 b2 b3,I b0 b1 b2 b3 /\ μ b0 b1 b2 b3 < μ a0 a1 a2 a3 /\ Le aW (S b0 b1 b2 b3)) Q)):dy P N (.loop c) st Q :=
 dy.loop (ι:=α0 × α1 × α2 × α3) (fun u=>S u.1 u.2.1 u.2.2.1 u.2.2.2) (fun u=>I u.1 u.2.1 u.2.2.1 u.2.2.2) (fun u=>μ u.1 u.2.1 u.2.2.1 u.2.2.2) (i0,i1,i2,i3) hi hs (fun u h=>(round u.1 u.2.1 u.2.2.1 u.2.2.2 h).mono fun e _ h=>by
  cases e <;> first | exact h | (obtain ⟨b0,b1,b2,b3,h⟩:=h; exact ⟨(b0,b1,b2,b3),h⟩))
theorem dy.ED{α0 α1 α2 α3:Type}{x y:Code}(J:α0 -> α1 -> α2 -> α3 -> St)(I:α0 -> α1 -> α2 -> α3 -> Prop)(hx:dy P N x st (iW (fun aW=>∃ b0 b1 b2 b3,I b0 b1 b2 b3 /\ Le aW (J b0 b1 b2 b3)) Q))(hy:∀ a0 a1 a2 a3,I a0 a1 a2 a3 -> dy P N y (J a0 a1 a2 a3) Q):dy P N (.seq x y) st Q :=
 dy.join (ι:=α0 × α1 × α2 × α3) (fun u=>J u.1 u.2.1 u.2.2.1 u.2.2.2) (fun u=>I u.1 u.2.1 u.2.2.1 u.2.2.2) (hx.mono fun e _ h=>by cases e <;> first | exact h | (obtain ⟨b0,b1,b2,b3,h⟩:=h; exact ⟨(b0,b1,b2,b3),h⟩)) (fun u h=>hy u.1 u.2.1 u.2.2.1 u.2.2.2 h)
end
section
variable {α:Type} {f:α -> List X} {l m:List α} {i n:Nat} {d a b:α}
theorem aq(h:i < l.length):(l.map f)[i]? = some (f (l.getD i d)):=by
 rw [List.getElem?_map,List.getElem?_eq_getElem h,List.getD_eq_getElem?_getD,List.getElem?_eq_getElem h]; rfl
theorem aI(h:i < l.length):(l.map f)[0 + i]? = some (f (l.getD i d)):=by rw [Nat.zero_add]; exact aq h
theorem cY{k:Nat}{ys:List X}(h:kT (f a) k ys = f b):(l.map f).set (0 + i) (kT (f a) k ys) = (l.set i b).map f:=by
 rw [h,Nat.zero_add,List.map_set]
theorem aM(h:n = l.length):(((l.map f).drop 0).take n) ++ m.map f = (l ++ m).map f:=by
 rw [List.drop_zero,List.take_of_length_le (by rw [List.length_map]; omega),List.map_append]
theorem aV(h:n = l.length):0 + n <= (l.map f).length:=by rw [List.length_map]; omega
theorem bs(h:n = l.length):n + (m.map f).length = (l ++ m).length:=by rw [List.length_map,List.length_append]; omega
theorem bB(h:n = l.length):0 + n <= (l.map f).length:=by rw [List.length_map]; omega
theorem bC(h:n = l.length):((l.map f).drop 0).take n = l.map f:=by
 rw [List.drop_zero,List.take_of_length_le (by rw [List.length_map]; omega)]
theorem HR{f:α -> List X}{z:List X}(h:z = f a):List.replicate n z = (List.replicate n a).map f:=by rw [List.map_replicate,h]
theorem fI{p:Prop}(h:p:=by first | rfl | exact HR rfl):p:=h
theorem aF(h:n = l.length):n = (l.map f).length:=by rw [List.length_map]; exact h
theorem sa{p:Prop}(h:p:=by first | rfl | exact aF rfl | exact aF (by omega)):p:=h
end
section
variable {N:eZ} {st:St} {d:Nat}
theorem Sh.cz{s n:Nat}{rows:List (List X)}(o:Nat)(kL:List (List X))(hx:look st.aC d = some (.dn s rows))(he:rows = kL)(hn:n = kL.length)(hF:N.F.elem o = false):Sh N st (((st.kill o).de o (.rows s kL)).put d (.aR o s 0 n)):=by
 subst he; exact Sh.KD o hx hn hF
theorem Sh.bS{s:Nat}{rows:List (List X)}(kL:List (List X))(hx:look st.aC d = some (.dn s rows))(he:rows = kL)(hf:bN kL):Sh N st (st.put d (.fz s kL)):=by
 subst he; exact Sh.freeze hx hf
end
section
variable {P:Program} {N:eZ} {st:St} {dst:Option Nat} {ty:TypeId} {pos:String} {af:Array Edge} {g:Option (Nat × Bool)}
theorem Y.ql{s d : TypeId}{x : Operand}{k k' : IntKind}{n : Int}(hs : TY.isInt P s = some k')(hd : TY.isInt P d = some k)(hx : bW st x = some (.v (.int k' n)))(hr : k.wrap n = n) :
  Yields P N st ⟨dst,.convert s d x,ty,pos,af,g⟩ (.v (.int k n)):=Y.qk hs hd hx hr
end
theorem aP{l:List (Nat × X)}{i o s lo n n':Nat}(h:look l i = some (.aR o s lo n))(e:n = n'):look l i = some (.aR o s lo n'):=e ▸ h
theorem ak{l:List (Nat × X)}{i:Nat}{k:IntKind}{a b:Int}(h:look l i = some (.v (.int k a)))(e:a = b):look l i = some (.v (.int k b)):=e ▸ h
theorem bz{l:List (Nat × X)}{i:Nat}{a b:Bool}(h:look l i = some (.v (.bool a)))(e:a = b):look l i = some (.v (.bool b)):=e ▸ h
theorem ax{l:List (Nat × Obj)}{i:Nat}{a b:List X}(h:look l i = some (.cells a))(e:a = b):look l i = some (.cells b):=e ▸ h
theorem aj{α:Type}{s:Nat}{f:α -> List X}(h:∀ a,(f a).length = s){l:List α}:cC s (l.map f):=by
 intro r hr
 obtain ⟨a,_,rfl⟩:=List.mem_map.1 hr
 exact h a
theorem CR{α0 γ:Type}(f:α0 -> γ){a0 b0:α0}(h0:a0 = b0):f a0 = f b0:=by subst h0; rfl
end Go.AW
namespace Go.AW
section
variable {α:Type} {l m:List α} {i j n:Nat} {d a x:α}
theorem re(h:i < n):(List.replicate n a).getD i d = a:=by
 rw [List.getD_eq_getElem?_getD,List.getElem?_replicate,if_pos h]; rfl
theorem Af{p:Nat -> Prop}(h:∀ j,j < i -> p j)(hp:p i):∀ j,j < i + 1 -> p j:=by
 intro j hj
 rcases Nat.lt_or_ge j i with h1 | h1
 ·exact h j h1
 ·obtain rfl:j = i:=by omega
  exact hp
end
end Go.AW
namespace Go.AW
open Go Go.ChangeShapes Go.WideShapes Go.Deep Go.RowKit
theorem b6.EE{E : Env} : ∀ {xs ys : List X} {cs ds : List Value}, b6 E xs cs [] → b6 E ys ds [] → b6 E (xs ++ ys) (cs ++ ds) []
 | [],_,_,_,h,h'=>by simp only [b6] at h; rw [h.1]; exact h'
 | x :: r,ys,cs,ds,h,h'=>by
  simp only [b6] at h
  obtain ⟨c,dg,R₁,R₂,rfl,hs,h1,h2,hR⟩:=h
  obtain ⟨rfl,rfl⟩:=List.append_eq_nil_iff.1 hR.symm
  simp only [List.cons_append,b6]
  exact ⟨c,dg ++ ds,[],[],rfl,hs,h1,b6.EE h2 h',rfl⟩
theorem b6.v1{E:Env}{u:Value}(h:jK u):b6 E [.v u] [u] []:=by
 simp only [b6]
 exact ⟨u,[],[],[],rfl,h,by simp [RX],⟨rfl,rfl⟩,rfl⟩
theorem b6.len{E : Env} : ∀ {xs : List X} {cs : List Value} {R : List Nat}, b6 E xs cs R → xs.length = cs.length
 | [],_,_,h=>by simp only [b6] at h; rw [h.1]; rfl
 | x :: r,cs,R,h=>by
  simp only [b6] at h
  obtain ⟨c,dg,R₁,R₂,rfl,_,_,h2,_⟩:=h
  simp [b6.len h2]
theorem RF.WW{E : Env}{b : Nat} : ∀ {row : List X} {cs : List Value} {off : Nat}, b6 E row cs [] → X.iG row = true → (∀ (j : Nat) c, cs[j]? = some c → E.φ b (off + j) = some c) → RF E row b off
 | [],_,_,_,_,_=>by simp [RF]
 | x :: r,cs,off,h,hn,hc=>by
  simp only [b6] at h
  obtain ⟨c,dg,R₁,R₂,rfl,hs,h1,h2,hR⟩:=h
  obtain ⟨rfl,rfl⟩:=List.append_eq_nil_iff.1 hR.symm
  simp only [X.iG,Bool.and_eq_true] at hn
  simp only [RF]
  refine ⟨⟨c,by simpa using hc 0 c rfl,hs,hn.1,h1⟩,RF.WW h2 hn.2 fun j c' hj=>?_⟩
  rw [show off + 1 + j = off + (j + 1) by omega]
  exact hc (j + 1) c' (by simpa using hj)
mutual
def vg{H : Type} : DataW H → Nat
 | .lit (.string bytes)=>bytes.length + 1
 | .lit _=>1
 | .nil=>1
 | .ptr d=>vg d + 1
 | .slice elems spare=>ly elems + ly spare + 1
 | .agg parts=>ly parts + 1
 | .iface _ d=>vg d + 1
 | .map entries=>uc entries + 1
 | .held _=>1
def ly{H : Type} : List (DataW H) → Nat
 | []=>0
 | d :: r=>vg d + ly r
def uc{H : Type} : List (Lit × DataW H) → Nat
 | []=>0
 | x :: r=>EF x + uc r
def EF{H : Type} : Lit × DataW H → Nat
 | (.string bytes,d)=>bytes.length + vg d + 1
 | (_,d)=>vg d + 1
end
theorem pQ{H α : Type}{m : α → Nat} : ∀ {l : List α} {ds : List (DataW H)}, l.length = ds.length → (∀ (i : Nat) a d, l[i]? = some a → ds[i]? = some d → m a ≤ vg d) → (l.map m).sum ≤ ly ds
 | [],_,_,_=>by simp
 | a :: l,[],h,_=>by simp at h
 | a :: l,d :: ds,h,hm=>by
  have h1:=hm 0 a d rfl rfl
  have h2:=pQ (l:=l) (ds:=ds) (by simpa using h) (fun i a' d' ha hd=>hm (i + 1) a' d' (by simpa using ha) (by simpa using hd))
  simp only [List.map_cons,List.sum_cons,ly]; omega
section
variable {H:Type} (enc:TypeId × Value -> H) (P:Program) (W:World) (base:Nat)
def Sz{H:Type}(P:Program)(t:TypeId)(d:DataW H):Prop:=∀ n ∈ d.weights P t,n <= 140737488351232
def Reads(t:TypeId){α:Type}(f:α -> List X)(p:α -> Prop)(m:α -> Nat):Prop :=
 ∀ (n : Nat) (cs : List Value) (y : DataW H × List MemPlace), DataW.trod enc P W base (fun _ => true) true n t cs = some y → Sz P t y.1 →
  ∃ a:α,p a /\ b6 (E0 W) (f a) cs [] /\ X.b5 (f a) = true /\ X.iG (f a) = true /\ m a <= vg y.1
def gB(fl:List Field)(off m:Nat){α:Type}(f:α -> List X)(p:α -> Prop)(mm:α -> Nat):Prop :=
 ∀ (n : Nat) (cs : List Value) (xs : List (DataW H × List MemPlace)), off + m ≤ cs.length → xs.length = fl.length →
  (∀ (i:Nat) (fd:Field),fl[i]? = some fd -> DataW.trod enc P W base (fun _=>true) true n fd.type ((cs.drop fd.offset).take (P.cellsOf fd.type)) = xs[i]?) ->
  (∀ (i:Nat) (fd:Field) (x:DataW H × List MemPlace),fl[i]? = some fd -> xs[i]? = some x -> Sz P fd.type x.1) ->
  ∃ a:α,p a /\ b6 (E0 W) (f a) ((cs.drop off).take m) [] /\ X.b5 (f a) = true /\ X.iG (f a) = true /\ mm a <= ly (xs.map (·.1))
end
section
variable {H:Type} {enc:TypeId × Value -> H} {P:Program} {W:World} {base:Nat} {t e:TypeId} {α β:Type} {f:α -> List X} {p:α -> Prop} {g:β -> List X} {q:β -> Prop} {mf:α -> Nat} {mg:β -> Nat}
theorem mJ : ∀ {a b : List X}, X.b5 a = true → X.b5 b = true → X.b5 (a ++ b) = true
 | [],_,_,h=>h
 | x :: r,b,h,h'=>by
  simp only [X.b5,Bool.and_eq_true,List.cons_append] at h ⊢
  exact ⟨h.1,mJ h.2 h'⟩
theorem rf : ∀ {a b : List X}, X.iG a = true → X.iG b = true → X.iG (a ++ b) = true
 | [],_,_,h=>h
 | x :: r,b,h,h'=>by
  simp only [X.iG,Bool.and_eq_true,List.cons_append] at h ⊢
  exact ⟨h.1,rf h.2 h'⟩
theorem Reads.map(φ:α -> β)(h:Reads enc P W base t f p mf)(hf:∀ a,g (φ a) = f a)(hp:∀ a,p a -> q (φ a))(hm:∀ a,mg (φ a) <= mf a):Reads enc P W base t g q mg:=by
 intro n cs y hy hs
 obtain ⟨a,h1,h2,h3,h4,h5⟩:=h n cs y hy hs
 exact ⟨φ a,hp a h1,by rw [hf]; exact h2,by rw [hf]; exact h3,by rw [hf]; exact h4,Nat.le_trans (hm a) h5⟩
theorem Reads.int{k:IntKind}(he:P.underlying t = some (.int k)):Reads enc P W base t (fun z:Int=>[.v (.int k z)]) (fun z=>(Lit.int k z).wf = true) (fun _=>1):=by
 intro n cs y hy _
 obtain ⟨z,rfl,hd,hw⟩:=DataW.trod_int he hy
 exact ⟨z,hw,b6.v1 trivial,rfl,rfl,by rw [hd]; exact Nat.le_refl _⟩
theorem Reads.bool(he:P.underlying t = some .bool):Reads enc P W base t (fun z:Bool=>[.v (.bool z)]) (fun _=>True) (fun _=>1):=by
 intro n cs y hy _
 obtain ⟨z,rfl,hd⟩:=DataW.trod_bool he hy
 exact ⟨z,trivial,b6.v1 trivial,rfl,rfl,by rw [hd]; exact Nat.le_refl _⟩
theorem Reads.Og(he:P.underlying t = some (.int .u64)):Reads enc P W base t (fun z:Nat=>[.v (.int .u64 (z:Int))]) (fun z=>z < 18446744073709551616) (fun _=>1):=by
 intro n cs y hy _
 obtain ⟨z,rfl,hd,hw⟩:=DataW.trod_int he hy
 simp only [Lit.wf,IntKind.min,IntKind.max,IntKind.signed,IntKind.bits] at hw
 simp at hw
 obtain ⟨m,rfl⟩:=Int.eq_ofNat_of_zero_le (show 0 <= z by omega)
 exact ⟨m,om,b6.v1 trivial,rfl,rfl,by rw [hd]; exact Nat.le_refl _⟩
theorem Reads.SH(he:P.underlying t = some (.int .u8)):Reads enc P W base t (fun z:Nat=>[.v (.int .u8 (z:Int))]) (fun z=>z < 256) (fun _=>1):=by
 intro n cs y hy _
 obtain ⟨z,rfl,hd,hw⟩:=DataW.trod_int he hy
 simp only [Lit.wf,IntKind.min,IntKind.max,IntKind.signed,IntKind.bits] at hw
 simp at hw
 obtain ⟨m,rfl⟩:=Int.eq_ofNat_of_zero_le (show 0 <= z by omega)
 exact ⟨m,om,b6.v1 trivial,rfl,rfl,by rw [hd]; exact Nat.le_refl _⟩
theorem Reads.str(he:P.underlying t = some .string):Reads enc P W base t (fun z:ByteArray=>[.v (.string z)]) (fun z=>z.size <= 140737488351232) (fun _=>0):=by
 intro n cs y hy hs
 obtain ⟨z,rfl,rfl,_⟩:=DataW.trod_string he hy
 refine ⟨z,?_,b6.v1 trivial,rfl,rfl,Nat.zero_le _⟩
 have:=hs z.data.toList.length (by simp [DataW.weights])
 simpa using this
theorem gL{H : Type}{P : Program}{e : TypeId} : ∀ {ds : List (DataW H)} {d : DataW H}, d ∈ ds → ∀ n ∈ d.weights P e, n ∈ DataW.weightsAll P e ds
 | d' :: r,d,h,n,hn=>by
  simp only [DataW.weightsAll,List.mem_append]
  rcases List.mem_cons.1 h with rfl | h
  ·exact .inl hn
  ·exact .inr (gL h n hn)
theorem Reads.slice[Inhabited α]{s B : Nat}(ht : P.underlying t = some (.slice e))(hC : P.cellsOf e = s)(hs : 0 < s)(hB : P.bytesOf e = B)(he : Reads enc P W base e f p mf) :
  Reads enc P W base t (fun l:List α=>[.fz s (l.map f)]) (fun l=>l.length * B <= 140737488351232 /\ ∀ a ∈ l,p a) (fun l=>(l.map mf).sum):=by
 intro fuel cs y hy fB
 rcases open_slice ht hy with ⟨rfl,rfl⟩ | ⟨a,len,cap,m,n,D,Pl,rfl,_,hl,_,hm,rfl,hi⟩
 ·refine ⟨[],⟨by simp,fun _ h=>by cases h⟩,?_,rfl,rfl,by simp⟩
  simp only [b6,List.map_nil]
  refine ⟨.slice none 0 0,[],[],[],rfl,trivial,?_,⟨rfl,by trivial⟩,rfl⟩
  simp only [RX]
  exact ⟨trivial,(fun _ h=>by cases h),none,0,rfl,.inl ⟨by trivial,rfl⟩⟩
 ·simp only [if_true] at hm
  subst hm
  rw [hC] at hi
  have hD:∀ i,i < m -> Sz P e (D i):=by
   intro i him k hk
   refine fB k ?_
   simp only [DataW.weights,ht,List.mem_cons,List.mem_append]
   right
   by_cases zT:i < len
   ·exact .inl (gL (List.mem_map.2 ⟨i,List.mem_range.2 zT,rfl⟩) k hk)
   ·refine .inr (gL (List.mem_map.2 ⟨i - len,List.mem_range.2 om,?_⟩) k hk)
    congr 1; omega
  have YB:∀ i,∃ x:α,i < len -> ∃ cs,W.cells? base (a.add (i * s)) s = some cs /\ p x /\ b6 (E0 W) (f x) cs [] /\ X.b5 (f x) = true /\ X.iG (f x) = true /\ mf x <= vg (D i):=by
   intro i
   by_cases zT:i < len
   ·obtain ⟨cs,hc,S5⟩:=hi i om
    obtain ⟨x,h0,h1,h2,h3,h4⟩:=he n cs _ S5 (hD i om)
    exact ⟨x,fun _=>⟨cs,hc,h0,h1,h2,h3,h4⟩⟩
   ·exact ⟨default,fun h=>absurd h zT⟩
  obtain ⟨g,hg⟩:=Classical.axiomOfChoice YB
  refine ⟨(List.range len).map g,⟨?_,?_⟩,?_,rfl,rfl,?_⟩
  rotate_right
  ·refine Nat.le_trans (pQ (m:=mf) (ds:=(List.range len).map D) (by simp) ?_) (by show _ <= ly _ + ly _ + 1; omega)
   intro i a' d' ha hd
   simp only [List.getElem?_map,Option.map_eq_some_iff] at ha hd
   obtain ⟨k,hk,rfl⟩:=ha
   obtain ⟨k',zB,rfl⟩:=hd
   rw [hk] at zB
   obtain rfl:=Option.some.inj zB
   have Eu:i < len:=by have:=(List.getElem?_eq_some_iff.1 hk).1; simpa using this
   have vd:k = i:=by rw [List.getElem?_range Eu] at hk; exact (Option.some.inj hk).symm
   subst vd
   obtain ⟨_,_,_,_,_,_,h5⟩:=hg k Eu
   exact h5
  ·have z:=fB ((((List.range len).map D).length + ((List.range (m - len)).map fun j=>D (len + j)).length) * P.bytesOf e) (by simp [DataW.weights,ht])
   rw [hB] at z
   simp only [List.length_map,List.length_range] at z ⊢
   exact Nat.le_trans (Nat.mul_le_mul_right _ om) z
  ·intro x hx
   simp only [List.mem_map,List.mem_range] at hx
   obtain ⟨i,im,rfl⟩:=hx
   obtain ⟨_,_,h0,_⟩:=hg i im
   exact h0
  ·have hu:cC s (((List.range len).map g).map f):=by
    intro r hr
    simp only [List.map_map,List.mem_map,List.mem_range,Function.comp] at hr
    obtain ⟨i,im,rfl⟩:=hr
    obtain ⟨cs,hc,_,h1,_⟩:=hg i im
    rw [b6.len h1]
    exact (World.cells?_some hc).2.1
   simp only [b6]
   refine ⟨_,[],[],[],rfl,trivial,?_,⟨rfl,rfl⟩,rfl⟩
   simp only [RX]
   refine ⟨trivial,hu,some a,m,by simp,?_⟩
   by_cases WX:m = 0
   ·exact .inl ⟨by simp [show len = 0 by omega],WX⟩
   ·have J5:a = ⟨a.block,a.off,none⟩:=by
     obtain ⟨cs,hc,_⟩:=hi 0 om
     have h1:=(World.cells?_some hc).2.2 0 hs
     have hlen:=(World.cells?_some hc).2.1
     simp only [Nat.zero_mul,Addr.add,if_true] at h1
     rw [List.getElem?_eq_getElem (show 0 < cs.length by omega)] at h1
     unfold World.cell? at h1
     obtain ⟨b,o,sp⟩:=a
     cases sp with
     | none=>rfl
     | some q=>split at h1 <;> simp at h1
    refine .inr ⟨a.block,a.off,by rw [<- J5],by simp; omega,kD.of hu ?_⟩
    intro i row q9
    simp only [List.map_map,List.getElem?_map,Option.map_eq_some_iff,Function.comp] at q9
    obtain ⟨k,hk,rfl⟩:=q9
    have Eu:i < len:=by have:=(List.getElem?_eq_some_iff.1 hk).1; simpa using this
    have vd:k = i:=by rw [List.getElem?_range Eu] at hk; exact (Option.some.inj hk).symm
    subst vd
    obtain ⟨cs,hc,_,h1,_,h2,_⟩:=hg k Eu
    refine RF.WW h1 h2 fun j c KF=>?_
    have o5:j < s:=by have:=(List.getElem?_eq_some_iff.1 KF).1; rw [(World.cells?_some hc).2.1] at this; exact this
    have h3:=(World.cells?_some hc).2.2 j o5
    rw [KF,add_add,J5,iu] at h3
    show W.cell? _ = _
    rw [<- h3]
    congr 2
    omega
theorem gB.nil{off:Nat}:gB enc P W base [] off 0 (fun _:Unit=>[]) (fun _=>True) (fun _=>0):=by
 intro n cs xs _ _ _ _
 exact ⟨(),trivial,by simp [b6],rfl,rfl,Nat.zero_le _⟩
theorem gB.cons{fd : Field}{fl : List Field}{off s m : Nat}(ho : fd.offset = off)(hC : P.cellsOf fd.type = s)(h : Reads enc P W base fd.type f p mf)(hr : gB enc P W base fl (off + s) m g q mg) :
  gB enc P W base (fd :: fl) off (s + m) (fun x:α × β=>f x.1 ++ g x.2) (fun x=>p x.1 /\ q x.2) (fun x=>mf x.1 + mg x.2):=by
 intro n cs xs hlen xJ hx fB
 cases xs with
 | nil=>simp at xJ
 | cons x xs =>
  have h0:=hx 0 fd rfl
  rw [ho,hC] at h0
  obtain ⟨a,ha,h1,h2,h3,h4⟩:=h n _ x h0 (fB 0 fd x rfl rfl)
  obtain ⟨b,hb,g1,g2,g3,g4⟩:=hr n cs xs om (by simpa using xJ) (fun i SI hi=>by simpa using hx (i + 1) SI (by simpa using hi)) (fun i SI x' hi jw=>fB (i + 1) SI x' (by simpa using hi) (by simpa using jw))
  refine ⟨(a,b),⟨ha,hb⟩,?_,mJ h2 g2,rf h3 g3,by simp only [List.map_cons,ly]; omega⟩
  have ud:(cs.drop off).take (s + m) = (cs.drop off).take s ++ (cs.drop (off + s)).take m:=by
   rw [List.take_add,List.drop_drop]
  rw [ud]
  exact b6.EE h1 g1
theorem nT{H : Type}{P : Program} : ∀ {fl : List Field} {xs : List (DataW H × List MemPlace)} {i : Nat} {fd : Field} {x : DataW H × List MemPlace}, fl[i]? = some fd → xs[i]? = some x →
  ∀ n ∈ x.1.weights P fd.type,n ∈ DataW.weightsEach P (fl.map (·.type)) (xs.map (·.1))
 | f :: fl,y :: xs,0,fd,x,h,h',n,hn=>by
  simp only [List.getElem?_cons_zero,Option.some.injEq] at h h'
  subst h h'
  simp only [List.map_cons,DataW.weightsEach,List.mem_append]
  exact .inl hn
 | f :: fl,y :: xs,i + 1,fd,x,h,h',n,hn=>by
  simp only [List.map_cons,DataW.weightsEach,List.mem_append]
  exact .inr (nT (i:=i) (by simpa using h) (by simpa using h') n hn)
theorem Reads.struct{fs:Array Field}{m:Nat}(ht:P.underlying t = some (.struct fs))(hC:P.cellsOf t = m)(h:gB enc P W base fs.toList 0 m f p mf):Reads enc P W base t f p mf:=by
 intro fuel cs y hy fB
 obtain ⟨xs,n,_,rfl,hlen,xJ,hx⟩:=DataW.trod_struct ht hy
 obtain ⟨a,ha,h1,h2,h3,h4⟩:=h n cs xs om (by simpa using xJ) (fun i fd hi=>hx i fd (by simpa using hi)) (fun i fd x hi jw k hk=>by
  refine fB k ?_
  simp only [DataW.weights,ht]
  exact nT hi jw k hk)
 refine ⟨a,ha,?_,h2,h3,by show _ <= ly _ + 1; omega⟩
 rw [List.drop_zero,List.take_of_length_le om] at h1
 exact h1
theorem Reads.SJ{s : Nat}(ht : P.underlying t = some (.array 2 e))(hC : P.cellsOf e = s)(hT : P.cellsOf t = 2 * s)(h : Reads enc P W base e f p mf) :
  Reads enc P W base t (fun x:α × α=>f x.1 ++ f x.2) (fun x=>p x.1 /\ p x.2) (fun _=>0):=by
 intro fuel cs y hy fB
 obtain ⟨xs,n,_,rfl,hlen,xJ,hx⟩:=DataW.trod_array ht hy
 match xs,xJ with
 | [x0,x1],_ =>
  have w0:∀ x ∈ [x0,x1],Sz P e x.1:=fun x hx k hk=>fB k (by
   simp only [DataW.weights,ht]
   exact gL (List.mem_map.2 ⟨x,hx,rfl⟩) k hk)
  obtain ⟨a,ha,a1,a2,a3,_⟩:=h n _ x0 (hx 0 om) (w0 x0 (by simp))
  obtain ⟨b,hb,b1,b2,b3,_⟩:=h n _ x1 (hx 1 om) (w0 x1 (by simp))
  refine ⟨(a,b),⟨ha,hb⟩,?_,mJ a2 b2,rf a3 b3,Nat.zero_le _⟩
  have ud:cs = (cs.drop (0 * P.cellsOf e)).take (P.cellsOf e) ++ (cs.drop (1 * P.cellsOf e)).take (P.cellsOf e):=by
   rw [Nat.zero_mul,Nat.one_mul,List.drop_zero,hC,List.take_of_length_le (l:=cs.drop s) (by rw [List.length_drop]; omega),List.take_append_drop]
  rw [ud]
  exact b6.EE a1 b1
theorem Reads.SK{s : Nat}(ht : P.underlying t = some (.array 3 e))(hC : P.cellsOf e = s)(hT : P.cellsOf t = 3 * s)(h : Reads enc P W base e f p mf) :
  Reads enc P W base t (fun x:α × α × α=>f x.1 ++ (f x.2.1 ++ f x.2.2)) (fun x=>p x.1 /\ p x.2.1 /\ p x.2.2) (fun _=>0):=by
 intro fuel cs y hy fB
 obtain ⟨xs,n,_,rfl,hlen,xJ,hx⟩:=DataW.trod_array ht hy
 match xs,xJ with
 | [x0,x1,x2],_ =>
  have w0:∀ x ∈ [x0,x1,x2],Sz P e x.1:=fun x hx k hk=>fB k (by
   simp only [DataW.weights,ht]
   exact gL (List.mem_map.2 ⟨x,hx,rfl⟩) k hk)
  obtain ⟨a,ha,a1,a2,a3,_⟩:=h n _ x0 (hx 0 om) (w0 x0 (by simp))
  obtain ⟨b,hb,b1,b2,b3,_⟩:=h n _ x1 (hx 1 om) (w0 x1 (by simp))
  obtain ⟨c,hc,c1,c2,c3,_⟩:=h n _ x2 (hx 2 om) (w0 x2 (by simp))
  refine ⟨(a,b,c),⟨ha,hb,hc⟩,?_,mJ a2 (mJ b2 c2),rf a3 (rf b3 c3),Nat.zero_le _⟩
  have ud:cs = (cs.drop (0 * P.cellsOf e)).take (P.cellsOf e) ++ ((cs.drop (1 * P.cellsOf e)).take (P.cellsOf e) ++ (cs.drop (2 * P.cellsOf e)).take (P.cellsOf e)):=by
   rw [Nat.zero_mul,Nat.one_mul,List.drop_zero,hC,List.take_of_length_le (l:=cs.drop (2 * s)) (by rw [List.length_drop]; omega),show 2 * s = s + s by omega,<- List.drop_drop,List.take_append_drop,List.take_append_drop]
  rw [ud]
  exact b6.EE a1 (b6.EE b1 c1)
theorem Reads.one{x : α → X}{v : Value}{d : DataW H}{ps : List MemPlace}(h : Reads enc P W base t (fun a => [x a]) p mf)(hs : Sz P t d)(hv : v.cells.toList = [v])(ht : DataW.Trod enc P W base (fun _ => true) true t v d ps) :
  ∃ a,p a /\ RX (E0 W) (x a) v [] /\ mf a <= vg d:=by
 obtain ⟨fuel,hf⟩:=ht
 rw [hv] at hf
 obtain ⟨a,ha,h1,_,_,h5⟩:=h fuel _ _ hf hs
 simp only [b6] at h1
 obtain ⟨c,dg,R₁,R₂,hc,_,h2,_,hR⟩:=h1
 obtain ⟨rfl,rfl⟩:=List.append_eq_nil_iff.1 hR.symm
 simp only [List.cons.injEq] at hc
 exact ⟨a,ha,by rw [hc.1]; exact h2,h5⟩
theorem Reads.agg{cs : Array Value}{d : DataW H}{ps : List MemPlace}(h : Reads enc P W base t f p mf)(hs : Sz P t d)(ht : DataW.Trod enc P W base (fun _ => true) true t (.agg cs) d ps) :
  ∃ a,p a /\ RX (E0 W) (.agg (f a)) (.agg cs) [] /\ mf a <= vg d:=by
 obtain ⟨fuel,hf⟩:=ht
 obtain ⟨a,ha,h1,_,_,h5⟩:=h fuel _ _ hf hs
 exact ⟨a,ha,by simp only [RX]; exact ⟨cs,rfl,h1⟩,h5⟩
theorem Sz.of{ts:List TypeId}{ds:List (DataW H)}(h:(DataW.weightsEach P ts ds).all (· <= reachBytes) = true){j:Nat}{d:DataW H}(KG:ts[j]? = some t)(SL:ds[j]? = some d):Sz P t d:=by
 intro n hn
 have:=List.all_eq_true.1 h _ (DataW.weights_mem_each KG SL n hn)
 have h2:=of_decide_eq_true this
 exact h2
end
end Go.AW
namespace Go.AW
open Go
def qG(ops:Array Oper)(j i:Nat):Bool:=match ops[j]? with
 | some o=>o.after.any fun e=>Region.binds .any e && e.on == i
 | none=>false
def KH(ops:Array Oper)(l rest:List Nat)(t:Nat)(ah:Array Bool):Bool :=
 ah.size == ops.size && ((List.range ops.size).all fun j=>!ah.getD j false || match ops[j]? with
  | some o=>o.after.all fun e=>!Region.binds .any e || ah.getD e.on false
  | none=>true) && ((List.range ops.size).all fun j=>ah.getD j true || l.contains j || rest.contains j) && (rest.all fun j=>!ah.getD j true && !l.contains j) && (l.all fun j=>!ah.getD j true) &&
  (rest.isEmpty || l.all fun i=>(t :: l).any fun j=>decide (i < j) && qG ops j i) && (rest.all fun j=>j == t || rest.any fun k=>qG ops j k) && decide l.Nodup
structure On(ops:Array Oper)(l0 rest:List Nat)(t:Nat)(l:List Nat)(ah:Array Bool):Prop where
 size:ah.size = ops.size
 closed:∀ j o,ops[j]? = some o -> ah.getD j false = true -> ∀ e ∈ o.after,Region.binds .any e = true -> ah.getD e.on false = true
 part:∀ j,ah.getD j true = false -> j ∈ l \/ j ∈ rest
 out:∀ j ∈ rest,ah.getD j true = false /\ j ∉ l0
 open_:∀ j ∈ l,ah.getD j true = false
 sub:∀ j ∈ l,j ∈ l0
 sink:rest ≠ [] -> ∀ i ∈ l0,∃ j,(j = t \/ j ∈ l0) /\ i < j /\ qG ops j i = true
 wait:∀ j ∈ rest,j = t \/ ∃ k ∈ rest,qG ops j k = true
 nodup:l.Nodup
theorem v5{ah:Array Bool}{i:Nat}(h:ah.getD i true = false):ah.getD i false = false:=by
 rcases Nat.lt_or_ge i ah.size with h' | h'
 ·simp [h'] at h ⊢; exact h
 ·simp [Array.getElem?_eq_none h'] at h
theorem Ag{ah:Array Bool}{i:Nat}(hi:i < ah.size)(h:ah.getD i false = false):ah.getD i true = false:=by
 simp [hi] at h ⊢; exact h
theorem sP{ops:Array Oper}{j i:Nat}(h:qG ops j i = true):∃ o,ops[j]? = some o /\ ∃ e ∈ o.after,Region.binds .any e = true /\ e.on = i:=by
 unfold qG at h
 split at h
 ·rename_i o ho
  obtain ⟨e,he,hb⟩:=Array.any_eq_true'.1 h
  simp only [Bool.and_eq_true,beq_iff_eq] at hb
  exact ⟨o,ho,e,he,hb.1,hb.2⟩
 ·cases h
theorem HS{ops:Array Oper}{l rest:List Nat}{t:Nat}{ah:Array Bool}(h:KH ops l rest t ah = true):On ops l rest t l ah:=by
 simp only [KH,Bool.and_eq_true,beq_iff_eq,List.all_eq_true,decide_eq_true_eq,List.mem_range,Bool.or_eq_true,Bool.not_eq_true',List.any_eq_true,List.contains_iff_mem] at h
 obtain ⟨⟨⟨⟨⟨⟨⟨h1,h2⟩,h3⟩,h4⟩,h5⟩,h6⟩,h7⟩,h8⟩:=h
 refine ⟨h1,?_,?_,?_,h5,fun _ h=>h,?_,?_,h8⟩
 ·intro j o ho hl e he hb
  have:=h2 j (Array.getElem?_eq_some_iff.1 ho).1
  rw [hl,ho] at this
  simp only [Bool.true_eq_false,false_or] at this
  have h9:=Array.all_eq_true_iff_forall_mem.1 this e he
  simpa [hb] using h9
 ·intro j hj
  have MG:j < ops.size:=by
   rcases Nat.lt_or_ge j ah.size with h' | h'
   ·omega
   ·simp [Array.getElem?_eq_none h'] at hj
  have:=h3 j MG
  rw [hj] at this
  simpa using this
 ·intro j hj
  have:=h4 j hj
  exact ⟨this.1,by simpa using this.2⟩
 ·intro fb i hi
  obtain ⟨j,hj,gG,hw⟩:=(h6.resolve_left (by simpa using fb)) i hi
  exact ⟨j,by simpa using hj,gG,hw⟩
 ·intro j hj
  exact h7 j hj
theorem v7{ops:Array Oper}{ah:Array Bool}{j k:Nat}(hw:qG ops j k = true)(hk:ah.getD k true = false):j ∉ Region.ready .any ops ah:=by
 intro hj
 obtain ⟨_,o,ho,vf⟩:=mem_ready.1 hj
 obtain ⟨o',lS,e,he,hb,g9⟩:=sP hw
 rw [ho] at lS
 cases lS
 have:=vf e he hb
 rw [g9,v5 hk] at this
 cases this
theorem ue : ∀ {l : List Nat}, l ≠ [] → ∃ m ∈ l, ∀ x ∈ l, x ≤ m
 | [],h=>absurd rfl h
 | [a],_=>⟨a,by simp,by simp⟩
 | a :: b :: r,_=>by
  obtain ⟨m,hm,hx⟩:=ue (l:=b :: r) (by simp)
  rcases Nat.le_total a m with h | h
  ·exact ⟨m,List.mem_cons_of_mem _ hm,fun x jw=>by rcases List.mem_cons.1 jw with rfl | jw; exact h; exact hx x jw⟩
  ·exact ⟨a,by simp,fun x jw=>by rcases List.mem_cons.1 jw with rfl | jw; exact Nat.le_refl _; exact Nat.le_trans (hx x jw) h⟩
theorem On.ready{ops:Array Oper}{l0 rest l:List Nat}{t:Nat}{ah:Array Bool}(h:On ops l0 rest t l ah)(fb:l ≠ []):∀ j ∈ Region.ready .any ops ah,j ∈ l:=by
 intro j hj
 have z4:=(mem_ready.1 hj).1
 rcases h.part j z4 with hl | hr
 ·exact hl
 ·exfalso
  rcases h.wait j hr with rfl | ⟨k,hk,hw⟩
  ·obtain ⟨m,hm,SM⟩:=ue fb
   obtain ⟨j',vy,gG,hw⟩:=h.sink (fun e=>by rw [e] at hr; cases hr) m (h.sub m hm)
   rcases vy with rfl | vy
   ·exact v7 hw (h.open_ m hm) hj
   ·obtain ⟨o,ho,e,he,hb,g9⟩:=sP hw
    cases hl:ah.getD j' false with
    | true =>
     have:=h.closed j' o ho hl e he hb
     rw [g9,v5 (h.open_ m hm)] at this
     cases this
    | false =>
     have hs:j' < ah.size:=by rw [h.size]; exact (Array.getElem?_eq_some_iff.1 ho).1
     rcases h.part j' (Ag hs hl) with h1 | h1
     ·have:=SM j' h1; omega
     ·exact (h.out j' h1).2 vy
  ·exact v7 hw (h.out k hk).1 hj
theorem On.step{ops:Array Oper}{l0 rest l:List Nat}{t j:Nat}{ah:Array Bool}(h:On ops l0 rest t l ah)(hj:j ∈ Region.ready .any ops ah)(hl:j ∈ l):On ops l0 rest t (l.erase j) (ah.setIfInBounds j true):=by
 obtain ⟨_,oj,DV,vf⟩:=mem_ready.1 hj
 have other:∀ k (d:Bool),j ≠ k -> (ah.setIfInBounds j true).getD k d = ah.getD k d:=fun k d vw=>by
  simp only [Array.getD_eq_getD_getElem?,Array.getElem?_setIfInBounds_ne vw]
 refine ⟨by simp [h.size],?_,?_,?_,?_,fun k hk=>h.sub k (List.mem_of_mem_erase hk),h.sink,h.wait,h.nodup.erase j⟩
 ·intro k o ho hk e he hb
  by_cases vw:j = k
  ·subst vw
   rw [DV] at ho
   cases ho
   exact getD_set_true (vf e he hb)
  ·rw [other k false vw] at hk
   exact getD_set_true (h.closed k o ho hk e he hb)
 ·intro k hk
  by_cases vw:j = k
  ·subst vw
   rw [Array.getD_eq_getD_getElem?] at hk
   rcases Nat.lt_or_ge j ah.size with h' | h'
   ·simp [h'] at hk
   ·simp at hk
  ·rw [other k true vw] at hk
   rcases h.part k hk with h1 | h1
   ·exact .inl ((List.mem_erase_of_ne (fun e=>vw e.symm)).2 h1)
   ·exact .inr h1
 ·intro k hk
  have h1:=h.out k hk
  have vw:j ≠ k:=fun e=>h1.2 (e ▸ h.sub j hl)
  exact ⟨by rw [other k true vw]; exact h1.1,h1.2⟩
 ·intro k hk
  have vw:j ≠ k:=fun e=>by subst e; exact (List.Nodup.not_mem_erase h.nodup) hk
  rw [other k true vw]; exact h.open_ k (List.mem_of_mem_erase hk)
section
variable {P:Program} {N:eZ} {ops:Array Oper} {d:Nat} {ty:TypeId} {pos:String} {af:Array Edge}
def nU(P : Program)(ops : Array Oper)(w : World)(L : Array Bool → Act → Prop) : Nat → Array Bool → Act → Prop
 | 0,ah,a=>L ah a
 | n + 1,ah,a=>Region.ready .any ops ah ≠ [] /\ ∀ j ∈ Region.ready .any ops ah,stOp P ops w j (nU P ops w L n (ah.setIfInBounds j true)) a
theorem nU.any{w : World}{L : Array Bool → Act → Prop}{Q' : Exit → Act → World → Prop}{k : Nat}(hL : ∀ ah a, L ah a → wpAny P .any ops Q' k ah a w) :
  ∀ (n:Nat) (ah:Array Bool) (a:Act),nU P ops w L n ah a -> wpAny P .any ops Q' (n + k) ah a w
 | 0,ah,a,h=>by rw [Nat.zero_add]; exact hL _ _ h
 | n + 1,ah,a,h=>by
  rw [Nat.add_right_comm]
  exact ⟨fun e=>absurd e h.1,fun j hj=>wpOp_of_stOp (fun a'=>nU.any hL n _ a') (h.2 j hj)⟩
theorem nU.first{l0 rest : List Nat}{t : Nat}{w : World}{L : Array Bool → Act → Prop}{i : Nat}{oi : Oper}{v : Value}(hi : ops[i]? = some oi)(EG : Region.noSelect ops = true) : ∀ (n : Nat) (l : List Nat) (ah : Array Bool) (a : Act),
  l.length = n -> On ops l0 rest t (i :: l) ah -> (∀ j oj,ops[j]? = some oj -> j ≠ i -> ah.getD j true = false -> (∀ e ∈ oj.after,Region.binds .any e = true -> e.on ≠ i) -> oi.apart ops oj = true) ->
  i ∈ Region.ready .any ops ah -> YieldsAt P ops w oi v a -> nU P ops w L n (ah.setIfInBounds i true) (a.put oi.dst v) -> nU P ops w L (n + 1) ah a:=by
 intro n
 induction n with
 | zero =>
  intro l ah a hl hB _ hr hy H
  refine ⟨fun e=>(by rw [e] at hr; cases hr),fun j hj=>?_⟩
  have h1:=hB.ready (by simp) j hj
  have WY:l = []:=List.length_eq_zero_iff.1 hl
  subst WY
  obtain rfl:j = i:=by simpa using h1
  exact hy.stOp hi H
 | succ n ih =>
  intro l ah a hl hB mG hr hy H
  refine ⟨fun e=>(by rw [e] at hr; cases hr),fun j hj=>?_⟩
  by_cases zC:j = i
  ·subst zC; exact hy.stOp hi H
  ·have h1:=hB.ready (by simp) j hj
   have h2:=hB.step hj h1
   have o5:j ∈ l:=by simpa [zC] using h1
   have fb:(i == j) = false:=by simpa using fun h=>zC h.symm
   rw [List.erase_cons,fb] at h2
   obtain ⟨z4,oj,DV,vf⟩:=mem_ready.1 hj
   have HT:∀ e ∈ oj.after,Region.binds .any e = true -> e.on ≠ i:=by
    intro e he hb heq
    have h3:=vf e he hb
    have h4:=(mem_ready.1 hr).1
    rw [heq] at h3
    rcases Nat.lt_or_ge i ah.size with h' | h'
    ·simp [h'] at h3 h4; rw [h3] at h4; cases h4
    ·simp [Array.getElem?_eq_none h'] at h3
   have h5:=stOp_put DV (mG j oj DV zC z4 HT) (fun cs b=>Region.noSelect_spec EG i oi cs b hi) (fun cs b=>Region.noSelect_spec EG j oj cs b DV) hy (H.2 j (ready_mono hj zC))
   refine stOp_mono (fun a' h6=>ih (l.erase j) _ a' (by rw [List.length_erase_of_mem o5,hl]; rfl) h2 ?_ (ready_mono hr (fun h=>zC h.symm)) h6.1 ?_) h5
   ·intro k ok hk vd Oh HO
    refine mG k ok hk vd ?_ HO
    by_cases vw:j = k
    ·subst vw; exact z4
    ·have:(ah.setIfInBounds j true).getD k true = ah.getD k true:=by
      simp only [Array.getD_eq_getD_getElem?,Array.getElem?_setIfInBounds_ne vw]
     rw [this] at Oh; exact Oh
   ·have:(ah.setIfInBounds j true).setIfInBounds i true = (ah.setIfInBounds i true).setIfInBounds j true:=Array.setIfInBounds_comm _ _ zC
    rw [this]; exact h6.2
def AQ(P:Program)(N:eZ)(ops:Array Oper)(l0 rest:List Nat)(t:Nat)(l:List Nat)(ah:Array Bool)(st:St)(K:Array Bool -> St -> Prop):Prop :=
 On ops l0 rest t l ah -> ∀ G:Ctx,G.fn = N -> ∀ a w,cF G st a w -> nU P ops w (fun tC a'=>∃ aW,K tC aW /\ cF G aW a' w) l.length ah a
theorem AQ.nil{l0 rest:List Nat}{t:Nat}{ah:Array Bool}{st:St}{K:Array Bool -> St -> Prop}(h:K ah st):AQ P N ops l0 rest t [] ah st K:=fun _ _ _ _ _ hh=>⟨st,h,hh⟩
theorem AQ.cons{l0 rest : List Nat}{t i : Nat}{l : List Nat}{ah : Array Bool}{st : St}{K : Array Bool → St → Prop}{op : Op}{x : X}(ho : ops[i]? = some ⟨some d, op, ty, pos, af, none⟩)
  (hB:(Region.noSelect ops && Region.free .any ops ah i && (Region.ready .any ops ah).contains i) = true) (hy:Yields P N st ⟨some d,op,ty,pos,af,none⟩ x) (hd:d < N.n)
  (k:AQ P N ops l0 rest t l (ah.setIfInBounds i true) (st.put d x) K):AQ P N ops l0 rest t (i :: l) ah st K:=by
 intro h4 G hn a w hh
 obtain ⟨E,RR,rfl,hi⟩:=hh
 obtain ⟨u,hr,hx⟩:=hy G E RR a hn hi
 simp only [Bool.and_eq_true] at hB
 obtain ⟨⟨h1,h2⟩,h3⟩:=hB
 have h5:=h4.step (j:=i) (by simpa using h3) (by simp)
 rw [List.erase_cons_head] at h5
 exact nU.first ho h1 l.length l ah a rfl h4 (Region.free_spec ho h2) (by simpa using h3) (v:=u) (.inl ⟨by simp [Region.wanted],.inl hr⟩) (k h5 G hn _ _ ⟨E,_,rfl,hi.gZ (hn ▸ hd) hx⟩)
theorem AQ.skip{l0 rest : List Nat}{t i : Nat}{l : List Nat}{ah : Array Bool}{st : St}{K : Array Bool → St → Prop}{op : Op}{j dj : Nat}{want : Bool}{u : Value}(ho : ops[i]? = some ⟨some d, op, ty, pos, af, some (j, want)⟩)
  (hB:(Region.noSelect ops && Region.free .any ops ah i && (Region.ready .any ops ah).contains i) = true)
  (hj:(ops[j]?).bind (·.dst) = some dj) (uf:dj < N.n) (hd:d < N.n) (hx:look st.aC dj = some (.v u)) (fb:ua want u = true)
  (k:AQ P N ops l0 rest t l (ah.setIfInBounds i true) (st.put d (.v undef)) K):AQ P N ops l0 rest t (i :: l) ah st K:=by
 intro h4 G hn a w hh
 obtain ⟨E,RR,rfl,hi⟩:=hh
 simp only [Bool.and_eq_true] at hB
 obtain ⟨⟨h1,h2⟩,h3⟩:=hB
 have h5:=h4.step (j:=i) (by simpa using h3) (by simp)
 rw [List.erase_cons_head] at h5
 have hw:=mI (all:=ops) (dst:=some d) (op:=op) (ty:=ty) (pos:=pos) (af:=af) hi hj (hn ▸ uf) hx fb
 exact nU.first ho h1 l.length l ah a rfl h4 (Region.free_spec ho h2) (by simpa using h3) (v:=undef) (.inr ⟨hw,rfl⟩) (k h5 G hn _ _ ⟨E,_,rfl,hi.gZ (hn ▸ hd) (by simp [RX])⟩)
theorem AQ.run{l0 rest : List Nat}{t i : Nat}{l : List Nat}{ah : Array Bool}{st : St}{K : Array Bool → St → Prop}{op : Op}{x : X}{j dj : Nat}{want : Bool}(ho : ops[i]? = some ⟨some d, op, ty, pos, af, some (j, want)⟩)
  (hB:(Region.noSelect ops && Region.free .any ops ah i && (Region.ready .any ops ah).contains i) = true)
  (hj:(ops[j]?).bind (·.dst) = some dj) (uf:dj < N.n) (hx:look st.aC dj = some (.v (.bool want))) (hy:Yields P N st ⟨some d,op,ty,pos,af,some (j,want)⟩ x) (hd:d < N.n)
  (k:AQ P N ops l0 rest t l (ah.setIfInBounds i true) (st.put d x) K):AQ P N ops l0 rest t (i :: l) ah st K:=by
 intro h4 G hn a w hh
 obtain ⟨E,RR,rfl,hi⟩:=hh
 obtain ⟨u,hr,jw⟩:=hy G E RR a hn hi
 simp only [Bool.and_eq_true] at hB
 obtain ⟨⟨h1,h2⟩,h3⟩:=hB
 have h5:=h4.step (j:=i) (by simpa using h3) (by simp)
 rw [List.erase_cons_head] at h5
 have hs:=hi.aC dj _ hx
 simp only [RX] at hs
 have fB:dj < a.tmps.size:=by rw [hi.tmps,hn]; exact uf
 have hv:a.tmps[dj]? = some (.bool want):=by
  have:=hs.1
  simp only [Array.getD,fB,dif_pos] at this
  rw [Array.getElem?_eq_getElem fB]
  exact congrArg some this
 have hw:Region.wanted ⟨some d,op,ty,pos,af,some (j,want)⟩ (yielded ops a.tmps) = true:=by
  simp [Region.wanted,yielded,hj,hv]
 exact nU.first ho h1 l.length l ah a rfl h4 (Region.free_spec ho h2) (by simpa using h3) (v:=u) (.inl ⟨hw,.inl hr⟩) (k h5 G hn _ _ ⟨E,_,rfl,hi.gZ (hn ▸ hd) jw⟩)
theorem fo.bX(l rest : List Nat)(t : Nat){m n : Nat}(hm : m = l.length + n){ah : Array Bool}{st : St}{K : St → Prop}(hB : KH ops l rest t ah = true)
  (h:AQ P N ops l rest t l ah st (fun tC aW=>fo P N ops n tC aW K)):fo P N ops m ah st K:=by
 subst hm
 intro G hn a w hh
 refine nU.any (fun tC a' ⟨aW,hk,iH⟩=>?_) l.length ah a (h (HS hB) G hn a w hh)
 exact hk G hn a' w iH
end
end Go.AW
namespace Go.AW
open Go
section
variable {P:Program} {N:eZ} {st:St} {Q:Exit -> St -> Prop} {all:Array Oper} {rest:List Oper} {d:Nat} {ty:TypeId} {pos:String} {af:Array Edge}
theorem Inv.oJ{G : Ctx}{E : Env}{RR : Own → List Nat}{a : Act}(hi : Inv G E RR st a){tv : Nat}{x : X}(hy : look st.aC tv = some x)(hd : d < G.fn.n) :
  ∃ fO,Inv G E fO ((st.put tv .no).put d x) (a.put (some d) (a.eval (.tmp tv))):=by
 have hv:=hi.aC tv _ hy
 have lM:=hi.no tv
 refine ⟨_,lM.put (R:=RR (.slot tv)) hd hv (hi.nodup _) (fun b hb=>⟨(hi.own _ _ hb).1,(hi.own _ _ hb).2,fun p _ hp=>?_⟩)⟩
 unfold fA at hp
 split at hp
 ·cases hp
 ·rename_i h; exact hi.apart _ _ h b hp hb
theorem aS.cj{tv : Nat}{x : X}(hy : look st.aC tv = some x)(hd : d < N.n)(k : aS P N all rest ((st.put tv .no).put d x) Q) :
  aS P N all (⟨some d,.assign (.tmp tv),ty,pos,af,none⟩ :: rest) st Q :=
 aS.Ek (fun G E RR a hn hi=>let ⟨fO,h⟩:=hi.oJ hy (by rw [hn]; exact hd); ⟨a.eval (.tmp tv),E,fO,rfl,h⟩) k
theorem aS.oJ{tv : Nat}{x : X}(hy : look st.aC tv = some x)(hd : d < N.n)(k : aS P N all rest ((st.put tv .no).put d x) Q) :
  aS P N all (⟨some d,.move (.tmp tv),ty,pos,af,none⟩ :: rest) st Q :=
 aS.Ek (fun G E RR a hn hi=>let ⟨fO,h⟩:=hi.oJ hy (by rw [hn]; exact hd); ⟨a.eval (.tmp tv),E,fO,rfl,h⟩) k
theorem eC.BG{E : Env} : ∀ {xs : List X} {cs : List Value} {R : List Nat} {k : Nat} {x : X}, eC E xs cs R → xs[k]? = some x →
  ∃ u Ra Rk Rb,cs[k]? = some u /\ RX E x u Rk /\ R = Ra ++ (Rk ++ Rb) /\ eC E (xs.set k .no) cs (Ra ++ Rb)
 | [],_,_,_,_,_,h=>by simp at h
 | y :: r,cs,R,0,x,h,hx=>by
  simp only [eC] at h
  simp only [List.getElem?_cons_zero,Option.some.injEq] at hx
  subst hx
  obtain ⟨c,dg,R₁,R₂,rfl,h1,h2,rfl⟩:=h
  refine ⟨c,[],R₁,R₂,rfl,h1,rfl,?_⟩
  simp only [List.set_cons_zero,eC,List.nil_append]
  exact ⟨c,dg,[],R₂,rfl,by simp [RX],h2,rfl⟩
 | y :: r,cs,R,k + 1,x,h,hx=>by
  simp only [eC] at h
  obtain ⟨c,dg,R₁,R₂,rfl,h1,h2,rfl⟩:=h
  obtain ⟨u,Ra,Rk,Rb,hu,h3,rfl,h4⟩:=eC.BG (k:=k) h2 (by simpa using hx)
  refine ⟨u,R₁ ++ Ra,Rk,Rb,by simpa using hu,h3,by simp,?_⟩
  simp only [List.set_cons_succ,eC]
  exact ⟨c,dg,R₁,Ra ++ Rb,rfl,h1,h4,by simp⟩
theorem aS.iL{tv : Nat}{xs : List X}{y : X}{k : Nat}(hx : look st.aC tv = some (.tup xs))(hy : xs[k]? = some y)(hd : d < N.n)
  (kk:aS P N all rest ((st.put tv (.tup (xs.set k .no))).put d y) Q):aS P N all (⟨some d,.extract (.tmp tv) k,ty,pos,af,none⟩ :: rest) st Q:=by
 refine aS.Ek (fun G E RR a hn hi=>?_) kk
 have hp:=hi.aC tv _ hx
 have js:=hi.nodup (.slot tv)
 simp only [RX] at hp
 obtain ⟨cs,hc,gf⟩:=hp
 obtain ⟨u,Ra,Rk,Rb,hu,h1,hR,h2⟩:=eC.BG gf hy
 have dG:∀ b ∈ Ra ++ Rb,b ∈ RR (.slot tv):=by
  intro b hb
  rw [hR]
  rcases List.mem_append.1 hb with h | h
  ·exact cM h
  ·exact cu (cu h)
 have EH:∀ b ∈ Rk,b ∈ RR (.slot tv):=fun b hb=>by rw [hR]; exact cu (cM hb)
 rw [hR,List.nodup_append,List.nodup_append] at js
 obtain ⟨Hm,⟨YC,KC,SN⟩,Ku⟩:=js
 have Oi:(Ra ++ Rb).Nodup:=List.nodup_append.2 ⟨Hm,KC,fun x hx y hy=>Ku x hx y (cu hy)⟩
 have lM := hi.relabel (d := tv) (x := .tup (xs.set k .no)) (R := Ra ++ Rb) (by simp only [RX]; exact ⟨cs, hc, h2⟩) Oi
  (fun b hb=>⟨(hi.own _ _ (dG b hb)).1,(hi.own _ _ (dG b hb)).2,fun p hp CL=>hi.apart p (.slot tv) hp b CL (dG b hb)⟩)
 refine ⟨u,E,_,?_,lM.put (R:=Rk) (by rw [hn]; exact hd) h1 YC (fun b hb=>⟨(hi.own _ _ (EH b hb)).1,(hi.own _ _ (EH b hb)).2,fun p _ CL=>?_⟩)⟩
 ·show (do let z <- Instr.extract (a.eval (.tmp tv)) k; pure (Next.value z):Sem Next).run P E.w = _
  have q6:a.eval (.tmp tv) = .tuple cs:=hc
  rw [q6]
  refine dN ?_
  have CG:cs[k]? = some u:=by simpa using hu
  simp only [Instr.extract,CG]; rfl
 ·unfold fA at CL
  split at CL
  ·rcases List.mem_append.1 CL with h | h
   ·exact Ku b h b (cM hb) rfl
   ·exact SN b hb b h rfl
  ·rename_i h; exact hi.apart _ _ h b CL (EH b hb)
end
end Go.AW
namespace Go.AW
open Go
section
variable {P:Program} {N:eZ} {st:St} {Q:Exit -> St -> Prop} {all:Array Oper} {rest:List Oper} {d:Nat} {ty:TypeId} {pos:String} {af:Array Edge}
theorem aS.EI{f : FuncId}{cN : Array Operand}{o6 : Array TypeId}{xs args : List X}{Q' : X → List Obj → Prop}(L : List Nat)(kC : aU P f = true)(fR : ay P f args [] [] Q')
  (gf:lr st cN.toList = some xs) (fe:ed st L (bZ []) xs args) (h0:∀ o ∈ L,∃ ob,look st.aD o = some ob /\ jy ob) (hd:d < N.n)
  (k:∀ r,Q' r [] -> r.lt 0 = true /\ r.plain /\ aS P N all rest (st.put d (r.gy (bZ []))) Q) :
  aS P N all (⟨some d,.call ⟨.value (.func f),cN,o6⟩,ty,pos,af,none⟩ :: rest) st Q:=by
 refine aS.call [] L kC fR gf fe (fun j ob h=>by simp at h) rfl List.nodup_nil (fun _ _ h=>by cases h) h0 (fun _ h=>by cases h) hd ?_
 intro r aJ hq hl
 have:aJ = []:=List.eq_nil_of_length_eq_zero hl
 subst this
 obtain ⟨h1,h2,h3⟩:=k r hq
 refine ⟨⟨h1,fun _ h=>(by cases h),.inr ⟨h2,fun _ h=>(by cases h)⟩⟩,?_⟩
 rw [nz]; exact h3
end
end Go.AW
namespace Go.AW
open Go
mutual
def X.qV(o : Nat)(row : List X) : X → X
 | .ptr p s i k=>bif Nat.beq p o && Nat.beq (i * s) 0 then .fp row k else .ptr p s i k
 | .agg xs=>.agg (X.n5 o row xs)
 | .tup xs=>.tup (X.n5 o row xs)
 | .jv f a b=>.jv f (X.n5 o row a) (X.n5 o row b)
 | .v u=>.v u
 | .no=>.no
 | .fz s rs=>.fz s rs
 | .dn s rs=>.dn s rs
 | .aR p s l n=>.aR p s l n
 | .mref p=>.mref p
 | .fp r k=>.fp r k
def X.n5(o : Nat)(row : List X) : List X → List X
 | []=>[]
 | x :: r=>X.qV o row x :: X.n5 o row r
end
def Obj.qV(o : Nat)(row : List X) : Obj → Obj
 | .cells xs=>.cells (X.n5 o row xs)
 | .hole rs i q s n=>.rows 1 rs
 | ob=>ob
mutual
theorem X.EJ{o : Nat}{row : List X} : ∀ {x : X}, x.free = true → (x.qV o row).free = true
 | .ptr p s i k,_=>by
  simp only [X.qV]
  cases Nat.beq p o && Nat.beq (i * s) 0 <;> rfl
 | .agg xs,h=>X.n6 (xs:=xs) h
 | .tup xs,h=>X.n6 (xs:=xs) h
 | .jv f a b,_=>rfl
 | .v u,_ | .no,_ | .fz s rs,_ | .aR p s l n,_ | .mref p,_ | .fp r k,_=>rfl
theorem X.n6{o : Nat}{row : List X} : ∀ {xs : List X}, X.b5 xs = true → X.b5 (X.n5 o row xs) = true
 | [],_=>rfl
 | x :: r,h=>by
  simp only [X.b5,Bool.and_eq_true] at h
  simp only [X.n5,X.b5,X.EJ h.1,X.n6 h.2,Bool.and_self]
end
theorem X.xM{o : Nat}{row : List X} : ∀ {xs : List X}, (X.n5 o row xs).length = xs.length
 | []=>rfl
 | x :: r=>by simp [X.n5,X.xM (xs:=r)]
mutual
theorem RX.qV{E E' : Env}{o : Nat}{row : List X}{B : zI}(hB : E.β o = some B)(hF : RF E' row B.b B.off)(hβ : E'.β = E.β) : ∀ (x : X) (c : Value) (R : List Nat), E.On E' R → RX E x c R → RX E' (x.qV o row) c R
 | .ptr p s i k,c,R,hE,h=>by
  simp only [X.qV]
  cases hc:Nat.beq p o && Nat.beq (i * s) 0 with
  | false=>simp only [cond_false]; exact RX.mono _ c R hE (fun q _=>by rw [hβ]) h
  | true =>
   simp only [Bool.and_eq_true] at hc
   have h1:=Nat.eq_of_beq_eq_true hc.1
   have h2:=Nat.eq_of_beq_eq_true hc.2
   subst h1
   simp only [cond_true,RX] at h ⊢
   obtain ⟨hR,B',iI,rfl⟩:=h
   rw [hB] at iI
   obtain rfl:=Option.some.inj iI
   exact ⟨hR,B.b,B.off,by rw [h2,Nat.zero_add],hF⟩
 | .agg xs,c,R,hE,h=>by
  simp only [RX,X.qV] at h ⊢
  obtain ⟨cs,hc,hs⟩:=h
  exact ⟨cs,hc,b6.qV hB hF hβ xs _ R hE hs⟩
 | .tup xs,c,R,hE,h=>by
  simp only [RX,X.qV] at h ⊢
  obtain ⟨cs,hc,hs⟩:=h
  exact ⟨cs,hc,eC.qV hB hF hβ xs _ R hE hs⟩
 | .jv fn a b,c,R,hE,h=>by
  simp only [RX,X.qV] at h ⊢
  obtain ⟨hR,f,cc,hc,h1,h2⟩:=h
  exact ⟨hR,f,cc,hc,eC.qV hB hF hβ a _ [] (hE.sub (by simp)) h1,eC.qV hB hF hβ b _ [] (hE.sub (by simp)) h2⟩
 | .v u,c,R,hE,h=>RX.mono (.v u) c R hE (fun q _=>by rw [hβ]) h
 | .no,c,R,hE,h=>RX.mono .no c R hE (fun q _=>by rw [hβ]) h
 | .fz s rs,c,R,hE,h=>RX.mono (.fz s rs) c R hE (fun q _=>by rw [hβ]) h
 | .dn s rs,c,R,hE,h=>RX.mono (.dn s rs) c R hE (fun q _=>by rw [hβ]) h
 | .aR p s l n,c,R,hE,h=>RX.mono (.aR p s l n) c R hE (fun q _=>by rw [hβ]) h
 | .mref p,c,R,hE,h=>RX.mono (.mref p) c R hE (fun q _=>by rw [hβ]) h
 | .fp r k,c,R,hE,h=>RX.mono (.fp r k) c R hE (fun q _=>by rw [hβ]) h
theorem b6.qV{E E' : Env}{o : Nat}{row : List X}{B : zI}(hB : E.β o = some B)(hF : RF E' row B.b B.off)(hβ : E'.β = E.β) : ∀ (xs : List X) (cs : List Value) (R : List Nat), E.On E' R → b6 E xs cs R → b6 E' (X.n5 o row xs) cs R
 | [],_,_,_,h=>by simpa [b6,X.n5] using h
 | x :: r,cs,R,hE,h=>by
  simp only [b6,X.n5] at h ⊢
  obtain ⟨c,dg,R₁,R₂,hc,hs,h1,h2,hR⟩:=h
  subst hR
  exact ⟨c,dg,R₁,R₂,hc,hs,RX.qV hB hF hβ x c R₁ (hE.sub (fun _ h=>cM h)) h1,b6.qV hB hF hβ r dg R₂ (hE.sub (fun _ h=>cu h)) h2,rfl⟩
theorem eC.qV{E E' : Env}{o : Nat}{row : List X}{B : zI}(hB : E.β o = some B)(hF : RF E' row B.b B.off)(hβ : E'.β = E.β) : ∀ (xs : List X) (cs : List Value) (R : List Nat), E.On E' R → eC E xs cs R → eC E' (X.n5 o row xs) cs R
 | [],_,_,_,h=>by simpa [eC,X.n5] using h
 | x :: r,cs,R,hE,h=>by
  simp only [eC,X.n5] at h ⊢
  obtain ⟨c,dg,R₁,R₂,hc,h1,h2,hR⟩:=h
  subst hR
  exact ⟨c,dg,R₁,R₂,hc,RX.qV hB hF hβ x c R₁ (hE.sub (fun _ h=>cM h)) h1,eC.qV hB hF hβ r dg R₂ (hE.sub (fun _ h=>cu h)) h2,rfl⟩
theorem RO.qV{E E' : Env}{o : Nat}{row : List X}{B : zI}(hB : E.β o = some B)(hF : RF E' row B.b B.off)(hβ : E'.β = E.β) : ∀ (xs : List X) (cs : Array Value) (off : Nat) (R : List Nat), E.On E' R → RO E xs cs off R → RO E' (X.n5 o row xs) cs off R
 | [],_,_,_,_,h=>by simpa [RO,X.n5] using h
 | x :: r,cs,off,R,hE,h=>by
  simp only [RO,X.n5] at h ⊢
  obtain ⟨u,R₁,R₂,hu,hs,h1,h2,hR⟩:=h
  subst hR
  exact ⟨u,R₁,R₂,hu,hs,RX.qV hB hF hβ x u R₁ (hE.sub (fun _ h=>cM h)) h1,RO.qV hB hF hβ r cs (off + 1) R₂ (hE.sub (fun _ h=>cu h)) h2,rfl⟩
end
def SO(o:Nat)(row:List X)(l:List (Nat × X)):List (Nat × X):=l.map fun p=>(p.1,p.2.qV o row)
def SP(o:Nat)(row:List X)(l:List (Nat × Obj)):List (Nat × Obj):=l.map fun p=>(p.1,p.2.qV o row)
theorem so{α β : Type}{f : α → β} : ∀ {l : List (Nat × α)} {s : Nat} {y : β}, look (l.map fun p => (p.1, f p.2)) s = some y → ∃ x, look l s = some x ∧ y = f x
 | [],_,_,h=>by cases h
 | (t,x) :: r,s,y,h=>by
  simp only [List.map_cons,look] at h ⊢
  cases hb:Nat.beq t s with
  | true=>rw [hb] at h; simp only [cond_true,Option.some.injEq] at h ⊢; exact ⟨x,rfl,h.symm⟩
  | false=>rw [hb] at h; simp only [cond_false] at h ⊢; exact so h
section
variable {N:eZ} {st:St}
theorem Sh.dD(o:Nat){xs:List X}(ho:look st.aD o = some (.cells xs))(hn:X.iG xs = true):Sh N st ⟨SO o xs st.aC,(o,.gone) :: SP o xs st.aD⟩:=by
 intro G _ a w hh
 obtain ⟨E,RR,rfl,hi⟩:=hh
 have aY:=hi.aD o _ ho
 simp only [dh] at aY
 obtain ⟨tw,B,cs,ty,hB,hw,hφ,hlen,jF,gK⟩:=aY
 have gJ:∀ i v,cs[i]? = some v -> (E.cI (fun b=>b = B.b)).φ B.b i = some v:=by
  intro i v h
  rw [iU E (LB:=fun b=>b = B.b) rfl]
  unfold World.cell?
  simp [hw,h]
 have hle:∀ c i v,E.φ c i = some v -> (E.cI (fun b=>b = B.b)).φ c i = some v:=by
  intro c i v h
  by_cases hc:c = B.b
  ·subst hc; rw [hφ i] at h; cases h
  ·rw [dY E (LB:=fun b=>b = B.b) hc]; exact h
 have hF:RF (E.cI (fun b=>b = B.b)) xs B.b B.off:=by
  have h1:=RO.mD (E:=E) (E':=E.cI (fun b=>b = B.b)) xs cs B.b B.off [] gJ ⟨rfl,rfl,hle,fun _ h=>by cases h⟩ hn jF
  rw [X.lx tw] at h1
  exact h1
 have lq:∀ p,p ≠ .obj o -> B.b ∉ RR p:=fun p hp hb=>hi.apart p (.obj o) hp _ hb (by rw [gK]; simp)
 have g9:∀ p,p ≠ .obj o -> E.On (E.cI (fun b=>b = B.b)) (RR p):=by
  intro p hp
  refine ⟨hle,fun c hc=>⟨rfl,fun h i=>?_⟩⟩
  rw [dY E (LB:=fun b=>b = B.b) (fun e=>lq p hp (e ▸ hc))]; exact h i
 have og:B.b ∈ RR (.obj o):=by rw [gK]; simp
 have nV:∀ p,p ≠ .obj o -> fA RR (.obj o) [] p = RR p:=fun p hp=>by simp [fA,hp]
 have dG:∀ p,∀ b ∈ fA RR (.obj o) [] p,b ∈ RR p:=by
  intro p b hb
  unfold fA at hb
  split at hb
  ·cases hb
  ·exact hb
 refine ⟨E.cI (fun b=>b = B.b),fA RR (.obj o) [],rfl,{ hi with lh:=?_,aC:=?_,aD:=?_,nodup:=?_,apart:=?_,own:=?_,φ0:=?_,grow:=?_ }⟩
 ·intro c i v h
  by_cases hc:c = B.b
  ·rw [iU E (LB:=fun b=>b = B.b) hc] at h; exact h
  ·rw [dY E (LB:=fun b=>b = B.b) hc] at h; exact hi.lh c i v h
 ·intro s x hx
  obtain ⟨y,hy,rfl⟩:=so (f:=X.qV o xs) hx
  rw [nV _ (by simp)]
  exact RX.qV hB hF rfl y _ _ (g9 _ (by simp)) (hi.aC s y hy)
 ·intro q ob aY
  simp only [look] at aY
  cases hq:Nat.beq o q with
  | true =>
   rw [hq] at aY
   simp only [cond_true,Option.some.injEq] at aY
   obtain rfl:=Nat.eq_of_beq_eq_true hq
   subst aY
   simp [dh,fA]
  | false =>
   rw [hq] at aY
   simp only [cond_false] at aY
   have fb:q ≠ o:=fun e=>by subst e; simp at hq
   obtain ⟨z6,HN,rfl⟩:=so (f:=Obj.qV o xs) aY
   rw [nV _ (by simp [fb])]
   have h1:=hi.aD q z6 HN
   have sm:=g9 (.obj q) (by simp [fb])
   cases z6 with
   | cells ys =>
    simp only [dh,Obj.qV] at h1 ⊢
    obtain ⟨h1,B',dg,Ru,h2,h3,h4,h5,h6,h7⟩:=h1
    exact ⟨X.n6 h1,B',dg,Ru,h2,h3,(sm.2 B'.b (by rw [h7]; simp)).2 h4,by rw [X.xM]; exact h5,RO.qV hB hF rfl ys dg _ [] (sm.sub (fun _ h=>by cases h)) h6,h7⟩
   | rows s rs=>exact dh.mono sm rfl (fun _ _=>rfl) h1
   | xy es=>exact dh.mono sm rfl (fun _ _=>rfl) h1
   | gone=>exact dh.mono sm rfl (fun _ _=>rfl) h1
   | hole rs i p s n=>exact dh.mono sm rfl (fun _ _=>rfl) h1.wm
 ·intro p
  unfold fA
  split
  ·exact List.nodup_nil
  ·exact hi.nodup p
 ·intro p q mE b hb gY
  exact hi.apart p q mE b (dG p b hb) (dG q b gY)
 ·intro p b hb
  exact hi.own p b (dG p b hb)
 ·intro c i v h
  exact hle c i v (hi.φ0 c i v h)
 ·intro c i v h
  by_cases hc:c = B.b
  ·subst hc; exact .inr (hi.own _ _ og).2
  ·rw [dY E (LB:=fun b=>b = B.b) hc] at h; exact hi.grow c i v h
end
section
variable {P:Program} {N:eZ} {st:St} {Q:Exit -> St -> Prop} {all:Array Oper} {rest:List Oper} {dst:Option Nat} {d:Nat} {ty:TypeId} {pos:String} {af:Array Edge} {g:Option (Nat × Bool)}
theorem ug{G : Ctx}{E : Env}{RR : Own → List Nat}{a : Act}(hi : Inv G E RR st a) : ∀ {l : List Operand} {xs : List X}, lr st l = some xs → X.b5 xs = true → eC E xs (l.map a.eval) []
 | [],xs,h,_=>by simp only [lr,Option.some.injEq] at h; subst h; simp [eC]
 | o :: r,xs,h,hf=>by
  simp only [lr] at h
  cases h1:bW st o with
  | none=>simp [h1] at h
  | some y =>
   cases h2:lr st r with
   | none=>simp [h1,h2] at h
   | some ys =>
    rw [h1,h2] at h
    simp only [Option.some.injEq] at h
    subst h
    simp only [X.b5,Bool.and_eq_true] at hf
    obtain ⟨R,hR⟩:=hi.eval h1
    have h0:=RX.free hf.1 hR
    subst h0
    simp only [List.map_cons,eC]
    exact ⟨_,_,[],[],rfl,hR,ug hi h2 hf.2,rfl⟩
theorem Y.ze{fn : Fn}{first mj : Array Operand}{xs ys : List X}(hx : lr st first.toList = some xs)(hy : lr st mj.toList = some ys)(HB : X.b5 xs = true)(YD : X.b5 ys = true) :
  Yields P N st ⟨dst,.makeFunc fn first mj,ty,pos,af,g⟩ (.jv fn xs ys):=by
 intro G E RR a _ hi
 refine ⟨.func fn (first.map a.eval) (mj.map a.eval),rfl,?_⟩
 simp only [RX]
 refine ⟨trivial,_,_,rfl,?_,?_⟩
 ·rw [Array.toList_map]; exact ug hi hx HB
 ·rw [Array.toList_map]; exact ug hi hy YD
theorem aS.KL{f : FuncId}{x : Operand}{cN : Array Operand}{o6 : Array TypeId}{mj xs args : List X}{aD : List Obj}{F : List Nat}{Q' : X → List Obj → Prop}(ν L : List Nat)(hx : bW st x = some (.jv (.func f) [] mj))(kC : aU P f = true)(fR : ay P f args aD F Q')
  (gf:lr st cN.toList = some xs) (fe:ed st L (bZ ν) (xs ++ mj) args) (ra:qF st (bZ ν) 0 aD) (hlen:ν.length = aD.length) (Ey:ν.Nodup) (HJ:∀ o ∈ L,o ∉ ν)
  (h0:∀ o ∈ L,∃ ob,look st.aD o = some ob /\ jy ob) (vh:∀ o ∈ loose ν F,N.F.elem o = false) (hd:d < N.n)
  (k:∀ r aJ,Q' r aJ -> aJ.length = aD.length -> (r.lt aD.length = true /\ (∀ ob ∈ aJ,ob.lt aD.length = true) /\ (L = [] \/ (r.plain /\ ∀ ob ∈ aJ,ob.plain))) /\ aS P N all rest ((oG st ν F aJ).put d (r.gy (bZ ν))) Q) :
  aS P N all (⟨some d,.call ⟨.value x,cN,o6⟩,ty,pos,af,none⟩ :: rest) st Q:=by
 intro G hn a w hh
 obtain ⟨E,RR,rfl,hi⟩:=hh
 obtain ⟨Rx,HB⟩:=hi.eval hx
 simp only [RX] at HB
 obtain ⟨_,ff,cc,SQ,J6,ML⟩:=HB
 simp only [eC] at J6
 have EK:ff = #[]:=by
  have:=J6.1
  cases ff; simp_all
 subst EK
 obtain ⟨xJ,J2⟩:=qZ hi gf
 have z5:mj.length = cc.toList.length:=by
  have:∀ {l:List X} {c:List Value} {R:List Nat},eC E l c R -> l.length = c.length:=by
   intro l
   induction l with
   | nil=>intro c R h; simp only [eC] at h; rw [h.1]; rfl
   | cons y r ih =>
    intro c R h
    simp only [eC] at h
    obtain ⟨_,c',_,_,rfl,_,h2,_⟩:=h
    simp [ih h2]
  exact this ML
 have hc:=hi.J1 (vs:=cN.toList.map a.eval ++ cc.toList) fR (by simp only [List.length_append,List.length_map]; omega) (fun j y hy=>by
  rcases Nat.lt_or_ge j xs.length with hj | hj
  ·rw [List.getElem?_append_left hj] at hy
   obtain ⟨o,ho,R,hR⟩:=J2 j y hy
   exact ⟨a.eval o,by rw [List.getElem?_append_left (by rw [List.length_map]; omega)]; simp [ho],R,hR⟩
  ·rw [List.getElem?_append_right hj] at hy
   obtain ⟨u,R,hu,hR⟩:=eC.get ML hy
   exact ⟨u,by rw [List.getElem?_append_right (by rw [List.length_map]; omega),List.length_map,<- xJ]; exact hu,R,hR⟩) fe
  (fun j ob h=>by have:=ra.get j ob h; rwa [Nat.zero_add] at this) hlen Ey HJ h0 (fun o ho=>by rw [hn]; exact vh o ho) (d:=d) (by rw [hn]; exact hd)
 have iZ:(execOp a.eval ⟨some d,.call ⟨.value x,cN,o6⟩,ty,pos,af,none⟩).run P E.w = .ok (.enter f (cN.toList.map a.eval ++ cc.toList).toArray) E.w:=by
  have e:(execOp a.eval ⟨some d,.call ⟨.value x,cN,o6⟩,ty,pos,af,none⟩).run P E.w = (do let d <- Deferred.ofValue (a.eval x) (cN.map a.eval); invoke d.target d.args:Sem Next).run P E.w:=rfl
  rw [e,SQ]
  have e2:(do let d <- Deferred.ofValue (.func (.func f) #[] cc) (cN.map a.eval); invoke d.target d.args:Sem Next).run P E.w = (callFunc f ((#[] ++ cN.map a.eval) ++ cc)).run P E.w:=rfl
  rw [e2,ny kC]
  congr 2
  apply Array.ext'
  simp
 refine wpList_plain rfl fun K hK=>?_
 simp only [Oper.wp,iZ,Oper.upon_enter]
 refine hc.mono ?_
 rintro e w' ⟨v,r,aJ,rfl,NY,x5,E7⟩
 obtain ⟨⟨h1,h2,h3⟩,hk⟩:=k r aJ NY x5
 obtain ⟨lQ,tY,hw,hI⟩:=E7 h1 h2 h3
 exact hK _ _ (hk G hn _ _ ⟨lQ,tY,hw,hI⟩)
theorem aS.n7{f : FuncId}{x : Operand}{cN : Array Operand}{o6 : Array TypeId}{mj xs args : List X}{R : X}(hx : bW st x = some (.jv (.func f) [] mj))(kC : aU P f = true)(fR : ay P f args [] [] (fun r o => r = R ∧ o = []))
  (gf:lr st cN.toList = some xs) (fe:ed st [] (bZ []) (xs ++ mj) args) (hd:d < N.n) (gG:R.lt 0 = true)
  (k:aS P N all rest (st.put d R) Q):aS P N all (⟨some d,.call ⟨.value x,cN,o6⟩,ty,pos,af,none⟩ :: rest) st Q:=by
 refine aS.KL [] [] hx kC fR gf fe trivial rfl List.nodup_nil (fun _ h=>by cases h) (fun _ h=>by cases h) (fun _ h=>by cases h) hd ?_
 rintro r aJ ⟨rfl,rfl⟩ _
 refine ⟨⟨gG,fun _ h=>(by cases h),.inl rfl⟩,?_⟩
 rw [nz,X.tB gG]; exact k
end
section
variable {P:Program} {N:eZ} {ops:Array Oper} {st:St} {d:Nat} {ah:Array Bool} {n:Nat} {K:St -> Prop} {KK:Array Bool -> St -> Prop} {l0 rest l:List Nat} {t:Nat}
theorem fo.le{aW:St}(hl:Le st aW)(h:fo P N ops n ah aW K):fo P N ops n ah st K:=fun G hn a w hh=>h G hn a w (hl.holds hh)
theorem fo.split{b:Bool}(hx:look st.aC d = some (.v (.bool b)))(ht:b = true -> fo P N ops n ah (st.put d (.v (.bool true))) K)(hf:b = false -> fo P N ops n ah (st.put d (.v (.bool false))) K):fo P N ops n ah st K:=by
 have:Le st (st.put d (.v (.bool b))):=⟨gd.cons hx (fun _ _ h=>h),fun _ _ h=>h⟩
 cases b
 ·exact (hf rfl).le this
 ·exact (ht rfl).le this
theorem fo.aG{p:Prop}{inst:Decidable p}(hx:look st.aC d = some (.v (.bool (decide p))))(ht:p -> fo P N ops n ah (st.put d (.v (.bool true))) K)(hf:¬ p -> fo P N ops n ah (st.put d (.v (.bool false))) K):fo P N ops n ah st K :=
 fo.split hx (fun h=>ht (of_decide_eq_true h)) (fun h=>hf (of_decide_eq_false h))
theorem AQ.le{aW:St}(hl:Le st aW)(h:AQ P N ops l0 rest t l ah aW KK):AQ P N ops l0 rest t l ah st KK:=fun ho G hn a w hh=>h ho G hn a w (hl.holds hh)
theorem AQ.split{b:Bool}(hx:look st.aC d = some (.v (.bool b)))(ht:b = true -> AQ P N ops l0 rest t l ah (st.put d (.v (.bool true))) KK)(hf:b = false -> AQ P N ops l0 rest t l ah (st.put d (.v (.bool false))) KK):AQ P N ops l0 rest t l ah st KK:=by
 have:Le st (st.put d (.v (.bool b))):=⟨gd.cons hx (fun _ _ h=>h),fun _ _ h=>h⟩
 cases b
 ·exact (hf rfl).le this
 ·exact (ht rfl).le this
theorem AQ.aG{p:Prop}{inst:Decidable p}(hx:look st.aC d = some (.v (.bool (decide p))))(ht:p -> AQ P N ops l0 rest t l ah (st.put d (.v (.bool true))) KK)(hf:¬ p -> AQ P N ops l0 rest t l ah (st.put d (.v (.bool false))) KK):AQ P N ops l0 rest t l ah st KK :=
 AQ.split hx (fun h=>ht (of_decide_eq_true h)) (fun h=>hf (of_decide_eq_false h))
end
def bA(b:ByteArray)(m:Nat):Nat:=(b.data.toList.getD m 0).toNat
theorem Y.qx{P : Program}{N : eZ}{st : St}{dst : Option Nat}{ty : TypeId}{pos : String}{af : Array Edge}{g : Option (Nat × Bool)}{t : TypeId}{x ix : Operand}{b : ByteArray}{k : IntKind}{n : Int}{m : Nat}(ht : P.underlying t = some .string)(hx : bW st x = some (.v (.string b)))
  (x4:bW st ix = some (.v (.int k n))) (hn:n = (m:Int)) (hm:m < b.size):Yields P N st ⟨dst,.index t x ix,ty,pos,af,g⟩ (.v (.int .u8 ((bA b m:Nat):Int))):=by
 have h:=Y.qw (P:=P) (N:=N) (st:=st) (dst:=dst) (ty:=ty) (pos:=pos) (af:=af) (g:=g) ht hx x4 hn hm
 have e:b[m].toNat = bA b m:=by
  unfold bA
  have:b.data.toList.getD m 0 = b[m]:=by
   rw [List.getD_eq_getElem?_getD,List.getElem?_eq_getElem (by simpa using hm)]
   rfl
  rw [this]
 rw [e] at h
 exact h
theorem EL(b:ByteArray)(m:Nat):bA b m <= 255:=by
 unfold bA
 have:=(b.data.toList.getD m 0).toNat_lt
 omega
end Go.AW
namespace Go.AW
open Go
theorem sq(n:Nat):IntKind.u64.wrap (n:Int) = ((n % 18446744073709551616:Nat):Int):=by
 simp [IntKind.wrap,IntKind.bits,IntKind.signed]
theorem xO(n:Nat)(h:n < 18446744073709551616):IntKind.u64.wrap (n:Int) = (n:Int):=by rw [sq,Nat.mod_eq_of_lt h]
theorem v8(n:Int)(h:0 <= n /\ n <= 18446744073709551615):IntKind.u64.wrap n = ((n.toNat:Nat):Int):=by rw [IntWalk.u64_in n h]; omega
theorem xP(n w:Nat):BitVec.ofInt w (n:Int) = BitVec.ofNat w n:=by
 apply BitVec.eq_of_toNat_eq
 simp [BitVec.toNat_ofInt,BitVec.toNat_ofNat]
section
variable {P:Program} {N:eZ} {st:St} {dst:Option Nat} {ty:TypeId} {pos:String} {af:Array Edge} {g:Option (Nat × Bool)} {t t':TypeId} {x y:Operand} {a b:Nat}
theorem Y.qc(hx:bW st x = some (.v (.int .u64 (a:Int))))(hy:bW st y = some (.v (.int .u64 (b:Int)))):Yields P N st ⟨dst,.binOp .add t x y t',ty,pos,af,g⟩ (.v (.int .u64 (((a + b) % 18446744073709551616:Nat):Int))) :=
 Y.qa hx hy (by rw [<- sq]; congr 1)
theorem Y.zk(hx:bW st x = some (.v (.int .u64 (a:Int))))(hy:bW st y = some (.v (.int .u64 (b:Int)))):Yields P N st ⟨dst,.binOp .mul t x y t',ty,pos,af,g⟩ (.v (.int .u64 (((a * b) % 18446744073709551616:Nat):Int))) :=
 Y.zi hx hy (by rw [<- sq]; congr 1)
theorem Y.zr(hx:bW st x = some (.v (.int .u64 (a:Int))))(hy:bW st y = some (.v (.int .u64 (b:Int))))(hr:a < 18446744073709551616 /\ 1 <= b):Yields P N st ⟨dst,.binOp .quo t x y t',ty,pos,af,g⟩ (.v (.int .u64 ((a / b:Nat):Int))) :=
 Y.zp hx hy om (by
  rw [Int.tdiv_eq_ediv_of_nonneg om,<- Int.natCast_ediv]
  exact xO _ (Nat.lt_of_le_of_lt (Nat.div_le_self a b) hr.1))
theorem Y.zu{k:IntKind}(hx:bW st x = some (.v (.int k (a:Int))))(hy:bW st y = some (.v (.int k (b:Int))))(hr:1 <= b):Yields P N st ⟨dst,.binOp .rem t x y t',ty,pos,af,g⟩ (.v (.int k ((a % b:Nat):Int))) :=
 Y.zs hx hy om (by rw [Int.tmod_eq_emod_of_nonneg om]; exact (Int.natCast_emod a b).symm)
theorem Y.qe(hx:bW st x = some (.v (.int .u64 (a:Int))))(hy:bW st y = some (.v (.int .u64 (b:Int))))(hr:a < 18446744073709551616 /\ b < 18446744073709551616):Yields P N st ⟨dst,.binOp .and t x y t',ty,pos,af,g⟩ (.v (.int .u64 ((a &&& b:Nat):Int))) :=
 Y.qd hx hy (by
  rw [xP,xP,BitVec.toNat_and,BitVec.toNat_ofNat,BitVec.toNat_ofNat,show 2 ^ IntKind.u64.bits = 18446744073709551616 from rfl,Nat.mod_eq_of_lt hr.1,Nat.mod_eq_of_lt hr.2]
  exact xO _ (Nat.lt_of_le_of_lt Nat.and_le_left hr.1))
theorem CS(a b:Nat)(h:a < 18446744073709551616):a / 2 ^ (min b 64) = a / 2 ^ b:=by
 rcases Nat.le_total b 64 with hb | hb
 ·rw [Nat.min_eq_left hb]
 ·rw [Nat.min_eq_right hb,Nat.div_eq_of_lt h]
  exact (Nat.div_eq_of_lt (Nat.lt_of_lt_of_le h (Nat.pow_le_pow_right (show 0 < 2 by decide) hb))).symm
theorem Y.zx{k':IntKind}{i:Int}(b:Nat)(hx:bW st x = some (.v (.int .u64 (a:Int))))(hy:bW st y = some (.v (.int k' i)))(hi:i = (b:Int))(hr:a < 18446744073709551616):Yields P N st ⟨dst,.binOp .shr t x y t',ty,pos,af,g⟩ (.v (.int .u64 ((a / 2 ^ b:Nat):Int))) :=
 Y.zw hx hy om (by
  subst hi
  show (a:Int).fdiv (2 ^ (Min.min b 64)) = _
  have h2:(0:Int) <= 2 ^ (Min.min b 64):=Int.le_of_lt (Int.pow_pos (show (0:Int) < 2 by decide))
  rw [<- CS a b hr,Int.fdiv_eq_ediv_of_nonneg _ h2]
  norm_cast)
end
end Go.AW
namespace Go.AW
open Go
section
variable {P:Program} {N:eZ} {ops:Array Oper} {st:St} {d:Nat} {ty:TypeId} {pos:String} {af:Array Edge} {K:St -> Prop}
theorem fo.ck{n : Nat}{ah : Array Bool}(i : Nat){op : Op}{j dj : Nat}{want : Bool}{u : Value}(ho : ops[i]? = some ⟨some d, op, ty, pos, af, some (j, want)⟩)
  (hB:(Region.noSelect ops && Region.free .any ops ah i && (Region.ready .any ops ah).contains i) = true)
  (hj:(ops[j]?).bind (·.dst) = some dj) (uf:dj < N.n) (hd:d < N.n) (hx:look st.aC dj = some (.v u)) (fb:ua want u = true)
  (k:fo P N ops n (ah.setIfInBounds i true) (st.put d (.v undef)) K):fo P N ops (n + 1) ah st K:=by
 intro G hn a w hh
 obtain ⟨E,RR,rfl,hi⟩:=hh
 simp only [Bool.and_eq_true] at hB
 have hw:=mI (all:=ops) (dst:=some d) (op:=op) (ty:=ty) (pos:=pos) (af:=af) hi hj (hn ▸ uf) hx fb
 refine wpAny_take (v:=undef) ho hB.1.1 hB.1.2 hB.2 ?_ (.inr ⟨hw,rfl⟩) (k G hn _ _ ⟨E,_,rfl,hi.gZ (hn ▸ hd) (by simp [RX])⟩)
 intro c a w h
 cases h.1
theorem fo.fT{n : Nat}{ah : Array Bool}(i : Nat){op : Op}{x : X}{j dj : Nat}{want : Bool}(ho : ops[i]? = some ⟨some d, op, ty, pos, af, some (j, want)⟩)
  (hB:(Region.noSelect ops && Region.free .any ops ah i && (Region.ready .any ops ah).contains i) = true)
  (hj:(ops[j]?).bind (·.dst) = some dj) (uf:dj < N.n) (hx:look st.aC dj = some (.v (.bool want))) (hy:aw P N st ⟨some d,op,ty,pos,af,some (j,want)⟩ x) (hd:d < N.n)
  (k:fo P N ops n (ah.setIfInBounds i true) (st.put d x) K):fo P N ops (n + 1) ah st K:=by
 intro G hn a w hh
 obtain ⟨E,RR,rfl,hi⟩:=hh
 obtain ⟨u,hr,jw⟩:=hy G E RR a hn hi
 simp only [Bool.and_eq_true] at hB
 have hs:=hi.aC dj _ hx
 simp only [RX] at hs
 have fB:dj < a.tmps.size:=by rw [hi.tmps,hn]; exact uf
 have hv:a.tmps[dj]? = some (.bool want):=by
  have:=hs.1
  simp only [Array.getD,fB,dif_pos] at this
  rw [Array.getElem?_eq_getElem fB]
  exact congrArg some this
 have hw:Region.wanted ⟨some d,op,ty,pos,af,some (j,want)⟩ (yielded ops a.tmps) = true:=by
  simp [Region.wanted,yielded,hj,hv]
 refine wpAny_take (v:=u) ho hB.1.1 hB.1.2 hB.2 ?_ (.inl ⟨hw,hr⟩) (k G hn _ _ ⟨E,_,rfl,hi.gZ (hn ▸ hd) jw⟩)
 intro c a w h
 cases h.1
end
end Go.AW
namespace Go.AW
open Go
section
variable {P:Program} {N:eZ} {G:Ctx} {E:Env} {RR:Own -> List Nat} {st:St} {a:Act} {Q:Exit -> St -> Prop} {all:Array Oper} {rest:List Oper} {d:Nat} {dst:Option Nat} {ty:TypeId} {pos:String} {af:Array Edge} {g:Option (Nat × Bool)}
theorem Y.qj{t e s dJ : Nat}{x : Operand}(ht : TY.slice P t = some (e, s, dJ))(hx : bW st x = some (.v (.slice none 0 0))) :
  Yields P N st ⟨dst,.call ⟨.builtin .cap,#[x],#[t]⟩,ty,pos,af,g⟩ (.v (.int .i64 0)):=by
 intro G E RR a _ hi
 refine ⟨.int .i64 0,jg ?_,by simp [RX]⟩
 obtain ⟨hu,_⟩:=TY.dP ht
 have hc:=hi.val hx
 simp [builtin,Builtin.cap_,hc,run_underlying hu,goInt]
theorem Y.zz{t e s dJ : Nat}{x : Operand}{lo im : Option Operand}(ht : TY.slice P t = some (e, s, dJ))(hx : bW st x = some (.v (.slice none 0 0)))(hl : Bd st lo 0 0)(hh : Bd st im 0 0) :
  Yields P N st ⟨dst,.slice t x lo im none,ty,pos,af,g⟩ (.v (.slice none 0 0)):=by
 intro G E RR a _ hi
 obtain ⟨z4,i,ia,fB,_⟩:=TY.dP ht
 have hc:=hi.val hx
 refine ⟨.slice none 0 0,?_,by simp [RX]⟩
 show (do let z <- Instr.sliceAt t (a.eval x) (lo.map a.eval) (im.map a.eval) none; pure (Next.value z):Sem Next).run P E.w = _
 rw [hc]
 refine dN ?_
 simp only [Instr.sliceAt,Sem.run_bind,run_underlying z4,Result.andThen_ok,Instr.slice,iT hi hl hh (Nat.le_refl 0) (Nat.le_refl 0),run_sizeOf ia,fB]
 rfl
theorem aS.uh{t tn e s dJ n : Nat}{x y : Operand}{z : List Value}{k kn : IntKind}(ht : TY.slice P t = some (e, s, dJ))(hz : TY.zero P e = some z)(sJ : z.length = s)(h1 : X.tR (z.map X.v) = true)(WZ : TY.isInt P tn = some kn)
  (hx:bW st x = some (.v (.slice none 0 0))) (hy:bW st y = some (.v (.int k (n:Int)))) (h0:0 < n) (Ro:0 < s) (hb:n * dJ <= 281474976710656) (Yv:n <= 9223372036854775807) (hd:d < N.n)
  (kk:aS P N all rest (st.put d (.dn s (List.replicate n (z.map X.v)))) Q):aS P N all (⟨some d,.call ⟨.builtin .append,#[x,y],#[t,tn]⟩,ty,pos,af,none⟩ :: rest) st Q:=by
 refine aS.Ek (fun G E RR a hn hi=>?_) kk
 obtain ⟨hu,i,ia,hs,Ju⟩:=TY.dP ht
 obtain ⟨i',z0,q7,Bz,BA⟩:=TY.fP hz
 rw [ia] at q7
 obtain rfl:=Option.some.inj q7
 have x9:z0.cells = z.toArray:=by rw [<- BA]
 have iZ:=Lib.run_append_nil_zeros (P:=P) E.w t tn ty e i z0 k kn hu (by unfold TY.isInt at WZ; split at WZ <;> simp_all:P.underlying tn = some (.int kn)) ia Bz n h0 (by rw [hs]; exact Ro) om (by rw [Ju]; exact hb)
 rw [x9] at iZ
 have hU:cC s (List.replicate n (z.map X.v)):=by
  intro r hr
  rw [(List.mem_replicate.1 hr).2]; simpa using sJ
 have lM:=hi.Bw (di.drew G E) rfl
 have kS:=grownCap_ge E.w n 0 e
 have fB:(Builtin.zeroCells z.toArray n ++ Builtin.zeroCells z.toArray (grownCap E.w n 0 e - n)).size = grownCap E.w n 0 e * s:=by
  rw [Array.size_append,size_zeroCells,size_zeroCells,<- Nat.add_mul]
  simp only [List.size_toArray,sJ]
  congr 1; omega
 obtain ⟨fO,im⟩:=lM.newRow (cs:=Builtin.zeroCells z.toArray n ++ Builtin.zeroCells z.toArray (grownCap E.w n 0 e - n)) (e:=e) (s:=s) (cap:=grownCap E.w n 0 e) (d:=d) hU (by rw [List.length_replicate]; exact kS) (by rw [fB]; exact Nat.le_refl _) (by
  refine cE.zR hU fun j row hr=>?_
  have hj:j < n:=by
   rcases Nat.lt_or_ge j n with h' | h'
   ·exact h'
   ·rw [List.getElem?_eq_none (by rw [List.length_replicate]; exact h')] at hr; cases hr
  have:row = z.map X.v:=by
   have:=List.mem_of_getElem? hr
   exact (List.mem_replicate.1 this).2
  subst this
  refine ⟨Ej z,b6.Ky (tS h1) fun q hq=>?_⟩
  have CJ:q < s:=by simpa [sJ] using hq
  have gG:j * s + q < n * s:=by
   have:(j + 1) * s <= n * s:=Nat.mul_le_mul_right s hj
   rw [Nat.add_mul] at this; omega
  have Kz:q < z.length:=by omega
  rw [Array.getElem?_append_left (by rw [size_zeroCells]; simp only [List.size_toArray,sJ]; omega)]
  simp only [Nat.zero_add,Builtin.zeroCells]
  rw [Array.getElem?_map,Array.getElem?_range,if_pos (by simpa [sJ] using gG)]
  simp only [Option.map_some,List.size_toArray,sJ,El CJ]
  rw [List.getElem?_eq_getElem Kz]
  simp [Kz]) (by rw [hn]; exact hd)
 simp only [List.length_replicate] at im
 refine ⟨_,_,_,?_,im⟩
 refine jg (g:=none) ?_
 have e':(#[x,y]:Array Operand).map a.eval = #[.slice none 0 0,.int k (n:Int)]:=by simp [hi.val hx,hi.val hy]
 rw [e']
 exact dN iZ
theorem Sh.BH{d o s lo n : Nat}{rs : List (List X)}(sO : List (List X))(hx : look st.aC d = some (.aR o s lo n))(ho : look st.aD o = some (.rows s rs))(qA : lo + n ≤ rs.length)(he : (rs.drop lo).take n = sO)(hF : N.F.elem o = false) :
  Sh N st (((st.kill o).de o (.rows s sO)).put d (.aR o s 0 n)):=by subst he; exact Sh.trim hx ho qA hF
end
end Go.AW
namespace Go.AW
open Go
theorem X.BK : ∀ {xs : List X} (k : Nat), X.iG xs = true → X.iG (xs.set k .no) = true
 | [],_,_=>rfl
 | x :: r,0,h=>by
  simp only [X.iG,Bool.and_eq_true] at h
  simp [List.set,X.iG,X.nr,h.2]
 | x :: r,k + 1,h=>by
  simp only [X.iG,Bool.and_eq_true] at h
  simp [List.set,X.iG,h.1,X.BK k h.2]
theorem RO.pick{E : Env}{cs : Array Value}{y : X} : ∀ {xs : List X} {off k : Nat} {R : List Nat}, RO E xs cs off R → xs[k]? = some y →
  ∃ u Ry R1,cs[off + k]? = some u /\ jK u /\ RX E y u Ry /\ RO E (xs.set k .no) cs off R1 /\ (R.Nodup -> (Ry ++ R1).Nodup) /\ ∀ b ∈ Ry ++ R1,b ∈ R
 | [],_,_,_,_,h=>by simp at h
 | x :: r,off,0,R,h,hy=>by
  simp only [RO] at h
  obtain ⟨u,R₁,R₂,hu,hs,h1,h2,rfl⟩:=h
  simp only [List.getElem?_cons_zero,Option.some.injEq] at hy
  subst hy
  refine ⟨u,R₁,R₂,hu,hs,h1,?_,fun h=>h,fun b hb=>hb⟩
  simp only [List.set,RO]
  exact ⟨u,[],R₂,hu,hs,by simp [RX],h2,rfl⟩
 | x :: r,off,k + 1,R,h,hy=>by
  simp only [RO] at h
  obtain ⟨u,R₁,R₂,hu,hs,h1,h2,rfl⟩:=h
  simp only [List.getElem?_cons_succ] at hy
  obtain ⟨v,Ry,R',hv,YE,CT,z9,js,dG⟩:=RO.pick h2 hy
  refine ⟨v,Ry,R₁ ++ R',by rw [show off + (k + 1) = off + 1 + k by omega]; exact hv,YE,CT,?_,fun hn=>?_,fun b hb=>?_⟩
  ·simp only [List.set,RO]
   exact ⟨u,R₁,R',hu,hs,h1,z9,rfl⟩
  ·obtain ⟨n1,n2,n3⟩:=List.nodup_append.1 hn
   have h3:=js n2
   rw [<- List.append_assoc,List.nodup_append]
   obtain ⟨m1,m2,m3⟩:=List.nodup_append.1 h3
   refine ⟨?_,m2,fun a ha b hb=>?_⟩
   ·rw [List.nodup_append]
    exact ⟨m1,n1,fun a ha b hb e=>n3 b hb a (dG a (List.mem_append.2 (.inl ha))) e.symm⟩
   ·rcases List.mem_append.1 ha with h | h
    ·exact m3 a h b hb
    ·exact n3 a h b (dG b (List.mem_append.2 (.inr hb)))
  ·rcases List.mem_append.1 hb with h | h
   ·exact List.mem_append.2 (.inr (dG b (List.mem_append.2 (.inl h))))
   ·rcases List.mem_append.1 h with h | h
    ·exact List.mem_append.2 (.inl h)
    ·exact List.mem_append.2 (.inr (dG b (List.mem_append.2 (.inr h))))
theorem cE.pick{E : Env}{cs : Array Value}{y : X}{s : Nat} : ∀ {rs : List (List X)} {row : List X} {off i k : Nat} {R : List Nat}, cC s rs → cE E rs cs off R → rs[i]? = some row → row[k]? = some y →
  ∃ u Ry R1,cs[off + (i * s + k)]? = some u /\ jK u /\ RX E y u Ry /\ cE E (rs.set i (row.set k .no)) cs off R1 /\ (R.Nodup -> (Ry ++ R1).Nodup) /\ ∀ b ∈ Ry ++ R1,b ∈ R
 | [],_,_,_,_,_,_,_,h,_=>by simp at h
 | r :: rs,row,off,0,k,R,_,h,hr,hy=>by
  simp only [cE] at h
  obtain ⟨R₁,R₂,hn,h1,h2,rfl⟩:=h
  simp only [List.getElem?_cons_zero,Option.some.injEq] at hr
  subst hr
  obtain ⟨u,Ry,R',hu,hs,CT,z9,js,dG⟩:=RO.pick h1 hy
  refine ⟨u,Ry,R' ++ R₂,by rw [Nat.zero_mul,Nat.zero_add]; exact hu,hs,CT,?_,fun rY=>?_,fun b hb=>?_⟩
  ·simp only [List.set,cE,List.length_set]
   exact ⟨R',R₂,X.BK k hn,z9,h2,rfl⟩
  ·obtain ⟨n1,n2,n3⟩:=List.nodup_append.1 rY
   rw [<- List.append_assoc,List.nodup_append]
   exact ⟨js n1,n2,fun a ha b hb=>n3 a (dG a ha) b hb⟩
  ·rw [<- List.append_assoc] at hb
   rcases List.mem_append.1 hb with h | h
   ·exact List.mem_append.2 (.inl (dG b h))
   ·exact List.mem_append.2 (.inr h)
 | r :: rs,row,off,i + 1,k,R,hU,h,hr,hy=>by
  simp only [cE] at h
  obtain ⟨R₁,R₂,hn,h1,h2,rfl⟩:=h
  simp only [List.getElem?_cons_succ] at hr
  have hl:r.length = s:=hU r (List.mem_cons_self ..)
  obtain ⟨u,Ry,R',hu,hs,CT,z9,js,dG⟩:=cE.pick (fun x hx=>hU x (List.mem_cons_of_mem _ hx)) h2 hr hy
  refine ⟨u,Ry,R₁ ++ R',by rw [show off + ((i + 1) * s + k) = off + r.length + (i * s + k) by rw [Nat.add_mul,hl]; omega]; exact hu,hs,CT,?_,fun rY=>?_,fun b hb=>?_⟩
  ·simp only [List.set,cE]
   exact ⟨R₁,R',hn,h1,z9,rfl⟩
  ·obtain ⟨n1,n2,n3⟩:=List.nodup_append.1 rY
   have h3:=js n2
   rw [<- List.append_assoc,List.nodup_append]
   obtain ⟨m1,m2,m3⟩:=List.nodup_append.1 h3
   refine ⟨?_,m2,fun a ha b hb=>?_⟩
   ·rw [List.nodup_append]
    exact ⟨m1,n1,fun a ha b hb e=>n3 b hb a (dG a (List.mem_append.2 (.inl ha))) e.symm⟩
   ·rcases List.mem_append.1 ha with h | h
    ·exact m3 a h b hb
    ·exact n3 a h b (dG b (List.mem_append.2 (.inr hb)))
  ·rcases List.mem_append.1 hb with h | h
   ·exact List.mem_append.2 (.inr (dG b (List.mem_append.2 (.inl h))))
   ·rcases List.mem_append.1 h with h | h
    ·exact List.mem_append.2 (.inl h)
    ·exact List.mem_append.2 (.inr (dG b (List.mem_append.2 (.inr h))))
section
variable {P:Program} {N:eZ} {st:St} {Q:Exit -> St -> Prop} {all:Array Oper} {rest:List Oper} {d:Nat} {ty:TypeId} {pos:String} {af:Array Edge}
theorem aS.Oj{t : TypeId}{x : Operand}{o s i k : Nat}{y : X}{row : List X}{rs : List (List X)}(sO : List (List X))(ht : TY.shape P t = some none)(hx : bW st x = some (.ptr o s i k))(ho : look st.aD o = some (.rows s rs))(hr : rs[i]? = some row)(hy : row[k]? = some y)
  (he:rs.set i (row.set k .no) = sO) (hd:d < N.n) (kk:aS P N all rest ((st.de o (.rows s sO)).put d y) Q) :
  aS P N all (⟨some d,.load t x,ty,pos,af,none⟩ :: rest) st Q:=by
 subst he
 refine aS.Ek (fun G E RR a hn hi=>?_) kk
 obtain ⟨R,hp⟩:=hi.eval hx
 simp only [RX] at hp
 obtain ⟨_,B,hB,hc⟩:=hp
 have aY:=hi.aD o _ ho
 have js:=hi.nodup (.obj o)
 simp only [dh] at aY
 obtain ⟨hu,aY⟩:=aY
 rcases aY with ⟨_,h,_⟩ | ⟨B',cs,tb,R',iI,hw,hφ,kS,hlen,jF,gK⟩
 ·subst h; simp at hr
 rw [hB] at iI
 obtain rfl:=Option.some.inj iI
 obtain ⟨u,Ry,R1,z3,hs,CT,z9,KM,dG⟩:=cE.pick hu jF hr hy
 rw [gK] at js
 obtain ⟨sj,mF⟩:=List.nodup_cons.1 js
 have NF:=KM mF
 obtain ⟨m1,m2,m3⟩:=List.nodup_append.1 NF
 have xQ:∀ b ∈ Ry ++ R1,b ∈ RR (.obj o):=fun b hb=>by rw [gK]; exact List.mem_cons.2 (.inr (dG b hb))
 have lM:Inv G E (fA RR (.obj o) (B.b :: R1)) (st.de o (.rows s (rs.set i (row.set k .no)))) a:=by
  refine hi.de ?_ ?_ ?_
  ·simp only [dh]
   refine ⟨hu.set (by rw [List.length_set]; exact hu row (List.mem_of_getElem? hr)),.inr ⟨B,cs,tb,R1,hB,hw,hφ,by simpa using kS,hlen,z9,rfl⟩⟩
  ·exact List.nodup_cons.2 ⟨fun h=>sj (dG _ (List.mem_append.2 (.inr h))),m2⟩
  ·intro b hb
   have oD:b ∈ RR (.obj o):=by
    rcases List.mem_cons.1 hb with h | h
    ·rw [gK,h]; simp
    ·exact xQ b (List.mem_append.2 (.inr h))
   exact ⟨(hi.own _ _ oD).1,(hi.own _ _ oD).2,fun p hp h=>hi.apart _ _ hp b h oD⟩
 refine ⟨u,E,_,?_,lM.put (by rw [hn]; exact hd) CT m1 fun b hb=>?_⟩
 ·show (do let z <- Instr.loadAt t (a.eval x); pure (Next.value z):Sem Next).run P E.w = _
  rw [hc]
  refine dN ?_
  have gJ:E.w.cell? ⟨B.b,B.off + (i * s + k),none⟩ = some u:=by rw [dq hw]; exact z3
  simp only [Instr.loadAt,Instr.sureAddr,loadVar,Sem.run_bind,Sem.run_pure,Result.andThen_ok,(TY.iX ht E.w).1]
  simp [gJ]
 ·have oD:=xQ b (List.mem_append.2 (.inl hb))
  refine ⟨(hi.own _ _ oD).1,(hi.own _ _ oD).2,fun p hp h=>?_⟩
  unfold fA at h
  split at h
  ·rename_i Rv
   rcases List.mem_cons.1 h with h' | h'
   ·exact sj (h' ▸ dG b (List.mem_append.2 (.inl hb)))
   ·exact m3 b hb b h' rfl
  ·rename_i Rv
   exact hi.apart _ _ Rv b h oD
theorem aS.BL{t : TypeId}{x : Operand}{o s i k MH tv : Nat}{rows : List (List X)}{HC : List X}{rs : List (List X)}(sO : List (List X))(ht : TY.size P t = some 1)(hx : bW st x = some (.ptr o s i k))(hy : look st.aC tv = some (.dn MH rows))
  (ho:look st.aD o = some (.rows s rs)) (hr:rs[i]? = some HC) (hk:k + 1 <= HC.length) (he:rs.set i (kT HC k [.dn MH rows]) = sO) (kk:aS P N all rest ((st.put tv .no).de o (.rows s sO)) Q) :
  aS P N all (⟨none,.store t x (.tmp tv),ty,pos,af,none⟩ :: rest) st Q:=by
 subst he; exact aS.K6 ht hx hy (row:=[]) rfl ho hr hk kk
end
end Go.AW
namespace Go.AW
open Go
theorem RO.HU{E:Env}{cs:Array Value}{e off:Nat}{R:List Nat}(h:RO E [.v (.slice none 0 0)] cs off R):RO E [.dn e []] cs off R:=by
 simp only [RO] at h ⊢
 obtain ⟨u,R₁,R₂,hu,hs,h1,h2,h3⟩:=h
 simp only [RX] at h1
 refine ⟨u,R₁,R₂,hu,hs,?_,h2,h3⟩
 simp only [RX]
 exact ⟨fun _ h=>(by cases h),none,0,h1.1,.inl ⟨by trivial,by trivial,h1.2⟩⟩
theorem cE.HU{E : Env}{cs : Array Value}{e : Nat} : ∀ {n off : Nat} {R : List Nat}, cE E (List.replicate n [.v (.slice none 0 0)]) cs off R → cE E (List.replicate n [.dn e []]) cs off R
 | 0,_,_,h=>by simpa [cE] using h
 | n + 1,off,R,h=>by
  simp only [List.replicate_succ,cE] at h ⊢
  obtain ⟨R₁,R₂,_,h1,h2,h3⟩:=h
  exact ⟨R₁,R₂,rfl,h1.HU,cE.HU h2,h3⟩
section
variable {N:eZ} {st:St} {d:Nat}
theorem Sh.pz(e:Nat){n:Nat}(hx:look st.aC d = some (.dn 1 (List.replicate n [.v (.slice none 0 0)]))):Sh N st (st.put d (.dn 1 (List.replicate n [.dn e []]))):=by
 intro G hn a w hh
 obtain ⟨E,RR,rfl,hi⟩:=hh
 have hv:=hi.aC d _ hx
 refine ⟨E,_,rfl,hi.relabel (d:=d) (R:=RR (.slot d)) ?_ (hi.nodup _) (fun b hb=>⟨(hi.own _ _ hb).1,(hi.own _ _ hb).2,fun p hp h=>hi.apart _ _ hp b h hb⟩)⟩
 simp only [RX] at hv ⊢
 obtain ⟨_,base,cap,hc,h⟩:=hv
 refine ⟨fun r hr=>by rw [(List.mem_replicate.1 hr).2]; rfl,base,cap,by simpa using hc,?_⟩
 rcases h with ⟨h1,h2,h3⟩ | ⟨b,off,cs,ty,R',h1,h2,h3,h4,h5,h6,h7⟩
 ·refine .inl ⟨?_,h2,h3⟩
  have:n = 0:=by simpa using congrArg List.length h1
  subst this; rfl
 ·exact .inr ⟨b,off,cs,ty,R',h1,h2,by simpa using h3,h4,h5,h6.HU,h7⟩
end
theorem BM{α:Type}{l:List α}{f:α -> List X}{m:Nat}{r:List X}(h:m < l.length):((l.map f).set (0 + m) r)[0 + m]? = some r:=by
 rw [Nat.zero_add,List.getElem?_set_self (by simpa using h)]
theorem xR{α:Type}{l:List α}{f:α -> List X}{m:Nat}{r q:List X}{v:α}(h:q = f v):((l.map f).set (0 + m) r).set (0 + m) q = (l.set m v).map f:=by
 rw [Nat.zero_add,List.set_set,h,List.map_set]
theorem v9{α:Type}{l:List α}{f:α -> List X}{m n:Nat}(h:n = l.length - m):((l.map f).drop (0 + m)).take n = (l.drop m).map f:=by
 rw [Nat.zero_add,<- List.map_drop,List.take_of_length_le (by simp; omega)]
theorem X.rh{α : Type}{f g : α → List X}(h : ∀ a, X.jt (f a) = g a) : ∀ l : List α, X.lv (l.map f) = l.map g
 | []=>rfl
 | a :: r=>by simp only [List.map_cons,X.lv,h,X.rh h r]
theorem Sh.Ah{α:Type}{f g:α -> List X}{N:eZ}{st:St}{d s:Nat}{l:List α}(h:∀ a,X.jt (f a) = g a)(hx:look st.aC d = some (.dn s (l.map f))):Sh N st (st.put d (.fz s (l.map g))) :=
 Sh.py hx (by simp only [X.mD,X.rh h])
end Go.AW
namespace Go.AW
open Go
section
variable {P:Program} {N:eZ} {st:St} {Q:Exit -> St -> Prop} {all:Array Oper} {rest:List Oper} {d:Nat} {ty:TypeId} {pos:String} {af:Array Edge}
theorem aS.J7{t t' e s dJ : Nat}{x y : Operand}{s' : Nat}{rows : List (List X)}(ht : TY.slice P t = some (e, s, dJ))(hx : bW st x = some (.fz s' rows))(hy : bW st y = some (.v (.slice none 0 0)))(hd : d < N.n)
  (k:∀ b:Bool,(b = true -> rows = []) -> aS P N all rest (st.put d (.v (.bool b))) Q):aS P N all (⟨some d,.binOp .eql t x y t',ty,pos,af,none⟩ :: rest) st Q:=by
 intro G hn a w hh
 obtain ⟨E,RR,rfl,hi⟩:=hh
 obtain ⟨R,hp⟩:=hi.eval hx
 have YF:=hi.val hy
 obtain ⟨hu,_⟩:=TY.dP ht
 simp only [RX] at hp
 obtain ⟨_,hU,base,cap,hc,cX⟩:=hp
 have hr:(execOp a.eval ⟨some d,.binOp .eql t x y t',ty,pos,af,none⟩).run P E.w = .ok (.value (.bool base.isNone)) E.w:=by
  show (do let x <- (do eqGuard .eql t x y (a.eval x) (a.eval y); binOp .eql t (a.eval x) (a.eval y):Sem Value); pure (Next.value x):Sem Next).run P E.w = _
  rw [YF,hc]
  refine dN ?_
  have:=Lib.run_eql_slice_nil (P:=P) E.w t e base rows.length cap 0 0 hu
  simp only [eqGuard,Sem.run_bind]
  simpa using this
 refine wpList_plain rfl fun K hK=>?_
 simp only [Oper.wp,hr,Oper.upon_value]
 refine hK _ _ (k base.isNone (fun h=>?_) G hn _ _ ⟨E,_,rfl,hi.gZ (by rw [hn]; exact hd) (by simp [RX])⟩)
 rcases cX with ⟨h1,_⟩ | ⟨b,off,h1,_⟩
 ·exact h1
 ·rw [h1] at h; cases h
theorem RO.ui{E : Env}{cs : Array Value}{x y : X}(Ae : ∀ c, RX E x c [] → RX E y c [])(hf : x.free = true) : ∀ {xs : List X} {off k : Nat} {R : List Nat}, RO E xs cs off R → xs[k]? = some x → RO E (xs.set k y) cs off R
 | [],_,_,_,_,h=>by simp at h
 | z :: r,off,0,R,h,hy=>by
  simp only [RO] at h
  obtain ⟨u,R₁,R₂,hu,hs,h1,h2,rfl⟩:=h
  simp only [List.getElem?_cons_zero,Option.some.injEq] at hy
  subst hy
  have h0:=RX.free hf h1
  subst h0
  simp only [List.set,RO]
  exact ⟨u,[],R₂,hu,hs,Ae u h1,h2,rfl⟩
 | z :: r,off,k + 1,R,h,hy=>by
  simp only [RO] at h
  obtain ⟨u,R₁,R₂,hu,hs,h1,h2,rfl⟩:=h
  simp only [List.getElem?_cons_succ] at hy
  simp only [List.set,RO]
  exact ⟨u,R₁,R₂,hu,hs,h1,RO.ui Ae hf h2 hy,rfl⟩
theorem Sh.eW(o q s k : Nat){xs : List X}(ho : look (st.kill q).aD o = some (.cells xs))(hk : xs[k]? = some (.v (.slice none 0 0)))(tw : X.b5 (xs.set k (.aR q s 0 0)) = true)(YG : Nat.beq q o = false)(hF : N.F.elem q = false) :
  Sh N st (((st.kill q).de q (.rows s [])).de o (.cells (xs.set k (.aR q s 0 0)))):=by
 intro G hn a w hh
 obtain ⟨E,RR,rfl,hi⟩:=hh
 obtain ⟨E',fO,hw,h1,h2⟩:=hi.nil q s (by rw [hn]; exact hF)
 have aY:=h1.aD o (.cells xs) (by simp only [St.de,look,YG,cond_false]; exact ho)
 have HV:=aY
 simp only [dh] at HV
 obtain ⟨_,B,cs,ty,hB,rZ,hφ,fB,z9,hR⟩:=HV
 refine ⟨E',_,hw,h1.de (R:=fO (.obj o)) ?_ (h1.nodup _) (fun b hb=>⟨(h1.own _ _ hb).1,(h1.own _ _ hb).2,fun p hp h=>h1.apart _ _ hp b h hb⟩)⟩
 simp only [dh]
 refine ⟨tw,B,cs,ty,hB,rZ,hφ,by rw [List.length_set]; exact fB,RO.ui (x:=.v (.slice none 0 0)) (fun c hc=>?_) rfl z9 hk,hR⟩
 simp only [RX] at hc
 rw [hc.1]; exact h2
theorem b6.ui{E : Env}{x y : X}(Ae : ∀ c, RX E x c [] → RX E y c [])(hf : x.free = true) : ∀ {xs : List X} {k : Nat} {cs : List Value} {R : List Nat}, b6 E xs cs R → xs[k]? = some x → b6 E (xs.set k y) cs R
 | [],_,_,_,_,h=>by simp at h
 | z :: r,0,cs,R,h,hy=>by
  simp only [b6] at h
  obtain ⟨c,dg,R₁,R₂,ve,hs,h1,h2,rfl⟩:=h
  simp only [List.getElem?_cons_zero,Option.some.injEq] at hy
  subst hy
  have h0:=RX.free hf h1
  subst h0
  simp only [List.set,b6]
  exact ⟨c,dg,[],R₂,ve,hs,Ae c h1,h2,rfl⟩
 | z :: r,k + 1,cs,R,h,hy=>by
  simp only [b6] at h
  obtain ⟨c,dg,R₁,R₂,ve,hs,h1,h2,rfl⟩:=h
  simp only [List.getElem?_cons_succ] at hy
  simp only [List.set,b6]
  exact ⟨c,dg,R₁,R₂,ve,hs,h1,b6.ui Ae hf h2 hy,rfl⟩
theorem Sh.zD(s k:Nat){d:Nat}{xs:List X}(hx:look st.aC d = some (.agg xs))(hk:xs[k]? = some (.v (.slice none 0 0))):Sh N st (st.put d (.agg (xs.set k (.fz s [])))):=by
 intro G hn a w hh
 obtain ⟨E,RR,rfl,hi⟩:=hh
 have hv:=hi.aC d _ hx
 refine ⟨E,_,rfl,hi.relabel (d:=d) (R:=RR (.slot d)) ?_ (hi.nodup _) (fun b hb=>⟨(hi.own _ _ hb).1,(hi.own _ _ hb).2,fun p hp h=>hi.apart _ _ hp b h hb⟩)⟩
 simp only [RX] at hv ⊢
 obtain ⟨cs,hc,h⟩:=hv
 refine ⟨cs,hc,b6.ui (x:=.v (.slice none 0 0)) (fun c hc=>?_) rfl h hk⟩
 simp only [RX] at hc ⊢
 exact ⟨trivial,fun _ h=>(by cases h),none,0,hc.1,.inl ⟨by trivial,by trivial⟩⟩
end
end Go.AW
