/- Part of the abstract walk: names of objects in a callee and in its caller; values that eu no frozen memory. -/
import Derived.Test.YtlimckldnjmabaaAWx0
import Derived.StillTail
import Derived.Orders
import Derived.Below
import Derived.Carry
import Derived.Deep.Slices
import Derived.Deep.Fields
import Derived.ChangeSame
import Derived.ChangeSlices
import Derived.SizedLaws
import Derived.Deep.Grids
import Derived.Maps.Keyed
import Derived.DeepKeys4
import Derived.OpenShut
import Derived.Lib.AppendZeros
import Derived.Lib.SliceRun
set_option linter.unusedSimpArgs false
set_option linter.unusedVariables false
set_option linter.unusedSectionVars false
namespace Go.AW
open Go
mutual
def X.g9(ν : Nat → Nat) : X → X
 | .ptr o s i k=>.ptr (ν o) s i k
 | .aN o s lo n=>.aN (ν o) s lo n
 | .mref o=>.mref (ν o)
 | .agg xs=>.agg (X.m7 ν xs)
 | .tup xs=>.tup (X.m7 ν xs)
 | .jQ f a b=>.jQ f (X.m7 ν a) (X.m7 ν b)
 | .v u=>.v u
 | .no=>.no
 | .fz s rows=>.fz s rows
 | .dK s rows=>.dK s rows
 | .fp row k=>.fp row k
def X.m7(ν : Nat → Nat) : List X → List X
 | []=>[]
 | x :: r=>x.g9 ν :: X.m7 ν r
end
def Env.names(E:Env)(ν:Nat -> Nat):Env:={ E with β:=fun o=>E.β (ν o) }
theorem fS(E:Env)(ν:Nat -> Nat)(R:List Nat):(E.names ν).On E R /\ E.On (E.names ν) R:=⟨⟨fun _ _ _ h=>h,fun _ _=>⟨rfl,fun h=>h⟩⟩,⟨fun _ _ _ h=>h,fun _ _=>⟨rfl,fun h=>h⟩⟩⟩
mutual
theorem RX.g9{E : Env}{ν : Nat → Nat} : ∀ (x : X) (c : Value) (R : List Nat), RX (E.names ν) x c R ↔ RX E (x.g9 ν) c R
 | .ptr ..,_,_=>by simp only [X.g9,RX]; exact Iff.rfl
 | .aN ..,_,_=>by simp only [X.g9,RX]; exact Iff.rfl
 | .mref _,_,_=>by simp only [X.g9,RX]; exact Iff.rfl
 | .v _,_,_=>by simp only [X.g9,RX]
 | .no,_,_=>by simp only [X.g9,RX]
 | .fz s rows,c,R=>⟨RX.mono _ c R (fS E ν R).1 (fun o h=>by simp [X.eM] at h),RX.mono _ c R (fS E ν R).2 (fun o h=>by simp [X.g9,X.eM] at h)⟩
 | .dK s rows,c,R=>⟨RX.mono _ c R (fS E ν R).1 (fun o h=>by simp [X.eM] at h),RX.mono _ c R (fS E ν R).2 (fun o h=>by simp [X.g9,X.eM] at h)⟩
 | .fp row k,c,R=>⟨RX.mono _ c R (fS E ν R).1 (fun o h=>by simp [X.eM] at h),RX.mono _ c R (fS E ν R).2 (fun o h=>by simp [X.g9,X.eM] at h)⟩
 | .agg xs,c,R=>by
  simp only [X.g9,RX]
  exact ⟨fun ⟨cs,h1,h2⟩=>⟨cs,h1,(bA.g9 xs _ R).1 h2⟩,fun ⟨cs,h1,h2⟩=>⟨cs,h1,(bA.g9 xs _ R).2 h2⟩⟩
 | .tup xs,c,R=>by
  simp only [X.g9,RX]
  exact ⟨fun ⟨cs,h1,h2⟩=>⟨cs,h1,(eT.g9 xs _ R).1 h2⟩,fun ⟨cs,h1,h2⟩=>⟨cs,h1,(eT.g9 xs _ R).2 h2⟩⟩
 | .jQ f xs ys,c,R=>by
  simp only [X.g9,RX]
  exact ⟨fun ⟨h0,f,cc,h1,h2,h3⟩=>⟨h0,f,cc,h1,(eT.g9 xs _ []).1 h2,(eT.g9 ys _ []).1 h3⟩,fun ⟨h0,f,cc,h1,h2,h3⟩=>⟨h0,f,cc,h1,(eT.g9 xs _ []).2 h2,(eT.g9 ys _ []).2 h3⟩⟩
theorem bA.g9{E : Env}{ν : Nat → Nat} : ∀ (xs : List X) (cs : List Value) (R : List Nat), bA (E.names ν) xs cs R ↔ bA E (X.m7 ν xs) cs R
 | [],_,_=>by simp only [X.m7,bA]
 | x :: r,cs,R=>by
  simp only [X.m7,bA]
  exact ⟨fun ⟨c, dv, R₁, R₂, h1, h2, h3, h4, h5⟩ => ⟨c, dv, R₁, R₂, h1, h2, (RX.g9 x c R₁).1 h3, (bA.g9 r dv R₂).1 h4, h5⟩,
   fun ⟨c,dv,R₁,R₂,h1,h2,h3,h4,h5⟩=>⟨c,dv,R₁,R₂,h1,h2,(RX.g9 x c R₁).2 h3,(bA.g9 r dv R₂).2 h4,h5⟩⟩
theorem eT.g9{E : Env}{ν : Nat → Nat} : ∀ (xs : List X) (cs : List Value) (R : List Nat), eT (E.names ν) xs cs R ↔ eT E (X.m7 ν xs) cs R
 | [],_,_=>by simp only [X.m7,eT]
 | x :: r,cs,R=>by
  simp only [X.m7,eT]
  exact ⟨fun ⟨c, dv, R₁, R₂, h1, h3, h4, h5⟩ => ⟨c, dv, R₁, R₂, h1, (RX.g9 x c R₁).1 h3, (eT.g9 r dv R₂).1 h4, h5⟩,
   fun ⟨c,dv,R₁,R₂,h1,h3,h4,h5⟩=>⟨c,dv,R₁,R₂,h1,(RX.g9 x c R₁).2 h3,(eT.g9 r dv R₂).2 h4,h5⟩⟩
end
theorem RO.g9{E : Env}{ν : Nat → Nat} : ∀ (xs : List X) (cs : Array Value) (off : Nat) (R : List Nat), RO (E.names ν) xs cs off R ↔ RO E (X.m7 ν xs) cs off R
 | [],_,_,_=>by simp only [X.m7,RO]
 | x :: r,cs,off,R=>by
  simp only [X.m7,RO]
  exact ⟨fun ⟨u, R₁, R₂, h1, h2, h3, h4, h5⟩ => ⟨u, R₁, R₂, h1, h2, (RX.g9 x u R₁).1 h3, (RO.g9 r cs _ R₂).1 h4, h5⟩,
   fun ⟨u,R₁,R₂,h1,h2,h3,h4,h5⟩=>⟨u,R₁,R₂,h1,h2,(RX.g9 x u R₁).2 h3,(RO.g9 r cs _ R₂).2 h4,h5⟩⟩
theorem sK(ν : Nat → Nat) : ∀ xs : List X, (X.m7 ν xs).length = xs.length
 | []=>rfl
 | _ :: r=>by simp [X.m7,sK ν r]
mutual
theorem X.x4(ν : Nat → Nat) : ∀ x : X, (x.g9 ν).free = x.free
 | .ptr .. | .aN .. | .mref _ | .v _ | .no | .fz .. | .dK .. | .fp .. | .jQ ..=>rfl
 | .agg xs=>X.pj ν xs
 | .tup xs=>X.pj ν xs
theorem X.pj(ν : Nat → Nat) : ∀ xs : List X, X.b6 (X.m7 ν xs) = X.b6 xs
 | []=>rfl
 | x :: r=>by simp only [X.m7,X.b6,X.x4 ν x,X.pj ν r]
end
def Obj.g9(ν : Nat → Nat) : Obj → Obj
 | .cells xs=>.cells (X.m7 ν xs)
 | .rows s rs=>.rows s rs
 | .yH es=>.yH es
 | .gone=>.gone
 | .hole rs i q s n=>.hole rs i (ν q) s n
theorem dR.g9{E:Env}{ν:Nat -> Nat}{j:Nat}{ob:Obj}{R:List Nat}:dR (E.names ν) j ob R ↔ dR E (ν j) (ob.g9 ν) R:=by
 cases ob with
 | cells xs =>
  simp only [Obj.g9,dR,X.pj,sK]
  exact ⟨fun ⟨h0, B, cs, ty, h1, h2, h3, h4, h5, h6⟩ => ⟨h0, B, cs, ty, h1, h2, h3, h4, (RO.g9 xs cs _ []).1 h5, h6⟩,
   fun ⟨h0,B,cs,ty,h1,h2,h3,h4,h5,h6⟩=>⟨h0,B,cs,ty,h1,h2,h3,h4,(RO.g9 xs cs _ []).2 h5,h6⟩⟩
 | rows s rs =>
  simp only [Obj.g9,dR]
  refine ⟨fun ⟨hu,h⟩=>⟨hu,h.imp (fun h=>h) ?_⟩,fun ⟨hu,h⟩=>⟨hu,h.imp (fun h=>h) ?_⟩⟩
  ·exact fun ⟨B,cs,ty,R',h1,h2,h3,h4,h5,h6,h7⟩=>⟨B,cs,ty,R',h1,h2,h3,h4,h5,cG.mono rs cs _ R' (fS E ν R').1 h6,h7⟩
  ·exact fun ⟨B,cs,ty,R',h1,h2,h3,h4,h5,h6,h7⟩=>⟨B,cs,ty,R',h1,h2,h3,h4,h5,cG.mono rs cs _ R' (fS E ν R').2 h6,h7⟩
 | yH es=>exact Iff.rfl
 | gone=>simp only [Obj.g9,dR]
 | hole rs i q s n =>
  simp only [Obj.g9,dR]
  refine ⟨fun ⟨hu, B, cs, ty, R', u, h1, h2, h3, h4, h5, h6, h7, h8, h9, RA, RB⟩ => ⟨hu, B, cs, ty, R', u, h1, h2, h3, h4, h5, cG.mono rs cs _ R' (fS E ν R').1 h6, h7, h8, h9, RA, (RX.g9 (.aN q s 0 n) u []).1 RB⟩,
   fun ⟨hu,B,cs,ty,R',u,h1,h2,h3,h4,h5,h6,h7,h8,h9,RA,RB⟩=>⟨hu,B,cs,ty,R',u,h1,h2,h3,h4,h5,cG.mono rs cs _ R' (fS E ν R').2 h6,h7,h8,h9,RA,(RX.g9 (.aN q s 0 n) u []).2 RB⟩⟩
mutual
def X.plain : X → Prop
 | .v _ | .no | .ptr .. | .aN .. | .mref _=>True
 | .fz _ _ | .fp _ _ | .jQ ..=>False
 | .dK _ rows=>X.m8 rows
 | .agg xs=>X.fm xs
 | .tup xs=>X.fm xs
def X.fm : List X → Prop
 | []=>True
 | x :: r=>x.plain /\ X.fm r
def X.m8 : List (List X) → Prop
 | []=>True
 | x :: r=>X.fm x /\ X.m8 r
end
def Env.GZ(E E':Env)(R:List Nat):Prop:=∀ b ∈ R,E'.w.heap[b]? = E.w.heap[b]? /\ ((∀ i,E.φ b i = none) -> ∀ i,E'.φ b i = none)
theorem Env.GZ.sub{E E':Env}{R R':List Nat}(h:E.GZ E' R)(hs:∀ b ∈ R',b ∈ R):E.GZ E' R':=fun b hb=>h b (hs b hb)
mutual
theorem RX.off{E E' : Env} : ∀ (x : X) (c : Value) (R : List Nat), x.plain → E.GZ E' R → (∀ o, E'.β o = E.β o) → RX E x c R → RX E' x c R
 | .v _,_,_,_,_,_,h=>by simpa [RX] using h
 | .no,_,_,_,_,_,h=>by simpa [RX] using h
 | .fz ..,_,_,hp,_,_,_=>hp.elim
 | .fp ..,_,_,hp,_,_,_=>hp.elim
 | .jQ ..,_,_,hp,_,_,_=>hp.elim
 | .ptr o ..,_,_,_,_,hβ,h=>by simp only [RX] at h ⊢; rw [hβ]; exact h
 | .aN o ..,_,_,_,_,hβ,h=>by simp only [RX] at h ⊢; rw [hβ]; exact h
 | .mref o,_,_,_,_,hβ,h=>by simp only [RX] at h ⊢; rw [hβ]; exact h
 | .dK s rows,c,R,hp,hE,hβ,h=>by
  simp only [RX] at h ⊢
  obtain ⟨hu,base,cap,hc,hh⟩:=h
  refine ⟨hu,base,cap,hc,?_⟩
  rcases hh with hh | ⟨b,off,cs,ty,R',hb,hw,hl,ho,hf,hr,hR⟩
  ·exact .inl hh
  ·subst hR
   have h2:=hE b (by simp)
   exact .inr ⟨b,off,cs,ty,R',hb,h2.1.trans hw,hl,ho,h2.2 hf,cG.off rows cs off R' hp (hE.sub (fun _ h=>by simp [h])) hβ hr,rfl⟩
 | .agg xs,c,R,hp,hE,hβ,h=>by
  simp only [RX] at h ⊢
  obtain ⟨cs,hc,hs⟩:=h
  exact ⟨cs,hc,bA.off xs _ R hp hE hβ hs⟩
 | .tup xs,c,R,hp,hE,hβ,h=>by
  simp only [RX] at h ⊢
  obtain ⟨cs,hc,hs⟩:=h
  exact ⟨cs,hc,eT.off xs _ R hp hE hβ hs⟩
theorem bA.off{E E' : Env} : ∀ (xs : List X) (cs : List Value) (R : List Nat), X.fm xs → E.GZ E' R → (∀ o, E'.β o = E.β o) → bA E xs cs R → bA E' xs cs R
 | [],_,_,_,_,_,h=>by simpa [bA] using h
 | x :: r,cs,R,hp,hE,hβ,h=>by
  simp only [bA] at h ⊢
  simp only [X.fm] at hp
  obtain ⟨c,dv,R₁,R₂,hc,hs,h1,h2,hR⟩:=h
  subst hR
  exact ⟨c,dv,R₁,R₂,hc,hs,RX.off x c R₁ hp.1 (hE.sub (fun _ h=>cT h)) hβ h1,bA.off r dv R₂ hp.2 (hE.sub (fun _ h=>cD h)) hβ h2,rfl⟩
theorem eT.off{E E' : Env} : ∀ (xs : List X) (cs : List Value) (R : List Nat), X.fm xs → E.GZ E' R → (∀ o, E'.β o = E.β o) → eT E xs cs R → eT E' xs cs R
 | [],_,_,_,_,_,h=>by simpa [eT] using h
 | x :: r,cs,R,hp,hE,hβ,h=>by
  simp only [eT] at h ⊢
  simp only [X.fm] at hp
  obtain ⟨c,dv,R₁,R₂,hc,h1,h2,hR⟩:=h
  subst hR
  exact ⟨c,dv,R₁,R₂,hc,RX.off x c R₁ hp.1 (hE.sub (fun _ h=>cT h)) hβ h1,eT.off r dv R₂ hp.2 (hE.sub (fun _ h=>cD h)) hβ h2,rfl⟩
theorem RO.off{E E' : Env} : ∀ (xs : List X) (cs : Array Value) (off : Nat) (R : List Nat), X.fm xs → E.GZ E' R → (∀ o, E'.β o = E.β o) → RO E xs cs off R → RO E' xs cs off R
 | [],_,_,_,_,_,_,h=>by simpa [RO] using h
 | x :: r,cs,off,R,hp,hE,hβ,h=>by
  simp only [RO] at h ⊢
  simp only [X.fm] at hp
  obtain ⟨u,R₁,R₂,hu,hs,h1,h2,hR⟩:=h
  subst hR
  exact ⟨u,R₁,R₂,hu,hs,RX.off x u R₁ hp.1 (hE.sub (fun _ h=>cT h)) hβ h1,RO.off r cs (off + 1) R₂ hp.2 (hE.sub (fun _ h=>cD h)) hβ h2,rfl⟩
theorem cG.off{E E' : Env} : ∀ (rs : List (List X)) (cs : Array Value) (off : Nat) (R : List Nat), X.m8 rs → E.GZ E' R → (∀ o, E'.β o = E.β o) → cG E rs cs off R → cG E' rs cs off R
 | [],_,_,_,_,_,_,h=>by simpa [cG] using h
 | r :: rs,cs,off,R,hp,hE,hβ,h=>by
  simp only [cG] at h ⊢
  simp only [X.m8] at hp
  obtain ⟨R₁,R₂,hn,h1,h2,hR⟩:=h
  subst hR
  exact ⟨R₁,R₂,hn,RO.off r cs off R₁ hp.1 (hE.sub (fun _ h=>cT h)) hβ h1,cG.off rs cs _ R₂ hp.2 (hE.sub (fun _ h=>cD h)) hβ h2,rfl⟩
end
def Obj.plain : Obj → Prop
 | .cells xs=>X.fm xs
 | .rows _ rs=>X.m8 rs
 | .yH _=>True
 | .gone=>True
 | .hole rs ..=>X.m8 rs
theorem dR.off{E E':Env}{o:Nat}{ob:Obj}{R:List Nat}(hp:ob.plain)(hE:E.GZ E' R)(hβ:∀ o,E'.β o = E.β o)(h:dR E o ob R):dR E' o ob R:=by
 cases ob with
 | cells xs =>
  simp only [dR] at h ⊢
  obtain ⟨tp,B,cs,ty,hB,hw,hf,hl,hR,rfl⟩:=h
  have h2:=hE B.b (by simp)
  exact ⟨tp,B,cs,ty,(hβ o).trans hB,h2.1.trans hw,h2.2 hf,hl,RO.off xs cs _ [] hp (hE.sub (fun _ h=>by cases h)) hβ hR,rfl⟩
 | rows s rs =>
  simp only [dR] at h ⊢
  obtain ⟨hu,h⟩:=h
  refine ⟨hu,?_⟩
  rcases h with ⟨h1,h2,h3⟩ | ⟨B,cs,ty,R',hB,hw,hf,hl,hc,hR,rfl⟩
  ·exact .inl ⟨(hβ o).trans h1,h2,h3⟩
  ·have h2:=hE B.b (by simp)
   exact .inr ⟨B,cs,ty,R',(hβ o).trans hB,h2.1.trans hw,h2.2 hf,hl,hc,cG.off rs cs _ R' hp (hE.sub (fun _ h=>by simp [h])) hβ hR,rfl⟩
 | yH es =>
  simp only [dR] at h ⊢
  obtain ⟨B,tc,clock,hB,hw,hf,he,rfl⟩:=h
  have h2:=hE B.b (by simp)
  exact ⟨B,tc,clock,(hβ o).trans hB,h2.1.trans hw,h2.2 hf,he,rfl⟩
 | gone=>simpa [dR] using h
 | hole rs i q s n =>
  simp only [dR] at h ⊢
  obtain ⟨hu,B,cs,ty,R',u,hB,hw,hf,hl,hc,hR,rfl,hi,yI,hs,hx⟩:=h
  have h2:=hE B.b (by simp)
  exact ⟨hu,B,cs,ty,R',u,(hβ o).trans hB,h2.1.trans hw,h2.2 hf,hl,hc,cG.off rs cs _ R' hp (hE.sub (fun _ h=>by simp [h])) hβ hR,rfl,hi,yI,hs,RX.off (.aN q s 0 n) u [] trivial (hE.sub (fun _ h=>by cases h)) hβ hx⟩
mutual
def X.lt(k : Nat) : X → Bool
 | .v _ | .no | .fz .. | .dK .. | .fp ..=>true
 | .ptr o ..=>Nat.blt o k
 | .aN o ..=>Nat.blt o k
 | .mref o=>Nat.blt o k
 | .agg xs=>X.GD k xs
 | .tup xs=>X.GD k xs
 | .jQ _ a b=>X.GD k a && X.GD k b
def X.GD(k : Nat) : List X → Bool
 | []=>true
 | x :: r=>x.lt k && X.GD k r
end
theorem zG{o k:Nat}(h:Nat.blt o k = true):o < k:=Nat.le_of_ble_eq_true h
mutual
theorem X.Bf{k o : Nat} : ∀ {x : X}, x.lt k = true → x.eM o = true → o < k
 | .v _,_,h | .no,_,h | .fz ..,_,h | .dK ..,_,h | .fp ..,_,h=>by simp [X.eM] at h
 | .ptr p ..,h,hm=>by simp only [X.eM] at hm; rw [<- Nat.eq_of_beq_eq_true hm]; exact zG h
 | .aN p ..,h,hm=>by simp only [X.eM] at hm; rw [<- Nat.eq_of_beq_eq_true hm]; exact zG h
 | .mref p,h,hm=>by simp only [X.eM] at hm; rw [<- Nat.eq_of_beq_eq_true hm]; exact zG h
 | .agg xs,h,hm=>X.lv (xs:=xs) h hm
 | .tup xs,h,hm=>X.lv (xs:=xs) h hm
 | .jQ _ a b,h,hm=>by
  simp only [X.lt,Bool.and_eq_true] at h
  simp only [X.eM,Bool.or_eq_true] at hm
  exact hm.elim (X.lv h.1) (X.lv h.2)
theorem X.lv{k o : Nat} : ∀ {xs : List X}, X.GD k xs = true → X.ct o xs = true → o < k
 | [],_,h=>by simp [X.ct] at h
 | x :: r,h,hm=>by
  simp only [X.GD,Bool.and_eq_true] at h
  simp only [X.ct,Bool.or_eq_true] at hm
  exact hm.elim (X.Bf h.1) (X.lv h.2)
end
def Obj.lt(k : Nat) : Obj → Bool
 | .cells xs=>X.GD k xs
 | .hole _ _ q _ _=>Nat.blt q k
 | _=>true
theorem Obj.DV{k q : Nat} : ∀ {ob : Obj}, ob.lt k = true → ob.ct q = true → q < k
 | .cells _,h,hq=>X.lv h hq
 | .hole _ _ p _ _,h,hq=>by
  have h1:=Nat.eq_of_beq_eq_true (show Nat.beq p q = true from hq)
  subst h1; exact Nat.le_of_ble_eq_true h
 | .rows ..,_,hq | .yH _,_,hq | .gone,_,hq=>by cases hq
def ed(l:List Nat)(x:X):X:=bif l.any (fun o=>x.eM o) then .no else x
def Obj.ed(l : List Nat) : Obj → Obj
 | .cells xs=>.cells (xs.map (AW.ed l))
 | .hole rs i q s n=>bif l.elem q then .rows 1 rs else .hole rs i q s n
 | ob=>ob
def St.ed(st:St)(l:List Nat):St:=⟨st.aF.map fun p=>(p.1,AW.ed l p.2),st.aG.map fun p=>(p.1,p.2.ed l)⟩
theorem zH{l:List Nat}{x:X}{q:Nat}(h:(ed l x).eM q = true):q ∉ l /\ ed l x = x /\ x.eM q = true:=by
 unfold ed at h ⊢
 cases hk:l.any (fun o=>x.eM o) with
 | true=>simp [hk,X.eM] at h
 | false =>
  rw [hk] at h
  simp only [cond_false] at h ⊢
  refine ⟨fun hq=>?_,trivial,h⟩
  have:l.any (fun o=>x.eM o) = true:=List.any_eq_true.2 ⟨q,hq,h⟩
  rw [hk] at this; cases this
theorem sL(l : List Nat) : ∀ {xs : List X}, X.b6 xs = true → X.b6 (xs.map (ed l)) = true
 | [],_=>rfl
 | x :: r,h=>by
  simp only [X.b6,Bool.and_eq_true] at h
  have h1:(ed l x).free = true:=by
   unfold ed
   cases l.any (fun o=>x.eM o) with
   | true=>rfl
   | false=>exact h.1
  simp only [List.map_cons,X.b6,h1,sL l h.2,Bool.and_self]
theorem RO.ed{E : Env}{l : List Nat} : ∀ {xs : List X} {cs : Array Value} {off : Nat}, X.b6 xs = true → RO E xs cs off [] → RO E (xs.map (AW.ed l)) cs off []
 | [],_,_,_,h=>h
 | x :: r,_,_,hf,h=>by
  simp only [RO] at h
  obtain ⟨u,R₁,R₂,hu,hs,h1,h2,hR⟩:=h
  simp only [X.b6,Bool.and_eq_true] at hf
  have Rf:=RX.free hf.1 h1
  have Rg:=RO.free hf.2 h2
  subst Rf; subst Rg
  have h3:=RO.ed (l:=l) hf.2 h2
  simp only [List.map_cons,RO]
  refine ⟨u,[],[],hu,hs,?_,h3,rfl⟩
  unfold AW.ed
  cases l.any (fun o=>x.eM o) with
  | true=>simp [RX]
  | false=>exact h1
theorem sM{l : List Nat} : ∀ {xs : List X} {q : Nat}, X.ct q (xs.map (ed l)) = true → q ∉ l
 | [],_,h=>by simp [X.ct] at h
 | x :: r,q,h=>by
  simp only [List.map_cons,X.ct,Bool.or_eq_true] at h
  rcases h with h | h
  ·exact (zH h).1
  ·exact sM h
end Go.AW
namespace Go.AW
open Go
inductive x5 (st:St) (L:List Nat) (ν:Nat -> Nat):X -> X -> Prop where
 | same {x:X} (h:x.free = true):x5 st L ν (x.g9 ν) x
 | view {o s lo n:Nat} {rs:List (List X)} (ho:look st.aG o = some (.rows s rs)) (hL:o ∈ L) (q7:lo + n <= rs.length):x5 st L ν (.aN o s lo n) (.fz s ((rs.drop lo).take n))
 | deref {o s i k:Nat} {row:List X} (ho:rowAt st (.ptr o s i k) = some row) (hL:o ∈ L) (Co:X.iH row = true):x5 st L ν (.ptr o s i k) (.fp row k)
inductive er (st:St) (L:List Nat) (ν:Nat -> Nat):List X -> List X -> Prop where
 | nil:er st L ν [] []
 | cons {x y:X} {xs ys:List X} (h:x5 st L ν x y) (hs:er st L ν xs ys):er st L ν (x :: xs) (y :: ys)
 | agg {us vs xs ys:List X} (h:er st L ν us vs) (h1:X.vo vs = true) (hs:er st L ν xs ys):er st L ν (.agg us :: xs) (.agg vs :: ys)
def iN : List Nat → Nat → Option Nat
 | [],_=>none
 | o :: r,q=>bif Nat.beq o q then some 0 else (iN r q).map (· + 1)
theorem q9 : ∀ {l : List Nat} {q j : Nat}, iN l q = some j → l[j]? = some q
 | [],_,_,h=>by cases h
 | o :: r,q,j,h=>by
  simp only [iN] at h
  cases hb:Nat.beq o q with
  | true=>rw [hb] at h; simp at h; subst h; simp [Nat.eq_of_beq_eq_true hb]
  | false =>
   rw [hb] at h
   simp only [cond_false,Option.map_eq_some_iff] at h
   obtain ⟨j',h1,rfl⟩:=h
   simpa using q9 h1
theorem rf : ∀ {l : List Nat} {q j : Nat}, l.Nodup → l[j]? = some q → iN l q = some j
 | [],_,_,_,h=>by simp at h
 | o :: r,q,j,hn,h=>by
  simp only [iN]
  have td:=List.nodup_cons.1 hn
  cases j with
  | zero =>
   simp at h; subst h
   simp
  | succ j =>
   have h':r[j]? = some q:=by simpa using h
   have fN:o ≠ q:=fun e=>td.1 (by rw [e]; exact List.mem_of_getElem? h')
   have:Nat.beq o q = false:=by
    cases hb:Nat.beq o q with
    | false=>rfl
    | true=>exact absurd (Nat.eq_of_beq_eq_true hb) fN
   rw [this]
   simp [rf td.2 h']
theorem qA : ∀ {l : List Nat} {q : Nat}, iN l q = none → q ∉ l
 | [],_,_=>by simp
 | o :: r,q,h=>by
  simp only [iN] at h
  cases hb:Nat.beq o q with
  | true=>simp [hb] at h
  | false =>
   rw [hb] at h
   simp only [cond_false,Option.map_eq_none_iff] at h
   have:=qA h
   have fN:=Nat.ne_of_beq_eq_false hb
   simp [this,Ne.symm fN]
def lB(st : St) : List Operand → Option (List X)
 | []=>some []
 | x :: r=>match bV st x,lB st r with
  | some y,some l=>some (y :: l)
  | _,_=>none
def aP(P:Program)(f:FuncId):Bool :=
 match P.funcs[f]? with
 | some fn => fn.body.isSome && fn.name != "runtime.NumGoroutine"
 | none=>false
theorem tV{P:Program}{f:FuncId}(h:aP P f = true)(args:Array Value)(w:World):(callFunc f args).run P w = .ok (.enter f args) w:=by
 unfold aP at h
 cases hf:P.funcs[f]? with
 | none=>simp [hf] at h
 | some fn =>
  rw [hf] at h
  simp only [Bool.and_eq_true] at h
  have h1 : fn.name ≠ "runtime.NumGoroutine" := by
   have:=h.2
   simpa [bne] using this
  have h2:fn.body ≠ none:=fun e=>by rw [e] at h; simp at h
  simp [callFunc,hf,h1,h2]
def loose(ν F:List Nat):List Nat:=((dW 0 ν).filter fun p=>!F.elem p.1).map (·.2)
theorem Cw{ν F:List Nat}{o:Nat}(h:o ∉ loose ν F){j:Nat}(hj:ν[j]? = some o):F.elem j = true:=by
 cases hF:F.elem j with
 | true=>rfl
 | false =>
  refine absurd ?_ h
  unfold loose
  refine List.mem_map.2 ⟨(j,o),List.mem_filter.2 ⟨?_,by simpa using hF⟩,rfl⟩
  have:∀ (l:List Nat) (i:Nat),l[j]? = some o -> (i + j,o) ∈ dW i l:=by
   clear h hj hF
   induction j with
   | zero =>
    intro l i h
    cases l with
    | nil=>simp at h
    | cons x r=>simp at h; subst h; simp [dW]
   | succ j ih =>
    intro l i h
    cases l with
    | nil=>simp at h
    | cons x r =>
     simp only [dW,List.mem_cons]
     right
     have:=ih r (i + 1) (by simpa using h)
     rw [show i + (j + 1) = i + 1 + j by omega]; exact this
  simpa using this ν 0 hj
def bW(ν:List Nat)(j:Nat):Nat:=ν.getD j 0
def o8(st:St)(ν F:List Nat)(aK:List Obj):St :=
 ⟨(st.ed (loose ν F)).aF,ν.zip (aK.map (Obj.g9 (bW ν))) ++ (st.ed (loose ν F)).aG⟩
theorem x6 : ∀ {ν : List Nat} {l : List Obj} {r : List (Nat × Obj)} {o : Nat}, ν.length = l.length → look (ν.zip l ++ r) o = match iN ν o with | some j => l[j]? | none => look r o
 | [],[],_,_,_=>rfl
 | [],_ :: _,_,_,h=>by simp at h
 | _ :: _,[],_,_,h=>by simp at h
 | q :: ν,x :: l,r,o,h=>by
  simp only [List.zip_cons_cons,List.cons_append,look,iN]
  cases hb:Nat.beq q o with
  | true=>simp
  | false =>
   simp only [cond_false]
   rw [x6 (by simpa using h)]
   cases hp:iN ν o with
   | none=>simp
   | some j=>simp
section
variable {P:Program} {N:fA} {st:St} {Q:Exit -> St -> Prop} {all:Array Oper} {rest:List Oper} {d:Nat} {ty:TypeId} {pos:String} {af:Array Edge}
theorem RO.freeze{E E1 : Env}{b : Nat} : ∀ {xs : List X} {cs : Array Value} {off : Nat} , (∀ i v, cs[i]? = some v → E1.φ b i = some v) → (∀ c i v, E.φ c i = some v → E1.φ c i = some v) → X.iH xs = true →
  RO E xs cs off [] -> RF E1 xs b off
 | [],_,_,_,_,_,_=>by simp [RF]
 | x :: r,cs,off,h1,h2,hn,h=>by
  simp only [RO] at h
  obtain ⟨u,R₁,R₂,hu,hs,hx,hr,hR⟩:=h
  obtain ⟨rfl,rfl⟩:=List.append_eq_nil_iff.1 hR.symm
  simp only [X.iH,Bool.and_eq_true] at hn
  simp only [RF]
  refine ⟨⟨u,h1 _ _ hu,hs,hn.1,RX.mono x u [] ⟨h2,fun _ h=>by cases h⟩ (fun o ho=>by rw [X.q3 hn.1] at ho; cases ho) hx⟩,RO.freeze h1 h2 hn.2 hr⟩
theorem cG.freeze{E E1 : Env}{b : Nat} : ∀ {rs : List (List X)} {cs : Array Value} {off : Nat}, (∀ i v, cs[i]? = some v → E1.φ b i = some v) → (∀ c i v, E.φ c i = some v → E1.φ c i = some v) →
  cG E rs cs off [] -> kT E1 rs b off
 | [],_,_,_,_,_=>by simp [kT]
 | r :: rs,cs,off,h1,h2,h=>by
  simp only [cG] at h
  obtain ⟨R₁,R₂,hn,hx,hr,hR⟩:=h
  obtain ⟨rfl,rfl⟩:=List.append_eq_nil_iff.1 hR.symm
  simp only [kT]
  exact ⟨RO.freeze h1 h2 hn hx,cG.freeze h1 h2 hr⟩
def jS : Obj → Prop
 | .rows _ rs=>∀ r ∈ rs,X.b6 r = true
 | .cells _=>True
 | .yH _=>True
 | .gone=>True
 | .hole ..=>False
theorem cG.free{E : Env} : ∀ {rs : List (List X)} {cs : Array Value} {off : Nat} {R : List Nat}, (∀ r ∈ rs, X.b6 r = true) → cG E rs cs off R → R = []
 | [],_,_,_,_,h=>by simpa [cG] using h
 | r :: rs,_,_,_,hf,h=>by
  simp only [cG] at h
  obtain ⟨R₁,R₂,_,h1,h2,hR⟩:=h
  rw [hR,RO.free (hf r (by simp)) h1,cG.free (fun q hq=>hf q (by simp [hq])) h2]; rfl
noncomputable def Env.cE(E:Env)(LB:Nat -> Prop):Env:=by
 classical
 exact { E with φ:=fun b i=>if LB b then E.w.cell? ⟨b,i,none⟩ else E.φ b i }
theorem lk(E:Env){LB:Nat -> Prop}{b:Nat}(h:LB b)(i:Nat):(E.cE LB).φ b i = E.w.cell? ⟨b,i,none⟩:=by simp [Env.cE,h]
theorem fT(E:Env){LB:Nat -> Prop}{b:Nat}(h:¬ LB b)(i:Nat):(E.cE LB).φ b i = E.φ b i:=by simp [Env.cE,h]
theorem x5.rx{G : Ctx}{E : Env}{RR : Own → List Nat}{a : Act}{L : List Nat}{ν : Nat → Nat}{LB : Nat → Prop}(hi : Inv G E RR st a)(Ha : ∀ o ∈ L, ∀ b ∈ RR (.obj o), LB b)(hle : ∀ c i v, E.φ c i = some v → (E.cE LB).φ c i = some v)
  (h0:∀ o ∈ L,∀ ob,look st.aG o = some ob -> jS ob) {x y:X} {c:Value} {R:List Nat} (h:x5 st L ν x y) (hx:RX E x c R):RX ((E.cE LB).names ν) y c []:=by
 have iA:E.On (E.cE LB) []:=⟨hle,fun _ h=>by cases h⟩
 cases h with
 | same hf =>
  have:R = []:=RX.free (by rw [X.x4]; exact hf) hx
  subst this
  exact (RX.g9 y c []).2 (RX.mono _ c [] iA (fun _ _=>rfl) hx)
 | view ho hL q7 =>
  rename_i o s lo n rs
  have aZ:=hi.aG o _ ho
  have mP:∀ r ∈ rs,X.b6 r = true:=h0 o hL _ ho
  simp only [RX] at hx ⊢
  obtain ⟨_,base,cap,rfl,cZ⟩:=hx
  simp only [dR] at aZ
  obtain ⟨hu,aZ⟩:=aZ
  have xy:((rs.drop lo).take n).length = n:=by simp; omega
  refine ⟨trivial,(hu.drop lo).take n,base,cap,by rw [xy],?_⟩
  by_cases o7:cap = 0
  ·refine .inl ⟨?_,o7⟩
   have GW:n = 0:=by rcases cZ with ⟨_,_,h,_⟩ | ⟨_,_,_,h,_⟩ <;> omega
   subst GW; simp
  ·rcases cZ with ⟨_,_,_,h⟩ | ⟨B,hB,MI,td,hb⟩
   ·exact absurd h o7
   have iy:=hb.resolve_left o7
   rcases aZ with ⟨h1,_⟩ | ⟨B',cs,tb,R',iL,hw,hφ,lW,fP,jX,jd⟩
   ·rw [hB] at h1; cases h1
   rw [hB] at iL
   obtain rfl:=Option.some.inj iL
   have DW:=cG.free mP jX
   subst DW
   obtain ⟨R1,Ct,dS,_⟩:=cG.zE hu jX q7
   have rY:R1 = []:=by
    cases R1 with
    | nil=>rfl
    | cons b r=>have:=dS b (by simp); cases this
   subst rY
   have Np:LB B.b:=Ha o hL _ (by rw [jd]; simp)
   refine .inr ⟨B.b,B.off + lo * s,iy,om,?_⟩
   have tp:kT (E.cE LB) ((rs.drop lo).take n) B.b (B.off + lo * s):=cG.freeze (fun i v hv=>by rw [lk E Np,dw hw]; exact hv) hle Ct
   exact kT.mono _ _ _ (fS (E.cE LB) ν []).2 tp
 | deref ho hL Co =>
  rename_i o s i k row
  simp only [RX] at hx ⊢
  obtain ⟨_,B,hB,rfl⟩:=hx
  simp only [rowAt] at ho
  split at ho
  ·rename_i xs kE
   have aZ:=hi.aG o _ kE
   simp only [dR] at aZ
   obtain ⟨_,B',cs,tb,iL,hw,_,_,jX,jd⟩:=aZ
   rw [hB] at iL
   obtain rfl:=Option.some.inj iL
   cases qT:Nat.beq i 0 with
   | false=>simp [qT] at ho
   | true =>
    have:=Nat.eq_of_beq_eq_true qT
    subst this
    simp only [qT,cond_true,Option.some.injEq] at ho
    subst ho
    have Np:LB B.b:=Ha o hL _ (by rw [jd]; simp)
    refine ⟨trivial,B.b,B.off,by simp,?_⟩
    exact RF.mono _ _ _ (fS (E.cE LB) ν []).2 (RO.freeze (fun i v hv=>by rw [lk E Np,dw hw]; exact hv) hle Co jX)
  ·rename_i s' rs kE
   have aZ:=hi.aG o _ kE
   have mP:∀ r ∈ rs,X.b6 r = true:=h0 o hL _ kE
   simp only [dR] at aZ
   obtain ⟨hu,aZ⟩:=aZ
   cases JE:Nat.beq s s' with
   | false=>simp [JE] at ho
   | true =>
    have:=Nat.eq_of_beq_eq_true JE
    subst this
    simp only [JE,cond_true] at ho
    rcases aZ with ⟨_,h1,_⟩ | ⟨B',cs,tb,R',iL,hw,_,_,_,jX,jd⟩
    ·subst h1; simp at ho
    rw [hB] at iL
    obtain rfl:=Option.some.inj iL
    have DW:=cG.free mP jX
    subst DW
    obtain ⟨R1,_,q5,dS⟩:=cG.get hu jX ho
    have rY:R1 = []:=by
     cases R1 with
     | nil=>rfl
     | cons b r=>have:=dS b (by simp); cases this
    subst rY
    have Np:LB B.b:=Ha o hL _ (by rw [jd]; simp)
    refine ⟨trivial,B.b,B.off + i * s,by rw [Nat.add_assoc],?_⟩
    exact RF.mono _ _ _ (fS (E.cE LB) ν []).2 (RO.freeze (fun i v hv=>by rw [lk E Np,dw hw]; exact hv) hle Co q5)
  ·rename_i kE
   exact (h0 o hL _ kE).elim
  ·cases ho
theorem er.get{L : List Nat}{ν : Nat → Nat} : ∀ {xs ys : List X} {j : Nat} {y : X}, er st L ν xs ys → ys[j]? = some y → ∃ x, xs[j]? = some x ∧ (x5 st L ν x y ∨ ∃ us vs, x = .agg us ∧ y = .agg vs ∧ er st L ν us vs ∧ X.vo vs = true)
 | _,_,j,y,.nil,h=>by simp at h
 | _,_,0,y,.cons h _,hy=>by simp at hy; subst hy; exact ⟨_,rfl,.inl h⟩
 | _,_,j + 1,y,.cons _ hs,hy=>by simpa using er.get hs (by simpa using hy)
 | _,_,0,y,.agg h h1 _,hy=>by simp at hy; subst hy; exact ⟨_,rfl,.inr ⟨_,_,rfl,rfl,h,h1⟩⟩
 | _,_,j + 1,y,.agg _ _ hs,hy=>by simpa using er.get hs (by simpa using hy)
theorem er.length{L : List Nat}{ν : Nat → Nat} : ∀ {xs ys : List X}, er st L ν xs ys → xs.length = ys.length
 | _,_,.nil=>rfl
 | _,_,.cons _ hs=>by simp [hs.length]
 | _,_,.agg _ _ hs=>by simp [hs.length]
theorem er.Vm{G : Ctx}{E : Env}{RR : Own → List Nat}{a : Act}{L : List Nat}{ν : Nat → Nat}{LB : Nat → Prop}(hi : Inv G E RR st a)(Ha : ∀ o ∈ L, ∀ b ∈ RR (.obj o), LB b)(hle : ∀ c i v, E.φ c i = some v → (E.cE LB).φ c i = some v)
  (h0:∀ o ∈ L,∀ ob,look st.aG o = some ob -> jS ob):∀ {xs ys:List X} {cs:List Value} {R:List Nat},er st L ν xs ys -> bA E xs cs R -> bA ((E.cE LB).names ν) ys cs []
 | _,_,cs,R,.nil,h=>by simp only [bA] at h ⊢; exact ⟨h.1,trivial⟩
 | _,_,cs,R,.cons hl hs,h=>by
  simp only [bA] at h ⊢
  obtain ⟨c,dv,R₁,R₂,rfl,h1,h2,h3,_⟩:=h
  exact ⟨c,dv,[],[],rfl,h1,hl.rx hi Ha hle h0 h2,hs.Vm hi Ha hle h0 h3,rfl⟩
 | _,_,cs,R,.agg hl _ hs,h=>by
  simp only [bA] at h ⊢
  obtain ⟨c,dv,R₁,R₂,rfl,h1,h2,h3,_⟩:=h
  simp only [RX] at h2
  obtain ⟨ds,rfl,h4⟩:=h2
  exact h1.elim
end
end Go.AW
namespace Go.AW
open Go
section
variable {P:Program} {N:fA} {st:St} {Q:Exit -> St -> Prop} {all:Array Oper} {rest:List Oper} {d:Nat} {ty:TypeId} {pos:String} {af:Array Edge}
theorem rh{G : Ctx}{E : Env}{RR : Own → List Nat}{a : Act}(hi : Inv G E RR st a) : ∀ {l : List Operand} {xs : List X}, lB st l = some xs → xs.length = l.length ∧ ∀ (j : Nat) (x : X), xs[j]? = some x → ∃ o : Operand, l[j]? = some o ∧ ∃ R, RX E x (a.eval o) R
 | [],xs,h=>by simp only [lB,Option.some.injEq] at h; subst h; exact ⟨rfl,by simp⟩
 | o :: r,xs,h=>by
  simp only [lB] at h
  cases h1:bV st o with
  | none=>simp [h1] at h
  | some y =>
   cases h2:lB st r with
   | none=>simp [h1,h2] at h
   | some ys =>
    rw [h1,h2] at h
    simp only [Option.some.injEq] at h
    subst h
    obtain ⟨hl,hg⟩:=rh hi h2
    refine ⟨by simp [hl],fun j x hx=>?_⟩
    cases j with
    | zero=>simp at hx; subst hx; exact ⟨o,rfl,hi.eval h1⟩
    | succ j=>simpa using hg j x (by simpa using hx)
theorem Inv.IM{G : Ctx}{E : Env}{RR : Own → List Nat}{a : Act}{f : FuncId}{vs : List Value}{xs args : List X}{aG : List Obj}{F ν L : List Nat}{Q' : X → List Obj → Prop}(hi : Inv G E RR st a)(gR : aw P f args aG F Q')
  (yL:xs.length = vs.length) (IN:∀ (j:Nat) (x:X),xs[j]? = some x -> ∃ v:Value,vs[j]? = some v /\ ∃ R,RX E x v R) (fi:er st L (bW ν) xs args) (rj:∀ j ob,aG[j]? = some ob -> look st.aG (bW ν j) = some (ob.g9 (bW ν))) (hlen:ν.length = aG.length) (DX:ν.Nodup) (Hb:∀ o ∈ L,o ∉ ν)
  (h0:∀ o ∈ L,∃ ob,look st.aG o = some ob /\ jS ob) (Hc:∀ o ∈ loose ν F,G.fn.F.elem o = false) (hd:d < G.fn.n) :
  Calls P f vs.toArray E.w fun e w' => ∃ v r aK, e = .returned v ∧ Q' r aK ∧ aK.length = aG.length ∧
   (r.lt aG.length = true -> (∀ ob ∈ aK,ob.lt aG.length = true) -> (L = [] \/ (r.plain /\ ∀ ob ∈ aK,ob.plain)) -> ∃ ma tT,ma.w = w' /\ Inv G ma tT ((o8 st ν F aK).put d (r.g9 (bW ν))) (a.put (some d) v)):=by
 classical
 -- the blocks that are lent, and those that are handed w9
 let LB:Nat -> Prop:=fun b=>∃ o ∈ L,b ∈ RR (.obj o)
 let PB:Nat -> Prop:=fun b=>∃ j,j < aG.length /\ b ∈ RR (.obj (bW ν j))
 have LY:∀ j,j < aG.length -> ν[j]? = some (bW ν j):=by
  intro j hj
  have:j < ν.length:=by omega
  simp [bW,List.getD,List.getElem?_eq_getElem this]
 have Vn:∀ b,LB b -> ∀ i,E.φ b i = none:=by
  rintro b ⟨o,LZ,hb⟩
  obtain ⟨ob,aZ,mQ⟩:=h0 o LZ
  have h:=hi.aG o ob aZ
  cases ob with
  | cells ys =>
   simp only [dR] at h
   obtain ⟨_,B,cs,tb,_,_,hφ,_,_,jd⟩:=h
   rw [jd] at hb
   simp only [List.mem_singleton] at hb
   rw [hb]; exact hφ
  | rows s rs =>
   simp only [dR] at h
   obtain ⟨_,h⟩:=h
   rcases h with ⟨_,_,h3⟩ | ⟨B,cs,tb,R',_,_,hφ,_,_,jX,jd⟩
   ·rw [h3] at hb; cases hb
   ·have DW:=cG.free mQ jX
    subst DW
    rw [jd] at hb
    simp only [List.mem_singleton] at hb
    rw [hb]; exact hφ
  | yH es =>
   simp only [dR] at h
   obtain ⟨B,tc,clock,_,_,hφ,_,jd⟩:=h
   rw [jd] at hb
   simp only [List.mem_singleton] at hb
   rw [hb]; exact hφ
  | gone =>
   simp only [dR] at h
   rw [h] at hb; cases hb
  | hole rs i q s n=>exact mQ.elim
 have Xj:∀ b,LB b -> ¬ PB b:=by
  rintro b ⟨o,LZ,hb⟩ ⟨j,hj,iy⟩
  have fN:o ≠ bW ν j:=fun e=>Hb o LZ (by rw [e]; exact List.mem_of_getElem? (LY j hj))
  exact hi.apart (.obj o) (.obj (bW ν j)) (by simpa using fN) b hb iy
 have hle:∀ c i v,E.φ c i = some v -> (E.cE LB).φ c i = some v:=by
  intro c i v h
  have:¬ LB c:=fun hL=>by rw [Vn c hL i] at h; cases h
  rw [fT E this]; exact h
 let E1:Env:=(E.cE LB).names (bW ν)
 have Xk:E1.w = E.w:=rfl
 have Xl:∀ o,E1.β o = E.β (bW ν o):=fun _=>rfl
 have RC:∀ b i,E1.φ b i = (E.cE LB).φ b i:=fun _ _=>rfl
 let K1:Nat -> Prop:=fun b=>b < E.w.heap.size /\ ¬ PB b
 let GF:Own -> List Nat:=fun p=>match p with
  | .obj j=>if j < aG.length then RR (.obj (bW ν j)) else []
  | .slot _=>[]
 have RD:∀ i j,i < aG.length -> j < aG.length -> bW ν i = bW ν j -> i = j:=by
  intro i j iJ xg h
  have h1:=rf DX (LY i iJ)
  have h2:=rf DX (LY j xg)
  rw [h] at h1
  rw [h1] at h2
  exact Option.some.inj h2
 have Xm:Inv (ra K1 E1 ⟨args.length,F⟩) E1 GF ⟨dW 0 args,dW 0 aG⟩ ⟨vs.toArray,[]⟩:=by
  constructor
  ·intro b i v h
   rw [RC] at h
   by_cases hL:LB b
   ·rw [lk E hL] at h; exact h
   ·rw [fT E hL] at h; exact hi.ox b i v h
  ·intro s y hy
   have GB:look (dW 0 args) s = some y:=hy
   rw [ig] at GB
   obtain ⟨x,hx,cZ⟩:=fi.get GB
   obtain ⟨o,ho,R,hR⟩:=IN s x hx
   have Cx:vs.toArray.getD s undef = o:=by
    simp [Array.getD_eq_getD_getElem?,ho]
   show RX E1 y (vs.toArray.getD s undef) []
   rw [Cx]
   have Ha:∀ o ∈ L,∀ b ∈ RR (.obj o),LB b:=fun o ho b hb=>⟨o,ho,hb⟩
   have Vo:∀ o ∈ L,∀ ob,look st.aG o = some ob -> jS ob:=fun o ho ob aZ=>by
    obtain ⟨yJ,h1,h2⟩:=h0 o ho
    rw [h1] at aZ
    obtain rfl:=Option.some.inj aZ
    exact h2
   rcases cZ with hl | ⟨us,vs,rfl,rfl,hl,_⟩
   ·exact hl.rx hi Ha hle Vo hR
   ·simp only [RX] at hR ⊢
    obtain ⟨cs,hc,h2⟩:=hR
    exact ⟨cs,hc,hl.Vm hi Ha hle Vo h2⟩
  ·intro j ob ho
   have nv:look (dW 0 aG) j = some ob:=ho
   rw [ig] at nv
   have hj:j < aG.length:=by
    rcases Nat.lt_or_ge j aG.length with h' | h'
    ·exact h'
    ·simp [List.getElem?_eq_none h'] at nv
   have h1:=hi.aG _ _ (rj j ob nv)
   have rY:GF (.obj j) = RR (.obj (bW ν j)):=by simp [GF,hj]
   rw [rY]
   have h2:dR (E.names (bW ν)) j ob (RR (.obj (bW ν j))):=dR.g9.2 h1
   refine dR.mono (E:=E.names (bW ν)) ⟨hle,fun b hb=>⟨rfl,fun hφ i=>?_⟩⟩ rfl (fun _ _=>rfl) h2
   have:¬ LB b:=fun hL=>Xj b hL ⟨j,hj,hb⟩
   show (E.cE LB).φ b i = none
   rw [fT E this]; exact hφ i
  ·intro p
   cases p with
   | slot s=>exact List.nodup_nil
   | obj j=>by_cases hj:j < aG.length <;> simp [GF,hj,hi.nodup]
  ·intro p q ny b hb iy
   cases p with
   | slot s=>cases hb
   | obj i =>
    cases q with
    | slot s=>cases iy
    | obj j =>
     by_cases zC:i < aG.length
     ·by_cases oy:j < aG.length
      ·simp only [GF,zC,oy,if_true] at hb iy
       have fN:bW ν i ≠ bW ν j:=fun e=>ny (by rw [RD i j zC oy e])
       exact hi.apart (.obj (bW ν i)) (.obj (bW ν j)) (by simpa using fN) b hb iy
      ·simp [GF,oy] at iy
     ·simp [GF,zC] at hb
  ·intro p b hb
   cases p with
   | slot s=>cases hb
   | obj j =>
    by_cases hj:j < aG.length
    ·simp only [GF,hj,if_true] at hb
     exact ⟨(hi.own _ _ hb).1,fun h=>h.2 ⟨j,hj,hb⟩⟩
    ·simp [GF,hj] at hb
  ·intro b _; rfl
  ·exact Nat.le_refl _
  ·intro b hb; exact hb.1
  ·rfl
  ·rfl
  ·rfl
  ·intro b i v h; exact h
  ·intro b i v h; exact .inl h
  ·intro o _; rfl
  ·show vs.toArray.size = args.length
   have:=fi.length
   simp; omega
  ·rfl
 refine (gR K1 E1 GF _ Xm).mono ?_
 rintro e w' ⟨v,r,aK,he,Nq,xp,E',gG,rfl,x7⟩
 refine ⟨v,r,aK,he,Nq,xp,fun RE RG DY=>?_⟩
 -- what the callee leaves
 have IP:∀ b,b < E.w.heap.size -> ¬ PB b -> E'.w.heap[b]? = E.w.heap[b]?:=fun b h1 h2=>x7.ai b ⟨h1,h2⟩
 have fP:E.w.heap.size <= E'.w.heap.size:=x7.size
 let ma:Env:={ φ:=fun b i=>if LB b then none else E'.φ b i,β:=fun o=>match iN ν o with | some j=>E'.β j | none=>E.β o,w:=E'.w }
 have Hd:∀ b i,LB b -> ma.φ b i = none:=fun b i h=>by simp [ma,h]
 have vD:∀ b i,¬ LB b -> ma.φ b i = E'.φ b i:=fun b i h=>by simp [ma,h]
 have Nr:∀ b i v,E.φ b i = some v -> ma.φ b i = some v:=by
  intro b i v h
  have hn:¬ LB b:=fun hL=>by rw [Vn b hL i] at h; cases h
  rw [vD b i hn]
  refine x7.φ0 b i v ?_
  show (E.cE LB).φ b i = some v
  exact hle b i v h
 have JT:∀ b,b < E.w.heap.size -> ¬ PB b -> (∀ i,E.φ b i = none) -> ∀ i,ma.φ b i = none:=by
  intro b hb hP hφ i
  by_cases hL:LB b
  ·exact Hd b i hL
  ·rw [vD b i hL]
   cases h:E'.φ b i with
   | none=>rfl
   | some v =>
    rcases x7.grow b i v h with h1 | h1
    ·have Ns:(E.cE LB).φ b i = some v:=h1
     rw [fT E hL,hφ i] at Ns; cases Ns
    ·exact absurd ⟨hb,hP⟩ h1
 have iA:∀ R,(∀ b ∈ R,b < E.w.heap.size /\ ¬ PB b) -> E.On ma R:=fun R h=>⟨Nr,fun b hb=>⟨IP b (h b hb).1 (h b hb).2,JT b (h b hb).1 (h b hb).2⟩⟩
 have hβ:∀ o,o ∉ loose ν F -> ma.β o = E.β o:=by
  intro o ho
  show (match iN ν o with | some j=>E'.β j | none=>E.β o) = E.β o
  cases hp:iN ν o with
  | none=>rfl
  | some j =>
   have h1:=q9 hp
   have hF:=Cw ho h1
   have h2:=x7.fixed j hF
   have h3:(ra K1 E1 ⟨1,F⟩).β0 j = E.β (bW ν j):=rfl
   rw [h3] at h2
   have h4:bW ν j = o:=by simp [bW,List.getD,h1]
   rw [h4] at h2
   exact h2
 have RH:∀ j,j < aG.length -> ma.β (bW ν j) = E'.β j:=by
  intro j hj
  show (match iN ν (bW ν j) with | some j=>E'.β j | none=>E.β (bW ν j)) = E'.β j
  rw [rf DX (LY j hj)]
 -- who owns what then
 let pH:Own -> List Nat:=fun p=>match p with
  | .slot s=>match look st.aF s with
   | some x=>bif (loose ν F).any (fun o=>x.eM o) then [] else RR (.slot s)
   | none=>[]
  | .obj o=>match iN ν o with
   | some j=>gG (.obj j)
   | none=>RR (.obj o)
 have He:∀ s b,b ∈ pH (.slot s) -> b ∈ RR (.slot s):=by
  intro s b hb
  simp only [pH] at hb
  cases hs:look st.aF s with
  | none=>simp [hs] at hb
  | some x =>
   rw [hs] at hb
   simp only at hb
   cases hk:(loose ν F).any (fun o=>x.eM o) with
   | true=>simp [hk] at hb
   | false=>simpa [hk] using hb
 have zI:∀ p b,b ∈ RR p -> (∀ j,j < aG.length -> p ≠ .obj (bW ν j)) -> b < E.w.heap.size /\ ¬ PB b:=by
  intro p b hb hp
  refine ⟨(hi.own p b hb).1,?_⟩
  rintro ⟨j,hj,iy⟩
  exact hi.apart p _ (hp j hj) b hb iy
 have wA:∀ q b,b ∈ gG q -> b < E'.w.heap.size /\ (E.w.heap.size <= b \/ PB b):=by
  intro q b hb
  have h:=x7.own q b hb
  refine ⟨h.1,?_⟩
  by_cases Cv:b < E.w.heap.size
  ·right
   by_cases hP:PB b
   ·exact hP
   ·exact absurd ⟨Cv,hP⟩ h.2
  ·left; omega
 have zJ:∀ p b,b ∈ RR p -> (∀ j,j < aG.length -> p ≠ .obj (bW ν j)) -> ∀ q,b ∉ gG q:=by
  intro p b hb hp q hq
  have h1:=zI p b hb hp
  rcases (wA q b hq).2 with h | h
  ·omega
  ·exact h1.2 h
 have IQ:∀ q b,b ∈ gG q -> ¬ G.K b:=by
  intro q b hb hK
  rcases (wA q b hb).2 with h | ⟨j,hj,h⟩
  ·have:=hi.small b hK; have:=hi.size; omega
  ·exact (hi.own _ _ h).2 hK
 have Hf:∀ o j,iN ν o = some j -> j < aG.length /\ bW ν j = o:=by
  intro o j h
  have h1:=q9 h
  have hj:j < ν.length:=by
   rcases Nat.lt_or_ge j ν.length with h' | h'
   ·exact h'
   ·simp [List.getElem?_eq_none h'] at h1
  exact ⟨om,by simp [bW,List.getD,h1]⟩
 have Bg:L = [] -> ∀ b i,ma.φ b i = E'.φ b i:=by
  intro hL b i
  refine vD b i ?_
  rintro ⟨o,ho,_⟩
  rw [hL] at ho; cases ho
 have DZ:∀ b,(∀ i,E'.φ b i = none) -> ∀ i,ma.φ b i = none:=by
  intro b h i
  by_cases hL:LB b
  ·exact Hd b i hL
  ·rw [vD b i hL]; exact h i
 have x8:∀ p b,b ∈ pH p -> (b ∈ RR p /\ ∀ j,j < aG.length -> p ≠ .obj (bW ν j)) \/ (∃ o j,p = .obj o /\ iN ν o = some j /\ b ∈ gG (.obj j)):=by
  intro p b hb
  cases p with
  | slot s=>exact .inl ⟨He s b hb,fun j hj=>by simp⟩
  | obj o =>
   simp only [pH] at hb
   cases hp:iN ν o with
   | some j=>rw [hp] at hb; exact .inr ⟨o,j,rfl,hp,hb⟩
   | none =>
    rw [hp] at hb
    refine .inl ⟨hb,fun j hj e=>qA hp ?_⟩
    have:o = bW ν j:=by simpa using e
    rw [this]; exact List.mem_of_getElem? (LY j hj)
 have x9:Inv G ma pH (o8 st ν F aK) a:=by
  refine { hi with ox:=?_,aF:=?_,aG:=?_,nodup:=?_,apart:=?_,own:=?_,ai:=?_,size:=?_,os:=?_,tape:=?_,output:=?_,φ0:=?_,grow:=?_,fixed:=?_ }
  ·intro b i v h
   by_cases hL:LB b
   ·rw [Hd b i hL] at h; cases h
   ·rw [vD b i hL] at h; exact x7.ox b i v h
  ·intro s y hy
   have GB:look ((st.aF).map fun p=>(p.1,AW.ed (loose ν F) p.2)) s = some y:=hy
   rw [oz (AW.ed (loose ν F))] at GB
   cases hs:look st.aF s with
   | none=>simp [hs] at GB
   | some x =>
    rw [hs] at GB
    simp only [Option.map_some,Option.some.injEq] at GB
    subst GB
    cases hk:(loose ν F).any (fun o=>x.eM o) with
    | true =>
     have:pH (.slot s) = []:=by simp [pH,hs,hk]
     rw [this]
     simp [AW.ed,hk,RX]
    | false =>
     have:pH (.slot s) = RR (.slot s):=by simp [pH,hs,hk]
     rw [this]
     simp only [AW.ed,hk,cond_false]
     refine RX.mono x _ _ (iA _ (fun b hb=>zI _ b hb (fun j hj=>by simp))) (fun o ho=>hβ o (fun sJ=>?_)) (hi.aF s x hs)
     have:(loose ν F).any (fun o=>x.eM o) = true:=List.any_eq_true.2 ⟨o,sJ,ho⟩
     rw [hk] at this; cases this
  ·intro o ob ho
   have nv:look (ν.zip (aK.map (Obj.g9 (bW ν))) ++ (st.aG.map fun p=>(p.1,p.2.ed (loose ν F)))) o = some ob:=ho
   rw [x6 (by simp [xp,hlen])] at nv
   cases hp:iN ν o with
   | some j =>
    rw [hp] at nv
    simp only [List.getElem?_map,Option.map_eq_some_iff] at nv
    obtain ⟨yJ,Hg,rfl⟩:=nv
    obtain ⟨hj,Xn⟩:=Hf o j hp
    have xx:pH (.obj o) = gG (.obj j):=by simp [pH,hp]
    rw [xx,<- Xn]
    have h1:dR E' j yJ (gG (.obj j)):=x7.aG j yJ (by rw [ig]; exact Hg)
    have xA:yJ ∈ aK:=List.mem_of_getElem? Hg
    refine dR.g9.1 (?_:dR (ma.names (bW ν)) j yJ (gG (.obj j)))
    have h3:dR { E' with φ:=ma.φ } j yJ (gG (.obj j)):=by
     rcases DY with hL | Du
     ·exact dR.mono (E:=E') ⟨fun b i v h=>by show ma.φ b i = _; rw [Bg hL b i]; exact h,fun b _=>⟨rfl,fun h i=>by show ma.φ b i = _; rw [Bg hL b i]; exact h i⟩⟩ rfl (fun _ _=>rfl) h1
     ·exact dR.off (E:=E') (Du.2 yJ xA) (fun b _=>⟨rfl,DZ b⟩) (fun _=>rfl) h1
    refine dR.mono (E:={ E' with φ:=ma.φ }) ⟨fun _ _ _ h=>h,fun b _=>⟨rfl,fun h=>h⟩⟩ (RH j hj) (fun q hq=>?_) h3
    exact RH q (Obj.DV (RG _ xA) hq)
   | none =>
    rw [hp] at nv
    simp only at nv
    rw [oz (Obj.ed (loose ν F))] at nv
    cases hs:look st.aG o with
    | none=>simp [hs] at nv
    | some MJ =>
     rw [hs] at nv
     simp only [Option.map_some,Option.some.injEq] at nv
     subst nv
     have xx:pH (.obj o) = RR (.obj o):=by simp [pH,hp]
     rw [xx]
     have Nt:∀ j,j < aG.length -> Own.obj o ≠ .obj (bW ν j):=fun j hj e=>qA hp (by
      have:o = bW ν j:=by simpa using e
      rw [this]; exact List.mem_of_getElem? (LY j hj))
     have sa:=iA _ (fun b hb=>zI _ b hb Nt)
     have kE:=hi.aG o MJ hs
     have Nu:ma.β o = E.β o:=by
      show (match iN ν o with | some j=>E'.β j | none=>E.β o) = E.β o
      rw [hp]
     cases MJ with
     | cells ys =>
      simp only [Obj.ed,dR] at kE ⊢
      obtain ⟨tp,B,cs,tb,hB,hw,hf,Nv,jX,jd⟩:=kE
      have h2:=sa.2 B.b (by rw [jd]; simp)
      exact ⟨sL _ tp, B, cs, tb, Nu.trans hB, h2.1.trans hw, h2.2 hf, by simpa using Nv,
       RO.mono _ cs _ [] (sa.sub (fun _ h=>by cases h)) (fun q hq=>hβ q (sM hq)) (RO.ed tp jX),jd⟩
     | rows s rs=>exact dR.mono sa Nu (fun q h=>by cases h) kE
     | yH es=>exact dR.mono sa Nu (fun q h=>by cases h) kE
     | gone=>simpa [Obj.ed,dR] using kE
     | hole rs i p s n =>
      cases hb:(loose ν F).elem p with
      | false =>
       rw [show (Obj.hole rs i p s n).ed (loose ν F) = .hole rs i p s n by simp only [Obj.ed,hb,cond_false]]
       refine dR.mono sa Nu (fun x hx=>hβ x fun e=>?_) kE
       have h1:=Nat.eq_of_beq_eq_true (show Nat.beq p x = true from hx)
       subst h1; rw [List.elem_iff.2 e] at hb; cases hb
      | true =>
       rw [show (Obj.hole rs i p s n).ed (loose ν F) = .rows 1 rs by simp only [Obj.ed,hb,cond_true]]
       exact dR.mono sa Nu (fun q h=>by cases h) kE.w4
  ·intro p
   cases p with
   | slot s =>
    simp only [pH]
    cases hs:look st.aF s with
    | none=>exact List.nodup_nil
    | some x =>
     simp only
     cases (loose ν F).any (fun o=>x.eM o) with
     | true=>exact List.nodup_nil
     | false=>exact hi.nodup _
   | obj o =>
    simp only [pH]
    cases iN ν o with
    | some j=>exact x7.nodup _
    | none=>exact hi.nodup _
  ·intro p q ny b hb iy
   rcases x8 p b hb with ⟨h1,h2⟩ | ⟨o,j,rfl,hp,h1⟩
   ·rcases x8 q b iy with ⟨h3,h4⟩ | ⟨o',j',rfl,IL,h3⟩
    ·exact hi.apart p q ny b h1 h3
    ·exact zJ p b h1 h2 _ h3
   ·rcases x8 q b iy with ⟨h3,h4⟩ | ⟨o',j',rfl,IL,h3⟩
    ·exact zJ q b h3 h4 _ h1
    ·have Xo:j ≠ j':=fun e=>by
      subst e
      have:=(Hf o j hp).2.symm.trans (Hf o' j IL).2
      exact ny (by rw [this])
     exact x7.apart (.obj j) (.obj j') (by simpa using Xo) b h1 h3
  ·intro p b hb
   rcases x8 p b hb with ⟨h1,h2⟩ | ⟨o,j,rfl,hp,h1⟩
   ·have h4:=hi.own p b h1
    exact ⟨Nat.lt_of_lt_of_le h4.1 fP,h4.2⟩
   ·exact ⟨(wA _ b h1).1,IQ _ b h1⟩
  ·intro b hK
   have h1:b < E.w.heap.size:=Nat.lt_of_lt_of_le (hi.small b hK) hi.size
   have h2:¬ PB b:=fun ⟨j,hj,h⟩=>(hi.own _ _ h).2 hK
   have:=IP b h1 h2
   exact this.trans (hi.ai b hK)
  ·exact Nat.le_trans hi.size fP
  ·exact x7.os.trans hi.os
  ·exact x7.tape.trans hi.tape
  ·exact x7.output.trans hi.output
  ·exact fun b i v h=>Nr b i v (hi.φ0 b i v h)
  ·intro b i v h
   by_cases hL:LB b
   ·rw [Hd b i hL] at h; cases h
   ·rw [vD b i hL] at h
    rcases x7.grow b i v h with h1 | h1
    ·have Ns:(E.cE LB).φ b i = some v:=h1
     rw [fT E hL] at Ns
     exact hi.grow b i v Ns
    ·right
     intro hK
     exact h1 ⟨Nat.lt_of_lt_of_le (hi.small b hK) hi.size,fun ⟨j,hj,h⟩=>(hi.own _ _ h).2 hK⟩
  ·intro o ho
   rw [hβ o (fun sJ=>by rw [Hc o sJ] at ho; cases ho)]
   exact hi.fixed o ho
 have hr:RX ma (r.g9 (bW ν)) v (gG (.slot 0)):=by
  have h1:RX E' r v (gG (.slot 0)):=x7.aF 0 r rfl
  have h3:RX { E' with φ:=ma.φ } r v (gG (.slot 0)):=by
   rcases DY with hL | Du
   ·exact RX.mono (E:=E') r _ _ ⟨fun b i v h=>by show ma.φ b i = _; rw [Bg hL b i]; exact h,fun b _=>⟨rfl,fun h i=>by show ma.φ b i = _; rw [Bg hL b i]; exact h i⟩⟩ (fun _ _=>rfl) h1
   ·exact RX.off (E:=E') r _ _ Du.1 (fun b _=>⟨rfl,DZ b⟩) (fun _=>rfl) h1
  refine (RX.g9 r v _).1 (?_:RX (ma.names (bW ν)) r v (gG (.slot 0)))
  exact RX.mono (E:={ E' with φ:=ma.φ }) r _ _ ⟨fun _ _ _ h=>h,fun b _=>⟨rfl,fun h=>h⟩⟩ (fun q hq=>RH q (X.Bf RE hq)) h3
 refine ⟨ma,_,rfl,x9.put hd hr (x7.nodup _) (fun b hb=>⟨(wA _ b hb).1,IQ _ b hb,fun p _ Cs=>?_⟩)⟩
 rcases x8 p b Cs with ⟨h1,h2⟩ | ⟨o,j,rfl,hp,h1⟩
 ·exact zJ p b h1 h2 _ hb
 ·exact x7.apart (.slot 0) (.obj j) (by simp) b hb h1
theorem Inv.call{G : Ctx}{E : Env}{RR : Own → List Nat}{a : Act}{f : FuncId}{cF : List Operand}{xs args : List X}{aG : List Obj}{F ν L : List Nat}{Q' : X → List Obj → Prop}(hi : Inv G E RR st a)(gR : aw P f args aG F Q')
  (gQ:lB st cF = some xs) (fi:er st L (bW ν) xs args) (rj:∀ j ob,aG[j]? = some ob -> look st.aG (bW ν j) = some (ob.g9 (bW ν))) (hlen:ν.length = aG.length) (DX:ν.Nodup) (Hb:∀ o ∈ L,o ∉ ν)
  (h0:∀ o ∈ L,∃ ob,look st.aG o = some ob /\ jS ob) (Hc:∀ o ∈ loose ν F,G.fn.F.elem o = false) (hd:d < G.fn.n) :
  Calls P f (cF.map a.eval).toArray E.w fun e w' => ∃ v r aK, e = .returned v ∧ Q' r aK ∧ aK.length = aG.length ∧
   (r.lt aG.length = true -> (∀ ob ∈ aK,ob.lt aG.length = true) -> (L = [] \/ (r.plain /\ ∀ ob ∈ aK,ob.plain)) -> ∃ ma tT,ma.w = w' /\ Inv G ma tT ((o8 st ν F aK).put d (r.g9 (bW ν))) (a.put (some d) v)):=by
 obtain ⟨yL,IN⟩:=rh hi gQ
 exact hi.IM gR (by simpa using yL) (fun j x hx=>by
  obtain ⟨o,ho,R,hR⟩:=IN j x hx
  exact ⟨a.eval o,by simp [ho],R,hR⟩) fi rj hlen DX Hb h0 Hc hd
theorem aU.call{f : FuncId}{cF : Array Operand}{pQ : Array TypeId}{xs args : List X}{aG : List Obj}{F : List Nat}{Q' : X → List Obj → Prop}(ν L : List Nat)(pI : aP P f = true)(gR : aw P f args aG F Q')
  (gQ:lB st cF.toList = some xs) (fi:er st L (bW ν) xs args) (rj:∀ j ob,aG[j]? = some ob -> look st.aG (bW ν j) = some (ob.g9 (bW ν))) (hlen:ν.length = aG.length) (DX:ν.Nodup) (Hb:∀ o ∈ L,o ∉ ν)
  (h0:∀ o ∈ L,∃ ob,look st.aG o = some ob /\ jS ob) (Hc:∀ o ∈ loose ν F,N.F.elem o = false) (hd:d < N.n)
  (k:∀ r aK,Q' r aK -> aK.length = aG.length -> (r.lt aG.length = true /\ (∀ ob ∈ aK,ob.lt aG.length = true) /\ (L = [] \/ (r.plain /\ ∀ ob ∈ aK,ob.plain))) /\ aU P N all rest ((o8 st ν F aK).put d (r.g9 (bW ν))) Q) :
  aU P N all (⟨some d,.call ⟨.value (.func f),cF,pQ⟩,ty,pos,af,none⟩ :: rest) st Q:=by
 intro G hn a w hh
 obtain ⟨E,RR,rfl,hi⟩:=hh
 have hc:=hi.call gR gQ fi rj hlen DX Hb h0 (fun o ho=>by rw [hn]; exact Hc o ho) (d:=d) (by rw [hn]; exact hd)
 have j6:(execOp a.eval ⟨some d,.call ⟨.value (.func f),cF,pQ⟩,ty,pos,af,none⟩).run P E.w = .ok (.enter f (cF.toList.map a.eval).toArray) E.w:=by
  have e:(execOp a.eval ⟨some d,.call ⟨.value (.func f),cF,pQ⟩,ty,pos,af,none⟩).run P E.w = (callFunc f ((#[] ++ cF.map a.eval) ++ #[])).run P E.w:=rfl
  rw [e,tV pI]
  congr 2
  apply Array.ext'
  simp
 refine wpList_plain rfl fun K hK=>?_
 simp only [Oper.wp,j6,Oper.upon_enter]
 refine hc.mono ?_
 rintro e w' ⟨v,r,aK,rfl,Nq,xp,Ea⟩
 obtain ⟨⟨h1,h2,h3⟩,hk⟩:=k r aK Nq xp
 obtain ⟨ma,tT,hw,hI⟩:=Ea h1 h2 h3
 exact hK _ _ (hk G hn _ _ ⟨ma,tT,hw,hI⟩)
end
end Go.AW
namespace Go.AW
open Go
section
variable {P:Program} {N:fA} {st:St} {Q:Exit -> St -> Prop} {all:Array Oper} {rest:List Oper} {d:Nat} {ty:TypeId} {pos:String} {af:Array Edge}
theorem dA.aQ{c:Operand}{x y:Code}(hc:bV st c = some (.v (.bool true)))(h:dA P N x st Q):dA P N (.cond c x y) st Q:=dA.cond hc (fun _=>h) (fun h=>by cases h)
theorem dA.cu{c:Operand}{x y:Code}(hc:bV st c = some (.v (.bool false)))(h:dA P N y st Q):dA P N (.cond c x y) st Q:=dA.cond hc (fun h=>by cases h) (fun _=>h)
section ints
variable {dst:Option Nat} {g:Option (Nat × Bool)} {t t':TypeId} {x y:Operand} {a b:Int}
theorem Y.qb(hx:bV st x = some (.v (.int .i64 a)))(hy:bV st y = some (.v (.int .i64 b)))(hr:-9223372036854775808 <= a + b /\ a + b <= 9223372036854775807):Yields P N st ⟨dst,.binOp .add t x y t',ty,pos,af,g⟩ (.v (.int .i64 (a + b))) :=
 Y.qa hx hy (IntWalk.i64_in _ hr)
theorem Y.wa(hx:bV st x = some (.v (.int .i64 a)))(hy:bV st y = some (.v (.int .i64 b)))(hr:-9223372036854775808 <= a - b /\ a - b <= 9223372036854775807):Yields P N st ⟨dst,.binOp .sub t x y t',ty,pos,af,g⟩ (.v (.int .i64 (a - b))) :=
 Y.zz hx hy (IntWalk.i64_in _ hr)
theorem Y.zh(hx:bV st x = some (.v (.int .i64 a)))(hy:bV st y = some (.v (.int .i64 b)))(hr:-9223372036854775808 <= a * b /\ a * b <= 9223372036854775807):Yields P N st ⟨dst,.binOp .mul t x y t',ty,pos,af,g⟩ (.v (.int .i64 (a * b))) :=
 Y.zg hx hy (IntWalk.i64_in _ hr)
theorem Y.zo(hx:bV st x = some (.v (.int .i64 a)))(hy:bV st y = some (.v (.int .i64 b)))(hr:0 <= a /\ a <= 9223372036854775807 /\ 1 <= b):Yields P N st ⟨dst,.binOp .quo t x y t',ty,pos,af,g⟩ (.v (.int .i64 (a / b))) :=
 Y.zn hx hy om (IntWalk.i64_quo a b hr)
theorem Y.zr{k:IntKind}(hx:bV st x = some (.v (.int k a)))(hy:bV st y = some (.v (.int k b)))(hr:0 <= a /\ 1 <= b):Yields P N st ⟨dst,.binOp .rem t x y t',ty,pos,af,g⟩ (.v (.int k (a % b))) :=
 Y.zq hx hy om (IntWalk.rem_in a b hr.1)
end ints
theorem vE(x:X):ed [] x = x:=rfl
theorem n7(st:St):o8 st [] [] [] = st:=by
 have h1:∀ (l:List (Nat × X)),l.map (fun p=>(p.1,AW.ed [] p.2)) = l:=by
  intro l
  induction l with
  | nil=>rfl
  | cons p r ih=>simp [vE]
 have h2:∀ ob:Obj,ob.ed [] = ob:=by
  intro ob
  cases ob with
  | cells xs =>
   have:xs.map (AW.ed []) = xs:=by
    induction xs with
    | nil=>rfl
    | cons x r ih=>simp [ih,vE]
   simp [Obj.ed,this]
  | rows=>rfl
  | yH=>rfl
  | gone=>rfl
  | hole=>rfl
 have h3:∀ (l:List (Nat × Obj)),l.map (fun p=>(p.1,p.2.ed [])) = l:=by
  intro l
  induction l with
  | nil=>rfl
  | cons p r ih=>simp [h2]
 cases st
 simp [o8,St.ed,loose,dW,h1,h3]
def qB(st : St)(ν : Nat → Nat) : Nat → List Obj → Prop
 | _,[]=>True
 | j,ob :: r=>look st.aG (ν j) = some (ob.g9 ν) /\ qB st ν (j + 1) r
theorem qB.get{ν : Nat → Nat} : ∀ {aG : List Obj} {i : Nat}, qB st ν i aG → ∀ j ob, aG[j]? = some ob → look st.aG (ν (i + j)) = some (ob.g9 ν)
 | [],_,_,_,_,h=>by simp at h
 | o :: r,i,h,j,ob,hj=>by
  simp only [qB] at h
  cases j with
  | zero=>simp at hj; subst hj; simpa using h.1
  | succ j =>
   have:=qB.get h.2 j ob (by simpa using hj)
   rw [show i + (j + 1) = i + 1 + j by omega]; exact this
theorem aU.rk{f : FuncId}{cF : Array Operand}{pQ : Array TypeId}{xs args : List X}{Q' : X → List Obj → Prop}(pI : aP P f = true)(gR : aw P f args [] [] Q')
  (gQ:lB st cF.toList = some xs) (fi:er st [] (bW []) xs args) (hd:d < N.n)
  (k:∀ r,Q' r [] -> r.lt 0 = true /\ aU P N all rest (st.put d (r.g9 (bW []))) Q) :
  aU P N all (⟨some d,.call ⟨.value (.func f),cF,pQ⟩,ty,pos,af,none⟩ :: rest) st Q:=by
 refine aU.call [] [] pI gR gQ fi (fun j ob h=>by simp at h) rfl List.nodup_nil (fun _ h=>by cases h) (fun _ h=>by cases h) (fun _ h=>by cases h) hd ?_
 intro r aK hq hl
 have:aK = []:=List.eq_nil_of_length_eq_zero hl
 subst this
 obtain ⟨h1,h2⟩:=k r hq
 refine ⟨⟨h1,fun _ h=>(by cases h),.inl rfl⟩,?_⟩
 rw [n7]; exact h2
theorem aU.Nw{f : FuncId}{cF : Array Operand}{pQ : Array TypeId}{xs args : List X}{R R' : X}(pI : aP P f = true)(gR : aw P f args [] [] (fun r o => r = R ∧ o = []))
  (gQ:lB st cF.toList = some xs) (fi:er st [] (bW []) xs args) (hd:d < N.n) (gP:R.lt 0 = true) (hR:R.g9 (bW []) = R')
  (k:aU P N all rest (st.put d R') Q):aU P N all (⟨some d,.call ⟨.value (.func f),cF,pQ⟩,ty,pos,af,none⟩ :: rest) st Q:=by
 refine aU.rk pI gR gQ fi hd ?_
 rintro r ⟨rfl,_⟩
 rw [hR]; exact ⟨gP,k⟩
theorem aU.Nx{f : FuncId}{cF : Array Operand}{pQ : Array TypeId}{xs args : List X}{R R' : X}(L : List Nat)(pI : aP P f = true)(gR : aw P f args [] [] (fun r o => r = R ∧ o = []))
  (gQ:lB st cF.toList = some xs) (fi:er st L (bW []) xs args) (h0:∀ o ∈ L,∃ ob,look st.aG o = some ob /\ jS ob) (hd:d < N.n) (gP:R.lt 0 = true) (hR:R.g9 (bW []) = R') (hp:R.plain)
  (k:aU P N all rest (st.put d R') Q):aU P N all (⟨some d,.call ⟨.value (.func f),cF,pQ⟩,ty,pos,af,none⟩ :: rest) st Q:=by
 refine aU.call [] L pI gR gQ fi (fun j ob h=>by simp at h) rfl List.nodup_nil (fun _ _ h=>by cases h) h0 (fun _ h=>by cases h) hd ?_
 rintro r aK ⟨rfl,rfl⟩ hl
 refine ⟨⟨gP,fun _ h=>(by cases h),.inr ⟨hp,fun _ h=>(by cases h)⟩⟩,?_⟩
 rw [n7,hR]; exact k
theorem aU.b7{f : FuncId}{cF : Array Operand}{pQ : Array TypeId}{xs args : List X}{aG : List Obj}{F : List Nat}{Q' : X → List Obj → Prop}(ν L : List Nat)(pI : aP P f = true)(gR : aw P f args aG F Q')
  (gQ:lB st cF.toList = some xs) (fi:er st L (bW ν) xs args) (rj:qB st (bW ν) 0 aG) (hlen:ν.length = aG.length) (DX:ν.Nodup) (Hb:∀ o ∈ L,o ∉ ν)
  (h0:∀ o ∈ L,∃ ob,look st.aG o = some ob /\ jS ob) (Hc:∀ o ∈ loose ν F,N.F.elem o = false) (hd:d < N.n)
  (k:∀ r aK,Q' r aK -> aK.length = aG.length -> (r.lt aG.length = true /\ (∀ ob ∈ aK,ob.lt aG.length = true) /\ (L = [] \/ (r.plain /\ ∀ ob ∈ aK,ob.plain))) /\ aU P N all rest ((o8 st ν F aK).put d (r.g9 (bW ν))) Q) :
  aU P N all (⟨some d,.call ⟨.value (.func f),cF,pQ⟩,ty,pos,af,none⟩ :: rest) st Q :=
 aU.call ν L pI gR gQ fi (fun j ob h=>by have:=rj.get j ob h; rwa [Nat.zero_add] at this) hlen DX Hb h0 Hc hd k
theorem bj{α:Type}{s:Nat}{f:α -> List X}{l:List α}(h:∀ a,X.b6 (f a) = true):jS (.rows s (l.map f)):=by
 intro r hr
 obtain ⟨a,_,rfl⟩:=List.mem_map.1 hr
 exact h a
end
end Go.AW
namespace Go.AW
open Go
section
variable {P:Program} {N:fA} {st:St} {Q:Exit -> St -> Prop} {K:St -> Prop} {all:Array Oper} {rest:List Oper} {d:Nat} {ty:TypeId} {pos:String} {af:Array Edge}
def ir(P:Program)(N:fA)(all:Array Oper)(l:List Oper)(st:St)(K:St -> Prop):Prop :=
 ∀ G:Ctx,G.fn = N -> ∀ a w,cI G st a w -> wpStill P all w (fun a'=>∃ ba,K ba /\ cI G ba a' w) l a
theorem cI.drew{G:Ctx}{a:Act}{w:World}(h:cI G st a w):cI G st a { w with drawn:=w.drawn + 1 }:=by
 obtain ⟨E,RR,rfl,hi⟩:=h
 exact ⟨{ E with w:=E.w.drew },RR,rfl,hi.Ba (di.drew G E) rfl⟩
theorem ir.nil(h:K st):ir P N all [] st K:=fun _ _ _ _ hh=>⟨st,h,hh⟩
theorem ir.val{op:Op}{x:X}(hy:Yields P N st ⟨some d,op,ty,pos,af,none⟩ x)(hd:d < N.n)(k:ir P N all rest (st.put d x) K):ir P N all (⟨some d,op,ty,pos,af,none⟩ :: rest) st K:=by
 intro G hn a w hh
 obtain ⟨E,RR,rfl,hi⟩:=hh
 obtain ⟨u,hr,hx⟩:=hy G E RR a hn hi
 unfold wpStill
 rw [if_pos (by simp [Region.wanted])]
 simp only [Oper.still,hr,Oper.stillUpon_value]
 exact k G hn _ _ ⟨E,_,rfl,hi.iK (hn ▸ hd) hx⟩
theorem ir.split{b:Bool}(hx:look st.aF d = some (.v (.bool b)))(ht:b = true -> ir P N all rest (st.put d (.v (.bool true))) K)(hf:b = false -> ir P N all rest (st.put d (.v (.bool false))) K):ir P N all rest st K:=by
 have:Le st (st.put d (.v (.bool b))):=⟨ie.cons hx (fun _ _ h=>h),fun _ _ h=>h⟩
 intro G hn a w hh
 cases b
 ·exact hf rfl G hn a w (this.holds hh)
 ·exact ht rfl G hn a w (this.holds hh)
theorem Cy{G:Ctx}{E:Env}{RR:Own -> List Nat}{a:Act}(hi:Inv G E RR st a){b:Bool}(hd:d < G.fn.n)(hx:look st.aF d = some (.v (.bool b))):a.tmps[d]? = some (.bool b):=by
 have hs:=hi.aF d _ hx
 simp only [RX] at hs
 have fP:d < a.tmps.size:=by rw [hi.tmps]; exact hd
 have:=hs.1
 simp only [Array.getD,fP,dif_pos] at this
 rw [Array.getElem?_eq_getElem fP]
 exact congrArg some this
theorem ir.aC{dst : Option Nat}{op : Op}{j : Nat}{want : Bool}(hj : (all[j]?).bind (·.dst) = some d)(hd : d < N.n)(hx : look st.aF d = some (.v (.bool want)))
  (k:ir P N all (⟨dst,op,ty,pos,af,none⟩ :: rest) st K):ir P N all (⟨dst,op,ty,pos,af,some (j,want)⟩ :: rest) st K:=by
 intro G hn a w hh
 have hk:=k G hn a w hh
 obtain ⟨E,RR,rfl,hi⟩:=hh
 have hv:=Cy hi (by rw [hn]; exact hd) hx
 have hw:Region.wanted ⟨dst,op,ty,pos,af,some (j,want)⟩ (yielded all a.tmps) = true:=by
  simp [Region.wanted,yielded,hj,hv]
 unfold wpStill at hk ⊢
 rw [if_pos hw]
 rw [if_pos (by simp [Region.wanted])] at hk
 exact hk
theorem dA.kx{id : Nat}{l : List Oper}(n : Nat)(hm : P.follows .mixedOrders = true)(hB : Region.lexTailB .any l.toArray n = true)
  (h:ir P N l.toArray (l.take n) st (fun ba=>aU P N l.toArray (l.drop n) ba Q)):dA P N (.region id l.toArray true) st Q:=by
 intro G hn a w hh
 refine wp_region_still_tail n hm hB ?_
 have h1:=h G hn a _ hh.drew
 have mono:∀ (l':List Oper) (a:Act) {w:World} {K1 K2:Act -> Prop},(∀ a,K1 a -> K2 a) -> wpStill P l.toArray w K1 l' a -> wpStill P l.toArray w K2 l' a:=by
  intro l'
  induction l' with
  | nil=>intro a w K1 K2 hk h; exact hk _ h
  | cons o r ih =>
   intro a w K1 K2 hk h
   unfold wpStill at h ⊢
   split
   ·rename_i hw; rw [if_pos hw] at h; exact Oper.still_mono (fun a' h'=>ih a' hk h') h
   ·rename_i hw; rw [if_neg hw] at h; exact ih _ hk h
 exact mono _ _ (fun a' ⟨ba,hk,iI⟩=>hk G hn a' _ iI) h1
theorem dA.j9{id : Nat}{l : List Oper}(hm : P.follows .mixedOrders = true)(hB : Region.lexB .any l.toArray = true)
  (h:ir P N l.toArray l st (fun ba=>Q .normal ba)):dA P N (.region id l.toArray true) st Q:=by
 intro G hn a w hh
 refine wp_region_still_lit hm hB ?_
 have h1:=h G hn a _ hh.drew
 have mono:∀ (l':List Oper) (a:Act) {w:World} {K1 K2:Act -> Prop},(∀ a,K1 a -> K2 a) -> wpStill P l.toArray w K1 l' a -> wpStill P l.toArray w K2 l' a:=by
  intro l'
  induction l' with
  | nil=>intro a w K1 K2 hk h; exact hk _ h
  | cons o r ih =>
   intro a w K1 K2 hk h
   unfold wpStill at h ⊢
   split
   ·rename_i hw; rw [if_pos hw] at h; exact Oper.still_mono (fun a' h'=>ih a' hk h') h
   ·rename_i hw; rw [if_neg hw] at h; exact ih _ hk h
 exact mono _ _ (fun a' ⟨ba,hk,iI⟩=>⟨ba,iI,hk⟩) h1
end
end Go.AW
namespace Go.AW
open Go
section
variable {P:Program} {N:fA} {st ba:St} {Q:Exit -> St -> Prop} {K:St -> Prop} {all:Array Oper} {rest:List Oper} {d:Nat} {ty:TypeId} {pos:String} {af:Array Edge}
theorem dA.aB{c : Operand}{x y : Code}{p : Prop}{inst : Decidable p}(hc : bV st c = some (.v (.bool (decide p))))(ht : p → dA P N x st Q)(hf : ¬ p → dA P N y st Q) :
  dA P N (.cond c x y) st Q:=dA.cond hc (fun h=>ht (of_decide_eq_true h)) (fun h=>hf (of_decide_eq_false h))
theorem dA.dX{c : Operand}{x y : Code}{p : Prop}{inst : Decidable p}(hc : bV st c = some (.v (.bool (!decide p))))(ht : ¬ p → dA P N x st Q)(hf : p → dA P N y st Q) :
 dA P N (.cond c x y) st Q:=dA.cond hc (fun h=>ht (by simpa using h)) (fun h=>hf (by simpa using h))
theorem Le.test{b:Bool}(hx:look st.aF d = some (.v (.bool b))):Le st (st.put d (.v (.bool b))):=⟨ie.cons hx (fun _ _ h=>h),fun _ _ h=>h⟩
theorem dA.Eb{x y : Code}{b : Bool}(hc : look st.aF d = some (.v (.bool b)))(ht : b = true → dA P N x (st.put d (.v (.bool true))) Q)(hf : b = false → dA P N y (st.put d (.v (.bool false))) Q) :
  dA P N (.cond (.tmp d) x y) st Q:=by
 refine dA.cond (b:=b) hc (fun h=>?_) (fun h=>?_)
 ·subst h; exact (ht rfl).le (Le.test hc)
 ·subst h; exact (hf rfl).le (Le.test hc)
theorem dA.bt{x y : Code}{p : Prop}{inst : Decidable p}(hc : look st.aF d = some (.v (.bool (decide p))))(ht : p → dA P N x (st.put d (.v (.bool true))) Q)(hf : ¬ p → dA P N y (st.put d (.v (.bool false))) Q) :
  dA P N (.cond (.tmp d) x y) st Q:=dA.Eb hc (fun h=>ht (of_decide_eq_true h)) (fun h=>hf (of_decide_eq_false h))
theorem aU.a8{p : Prop}{inst : Decidable p}(hx : look st.aF d = some (.v (.bool (decide p))))
  (ht:p -> aU P N all rest (st.put d (.v (.bool true))) Q) (hf:¬ p -> aU P N all rest (st.put d (.v (.bool false))) Q):aU P N all rest st Q :=
 aU.split hx (fun h=>ht (of_decide_eq_true h)) (fun h=>hf (of_decide_eq_false h))
theorem aU.eR{p : Prop}{inst : Decidable p}(hx : look st.aF d = some (.v (.bool (!decide p))))
 (ht:¬ p -> aU P N all rest (st.put d (.v (.bool true))) Q) (hf:p -> aU P N all rest (st.put d (.v (.bool false))) Q):aU P N all rest st Q :=
 aU.split hx (fun h=>ht (by simpa using h)) (fun h=>hf (by simpa using h))
theorem ir.a8{p : Prop}{inst : Decidable p}(hx : look st.aF d = some (.v (.bool (decide p))))
  (ht:p -> ir P N all rest (st.put d (.v (.bool true))) K) (hf:¬ p -> ir P N all rest (st.put d (.v (.bool false))) K):ir P N all rest st K :=
 ir.split hx (fun h=>ht (of_decide_eq_true h)) (fun h=>hf (of_decide_eq_false h))
theorem dA.join{x y:Code}{ι:Type}(J:ι -> St)(I:ι -> Prop)(hx:dA P N x st (jz (fun ba=>∃ i,I i /\ Le ba (J i)) Q))(hy:∀ i,I i -> dA P N y (J i) Q):dA P N (.seq x y) st Q:=by
 refine dA.seq (hx.mono ?_)
 intro e Ec h
 cases e with
 | normal=>obtain ⟨i,hI,hle⟩:=h; exact (hy i hI).le hle
 | _=>exact h
theorem er.ai{L:List Nat}{ν:Nat -> Nat}{x:X}{xs ys:List X}(h:x.free = true)(he:x.g9 ν = x)(hs:er st L ν xs ys):er st L ν (x :: xs) (x :: ys):=by
 have:=x5.same (st:=st) (L:=L) (ν:=ν) h
 rw [he] at this
 exact .cons this hs
def cM(rs:List (List X)):Prop:=∀ r ∈ rs,X.b6 r = true
theorem cM.map{α:Type}{f:α -> List X}{l:List α}(h:∀ a,X.b6 (f a) = true):cM (l.map f):=by
 intro r hr
 obtain ⟨a,_,rfl⟩:=List.mem_map.1 hr
 exact h a
theorem lC{α : Type}{f : α → List X}(h : ∀ a, X.fm (f a)) : ∀ l : List α, X.m8 (l.map f)
 | []=>by simp [X.m8]
 | a :: r=>by simp only [List.map_cons,X.m8]; exact ⟨h a,lC h r⟩
theorem Sh.freeze{s:Nat}{rows:List (List X)}(hx:look st.aF d = some (.dK s rows))(hf:cM rows):Sh N st (st.put d (.fz s rows)):=by
 intro G hn a w hh
 obtain ⟨E,RR,rfl,hi⟩:=hh
 have hv:=hi.aF d _ hx
 have jR:=hi.nodup (.slot d)
 simp only [RX] at hv
 obtain ⟨hu,base,cap,hc,cZ⟩:=hv
 rcases cZ with ⟨h1,h2,h3⟩ | ⟨b,off,cs,ty,R',hb,hw,hl,ho,hφ,jX,jd⟩
 ·refine ⟨E,_,rfl,hi.relabel (d:=d) (R:=[]) ?_ List.nodup_nil (fun _ h=>by cases h)⟩
  simp only [RX]
  exact ⟨trivial,hu,base,cap,hc,.inl ⟨h1,h2⟩⟩
 ·have DW:=cG.free hf jX
  subst DW
  have o6:b ∈ RR (.slot d):=by rw [jd]; simp
  have mN:=hi.no d
  have hle:∀ c i v,E.φ c i = some v -> (if c = b then cs[i]? else E.φ c i) = some v:=by
   intro c i v h
   by_cases tq:c = b
   ·subst tq; rw [hφ i] at h; cases h
   ·rw [if_neg tq]; exact h
  have iA:∀ R:List Nat,b ∉ R -> E.On { E with φ:=fun c i=>if c = b then cs[i]? else E.φ c i } R:=by
   intro R JG
   refine ⟨hle,fun c qY=>⟨rfl,fun h i=>?_⟩⟩
   have:c ≠ b:=fun e=>JG (e ▸ qY)
   show (if c = b then cs[i]? else E.φ c i) = none
   rw [if_neg this]; exact h i
  have JU:∀ p,b ∉ gg RR (.slot d) [] p:=by
   intro p hp
   unfold gg at hp
   split at hp
   ·cases hp
   ·rename_i h; exact hi.apart _ _ h b hp o6
  have RI:Inv G { E with φ:=fun c i=>if c = b then cs[i]? else E.φ c i } (gg RR (.slot d) []) (st.put d .no) a :=
   {mN with
    ox:=by
     intro c i v h
     change (if c = b then cs[i]? else E.φ c i) = some v at h
     by_cases tq:c = b
     ·subst tq; rw [if_pos rfl] at h
      show E.w.cell? _ = _
      rw [dw hw]; exact h
     ·rw [if_neg tq] at h; exact hi.ox c i v h
    aF:=fun q x hx=>RX.mono x _ _ (iA _ (JU _)) (fun _ _=>rfl) (mN.aF q x hx)
    aG:=fun o ob aZ=>dR.mono (iA _ (JU _)) rfl (fun _ _=>rfl) (mN.aG o ob aZ)
    φ0:=fun c i v h=>hle c i v (hi.φ0 c i v h)
    grow:=by
     intro c i v h
     change (if c = b then cs[i]? else E.φ c i) = some v at h
     by_cases tq:c = b
     ·subst tq; exact .inr (hi.own _ _ o6).2
     ·rw [if_neg tq] at h; exact hi.grow c i v h }
  have h4:=RI.relabel (d:=d) (x:=.fz s rows) (R:=[]) (by
   simp only [RX]
   refine ⟨trivial,hu,base,cap,hc,.inr ⟨b,off,hb,hl,?_⟩⟩
   refine cG.freeze (E:=E) (fun i v h=>?_) hle jX
   show (if b = b then cs[i]? else E.φ b i) = some v
   rw [if_pos rfl]; exact h) List.nodup_nil (fun _ h=>by cases h)
  refine ⟨{ E with φ:=fun c i=>if c = b then cs[i]? else E.φ c i },gg (gg RR (.slot d) []) (.slot d) [],rfl,{ h4 with aF:=fun q x hx=>?_,aG:=h4.aG }⟩
  refine h4.aF q x ?_
  simp only [St.put,look] at hx ⊢
  cases hq:Nat.beq d q with
  | true=>rw [hq] at hx; simpa using hx
  | false=>rw [hq] at hx; simpa using hx
end
end Go.AW
namespace Go.AW
open Go
mutual
def X.n8 : X → X
 | .dK s rows=>.fz s (X.o9 rows)
 | .agg xs=>.agg (X.kF xs)
 | .tup xs=>.tup (X.kF xs)
 | .v u=>.v u
 | .no=>.no
 | .fz s rows=>.fz s rows
 | .ptr o s i k=>.ptr o s i k
 | .aN o s lo n=>.aN o s lo n
 | .mref o=>.mref o
 | .fp row k=>.fp row k
 | .jQ f a b=>.jQ f a b
def X.kF : List X → List X
 | []=>[]
 | x :: r=>x.n8 :: X.kF r
def X.o9 : List (List X) → List (List X)
 | []=>[]
 | r :: rs=>X.kF r :: X.o9 rs
end
theorem X.oA : ∀ xs : List X, (X.kF xs).length = xs.length
 | []=>rfl
 | _ :: r=>by simp [X.kF,X.oA r]
theorem X.oB : ∀ rs : List (List X), (X.o9 rs).length = rs.length
 | []=>rfl
 | _ :: r=>by simp [X.o9,X.oB r]
theorem cA.o9{s : Nat} : ∀ {rs : List (List X)}, cA s rs → cA s (X.o9 rs)
 | [],_=>fun _ h=>by cases h
 | r :: rs,h=>by
  intro q hq
  simp only [X.o9,List.mem_cons] at hq
  rcases hq with rfl | hq
  ·rw [X.oA]; exact h r (by simp)
  ·exact cA.o9 (fun q hq=>h q (by simp [hq])) q hq
mutual
theorem X.Ed : ∀ {x : X}, x.free = true → x.n8 = x
 | .v _,_ | .no,_ | .fz ..,_ | .ptr ..,_ | .aN ..,_ | .mref _,_ | .fp ..,_ | .jQ ..,_=>rfl
 | .dK ..,h=>by cases h
 | .agg xs,h=>by simp only [X.n8]; rw [X.lD (xs:=xs) h]
 | .tup xs,h=>by simp only [X.n8]; rw [X.lD (xs:=xs) h]
theorem X.lD : ∀ {xs : List X}, X.b6 xs = true → X.kF xs = xs
 | [],_=>rfl
 | x :: r,h=>by
  simp only [X.b6,Bool.and_eq_true] at h
  simp only [X.kF]
  rw [X.Ed h.1,X.lD h.2]
end
theorem X.lE : ∀ {rs : List (List X)}, cM rs → X.o9 rs = rs
 | [],_=>rfl
 | r :: rs,h=>by
  simp only [X.o9]
  rw [X.lD (h r (by simp)),X.lE (fun q hq=>h q (by simp [hq]))]
mutual
theorem X.Ee : ∀ {x : X}, x.nr = true → x.n8.nr = true
 | .v _,_ | .no,_ | .fz ..,_ | .fp ..,_=>rfl
 | .dK ..,_=>rfl
 | .agg xs,h=>X.wB (xs:=xs) h
 | .tup xs,h=>X.wB (xs:=xs) h
 | .jQ ..,h=>h
 | .ptr ..,h=>h
 | .aN ..,h=>h
 | .mref _,h=>h
theorem X.wB : ∀ {xs : List X}, X.iH xs = true → X.iH (X.kF xs) = true
 | [],_=>rfl
 | x :: r,h=>by
  simp only [X.iH,Bool.and_eq_true] at h
  simp only [X.kF,X.iH,Bool.and_eq_true]
  exact ⟨X.Ee h.1,X.wB h.2⟩
end
def Env.Ef(E E':Env)(R:List Nat):Prop :=
 E'.w = E.w /\ E'.β = E.β /\ (∀ c i v,E.φ c i = some v -> E'.φ c i = some v) /\ ∀ b ∈ R,∀ i v,E.w.cell? ⟨b,i,none⟩ = some v -> E'.φ b i = some v
theorem Env.Ef.sub{E E':Env}{R R':List Nat}(h:E.Ef E' R)(hs:∀ b ∈ R',b ∈ R):E.Ef E' R':=⟨h.1,h.2.1,h.2.2.1,fun b hb=>h.2.2.2 b (hs b hb)⟩
theorem Env.Ef.on{E E':Env}{R:List Nat}(h:E.Ef E' R):E.On E' []:=⟨h.2.2.1,fun _ h=>by cases h⟩
mutual
theorem RX.n8{E E' : Env} : ∀ (x : X) (c : Value) (R : List Nat), E.Ef E' R → RX E x c R → RX E' x.n8 c []
 | .v u,c,R,hE,h=>by simp only [RX,X.n8] at h ⊢; exact ⟨h.1,trivial⟩
 | .no,c,R,hE,h=>by simp only [RX,X.n8]
 | .fz s rows,c,R,hE,h=>by
  have h0:R = []:=by simp only [RX] at h; exact h.1
  subst h0; exact RX.mono _ _ _ hE.on (fun _ _=>by rw [hE.2.1]) h
 | .ptr o s i k,c,R,hE,h=>by
  have h0:R = []:=by simp only [RX] at h; exact h.1
  subst h0; exact RX.mono _ _ _ hE.on (fun _ _=>by rw [hE.2.1]) h
 | .aN o s lo n,c,R,hE,h=>by
  have h0:R = []:=by simp only [RX] at h; exact h.1
  subst h0; exact RX.mono _ _ _ hE.on (fun _ _=>by rw [hE.2.1]) h
 | .mref o,c,R,hE,h=>by
  have h0:R = []:=by simp only [RX] at h; exact h.1
  subst h0; exact RX.mono _ _ _ hE.on (fun _ _=>by rw [hE.2.1]) h
 | .fp row k,c,R,hE,h=>by
  have h0:R = []:=by simp only [RX] at h; exact h.1
  subst h0; exact RX.mono _ _ _ hE.on (fun _ _=>by rw [hE.2.1]) h
 | .jQ fn a b,c,R,hE,h=>by
  have h0:R = []:=by simp only [RX] at h; exact h.1
  subst h0; exact RX.mono _ _ _ hE.on (fun _ _=>by rw [hE.2.1]) h
 | .dK s rows,c,R,hE,h=>by
  simp only [RX,X.n8] at h ⊢
  obtain ⟨hu,base,cap,hc,hh⟩:=h
  refine ⟨trivial,hu.o9,base,cap,by rw [X.oB]; exact hc,?_⟩
  rcases hh with ⟨h1,h2,h3⟩ | ⟨b,off,cs,ty,R',hb,hw,hl,ho,hφ,hr,hR⟩
  ·subst h1; exact .inl ⟨rfl,h2⟩
  ·subst hR
   refine .inr ⟨b,off,hb,by rw [X.oB]; exact hl,?_⟩
   exact cG.n8 rows cs b off R' (fun i v hi=>hE.2.2.2 b (by simp) i v (by rw [dw hw]; exact hi)) (hE.sub (fun _ h=>by simp [h])) hr
 | .agg xs,c,R,hE,h=>by
  simp only [RX,X.n8] at h ⊢
  obtain ⟨cs,hc,hs⟩:=h
  exact ⟨cs,hc,bA.n8 xs _ R hE hs⟩
 | .tup xs,c,R,hE,h=>by
  simp only [RX,X.n8] at h ⊢
  obtain ⟨cs,hc,hs⟩:=h
  exact ⟨cs,hc,eT.n8 xs _ R hE hs⟩
theorem bA.n8{E E' : Env} : ∀ (xs : List X) (cs : List Value) (R : List Nat), E.Ef E' R → bA E xs cs R → bA E' (X.kF xs) cs []
 | [],cs,R,_,h=>by simp only [bA,X.kF] at h ⊢; exact ⟨h.1,trivial⟩
 | x :: r,cs,R,hE,h=>by
  simp only [bA,X.kF] at h ⊢
  obtain ⟨c,dv,R₁,R₂,hc,hs,h1,h2,hR⟩:=h
  subst hR
  exact ⟨c,dv,[],[],hc,hs,RX.n8 x c R₁ (hE.sub (fun _ h=>cT h)) h1,bA.n8 r dv R₂ (hE.sub (fun _ h=>cD h)) h2,rfl⟩
theorem eT.n8{E E' : Env} : ∀ (xs : List X) (cs : List Value) (R : List Nat), E.Ef E' R → eT E xs cs R → eT E' (X.kF xs) cs []
 | [],cs,R,_,h=>by simp only [eT,X.kF] at h ⊢; exact ⟨h.1,trivial⟩
 | x :: r,cs,R,hE,h=>by
  simp only [eT,X.kF] at h ⊢
  obtain ⟨c,dv,R₁,R₂,hc,h1,h2,hR⟩:=h
  subst hR
  exact ⟨c,dv,[],[],hc,RX.n8 x c R₁ (hE.sub (fun _ h=>cT h)) h1,eT.n8 r dv R₂ (hE.sub (fun _ h=>cD h)) h2,rfl⟩
theorem RO.n8{E E' : Env} : ∀ (xs : List X) (cs : Array Value) (b off : Nat) (R : List Nat), (∀ i v, cs[i]? = some v → E'.φ b i = some v) → E.Ef E' R → X.iH xs = true → RO E xs cs off R → RF E' (X.kF xs) b off
 | [],_,_,_,_,_,_,_,_=>by simp [RF,X.kF]
 | x :: r,cs,b,off,R,hb,hE,hn,h=>by
  simp only [RO] at h
  obtain ⟨u,R₁,R₂,hu,hs,hx,hr,hR⟩:=h
  subst hR
  simp only [X.iH,Bool.and_eq_true] at hn
  simp only [X.kF,RF]
  exact ⟨⟨u,hb _ _ hu,hs,X.Ee hn.1,RX.n8 x u R₁ (hE.sub (fun _ h=>cT h)) hx⟩,RO.n8 r cs b (off + 1) R₂ hb (hE.sub (fun _ h=>cD h)) hn.2 hr⟩
theorem cG.n8{E E' : Env} : ∀ (rs : List (List X)) (cs : Array Value) (b off : Nat) (R : List Nat), (∀ i v, cs[i]? = some v → E'.φ b i = some v) → E.Ef E' R → cG E rs cs off R → kT E' (X.o9 rs) b off
 | [],_,_,_,_,_,_,_=>by simp [kT,X.o9]
 | r :: rs,cs,b,off,R,hb,hE,h=>by
  simp only [cG] at h
  obtain ⟨R₁,R₂,hn,hx,hr,hR⟩:=h
  subst hR
  simp only [X.o9,kT]
  refine ⟨RO.n8 r cs b off R₁ hb (hE.sub (fun _ h=>cT h)) hn hx,?_⟩
  rw [X.oA]
  exact cG.n8 rs cs b _ R₂ hb (hE.sub (fun _ h=>cD h)) hr
end
section
variable {N:fA} {st:St} {d:Nat}
theorem Sh.rm{x y:X}(hx:look st.aF d = some x)(he:x.n8 = y):Sh N st (st.put d y):=by
 intro G hn a w hh
 obtain ⟨E,RR,rfl,hi⟩:=hh
 have hv:=hi.aF d _ hx
 have mN:=hi.no d
 have Nn:∀ p,∀ b ∈ gg RR (.slot d) [] p,b ∉ RR (.slot d):=by
  intro p b hp hb
  unfold gg at hp
  split at hp
  ·cases hp
  ·rename_i h; exact hi.apart _ _ h b hp hb
 -- what is frozen already is in no owned block
 have hle:∀ c i v,E.φ c i = some v -> (E.cE (fun b=>b ∈ RR (.slot d))).φ c i = some v:=by
  intro c i v h
  by_cases hc:c ∈ RR (.slot d)
  ·rw [lk E (LB:=fun b=>b ∈ RR (.slot d)) hc]; exact hi.ox c i v h
  ·rw [fT E (LB:=fun b=>b ∈ RR (.slot d)) hc]; exact h
 have iA:∀ p,E.On (E.cE (fun b=>b ∈ RR (.slot d))) (gg RR (.slot d) [] p):=by
  intro p
  refine ⟨hle,fun c hc=>⟨rfl,fun h i=>?_⟩⟩
  rw [fT E (LB:=fun b=>b ∈ RR (.slot d)) (Nn p c hc)]; exact h i
 have hf:E.Ef (E.cE (fun b=>b ∈ RR (.slot d))) (RR (.slot d)) :=
  ⟨rfl,rfl,hle,fun b hb i v h=>by rw [lk E (LB:=fun b=>b ∈ RR (.slot d)) hb]; exact h⟩
 have RI:Inv G (E.cE (fun b=>b ∈ RR (.slot d))) (gg RR (.slot d) []) (st.put d .no) a :=
  {mN with
   ox:=by
    intro c i v h
    by_cases hc:c ∈ RR (.slot d)
    ·rw [lk E (LB:=fun b=>b ∈ RR (.slot d)) hc] at h; exact h
    ·rw [fT E (LB:=fun b=>b ∈ RR (.slot d)) hc] at h; exact hi.ox c i v h
   aF:=fun q x hx=>RX.mono x _ _ (iA _) (fun _ _=>rfl) (mN.aF q x hx)
   aG:=fun o ob aZ=>dR.mono (iA _) rfl (fun _ _=>rfl) (mN.aG o ob aZ)
   φ0:=fun c i v h=>hle c i v (hi.φ0 c i v h)
   grow:=by
    intro c i v h
    by_cases hc:c ∈ RR (.slot d)
    ·exact .inr (hi.own _ _ hc).2
    ·rw [fT E (LB:=fun b=>b ∈ RR (.slot d)) hc] at h; exact hi.grow c i v h }
 have h4:=RI.relabel (d:=d) (x:=y) (R:=[]) (he ▸ RX.n8 x _ _ hf hv) List.nodup_nil (fun _ h=>by cases h)
 refine ⟨E.cE (fun b=>b ∈ RR (.slot d)),gg (gg RR (.slot d) []) (.slot d) [],rfl,{ h4 with aF:=fun q x hx=>?_,aG:=h4.aG }⟩
 refine h4.aF q x ?_
 simp only [St.put,look] at hx ⊢
 cases hq:Nat.beq d q with
 | true=>rw [hq] at hx; simpa using hx
 | false=>rw [hq] at hx; simpa using hx
end
end Go.AW
namespace Go.AW
open Go
section
variable {P:Program} {N:fA} {st:St} {Q:Exit -> St -> Prop} {all:Array Oper} {rest:List Oper} {d:Nat} {ty:TypeId} {pos:String} {af:Array Edge}
theorem aU.iB{t : TypeId}{x y : Operand}{o s i k m : Nat}{v : X}{ys row : List X}{rs : List (List X)}(tW : List (List X))(ht : TY.size P t = some m)(hx : bV st x = some (.ptr o s i k))(hy : bV st y = some v)(xt : v.flat = some ys)(hf : X.b6 ys = true)
  (hn:X.iH ys = true) (hm:ys.length = m) (ho:look st.aG o = some (.rows s rs)) (hr:rs[i]? = some row) (hk:k + m <= row.length) (he:rs.set i (lg row k ys) = tW) (kk:aU P N all rest (st.dC o (.rows s tW)) Q) :
  aU P N all (⟨none,.store t x y,ty,pos,af,none⟩ :: rest) st Q:=by
 subst he
 exact aU.JO ht hx hy xt hf hn hm ho hr hk kk
theorem Sh.JV{s n:Nat}{rows:List (List X)}(o:Nat)(hx:look st.aF d = some (.dK s rows))(hn:n = rows.length)(hF:N.F.elem o = false):Sh N st (((st.kill o).dC o (.rows s rows)).put d (.aN o s 0 n)):=by
 subst hn; exact Sh.MW o hx hF
theorem aU.Hh{t e s dO tv : Nat}{z : List Value}{x : Operand}{o lo n : Nat}{rs new : List (List X)}(tW : List (List X))(n' : Nat)(ht : TY.slice P t = some (e, s, dO))(hz : TY.zero P e = some z)(sI : Nat.beq z.length s = true)
  (hy:look st.aF tv = some (.dK s new)) (hx:bV (st.put tv .no) x = some (.aN o s lo n)) (ho:look st.aG o = some (.rows s rs)) (q7:lo + n <= rs.length)
  (he:((rs.drop lo).take n) ++ new = tW) (td:n + new.length = n') (rZ:n' * dO <= 140737488355328) (Dw:n' <= 4611686018427387904) (hF:N.F.elem o = false) (hd:d < N.n)
  (k:aU P N all rest (((((st.put tv .no).kill o).dC o (.rows s tW))).put d (.aN o s 0 n')) Q) :
  aU P N all (⟨some d,.call ⟨.builtin .append,#[x,.tmp tv],#[t,t]⟩,ty,pos,af,none⟩ :: rest) st Q:=by
 subst he td
 exact aU.append ht hz sI hy hx ho q7 rZ Dw hF hd k
theorem aU.cJ{α : Type}{t e s dO tv : Nat}{z : List Value}{x : Operand}{o lo n : Nat}{rs new : List (List X)}(f : α → List X)(l : List α)(ht : TY.slice P t = some (e, s, dO))(hz : TY.zero P e = some z)(sI : Nat.beq z.length s = true)
 (hy:look st.aF tv = some (.dK s new)) (hx:bV (st.put tv .no) x = some (.aN o s lo n)) (ho:look st.aG o = some (.rows s rs)) (q7:lo + n <= rs.length)
 (he:((rs.drop lo).take n) ++ new = l.map f) (td:n + new.length = l.length) (rZ:l.length * dO <= 140737488355328) (Dw:l.length <= 4611686018427387904) (hF:N.F.elem o = false) (hd:d < N.n)
 (k:aU P N all rest (((((st.put tv .no).kill o).dC o (.rows s (l.map f)))).put d (.aN o s 0 l.length)) Q) :
 aU P N all (⟨some d,.call ⟨.builtin .append,#[x,.tmp tv],#[t,t]⟩,ty,pos,af,none⟩ :: rest) st Q:=aU.Hh (l.map f) l.length ht hz sI hy hx ho q7 he td rZ Dw hF hd k
end
mutual
theorem X.tr{ν : Nat → Nat} : ∀ {x : X}, x.lt 0 = true → x.g9 ν = x
 | .v _,_ | .no,_ | .fz ..,_ | .dK ..,_ | .fp ..,_=>rfl
 | .ptr o ..,h=>by simp [X.lt,Nat.blt] at h
 | .aN o ..,h=>by simp [X.lt,Nat.blt] at h
 | .mref o,h=>by simp [X.lt,Nat.blt] at h
 | .agg xs,h=>by simp only [X.g9]; rw [X.oC (xs:=xs) h]
 | .tup xs,h=>by simp only [X.g9]; rw [X.oC (xs:=xs) h]
 | .jQ f a b,h=>by
  simp only [X.lt,Bool.and_eq_true] at h
  simp only [X.g9]; rw [X.oC h.1,X.oC h.2]
theorem X.oC{ν : Nat → Nat} : ∀ {xs : List X}, X.GD 0 xs = true → X.m7 ν xs = xs
 | [],_=>rfl
 | x :: r,h=>by
  simp only [X.GD,Bool.and_eq_true] at h
  simp only [X.m7]; rw [X.tr h.1,X.oC h.2]
end
section
variable {P:Program} {N:fA} {st:St} {Q:Exit -> St -> Prop} {all:Array Oper} {rest:List Oper} {d:Nat} {ty:TypeId} {pos:String} {af:Array Edge}
theorem aU.aR{f : FuncId}{cF : Array Operand}{pQ : Array TypeId}{xs args : List X}{R : X}(pI : aP P f = true)(gR : aw P f args [] [] (fun r o => r = R ∧ o = []))
  (gQ:lB st cF.toList = some xs) (fi:er st [] (bW []) xs args) (hd:d < N.n) (gP:R.lt 0 = true)
  (k:aU P N all rest (st.put d R) Q):aU P N all (⟨some d,.call ⟨.value (.func f),cF,pQ⟩,ty,pos,af,none⟩ :: rest) st Q :=
 aU.Nw pI gR gQ fi hd gP (X.tr gP) k
end
end Go.AW
namespace Go.AW
open Go
section
variable {P:Program} {N:fA} {st:St} {Q:Exit -> St -> Prop} {ops:Array Oper} {d:Nat} {ty:TypeId} {pos:String} {af:Array Edge}
def ax(P:Program)(N:fA)(st:St)(o:Oper)(x:X):Prop :=
 ∀ (G:Ctx) (E:Env) (RR:Own -> List Nat) (a:Act),G.fn = N -> Inv G E RR st a -> ∃ u,(∀ w,(execOp a.eval o).run P w = .ok (.value u) w) /\ RX E x u []
section
variable {dst:Option Nat} {g:Option (Nat × Bool)}
theorem ax.move{x:Operand}{y:X}(hx:bV st x = some y)(hf:y.free = true):ax P N st ⟨dst,.move x,ty,pos,af,g⟩ y:=by
 intro G E RR a _ hi
 obtain ⟨R,hv⟩:=hi.eval hx
 have:=RX.free hf hv
 subst this
 exact ⟨_,fun w=>rfl,hv⟩
theorem ax.assign{x:Operand}{y:X}(hx:bV st x = some y)(hf:y.free = true):ax P N st ⟨dst,.assign x,ty,pos,af,g⟩ y:=by
 intro G E RR a _ hi
 obtain ⟨R,hv⟩:=hi.eval hx
 have:=RX.free hf hv
 subst this
 exact ⟨_,fun w=>rfl,hv⟩
theorem ax.RJ{t e s dO : Nat}{x : Operand}{lo iJ : Option Operand}{rows : List (List X)}{l h : Nat}{mO : List (List X)}(ht : TY.slice P t = some (e, s, dO))(hx : bV st x = some (.fz s rows))
  (hl:Bd st lo 0 l) (hh:Bd st iJ rows.length h) (h1:l <= h) (h2:h <= rows.length) (hr:(rows.take h).drop l = mO) :
  ax P N st ⟨dst,.slice t x lo iJ none,ty,pos,af,g⟩ (.fz s mO):=by
 intro G E RR a _ hi
 obtain ⟨R,hp⟩:=hi.eval hx
 simp only [RX] at hp
 obtain ⟨_,hu,base,cap,hc,cZ⟩:=hp
 obtain ⟨AZ,i,iM,fP,_⟩:=TY.dV ht
 subst hr
 have lV:h <= cap:=by
  rcases cZ with ⟨h',lW⟩ | ⟨_,_,_,xp,_⟩
  ·subst h'; simp at h2; omega
  ·omega
 refine ⟨.slice (if cap = l then base else base.map (·.add (l * s))) (h - l) (cap - l),fun w=>?_,?_⟩
 ·show (do let z <- Instr.sliceAt t (a.eval x) (lo.map a.eval) (iJ.map a.eval) none; pure (Next.value z):Sem Next).run P w = _
  rw [hc]
  refine ek ?_
  simp only [Instr.sliceAt,Sem.run_bind,run_underlying AZ,Result.andThen_ok,Instr.slice,iW hi hl hh h1 lV,run_sizeOf iM,fP]
  rfl
 ·have hlen:((rows.take h).drop l).length = h - l:=by simp; omega
  simp only [RX,hlen]
  refine ⟨trivial,(hu.take h).drop l,_,_,rfl,?_⟩
  rcases cZ with ⟨h',lW⟩ | ⟨b,off,hb,xp,hf⟩
  ·exact .inl ⟨by subst h'; simp,om⟩
  ·refine .inr ?_
   subst hb
   by_cases vh:cap = l
   ·refine ⟨b,off,by rw [if_pos vh],om,?_⟩
    have:(rows.take h).drop l = []:=by
     apply List.eq_nil_of_length_eq_zero
     rw [hlen]; omega
    rw [this]; simp [kT]
   ·refine ⟨b,off + l * s,by rw [if_neg vh]; simp [iz],om,?_⟩
    exact kT.drop l (hu.take h) (by simp; omega) (hf.take h)
end
def fB(P:Program)(N:fA)(ops:Array Oper)(n:Nat)(ag:Array Bool)(st:St)(K:St -> Prop):Prop :=
 ∀ G:Ctx,G.fn = N -> ∀ a w,cI G st a w -> wpAny P .any ops (fun e a w=>e = .normal /\ ∃ ba,K ba /\ cI G ba a w) n ag a w
variable {K:St -> Prop}
theorem fB.blind{n : Nat}{ag : Array Bool}(i : Nat){op : Op}{x : X}(ho : ops[i]? = some ⟨some d, op, ty, pos, af, none⟩)
  (hB:(Region.noSelect ops && Region.free .any ops ag i && (Region.ready .any ops ag).contains i) = true) (hy:ax P N st ⟨some d,op,ty,pos,af,none⟩ x) (hd:d < N.n)
  (k:fB P N ops n (ag.setIfInBounds i true) (st.put d x) K):fB P N ops (n + 1) ag st K:=by
 intro G hn a w hh
 obtain ⟨E,RR,rfl,hi⟩:=hh
 obtain ⟨u,hr,hx⟩:=hy G E RR a hn hi
 simp only [Bool.and_eq_true] at hB
 refine wpAny_take (v:=u) ho hB.1.1 hB.1.2 hB.2 ?_ (.inl ⟨by simp [Region.wanted],hr⟩) (k G hn _ _ ⟨E,_,rfl,hi.iK (hn ▸ hd) hx⟩)
 intro c a w h
 cases h.1
theorem fB.step{n : Nat}{ag : Array Bool}(j : Nat){o : Oper}(ho : ops[j]? = some o)
  (k:aU P N ops [o] st (fun e ba=>e = .normal /\ fB P N ops n (ag.setIfInBounds j true) ba K)) (G:Ctx) (hn:G.fn = N) (a:Act) (w:World) (hh:cI G st a w) :
  wpOp P ops (fun e a w=>e = .normal /\ ∃ ba,K ba /\ cI G ba a w) j (wpAny P .any ops (fun e a w=>e = .normal /\ ∃ ba,K ba /\ cI G ba a w) n (ag.setIfInBounds j true)) a w:=by
 have hk:=k G hn a w hh
 have key : wpOp P ops (fun e a w => od G (fun e ba => e = .normal ∧ fB P N ops n (ag.setIfInBounds j true) ba K) e a w) j
   (fun a w=>od G (fun e ba=>e = .normal /\ fB P N ops n (ag.setIfInBounds j true) ba K) .normal a w) a w:=by
  unfold wpOp; simp only [ho]; exact hk
 have mono:∀ {Q1 Q2:Exit -> Act -> World -> Prop} {K1 K2:Act -> World -> Prop},(∀ e a w,e ≠ .normal -> Q1 e a w -> False) -> (∀ a w,K1 a w -> K2 a w) -> wpOp P ops Q1 j K1 a w -> wpOp P ops Q2 j K2 a w:=by
  intro Q1 Q2 K1 K2 hQ hK h
  unfold wpOp at *
  simp only [ho] at *
  split
  ·rename_i hw
   simp only [hw,if_true] at h
   rcases h with h | ⟨_,hl⟩
   ·refine .inl ?_
    unfold Oper.wp at *
    generalize (execOp a.eval o).run P w = r at *
    cases r with
    | ok nx w' =>
     cases nx <;> simp only [Oper.upon] at h ⊢ <;> first
      | exact hK _ _ h
      | exact Calls.mono h (fun e Vp he=>by
        cases e with
        | returned u=>exact hK _ _ he
        | panicked c=>exact (hQ _ _ _ (by simp) he).elim
        | outgrown=>exact (let ⟨_,_,h'⟩:=he; hQ _ _ _ (by simp) h').elim)
      | exact Rows.mono h (fun _ _ he=>hK _ _ he)
    | halt x w'=>cases x <;> simp only [Oper.upon] at h ⊢ <;> first | exact (hQ _ _ _ (by simp) h).elim | exact (let ⟨_,_,h'⟩:=h; hQ _ _ _ (by simp) h').elim | exact h
   ·obtain ⟨_,_,h'⟩:=hl
    exact (hQ _ _ _ (by simp) h').elim
  ·rename_i hw
   simp only [hw] at h
   exact hK _ _ h
 refine mono ?_ ?_ key
 ·rintro e a w he ⟨ba,_,h,_⟩
  exact he h
 ·rintro a w ⟨ba,iI,_,Bh⟩
  exact Bh G hn a w iI
theorem fB.one{n : Nat}{ag : Array Bool}(i : Nat){o : Oper}(ho : ops[i]? = some o)(hr : (Region.ready .any ops ag == [i]) = true)
  (k:aU P N ops [o] st (fun e ba=>e = .normal /\ fB P N ops n (ag.setIfInBounds i true) ba K)):fB P N ops (n + 1) ag st K:=by
 intro G hn a w hh
 refine wpAny_all (rs:=[i]) (by simpa using hr) (by simp) ?_
 intro j hj
 have:j = i:=by simpa using hj
 subst this
 exact fB.step j ho k G hn a w hh
theorem fB.two{n : Nat}{ag : Array Bool}(i i' : Nat){o o' : Oper}(ho : ops[i]? = some o)(nv : ops[i']? = some o')(hr : (Region.ready .any ops ag == [i, i']) = true)
  (k:aU P N ops [o] st (fun e ba=>e = .normal /\ fB P N ops n (ag.setIfInBounds i true) ba K))
  (k':aU P N ops [o'] st (fun e ba=>e = .normal /\ fB P N ops n (ag.setIfInBounds i' true) ba K)):fB P N ops (n + 1) ag st K:=by
 intro G hn a w hh
 refine wpAny_all (rs:=[i,i']) (by simpa using hr) (by simp) ?_
 intro j hj
 simp only [List.mem_cons,List.not_mem_nil,or_false] at hj
 rcases hj with rfl | rfl
 ·exact fB.step j ho k G hn a w hh
 ·exact fB.step j nv k' G hn a w hh
theorem fB.done{n:Nat}{ag:Array Bool}(hr:(Region.ready .any ops ag).isEmpty = true)(h:K st):fB P N ops n ag st K :=
 fun _ _ _ _ hh=>wpAny_done (by simpa using hr) ⟨rfl,st,h,hh⟩ n
theorem dA.de{id:Nat}(hm:P.follows .mixedOrders = true)(h:fB P N ops ops.size (Array.replicate ops.size false) st (fun ba=>Q .normal ba)):dA P N (.region id ops true) st Q:=by
 intro G hn a w hh
 refine wp_mono (wp_region_any hm (h G hn a _ hh.drew)) ?_
 rintro e a w ⟨rfl,ba,hk,iI⟩
 exact ⟨ba,iI,hk⟩
end
end Go.AW
namespace Go.AW
open Go
def tX(want : Bool) : Value → Bool
 | .bool b=>!(b == want)
 | _=>true
section
variable {P:Program} {N:fA} {st:St} {Q:Exit -> St -> Prop} {K:St -> Prop} {all:Array Oper} {rest:List Oper} {d dd:Nat} {ty:TypeId} {pos:String} {af:Array Edge} {dst:Option Nat} {op:Op} {j:Nat} {want:Bool} {u:Value}
theorem mR{G : Ctx}{E : Env}{RR : Own → List Nat}{a : Act}(hi : Inv G E RR st a)(hj : (all[j]?).bind (·.dst) = some d)(hd : d < G.fn.n)(hx : look st.aF d = some (.v u))(fN : tX want u = true) :
  Region.wanted ⟨dst,op,ty,pos,af,some (j,want)⟩ (yielded all a.tmps) = false:=by
 have hs:=hi.aF d _ hx
 simp only [RX] at hs
 have fP:d < a.tmps.size:=by rw [hi.tmps]; exact hd
 have hv:a.tmps[d]? = some u:=by
  have:=hs.1
  simp only [Array.getD,fP,dif_pos] at this
  rw [Array.getElem?_eq_getElem fP]
  exact congrArg some this
 have hy:yielded all a.tmps j ≠ some want:=by
  unfold yielded
  rw [hj,Option.bind_some,hv]
  intro h
  cases u <;> simp [tX] at fN h
  exact fN h
 simp only [Region.wanted]
 cases h:yielded all a.tmps j with
 | none=>rfl
 | some b=>rw [h] at hy; simpa using hy
theorem aU.ay(hj : (all[j]?).bind (·.dst) = some d)(hd : d < N.n)(Hi : dd < N.n)(hx : look st.aF d = some (.v u))(fN : tX want u = true)
  (k:aU P N all rest (st.put dd (.v undef)) Q):aU P N all (⟨some dd,op,ty,pos,af,some (j,want)⟩ :: rest) st Q:=by
 intro G hn a w hh
 obtain ⟨E,RR,rfl,hi⟩:=hh
 unfold wpList
 rw [if_neg (by rw [mR hi hj (hn ▸ hd) hx fN]; simp)]
 exact k G hn _ _ ⟨E,_,rfl,hi.iK (hn ▸ Hi) (by simp [RX])⟩
theorem ir.ay(hj : (all[j]?).bind (·.dst) = some d)(hd : d < N.n)(Hi : dd < N.n)(hx : look st.aF d = some (.v u))(fN : tX want u = true)
  (k:ir P N all rest (st.put dd (.v undef)) K):ir P N all (⟨some dd,op,ty,pos,af,some (j,want)⟩ :: rest) st K:=by
 intro G hn a w hh
 obtain ⟨E,RR,rfl,hi⟩:=hh
 unfold wpStill
 rw [if_neg (by rw [mR hi hj (hn ▸ hd) hx fN]; simp)]
 exact k G hn _ _ ⟨E,_,rfl,hi.iK (hn ▸ Hi) (by simp [RX])⟩
end
end Go.AW
namespace Go.AW
open Go Go.ChangeShapes Go.WideShapes Go.Deep Go.RowKit
def E0(W:World):Env:=⟨fun b i=>W.cell? ⟨b,i,none⟩,fun _=>none,W⟩
theorem aw.row{P : Program}{f : FuncId}{args : List X}{u : Value}(h : aw P f args [] [] (fun r o => r = .v u ∧ o = [])){W : World}{dB : Array Value}(hn : dB.size = args.length)
  (hx:∀ (i:Nat) x,args[i]? = some x -> RX (E0 W) x (dB.getD i undef) []):Calls P f dB W (fun e W'=>e = .returned u /\ Below W.heap.size W W'):=by
 have hi:Inv (ra (fun b=>b < W.heap.size) (E0 W) ⟨args.length,[]⟩) (E0 W) (fun _=>[]) ⟨dW 0 args,dW 0 []⟩ ⟨dB,[]⟩ :=
  {ox := fun _ _ _ h => h
   aF:=fun s x hs=>by
    rw [ig] at hs
    exact hx s x hs
   aG:=fun o ob ho=>by simp [dW,look] at ho
   nodup:=fun _=>List.nodup_nil
   apart:=fun _ _ _ _ h=>by cases h
   own:=fun _ _ h=>by cases h
   ai:=fun _ _=>rfl
   size:=Nat.le_refl _
   small:=fun _ h=>h
   os:=rfl
   tape:=rfl
   output:=rfl
   φ0:=fun _ _ _ h=>h
   grow:=fun _ _ _ h=>.inl h
   fixed:=fun _ _=>rfl
   tmps:=hn
   defers:=rfl }
 refine Calls.mono (h _ _ _ _ hi) ?_
 rintro e W' ⟨v,r,aK,rfl,⟨rfl,_⟩,_,E',gG,rfl,iJ⟩
 have hs:=iJ.aF 0 (.v u) rfl
 simp only [RX] at hs
 have hv:v = u:=hs.1
 exact ⟨by rw [hv],iJ.os,iJ.tape,iJ.output,iJ.size,fun k hk=>iJ.ai k hk⟩
theorem RF.of{E : Env}{b : Nat} : ∀ {row : List X} {off : Nat}, (∀ (j : Nat) x, row[j]? = some x → ∃ u, x = .v u ∧ jW u ∧ E.φ b (off + j) = some u) → RF E row b off
 | [],_,_=>by simp [RF]
 | x :: r,off,h=>by
  obtain ⟨u,rfl,hs,hu⟩:=h 0 x rfl
  simp only [RF]
  refine ⟨⟨u,by simpa using hu,hs,rfl,by simp [RX]⟩,RF.of fun j y hj=>?_⟩
  obtain ⟨u',h1,h2,h3⟩:=h (j + 1) y (by simpa using hj)
  exact ⟨u',h1,h2,by rw [show off + 1 + j = off + (j + 1) by omega]; exact h3⟩
theorem kT.of{E : Env}{b s : Nat} : ∀ {rows : List (List X)} {off : Nat}, cA s rows → (∀ (i : Nat) row, rows[i]? = some row → RF E row b (off + i * s)) → kT E rows b off
 | [],_,_,_=>by simp [kT]
 | r :: rs,off,hu,h=>by
  simp only [kT]
  refine ⟨by simpa using h 0 r rfl,kT.of (fun q hq=>hu q (by simp [hq])) fun i row hi=>?_⟩
  have:=h (i + 1) row (by simpa using hi)
  rw [hu r (by simp)]
  rw [Nat.add_mul,Nat.one_mul] at this
  rw [show off + s + i * s = off + (i * s + s) by omega]; exact this
section
variable {H:Type} {enc:TypeId × Value -> H} {P:Program} {W:World} {base:Nat} {spare:Nat -> Bool} {held:Bool} {n:Nat} {e:TypeId} {cs:List Value} {y:DataW H × List MemPlace}
end
end Go.AW
namespace Go.AW
open Go
section
variable {P:Program} {N:fA} {st:St} {Q:Exit -> St -> Prop} {all:Array Oper} {rest:List Oper} {dst:Option Nat} {d:Nat} {ty:TypeId} {pos:String} {af:Array Edge} {g:Option (Nat × Bool)}
theorem Y.zd{t t' : TypeId}{x y : Operand}{k : IntKind}{a b r : Int}(hx : bV st x = some (.v (.int k a)))(hy : bV st y = some (.v (.int k b)))(hr : r = if b > a then b else a) :
  Yields P N st ⟨dst,.call ⟨.builtin .max,#[x,y],#[t,t']⟩,ty,pos,af,g⟩ (.v (.int k r)):=by
 subst hr
 intro G E RR ac _ hi
 refine ⟨.int k (if b > a then b else a),jn ?_,by simp [RX]⟩
 have h1:=hi.val hx
 have h2:=hi.val hy
 simp [builtin,Builtin.max_,h1,h2,Builtin.max2]
theorem Y.ze{t t' : TypeId}{x y : Operand}{k : IntKind}{a b r : Int}(hx : bV st x = some (.v (.int k a)))(hy : bV st y = some (.v (.int k b)))(hr : r = if b < a then b else a) :
  Yields P N st ⟨dst,.call ⟨.builtin .min,#[x,y],#[t,t']⟩,ty,pos,af,g⟩ (.v (.int k r)):=by
 subst hr
 intro G E RR ac _ hi
 refine ⟨.int k (if b < a then b else a),jn ?_,by simp [RX]⟩
 have h1:=hi.val hx
 have h2:=hi.val hy
 simp [builtin,Builtin.min_,h1,h2,Builtin.min2]
theorem ax.extract{x:Operand}{xs:List X}{y:X}{k:Nat}(hx:bV st x = some (.tup xs))(hy:xs[k]? = some y)(hf:y.free = true):ax P N st ⟨dst,.extract x k,ty,pos,af,g⟩ y:=by
 intro G E RR a _ hi
 obtain ⟨R,hp⟩:=hi.eval hx
 simp only [RX] at hp
 obtain ⟨cs,hc,gQ⟩:=hp
 obtain ⟨u,R₁,hu,h1⟩:=eT.get gQ hy
 have h0:=RX.free hf h1
 subst h0
 refine ⟨u,fun w=>?_,h1⟩
 show (do let z <- Instr.extract (a.eval x) k; pure (Next.value z):Sem Next).run P w = _
 rw [hc]
 refine ek ?_
 have DI:cs[k]? = some u:=by simpa using hu
 simp only [Instr.extract,DI]; rfl
theorem aU.tY{t e s dO : Nat}{z : List Value}{x y : Operand}{o lo n : Nat}{rs new : List (List X)}(tW : List (List X))(n' : Nat)(ht : TY.slice P t = some (e, s, dO))(hz : TY.zero P e = some z)(sI : Nat.beq z.length s = true)
  (hy:bV st y = some (.fz s new)) (hx:bV st x = some (.aN o s lo n)) (ho:look st.aG o = some (.rows s rs)) (q7:lo + n <= rs.length)
  (he:((rs.drop lo).take n) ++ new = tW) (td:n + new.length = n') (rZ:n' * dO <= 140737488355328) (Dw:n' <= 4611686018427387904) (hF:N.F.elem o = false) (hd:d < N.n)
  (k:aU P N all rest ((((st.kill o).dC o (.rows s tW))).put d (.aN o s 0 n')) Q) :
  aU P N all (⟨some d,.call ⟨.builtin .append,#[x,y],#[t,t]⟩,ty,pos,af,none⟩ :: rest) st Q:=by
 subst he td
 exact aU.GX ht hz sI hy hx ho q7 rZ Dw hF hd k
end
end Go.AW
namespace Go.AW
open Go
section
variable {P:Program} {N:fA} {st:St} {Q:Exit -> St -> Prop} {all:Array Oper} {rest:List Oper} {d:Nat} {ty:TypeId} {pos:String} {af:Array Edge}
theorem er.cE{L : List Nat}{ν : Nat → Nat}{o s lo n : Nat}{rs tW : List (List X)}{xs ys : List X}(ho : look st.aG o = some (.rows s rs))(hL : L.elem o = true)(q7 : lo + n ≤ rs.length)(he : (rs.drop lo).take n = tW)
  (hs:er st L ν xs ys):er st L ν (.aN o s lo n :: xs) (.fz s tW :: ys):=by
 subst he
 exact .cons (.view ho (List.elem_iff.1 hL) q7) hs
theorem jA{o:Nat}{ob:Obj}(h:look st.aG o = some ob)(h':jS ob):∀ q ∈ [o],∃ ob,look st.aG q = some ob /\ jS ob:=by
 intro q hq
 simp only [List.mem_singleton] at hq
 subst hq
 exact ⟨ob,h,h'⟩
theorem eU{o:Nat}{ob:Obj}{L:List Nat}(h:look st.aG o = some ob)(h':jS ob)(hs:∀ q ∈ L,∃ ob,look st.aG q = some ob /\ jS ob):∀ q ∈ o :: L,∃ ob,look st.aG q = some ob /\ jS ob:=by
 intro q hq
 rcases List.mem_cons.1 hq with rfl | hq
 ·exact ⟨ob,h,h'⟩
 ·exact hs q hq
theorem aU.iC{f : FuncId}{cF : Array Operand}{pQ : Array TypeId}{xs args : List X}{R : X}(L : List Nat)(pI : aP P f = true)(gR : aw P f args [] [] (fun r o => r = R ∧ o = []))
  (gQ:lB st cF.toList = some xs) (fi:er st L (bW []) xs args) (h0:∀ o ∈ L,∃ ob,look st.aG o = some ob /\ jS ob) (hd:d < N.n) (gP:R.lt 0 = true) (hp:R.plain)
  (k:aU P N all rest (st.put d R) Q):aU P N all (⟨some d,.call ⟨.value (.func f),cF,pQ⟩,ty,pos,af,none⟩ :: rest) st Q :=
 aU.Nx L pI gR gQ fi h0 hd gP (X.tr gP) hp k
end
end Go.AW
namespace Go.AW
open Go Go.Maps
section
variable {P:Program} {N:fA} {st:St} {Q:Exit -> St -> Prop} {all:Array Oper} {rest:List Oper} {dst:Option Nat} {d:Nat} {ty:TypeId} {pos:String} {af:Array Edge} {g:Option (Nat × Bool)}
theorem Inv.yH{G : Ctx}{E : Env}{RR : Own → List Nat}{a : Act}(hi : Inv G E RR st a){m : Operand}{o : Nat}{es : List (Value × Value)}(hm : bV st m = some (.mref o))(ho : look st.aG o = some (.yH es)) :
  ∃ B tc clock,E.β o = some B /\ a.eval m = .map (some B.b) /\ E.w.heap[B.b]? = some (.map tc clock) /\ (∀ i,E.φ B.b i = none) /\ tc.toList.map (fun e=>(e.key,e.val)) = es /\ RR (.obj o) = [B.b]:=by
 have aZ:=hi.aG o _ ho
 simp only [dR] at aZ
 obtain ⟨B,tc,clock,hB,hw,hf,he,hR⟩:=aZ
 obtain ⟨R,hx⟩:=hi.eval hm
 simp only [RX] at hx
 obtain ⟨_,B',iL,hc⟩:=hx
 rw [hB] at iL
 obtain rfl:=Option.some.inj iL
 exact ⟨B,tc,clock,hB,hc,hw,hf,he,hR⟩
end
end Go.AW
namespace Go.AW
open Go
section
variable {P:Program} {N:fA} {st:St} {ty:TypeId} {pos:String} {af:Array Edge} {dst:Option Nat} {g:Option (Nat × Bool)}
theorem ax.nilCheck{x:Operand}{p q:X}(hx:bV st x = some p)(hq:p.on 0 = some q):ax P N st ⟨dst,.nilCheck x,ty,pos,af,g⟩ q:=by
 intro G E RR a _ hi
 obtain ⟨R,hp⟩:=hi.eval hx
 obtain ⟨b,off,hc,h⟩:=hp.on hq
 refine ⟨_,fun w=>?_,h⟩
 simp only [execOp,hc]; rfl
theorem ax.fieldAddr{t : TypeId}{x : Operand}{p q : X}{f off : Nat}{ft : TypeId}(ht : TY.kC P t f = some (off, ft))(hx : bV st x = some p)(hq : p.on off = some q) :
  ax P N st ⟨dst,.fieldAddr t x f,ty,pos,af,g⟩ q:=by
 intro G E RR a _ hi
 obtain ⟨R,hp⟩:=hi.eval hx
 obtain ⟨b,o,hc,h⟩:=hp.on hq
 refine ⟨_,fun w=>?_,h⟩
 show (do let z <- Instr.fieldAt t (a.eval x) f; pure (Next.value z):Sem Next).run P w = _
 rw [hc]
 exact ek (TY.AY ht b o w)
end
end Go.AW
namespace Go.AW
open Go
section
variable {P:Program} {N:fA} {st:St} {d:Nat}
theorem bA.swap{E E' : Env}{x y : X}{post : List X}(hE : E.On E' [])(zK : ∀ c, RX E x c [] → RX E' y c []) : ∀ {pre : List X} {cs : List Value}, (∀ q, X.ct q (pre ++ x :: post) = true → E'.β q = E.β q) →
  X.b6 (pre ++ x :: post) = true -> bA E (pre ++ x :: post) cs [] -> bA E' (pre ++ y :: post) cs []
 | [],cs,hβ,hf,h=>by
  simp only [List.nil_append,bA] at h ⊢
  obtain ⟨c,dv,R₁,R₂,hc,hs,h1,h2,hR⟩:=h
  obtain ⟨rfl,rfl⟩:=List.append_eq_nil_iff.1 hR.symm
  exact ⟨c,dv,[],[],hc,hs,zK c h1,bA.mono post dv [] hE (fun q hq=>hβ q (by simp [X.ct,hq])) h2,rfl⟩
 | p :: pre,cs,hβ,hf,h=>by
  simp only [List.cons_append,bA] at h ⊢
  obtain ⟨c,dv,R₁,R₂,hc,hs,h1,h2,hR⟩:=h
  obtain ⟨rfl,rfl⟩:=List.append_eq_nil_iff.1 hR.symm
  simp only [List.cons_append,X.b6,Bool.and_eq_true] at hf
  exact ⟨c, dv, [], [], hc, hs, RX.mono p c [] hE (fun q hq => hβ q (by simp [X.ct, hq])) h1,
   bA.swap hE zK (pre:=pre) (fun q hq=>hβ q (by simp [X.ct,hq])) hf.2 h2,rfl⟩
theorem Sh.JW(o s : Nat)(pre post : List X)(hx : look st.aF d = some (.agg (pre ++ .v (.slice none 0 0) :: post)))(hf : X.b6 (pre ++ .v (.slice none 0 0) :: post) = true)
  (hm:X.ct o (pre ++ .v (.slice none 0 0) :: post) = false) (hF:N.F.elem o = false):Sh N st (((st.kill o).dC o (.rows s [])).put d (.agg (pre ++ .aN o s 0 0 :: post))):=by
 intro G hn a w hh
 obtain ⟨E,RR,rfl,hi⟩:=hh
 have hv:=hi.aF d _ hx
 have h0:RR (.slot d) = []:=RX.free (x:=.agg (pre ++ .v (.slice none 0 0) :: post)) hf hv
 rw [h0] at hv
 simp only [RX] at hv
 obtain ⟨cs,hc,hs⟩:=hv
 have hβ:di G E { E with β:=fun q=>if q = o then none else E.β q } (fun _=>False) :=
  ⟨rfl,fun _ h=>h.elim,fun _ h=>h.elim,fun _ _ _=>rfl,Nat.le_refl _,rfl,rfl,rfl⟩
 have h1 := hi.l8 hβ (o := o) (ob := .rows s []) (R := []) (fun _ h => h.elim) (fun q hq => by simp [hq]) (fun h => by rw [hn, hF] at h; cases h)
  (by simp only [dR]; exact ⟨fun _ h=>(by cases h),.inl ⟨by simp,trivial,trivial⟩⟩) List.nodup_nil (fun _ h=>by cases h)
 have h2:RX { E with β:=fun q=>if q = o then none else E.β q } (.agg (pre ++ .aN o s 0 0 :: post)) (a.tmps.getD d undef) []:=by
  simp only [RX]
  refine ⟨cs,hc,bA.swap (E:=E) (E':={ E with β:=fun q=>if q = o then none else E.β q }) ⟨fun _ _ _ h=>h,fun _ h=>by cases h⟩ (fun c Vq=>?_) (fun q hq=>?_) hf hs⟩
  ·simp only [RX] at Vq ⊢
   exact ⟨trivial,none,0,Vq.1,.inl ⟨by simp,by trivial,by trivial,by trivial⟩⟩
  ·have:q ≠ o:=fun e=>by subst e; rw [hm] at hq; cases hq
   simp [this]
 exact ⟨{ E with β:=fun q=>if q = o then none else E.β q },_,rfl,h1.relabel h2 List.nodup_nil (fun _ h=>by cases h)⟩
theorem er.named{L:List Nat}{ν:Nat -> Nat}{x y:X}{xs ys:List X}(h:x.free = true)(he:x.g9 ν = y)(hs:er st L ν xs ys):er st L ν (y :: xs) (x :: ys):=by
 subst he
 exact .cons (.same h) hs
end
end Go.AW
namespace Go.AW
open Go
section
variable {P:Program} {N:fA} {st:St} {Q:Exit -> St -> Prop}
theorem dA.oD{x y:Code}(J:St)(I:Prop)(hx:dA P N x st (jz (fun ba=>I /\ Le ba J) Q))(hy:I -> dA P N y J Q):dA P N (.seq x y) st Q :=
 dA.join (fun _:Unit=>J) (fun _=>I) (hx.mono fun e _ h=>by cases e <;> first | exact ⟨(),h⟩ | exact h) (fun _ h=>hy h)
theorem dA.gS{α0 : Type}{c : Code}(S : α0 → St)(I : α0 → Prop)(μ : α0 → Nat)(i0 : α0)(hi : I i0)(hs : Le st (S i0))
  (round:∀ a0,I a0 -> dA P N c (S a0) (jz (fun ba=>∃ b0,I b0 /\ μ b0 < μ a0 /\ Le ba (S b0)) Q)):dA P N (.loop c) st Q :=
 dA.loop (ι:=α0) (fun u=>S u) (fun u=>I u) (fun u=>μ u) i0 hi hs (fun u h=>(round u h).mono fun e _ h=>by
  cases e <;> first | exact h | (obtain ⟨b0,h⟩:=h; exact ⟨b0,h⟩))
theorem dA.iu{α0:Type}{x y:Code}(J:α0 -> St)(I:α0 -> Prop)(hx:dA P N x st (jz (fun ba=>∃ b0,I b0 /\ Le ba (J b0)) Q))(hy:∀ a0,I a0 -> dA P N y (J a0) Q):dA P N (.seq x y) st Q :=
 dA.join (ι:=α0) (fun u=>J u) (fun u=>I u) (hx.mono fun e _ h=>by cases e <;> first | exact h | (obtain ⟨b0,h⟩:=h; exact ⟨b0,h⟩)) (fun u h=>hy u h)
theorem dA.gT{α0 α1 : Type}{c : Code}(S : α0 → α1 → St)(I : α0 → α1 → Prop)(μ : α0 → α1 → Nat)(i0 : α0)(i1 : α1)(hi : I i0 i1)(hs : Le st (S i0 i1))
  (round:∀ a0 a1,I a0 a1 -> dA P N c (S a0 a1) (jz (fun ba=>∃ b0 b1,I b0 b1 /\ μ b0 b1 < μ a0 a1 /\ Le ba (S b0 b1)) Q)):dA P N (.loop c) st Q :=
 dA.loop (ι:=α0 × α1) (fun u=>S u.1 u.2) (fun u=>I u.1 u.2) (fun u=>μ u.1 u.2) (i0,i1) hi hs (fun u h=>(round u.1 u.2 h).mono fun e _ h=>by
  cases e <;> first | exact h | (obtain ⟨b0,b1,h⟩:=h; exact ⟨(b0,b1),h⟩))
theorem dA.kY{α0 α1:Type}{x y:Code}(J:α0 -> α1 -> St)(I:α0 -> α1 -> Prop)(hx:dA P N x st (jz (fun ba=>∃ b0 b1,I b0 b1 /\ Le ba (J b0 b1)) Q))(hy:∀ a0 a1,I a0 a1 -> dA P N y (J a0 a1) Q):dA P N (.seq x y) st Q :=
 dA.join (ι:=α0 × α1) (fun u=>J u.1 u.2) (fun u=>I u.1 u.2) (hx.mono fun e _ h=>by cases e <;> first | exact h | (obtain ⟨b0,b1,h⟩:=h; exact ⟨(b0,b1),h⟩)) (fun u h=>hy u.1 u.2 h)
theorem dA.e8{α0 α1 α2 : Type}{c : Code}(S : α0 → α1 → α2 → St)(I : α0 → α1 → α2 → Prop)(μ : α0 → α1 → α2 → Nat)(i0 : α0)(i1 : α1)(i2 : α2)(hi : I i0 i1 i2)(hs : Le st (S i0 i1 i2))
  (round:∀ a0 a1 a2,I a0 a1 a2 -> dA P N c (S a0 a1 a2) (jz (fun ba=>∃ b0 b1 b2,I b0 b1 b2 /\ μ b0 b1 b2 < μ a0 a1 a2 /\ Le ba (S b0 b1 b2)) Q)):dA P N (.loop c) st Q :=
 dA.loop (ι:=α0 × α1 × α2) (fun u=>S u.1 u.2.1 u.2.2) (fun u=>I u.1 u.2.1 u.2.2) (fun u=>μ u.1 u.2.1 u.2.2) (i0,i1,i2) hi hs (fun u h=>(round u.1 u.2.1 u.2.2 h).mono fun e _ h=>by
  cases e <;> first | exact h | (obtain ⟨b0,b1,b2,h⟩:=h; exact ⟨(b0,b1,b2),h⟩))
theorem dA.Bi{α0 α1 α2:Type}{x y:Code}(J:α0 -> α1 -> α2 -> St)(I:α0 -> α1 -> α2 -> Prop)(hx:dA P N x st (jz (fun ba=>∃ b0 b1 b2,I b0 b1 b2 /\ Le ba (J b0 b1 b2)) Q))(hy:∀ a0 a1 a2,I a0 a1 a2 -> dA P N y (J a0 a1 a2) Q):dA P N (.seq x y) st Q :=
 dA.join (ι:=α0 × α1 × α2) (fun u=>J u.1 u.2.1 u.2.2) (fun u=>I u.1 u.2.1 u.2.2) (hx.mono fun e _ h=>by cases e <;> first | exact h | (obtain ⟨b0,b1,b2,h⟩:=h; exact ⟨(b0,b1,b2),h⟩)) (fun u h=>hy u.1 u.2.1 u.2.2 h)
theorem dA.Bj{α0 α1 α2 α3 : Type}{c : Code}(S : α0 → α1 → α2 → α3 → St)(I : α0 → α1 → α2 → α3 → Prop)(μ : α0 → α1 → α2 → α3 → Nat)(i0 : α0)(i1 : α1)(i2 : α2)(i3 : α3)(hi : I i0 i1 i2 i3)(hs : Le st (S i0 i1 i2 i3))
  (round:∀ a0 a1 a2 a3,I a0 a1 a2 a3 -> dA P N c (S a0 a1 a2 a3) (jz (fun ba=>∃ b0 b1 b2 b3,I b0 b1 b2 b3 /\ μ b0 b1 b2 b3 < μ a0 a1 a2 a3 /\ Le ba (S b0 b1 b2 b3)) Q)):dA P N (.loop c) st Q :=
 dA.loop (ι:=α0 × α1 × α2 × α3) (fun u=>S u.1 u.2.1 u.2.2.1 u.2.2.2) (fun u=>I u.1 u.2.1 u.2.2.1 u.2.2.2) (fun u=>μ u.1 u.2.1 u.2.2.1 u.2.2.2) (i0,i1,i2,i3) hi hs (fun u h=>(round u.1 u.2.1 u.2.2.1 u.2.2.2 h).mono fun e _ h=>by
  cases e <;> first | exact h | (obtain ⟨b0,b1,b2,b3,h⟩:=h; exact ⟨(b0,b1,b2,b3),h⟩))
theorem dA.Bk{α0 α1 α2 α3:Type}{x y:Code}(J:α0 -> α1 -> α2 -> α3 -> St)(I:α0 -> α1 -> α2 -> α3 -> Prop)(hx:dA P N x st (jz (fun ba=>∃ b0 b1 b2 b3,I b0 b1 b2 b3 /\ Le ba (J b0 b1 b2 b3)) Q))(hy:∀ a0 a1 a2 a3,I a0 a1 a2 a3 -> dA P N y (J a0 a1 a2 a3) Q):dA P N (.seq x y) st Q :=
 dA.join (ι:=α0 × α1 × α2 × α3) (fun u=>J u.1 u.2.1 u.2.2.1 u.2.2.2) (fun u=>I u.1 u.2.1 u.2.2.1 u.2.2.2) (hx.mono fun e _ h=>by cases e <;> first | exact h | (obtain ⟨b0,b1,b2,b3,h⟩:=h; exact ⟨(b0,b1,b2,b3),h⟩)) (fun u h=>hy u.1 u.2.1 u.2.2.1 u.2.2.2 h)
theorem dA.Ny{α0 α1 α2 α3 α4 : Type}{c : Code}(S : α0 → α1 → α2 → α3 → α4 → St)(I : α0 → α1 → α2 → α3 → α4 → Prop)(μ : α0 → α1 → α2 → α3 → α4 → Nat)(i0 : α0)(i1 : α1)(i2 : α2)(i3 : α3)(i4 : α4)(hi : I i0 i1 i2 i3 i4)(hs : Le st (S i0 i1 i2 i3 i4))
  (round:∀ a0 a1 a2 a3 a4,I a0 a1 a2 a3 a4 -> dA P N c (S a0 a1 a2 a3 a4) (jz (fun ba=>∃ b0 b1 b2 b3 b4,I b0 b1 b2 b3 b4 /\ μ b0 b1 b2 b3 b4 < μ a0 a1 a2 a3 a4 /\ Le ba (S b0 b1 b2 b3 b4)) Q)):dA P N (.loop c) st Q :=
 dA.loop (ι:=α0 × α1 × α2 × α3 × α4) (fun u=>S u.1 u.2.1 u.2.2.1 u.2.2.2.1 u.2.2.2.2) (fun u=>I u.1 u.2.1 u.2.2.1 u.2.2.2.1 u.2.2.2.2) (fun u=>μ u.1 u.2.1 u.2.2.1 u.2.2.2.1 u.2.2.2.2) (i0,i1,i2,i3,i4) hi hs (fun u h=>(round u.1 u.2.1 u.2.2.1 u.2.2.2.1 u.2.2.2.2 h).mono fun e _ h=>by
  cases e <;> first | exact h | (obtain ⟨b0,b1,b2,b3,b4,h⟩:=h; exact ⟨(b0,b1,b2,b3,b4),h⟩))
end
section
variable {α:Type} {f:α -> List X} {l m:List α} {i n:Nat} {d a b:α}
theorem ao(h:i < l.length):(l.map f)[i]? = some (f (l.getD i d)):=by
 rw [List.getElem?_map,List.getElem?_eq_getElem h,List.getD_eq_getElem?_getD,List.getElem?_eq_getElem h]; rfl
theorem aO(h:i < l.length):(l.map f)[0 + i]? = some (f (l.getD i d)):=by rw [Nat.zero_add]; exact ao h
theorem eO{k:Nat}{ys:List X}(h:lg (f a) k ys = f b):(l.map f).set (0 + i) (lg (f a) k ys) = (l.set i b).map f:=by
 rw [h,Nat.zero_add,List.map_set]
theorem aV(h:n = l.length):(((l.map f).drop 0).take n) ++ m.map f = (l ++ m).map f:=by
 rw [List.drop_zero,List.take_of_length_le (by rw [List.length_map]; omega),List.map_append]
theorem bh(h:n = l.length):0 + n <= (l.map f).length:=by rw [List.length_map]; omega
theorem b8(h:n = l.length):n + (m.map f).length = (l ++ m).length:=by rw [List.length_map,List.length_append]; omega
theorem bz(h:n = l.length):0 + n <= (l.map f).length:=by rw [List.length_map]; omega
theorem b5(h:n = l.length):((l.map f).drop 0).take n = l.map f:=by
 rw [List.drop_zero,List.take_of_length_le (by rw [List.length_map]; omega)]
theorem Hj{f:α -> List X}{z:List X}(h:z = f a):List.replicate n z = (List.replicate n a).map f:=by rw [List.map_replicate,h]
theorem iX{p:Prop}(h:p:=by first | rfl | exact Hj rfl):p:=h
theorem aW(h:n = l.length):n = (l.map f).length:=by rw [List.length_map]; exact h
theorem rS{p:Prop}(h:p:=by first | rfl | exact aW rfl | exact aW (by omega)):p:=h
end
section
variable {N:fA} {st:St} {d:Nat}
theorem Sh.dD{s n:Nat}{rows:List (List X)}(o:Nat)(mO:List (List X))(hx:look st.aF d = some (.dK s rows))(he:rows = mO)(hn:n = mO.length)(hF:N.F.elem o = false):Sh N st (((st.kill o).dC o (.rows s mO)).put d (.aN o s 0 n)):=by
 subst he; exact Sh.JV o hx hn hF
theorem Sh.cN{s:Nat}{rows:List (List X)}(mO:List (List X))(hx:look st.aF d = some (.dK s rows))(he:rows = mO)(hf:cM mO):Sh N st (st.put d (.fz s mO)):=by
 subst he; exact Sh.freeze hx hf
end
section
variable {P:Program} {N:fA} {st:St} {dst:Option Nat} {ty:TypeId} {pos:String} {af:Array Edge} {g:Option (Nat × Bool)}
theorem Y.qk{s d : TypeId}{x : Operand}{k k' : IntKind}{n : Int}(hs : TY.isInt P s = some k')(hd : TY.isInt P d = some k)(hx : bV st x = some (.v (.int k' n)))(hr : k.wrap n = n) :
  Yields P N st ⟨dst,.convert s d x,ty,pos,af,g⟩ (.v (.int k n)):=Y.qj hs hd hx hr
end
theorem aM{l:List (Nat × X)}{i o s lo n n':Nat}(h:look l i = some (.aN o s lo n))(e:n = n'):look l i = some (.aN o s lo n'):=e ▸ h
theorem ak{l:List (Nat × X)}{i:Nat}{k:IntKind}{a b:Int}(h:look l i = some (.v (.int k a)))(e:a = b):look l i = some (.v (.int k b)):=e ▸ h
theorem aT{l:List (Nat × X)}{i:Nat}{a b:Bool}(h:look l i = some (.v (.bool a)))(e:a = b):look l i = some (.v (.bool b)):=e ▸ h
theorem az{l:List (Nat × Obj)}{i:Nat}{a b:List X}(h:look l i = some (.cells a))(e:a = b):look l i = some (.cells b):=e ▸ h
theorem aq{α:Type}{s:Nat}{f:α -> List X}(h:∀ a,(f a).length = s){l:List α}:cA s (l.map f):=by
 intro r hr
 obtain ⟨a,_,rfl⟩:=List.mem_map.1 hr
 exact h a
theorem Eg{α0 γ:Type}(f:α0 -> γ){a0 b0:α0}(h0:a0 = b0):f a0 = f b0:=by subst h0; rfl
end Go.AW
namespace Go.AW
section
variable {α:Type} {l m:List α} {i j n:Nat} {d a x:α}
theorem rp(h:i < n):(List.replicate n a).getD i d = a:=by
 rw [List.getD_eq_getElem?_getD,List.getElem?_replicate,if_pos h]; rfl
theorem tZ{p:Nat -> Prop}(h:∀ j,j < i -> p j)(hp:p i):∀ j,j < i + 1 -> p j:=by
 intro j hj
 rcases Nat.lt_or_ge j i with h1 | h1
 ·exact h j h1
 ·obtain rfl:j = i:=by omega
  exact hp
end
end Go.AW
namespace Go.AW
open Go Go.ChangeShapes Go.WideShapes Go.Deep Go.RowKit
theorem bA.Eh{E : Env} : ∀ {xs ys : List X} {cs ds : List Value}, bA E xs cs [] → bA E ys ds [] → bA E (xs ++ ys) (cs ++ ds) []
 | [],_,_,_,h,h'=>by simp only [bA] at h; rw [h.1]; exact h'
 | x :: r,ys,cs,ds,h,h'=>by
  simp only [bA] at h
  obtain ⟨c,dv,R₁,R₂,rfl,hs,h1,h2,hR⟩:=h
  obtain ⟨rfl,rfl⟩:=List.append_eq_nil_iff.1 hR.symm
  simp only [List.cons_append,bA]
  exact ⟨c,dv ++ ds,[],[],rfl,hs,h1,bA.Eh h2 h',rfl⟩
theorem bA.v1{E:Env}{u:Value}(h:jW u):bA E [.v u] [u] []:=by
 simp only [bA]
 exact ⟨u,[],[],[],rfl,h,by simp [RX],⟨rfl,rfl⟩,rfl⟩
theorem bA.len{E : Env} : ∀ {xs : List X} {cs : List Value} {R : List Nat}, bA E xs cs R → xs.length = cs.length
 | [],_,_,h=>by simp only [bA] at h; rw [h.1]; rfl
 | x :: r,cs,R,h=>by
  simp only [bA] at h
  obtain ⟨c,dv,R₁,R₂,rfl,_,_,h2,_⟩:=h
  simp [bA.len h2]
theorem RF.Vr{E : Env}{b : Nat} : ∀ {row : List X} {cs : List Value} {off : Nat}, bA E row cs [] → X.iH row = true → (∀ (j : Nat) c, cs[j]? = some c → E.φ b (off + j) = some c) → RF E row b off
 | [],_,_,_,_,_=>by simp [RF]
 | x :: r,cs,off,h,hn,hc=>by
  simp only [bA] at h
  obtain ⟨c,dv,R₁,R₂,rfl,hs,h1,h2,hR⟩:=h
  obtain ⟨rfl,rfl⟩:=List.append_eq_nil_iff.1 hR.symm
  simp only [X.iH,Bool.and_eq_true] at hn
  simp only [RF]
  refine ⟨⟨c,by simpa using hc 0 c rfl,hs,hn.1,h1⟩,RF.Vr h2 hn.2 fun j c' hj=>?_⟩
  rw [show off + 1 + j = off + (j + 1) by omega]
  exact hc (j + 1) c' (by simpa using hj)
mutual
def vq{H : Type} : DataW H → Nat
 | .lit (.string bytes)=>bytes.length + 1
 | .lit _=>1
 | .nil=>1
 | .ptr d=>vq d + 1
 | .slice elems spare=>lF elems + lF spare + 1
 | .agg parts=>lF parts + 1
 | .iface _ d=>vq d + 1
 | .map entries=>ua entries + 1
 | .held _=>1
def lF{H : Type} : List (DataW H) → Nat
 | []=>0
 | d :: r=>vq d + lF r
def ua{H : Type} : List (Lit × DataW H) → Nat
 | []=>0
 | x :: r=>Ei x + ua r
def Ei{H : Type} : Lit × DataW H → Nat
 | (.string bytes,d)=>bytes.length + vq d + 1
 | (_,d)=>vq d + 1
end
theorem pS{H α : Type}{m : α → Nat} : ∀ {l : List α} {ds : List (DataW H)}, l.length = ds.length → (∀ (i : Nat) a d, l[i]? = some a → ds[i]? = some d → m a ≤ vq d) → (l.map m).sum ≤ lF ds
 | [],_,_,_=>by simp
 | a :: l,[],h,_=>by simp at h
 | a :: l,d :: ds,h,hm=>by
  have h1:=hm 0 a d rfl rfl
  have h2:=pS (l:=l) (ds:=ds) (by simpa using h) (fun i a' d' ha hd=>hm (i + 1) a' d' (by simpa using ha) (by simpa using hd))
  simp only [List.map_cons,List.sum_cons,lF]; omega
section
variable {H:Type} (enc:TypeId × Value -> H) (P:Program) (W:World) (base:Nat)
def Sz{H:Type}(P:Program)(t:TypeId)(d:DataW H):Prop:=∀ n ∈ d.weights P t,n <= 140737488351232
def Reads(t:TypeId){α:Type}(f:α -> List X)(p:α -> Prop)(m:α -> Nat):Prop :=
 ∀ (n : Nat) (cs : List Value) (y : DataW H × List MemPlace), DataW.trod enc P W base (fun _ => true) true n t cs = some y → Sz P t y.1 →
  ∃ a:α,p a /\ bA (E0 W) (f a) cs [] /\ X.b6 (f a) = true /\ X.iH (f a) = true /\ m a <= vq y.1
def eH(fl:List Field)(off m:Nat){α:Type}(f:α -> List X)(p:α -> Prop)(mm:α -> Nat):Prop :=
 ∀ (n : Nat) (cs : List Value) (xs : List (DataW H × List MemPlace)), off + m ≤ cs.length → xs.length = fl.length →
  (∀ (i:Nat) (fd:Field),fl[i]? = some fd -> DataW.trod enc P W base (fun _=>true) true n fd.type ((cs.drop fd.offset).take (P.cellsOf fd.type)) = xs[i]?) ->
  (∀ (i:Nat) (fd:Field) (x:DataW H × List MemPlace),fl[i]? = some fd -> xs[i]? = some x -> Sz P fd.type x.1) ->
  ∃ a:α,p a /\ bA (E0 W) (f a) ((cs.drop off).take m) [] /\ X.b6 (f a) = true /\ X.iH (f a) = true /\ mm a <= lF (xs.map (·.1))
end
section
variable {H:Type} {enc:TypeId × Value -> H} {P:Program} {W:World} {base:Nat} {t e:TypeId} {α β:Type} {f:α -> List X} {p:α -> Prop} {g:β -> List X} {q:β -> Prop} {mf:α -> Nat} {mg:β -> Nat}
theorem mS : ∀ {a b : List X}, X.b6 a = true → X.b6 b = true → X.b6 (a ++ b) = true
 | [],_,_,h=>h
 | x :: r,b,h,h'=>by
  simp only [X.b6,Bool.and_eq_true,List.cons_append] at h ⊢
  exact ⟨h.1,mS h.2 h'⟩
theorem rq : ∀ {a b : List X}, X.iH a = true → X.iH b = true → X.iH (a ++ b) = true
 | [],_,_,h=>h
 | x :: r,b,h,h'=>by
  simp only [X.iH,Bool.and_eq_true,List.cons_append] at h ⊢
  exact ⟨h.1,rq h.2 h'⟩
theorem Reads.map(φ:α -> β)(h:Reads enc P W base t f p mf)(hf:∀ a,g (φ a) = f a)(hp:∀ a,p a -> q (φ a))(hm:∀ a,mg (φ a) <= mf a):Reads enc P W base t g q mg:=by
 intro n cs y hy hs
 obtain ⟨a,h1,h2,h3,h4,h5⟩:=h n cs y hy hs
 exact ⟨φ a,hp a h1,by rw [hf]; exact h2,by rw [hf]; exact h3,by rw [hf]; exact h4,Nat.le_trans (hm a) h5⟩
theorem Reads.int{k:IntKind}(he:P.underlying t = some (.int k)):Reads enc P W base t (fun z:Int=>[.v (.int k z)]) (fun z=>(Lit.int k z).wf = true) (fun _=>1):=by
 intro n cs y hy _
 obtain ⟨z,rfl,hd,hw⟩:=DataW.trod_int he hy
 exact ⟨z,hw,bA.v1 trivial,rfl,rfl,by rw [hd]; exact Nat.le_refl _⟩
theorem Reads.bool(he:P.underlying t = some .bool):Reads enc P W base t (fun z:Bool=>[.v (.bool z)]) (fun _=>True) (fun _=>1):=by
 intro n cs y hy _
 obtain ⟨z,rfl,hd⟩:=DataW.trod_bool he hy
 exact ⟨z,trivial,bA.v1 trivial,rfl,rfl,by rw [hd]; exact Nat.le_refl _⟩
theorem Reads.Nz(he:P.underlying t = some (.int .u64)):Reads enc P W base t (fun z:Nat=>[.v (.int .u64 (z:Int))]) (fun z=>z < 18446744073709551616) (fun _=>1):=by
 intro n cs y hy _
 obtain ⟨z,rfl,hd,hw⟩:=DataW.trod_int he hy
 simp only [Lit.wf,IntKind.min,IntKind.max,IntKind.signed,IntKind.bits] at hw
 simp at hw
 obtain ⟨m,rfl⟩:=Int.eq_ofNat_of_zero_le (show 0 <= z by omega)
 exact ⟨m,om,bA.v1 trivial,rfl,rfl,by rw [hd]; exact Nat.le_refl _⟩
theorem Reads.RK(he:P.underlying t = some (.int .u8)):Reads enc P W base t (fun z:Nat=>[.v (.int .u8 (z:Int))]) (fun z=>z < 256) (fun _=>1):=by
 intro n cs y hy _
 obtain ⟨z,rfl,hd,hw⟩:=DataW.trod_int he hy
 simp only [Lit.wf,IntKind.min,IntKind.max,IntKind.signed,IntKind.bits] at hw
 simp at hw
 obtain ⟨m,rfl⟩:=Int.eq_ofNat_of_zero_le (show 0 <= z by omega)
 exact ⟨m,om,bA.v1 trivial,rfl,rfl,by rw [hd]; exact Nat.le_refl _⟩
theorem Reads.str(he:P.underlying t = some .string):Reads enc P W base t (fun z:ByteArray=>[.v (.string z)]) (fun z=>z.size <= 140737488351232) (fun _=>0):=by
 intro n cs y hy hs
 obtain ⟨z,rfl,rfl,_⟩:=DataW.trod_string he hy
 refine ⟨z,?_,bA.v1 trivial,rfl,rfl,Nat.zero_le _⟩
 have:=hs z.data.toList.length (by simp [DataW.weights])
 simpa using this
theorem gU{H : Type}{P : Program}{e : TypeId} : ∀ {ds : List (DataW H)} {d : DataW H}, d ∈ ds → ∀ n ∈ d.weights P e, n ∈ DataW.weightsAll P e ds
 | d' :: r,d,h,n,hn=>by
  simp only [DataW.weightsAll,List.mem_append]
  rcases List.mem_cons.1 h with rfl | h
  ·exact .inl hn
  ·exact .inr (gU h n hn)
theorem Reads.slice[Inhabited α]{s B : Nat}(ht : P.underlying t = some (.slice e))(hC : P.cellsOf e = s)(hs : 0 < s)(hB : P.bytesOf e = B)(he : Reads enc P W base e f p mf) :
  Reads enc P W base t (fun l:List α=>[.fz s (l.map f)]) (fun l=>l.length * B <= 140737488351232 /\ ∀ a ∈ l,p a) (fun l=>(l.map mf).sum):=by
 intro fuel cs y hy fP
 rcases open_slice ht hy with ⟨rfl,rfl⟩ | ⟨a,len,cap,m,n,D,Pl,rfl,_,hl,_,hm,rfl,hi⟩
 ·refine ⟨[],⟨by simp,fun _ h=>by cases h⟩,?_,rfl,rfl,by simp⟩
  simp only [bA,List.map_nil]
  refine ⟨.slice none 0 0,[],[],[],rfl,trivial,?_,⟨rfl,by trivial⟩,rfl⟩
  simp only [RX]
  exact ⟨trivial,(fun _ h=>by cases h),none,0,rfl,.inl ⟨by trivial,rfl⟩⟩
 ·simp only [if_true] at hm
  subst hm
  rw [hC] at hi
  have hD:∀ i,i < m -> Sz P e (D i):=by
   intro i Zo k hk
   refine fP k ?_
   simp only [DataW.weights,ht,List.mem_cons,List.mem_append]
   right
   by_cases zC:i < len
   ·exact .inl (gU (List.mem_map.2 ⟨i,List.mem_range.2 zC,rfl⟩) k hk)
   ·refine .inr (gU (List.mem_map.2 ⟨i - len,List.mem_range.2 om,?_⟩) k hk)
    congr 1; omega
  have Xp:∀ i,∃ x:α,i < len -> ∃ cs,W.cells? base (a.add (i * s)) s = some cs /\ p x /\ bA (E0 W) (f x) cs [] /\ X.b6 (f x) = true /\ X.iH (f x) = true /\ mf x <= vq (D i):=by
   intro i
   by_cases zC:i < len
   ·obtain ⟨cs,hc,R7⟩:=hi i om
    obtain ⟨x,h0,h1,h2,h3,h4⟩:=he n cs _ R7 (hD i om)
    exact ⟨x,fun _=>⟨cs,hc,h0,h1,h2,h3,h4⟩⟩
   ·exact ⟨default,fun h=>absurd h zC⟩
  obtain ⟨g,hg⟩:=Classical.axiomOfChoice Xp
  refine ⟨(List.range len).map g,⟨?_,?_⟩,?_,rfl,rfl,?_⟩
  rotate_right
  ·refine Nat.le_trans (pS (m:=mf) (ds:=(List.range len).map D) (by simp) ?_) (by show _ <= lF _ + lF _ + 1; omega)
   intro i a' d' ha hd
   simp only [List.getElem?_map,Option.map_eq_some_iff] at ha hd
   obtain ⟨k,hk,rfl⟩:=ha
   obtain ⟨k',Bh,rfl⟩:=hd
   rw [hk] at Bh
   obtain rfl:=Option.some.inj Bh
   have IK:i < len:=by have:=(List.getElem?_eq_some_iff.1 hk).1; simpa using this
   have vj:k = i:=by rw [List.getElem?_range IK] at hk; exact (Option.some.inj hk).symm
   subst vj
   obtain ⟨_,_,_,_,_,_,h5⟩:=hg k IK
   exact h5
  ·have z:=fP ((((List.range len).map D).length + ((List.range (m - len)).map fun j=>D (len + j)).length) * P.bytesOf e) (by simp [DataW.weights,ht])
   rw [hB] at z
   simp only [List.length_map,List.length_range] at z ⊢
   exact Nat.le_trans (Nat.mul_le_mul_right _ om) z
  ·intro x hx
   simp only [List.mem_map,List.mem_range] at hx
   obtain ⟨i,iJ,rfl⟩:=hx
   obtain ⟨_,_,h0,_⟩:=hg i iJ
   exact h0
  ·have hu:cA s (((List.range len).map g).map f):=by
    intro r hr
    simp only [List.map_map,List.mem_map,List.mem_range,Function.comp] at hr
    obtain ⟨i,iJ,rfl⟩:=hr
    obtain ⟨cs,hc,_,h1,_⟩:=hg i iJ
    rw [bA.len h1]
    exact (World.cells?_some hc).2.1
   simp only [bA]
   refine ⟨_,[],[],[],rfl,trivial,?_,⟨rfl,rfl⟩,rfl⟩
   simp only [RX]
   refine ⟨trivial,hu,some a,m,by simp,?_⟩
   by_cases Vs:m = 0
   ·exact .inl ⟨by simp [show len = 0 by omega],Vs⟩
   ·have IS:a = ⟨a.block,a.off,none⟩:=by
     obtain ⟨cs,hc,_⟩:=hi 0 om
     have h1:=(World.cells?_some hc).2.2 0 hs
     have hlen:=(World.cells?_some hc).2.1
     simp only [Nat.zero_mul,Addr.add,if_true] at h1
     rw [List.getElem?_eq_getElem (show 0 < cs.length by omega)] at h1
     unfold World.cell? at h1
     obtain ⟨b,o,sp⟩:=a
     cases sp with
     | none=>rfl
     | some q=>split at h1 <;> simp at h1
    refine .inr ⟨a.block,a.off,by rw [<- IS],by simp; omega,kT.of hu ?_⟩
    intro i row q5
    simp only [List.map_map,List.getElem?_map,Option.map_eq_some_iff,Function.comp] at q5
    obtain ⟨k,hk,rfl⟩:=q5
    have IK:i < len:=by have:=(List.getElem?_eq_some_iff.1 hk).1; simpa using this
    have vj:k = i:=by rw [List.getElem?_range IK] at hk; exact (Option.some.inj hk).symm
    subst vj
    obtain ⟨cs,hc,_,h1,_,h2,_⟩:=hg k IK
    refine RF.Vr h1 h2 fun j c JX=>?_
    have oy:j < s:=by have:=(List.getElem?_eq_some_iff.1 JX).1; rw [(World.cells?_some hc).2.1] at this; exact this
    have h3:=(World.cells?_some hc).2.2 j oy
    rw [JX,add_add,IS,iz] at h3
    show W.cell? _ = _
    rw [<- h3]
    congr 2
    omega
theorem eH.nil{off:Nat}:eH enc P W base [] off 0 (fun _:Unit=>[]) (fun _=>True) (fun _=>0):=by
 intro n cs xs _ _ _ _
 exact ⟨(),trivial,by simp [bA],rfl,rfl,Nat.zero_le _⟩
theorem eH.cons{fd : Field}{fl : List Field}{off s m : Nat}(ho : fd.offset = off)(hC : P.cellsOf fd.type = s)(h : Reads enc P W base fd.type f p mf)(hr : eH enc P W base fl (off + s) m g q mg) :
  eH enc P W base (fd :: fl) off (s + m) (fun x:α × β=>f x.1 ++ g x.2) (fun x=>p x.1 /\ q x.2) (fun x=>mf x.1 + mg x.2):=by
 intro n cs xs hlen yL hx fP
 cases xs with
 | nil=>simp at yL
 | cons x xs =>
  have h0:=hx 0 fd rfl
  rw [ho,hC] at h0
  obtain ⟨a,ha,h1,h2,h3,h4⟩:=h n _ x h0 (fP 0 fd x rfl rfl)
  obtain ⟨b,hb,g1,g2,g3,g4⟩:=hr n cs xs om (by simpa using yL) (fun i RL hi=>by simpa using hx (i + 1) RL (by simpa using hi)) (fun i RL x' hi j2=>fP (i + 1) RL x' (by simpa using hi) (by simpa using j2))
  refine ⟨(a,b),⟨ha,hb⟩,?_,mS h2 g2,rq h3 g3,by simp only [List.map_cons,lF]; omega⟩
  have ub:(cs.drop off).take (s + m) = (cs.drop off).take s ++ (cs.drop (off + s)).take m:=by
   rw [List.take_add,List.drop_drop]
  rw [ub]
  exact bA.Eh h1 g1
theorem nW{H : Type}{P : Program} : ∀ {fl : List Field} {xs : List (DataW H × List MemPlace)} {i : Nat} {fd : Field} {x : DataW H × List MemPlace}, fl[i]? = some fd → xs[i]? = some x →
  ∀ n ∈ x.1.weights P fd.type,n ∈ DataW.weightsEach P (fl.map (·.type)) (xs.map (·.1))
 | f :: fl,y :: xs,0,fd,x,h,h',n,hn=>by
  simp only [List.getElem?_cons_zero,Option.some.injEq] at h h'
  subst h h'
  simp only [List.map_cons,DataW.weightsEach,List.mem_append]
  exact .inl hn
 | f :: fl,y :: xs,i + 1,fd,x,h,h',n,hn=>by
  simp only [List.map_cons,DataW.weightsEach,List.mem_append]
  exact .inr (nW (i:=i) (by simpa using h) (by simpa using h') n hn)
theorem Reads.struct{fs:Array Field}{m:Nat}(ht:P.underlying t = some (.struct fs))(hC:P.cellsOf t = m)(h:eH enc P W base fs.toList 0 m f p mf):Reads enc P W base t f p mf:=by
 intro fuel cs y hy fP
 obtain ⟨xs,n,_,rfl,hlen,yL,hx⟩:=DataW.trod_struct ht hy
 obtain ⟨a,ha,h1,h2,h3,h4⟩:=h n cs xs om (by simpa using yL) (fun i fd hi=>hx i fd (by simpa using hi)) (fun i fd x hi j2 k hk=>by
  refine fP k ?_
  simp only [DataW.weights,ht]
  exact nW hi j2 k hk)
 refine ⟨a,ha,?_,h2,h3,by show _ <= lF _ + 1; omega⟩
 rw [List.drop_zero,List.take_of_length_le om] at h1
 exact h1
theorem Reads.RM{s : Nat}(ht : P.underlying t = some (.array 2 e))(hC : P.cellsOf e = s)(hT : P.cellsOf t = 2 * s)(h : Reads enc P W base e f p mf) :
  Reads enc P W base t (fun x:α × α=>f x.1 ++ f x.2) (fun x=>p x.1 /\ p x.2) (fun _=>0):=by
 intro fuel cs y hy fP
 obtain ⟨xs,n,_,rfl,hlen,yL,hx⟩:=DataW.trod_array ht hy
 match xs,yL with
 | [x0,x1],_ =>
  have w0:∀ x ∈ [x0,x1],Sz P e x.1:=fun x hx k hk=>fP k (by
   simp only [DataW.weights,ht]
   exact gU (List.mem_map.2 ⟨x,hx,rfl⟩) k hk)
  obtain ⟨a,ha,a1,a2,a3,_⟩:=h n _ x0 (hx 0 om) (w0 x0 (by simp))
  obtain ⟨b,hb,b1,b2,b3,_⟩:=h n _ x1 (hx 1 om) (w0 x1 (by simp))
  refine ⟨(a,b),⟨ha,hb⟩,?_,mS a2 b2,rq a3 b3,Nat.zero_le _⟩
  have ub:cs = (cs.drop (0 * P.cellsOf e)).take (P.cellsOf e) ++ (cs.drop (1 * P.cellsOf e)).take (P.cellsOf e):=by
   rw [Nat.zero_mul,Nat.one_mul,List.drop_zero,hC,List.take_of_length_le (l:=cs.drop s) (by rw [List.length_drop]; omega),List.take_append_drop]
  rw [ub]
  exact bA.Eh a1 b1
theorem Reads.RN{s : Nat}(ht : P.underlying t = some (.array 3 e))(hC : P.cellsOf e = s)(hT : P.cellsOf t = 3 * s)(h : Reads enc P W base e f p mf) :
  Reads enc P W base t (fun x:α × α × α=>f x.1 ++ (f x.2.1 ++ f x.2.2)) (fun x=>p x.1 /\ p x.2.1 /\ p x.2.2) (fun _=>0):=by
 intro fuel cs y hy fP
 obtain ⟨xs,n,_,rfl,hlen,yL,hx⟩:=DataW.trod_array ht hy
 match xs,yL with
 | [x0,x1,x2],_ =>
  have w0:∀ x ∈ [x0,x1,x2],Sz P e x.1:=fun x hx k hk=>fP k (by
   simp only [DataW.weights,ht]
   exact gU (List.mem_map.2 ⟨x,hx,rfl⟩) k hk)
  obtain ⟨a,ha,a1,a2,a3,_⟩:=h n _ x0 (hx 0 om) (w0 x0 (by simp))
  obtain ⟨b,hb,b1,b2,b3,_⟩:=h n _ x1 (hx 1 om) (w0 x1 (by simp))
  obtain ⟨c,hc,c1,c2,c3,_⟩:=h n _ x2 (hx 2 om) (w0 x2 (by simp))
  refine ⟨(a,b,c),⟨ha,hb,hc⟩,?_,mS a2 (mS b2 c2),rq a3 (rq b3 c3),Nat.zero_le _⟩
  have ub:cs = (cs.drop (0 * P.cellsOf e)).take (P.cellsOf e) ++ ((cs.drop (1 * P.cellsOf e)).take (P.cellsOf e) ++ (cs.drop (2 * P.cellsOf e)).take (P.cellsOf e)):=by
   rw [Nat.zero_mul,Nat.one_mul,List.drop_zero,hC,List.take_of_length_le (l:=cs.drop (2 * s)) (by rw [List.length_drop]; omega),show 2 * s = s + s by omega,<- List.drop_drop,List.take_append_drop,List.take_append_drop]
  rw [ub]
  exact bA.Eh a1 (bA.Eh b1 c1)
theorem Reads.one{x : α → X}{v : Value}{d : DataW H}{ps : List MemPlace}(h : Reads enc P W base t (fun a => [x a]) p mf)(hs : Sz P t d)(hv : v.cells.toList = [v])(ht : DataW.Trod enc P W base (fun _ => true) true t v d ps) :
  ∃ a,p a /\ RX (E0 W) (x a) v [] /\ mf a <= vq d:=by
 obtain ⟨fuel,hf⟩:=ht
 rw [hv] at hf
 obtain ⟨a,ha,h1,_,_,h5⟩:=h fuel _ _ hf hs
 simp only [bA] at h1
 obtain ⟨c,dv,R₁,R₂,hc,_,h2,_,hR⟩:=h1
 obtain ⟨rfl,rfl⟩:=List.append_eq_nil_iff.1 hR.symm
 simp only [List.cons.injEq] at hc
 exact ⟨a,ha,by rw [hc.1]; exact h2,h5⟩
theorem Reads.agg{cs : Array Value}{d : DataW H}{ps : List MemPlace}(h : Reads enc P W base t f p mf)(hs : Sz P t d)(ht : DataW.Trod enc P W base (fun _ => true) true t (.agg cs) d ps) :
  ∃ a,p a /\ RX (E0 W) (.agg (f a)) (.agg cs) [] /\ mf a <= vq d:=by
 obtain ⟨fuel,hf⟩:=ht
 obtain ⟨a,ha,h1,_,_,h5⟩:=h fuel _ _ hf hs
 exact ⟨a,ha,by simp only [RX]; exact ⟨cs,rfl,h1⟩,h5⟩
theorem Sz.of{ts:List TypeId}{ds:List (DataW H)}(h:(DataW.weightsEach P ts ds).all (· <= reachBytes) = true){j:Nat}{d:DataW H}(RP:ts[j]? = some t)(Xq:ds[j]? = some d):Sz P t d:=by
 intro n hn
 have:=List.all_eq_true.1 h _ (DataW.weights_mem_each RP Xq n hn)
 have h2:=of_decide_eq_true this
 exact h2
end
end Go.AW
namespace Go.AW
open Go
def qC(ops:Array Oper)(j i:Nat):Bool:=match ops[j]? with
 | some o=>o.after.any fun e=>Region.binds .any e && e.on == i
 | none=>false
def JY(ops:Array Oper)(l rest:List Nat)(t:Nat)(ag:Array Bool):Bool :=
 ag.size == ops.size && ((List.range ops.size).all fun j=>!ag.getD j false || match ops[j]? with
  | some o=>o.after.all fun e=>!Region.binds .any e || ag.getD e.on false
  | none=>true) && ((List.range ops.size).all fun j=>ag.getD j true || l.contains j || rest.contains j) && (rest.all fun j=>!ag.getD j true && !l.contains j) && (l.all fun j=>!ag.getD j true) &&
  (rest.isEmpty || l.all fun i=>(t :: l).any fun j=>decide (i < j) && qC ops j i) && (rest.all fun j=>j == t || rest.any fun k=>qC ops j k) && decide l.Nodup
structure On(ops:Array Oper)(l0 rest:List Nat)(t:Nat)(l:List Nat)(ag:Array Bool):Prop where
 size:ag.size = ops.size
 closed:∀ j o,ops[j]? = some o -> ag.getD j false = true -> ∀ e ∈ o.after,Region.binds .any e = true -> ag.getD e.on false = true
 part:∀ j,ag.getD j true = false -> j ∈ l \/ j ∈ rest
 out:∀ j ∈ rest,ag.getD j true = false /\ j ∉ l0
 open_:∀ j ∈ l,ag.getD j true = false
 sub:∀ j ∈ l,j ∈ l0
 sink:rest ≠ [] -> ∀ i ∈ l0,∃ j,(j = t \/ j ∈ l0) /\ i < j /\ qC ops j i = true
 wait:∀ j ∈ rest,j = t \/ ∃ k ∈ rest,qC ops j k = true
 nodup:l.Nodup
theorem vF{ag:Array Bool}{i:Nat}(h:ag.getD i true = false):ag.getD i false = false:=by
 rcases Nat.lt_or_ge i ag.size with h' | h'
 ·simp [h'] at h ⊢; exact h
 ·simp [Array.getElem?_eq_none h'] at h
theorem zL{ag:Array Bool}{i:Nat}(hi:i < ag.size)(h:ag.getD i false = false):ag.getD i true = false:=by
 simp [hi] at h ⊢; exact h
theorem sN{ops:Array Oper}{j i:Nat}(h:qC ops j i = true):∃ o,ops[j]? = some o /\ ∃ e ∈ o.after,Region.binds .any e = true /\ e.on = i:=by
 unfold qC at h
 split at h
 ·rename_i o ho
  obtain ⟨e,he,hb⟩:=Array.any_eq_true'.1 h
  simp only [Bool.and_eq_true,beq_iff_eq] at hb
  exact ⟨o,ho,e,he,hb.1,hb.2⟩
 ·cases h
theorem Hk{ops:Array Oper}{l rest:List Nat}{t:Nat}{ag:Array Bool}(h:JY ops l rest t ag = true):On ops l rest t l ag:=by
 simp only [JY,Bool.and_eq_true,beq_iff_eq,List.all_eq_true,decide_eq_true_eq,List.mem_range,Bool.or_eq_true,Bool.not_eq_true',List.any_eq_true,List.contains_iff_mem] at h
 obtain ⟨⟨⟨⟨⟨⟨⟨h1,h2⟩,h3⟩,h4⟩,h5⟩,h6⟩,h7⟩,h8⟩:=h
 refine ⟨h1,?_,?_,?_,h5,fun _ h=>h,?_,?_,h8⟩
 ·intro j o ho hl e he hb
  have:=h2 j (Array.getElem?_eq_some_iff.1 ho).1
  rw [hl,ho] at this
  simp only [Bool.true_eq_false,false_or] at this
  have h9:=Array.all_eq_true_iff_forall_mem.1 this e he
  simpa [hb] using h9
 ·intro j hj
  have LU:j < ops.size:=by
   rcases Nat.lt_or_ge j ag.size with h' | h'
   ·omega
   ·simp [Array.getElem?_eq_none h'] at hj
  have:=h3 j LU
  rw [hj] at this
  simpa using this
 ·intro j hj
  have:=h4 j hj
  exact ⟨this.1,by simpa using this.2⟩
 ·intro fN i hi
  obtain ⟨j,hj,gP,hw⟩:=(h6.resolve_left (by simpa using fN)) i hi
  exact ⟨j,by simpa using hj,gP,hw⟩
 ·intro j hj
  exact h7 j hj
theorem vG{ops:Array Oper}{ag:Array Bool}{j k:Nat}(hw:qC ops j k = true)(hk:ag.getD k true = false):j ∉ Region.ready .any ops ag:=by
 intro hj
 obtain ⟨_,o,ho,vp⟩:=mem_ready.1 hj
 obtain ⟨o',nv,e,he,hb,iA⟩:=sN hw
 rw [ho] at nv
 cases nv
 have:=vp e he hb
 rw [iA,vF hk] at this
 cases this
theorem uc : ∀ {l : List Nat}, l ≠ [] → ∃ m ∈ l, ∀ x ∈ l, x ≤ m
 | [],h=>absurd rfl h
 | [a],_=>⟨a,by simp,by simp⟩
 | a :: b :: r,_=>by
  obtain ⟨m,hm,hx⟩:=uc (l:=b :: r) (by simp)
  rcases Nat.le_total a m with h | h
  ·exact ⟨m,List.mem_cons_of_mem _ hm,fun x j2=>by rcases List.mem_cons.1 j2 with rfl | j2; exact h; exact hx x j2⟩
  ·exact ⟨a,by simp,fun x j2=>by rcases List.mem_cons.1 j2 with rfl | j2; exact Nat.le_refl _; exact Nat.le_trans (hx x j2) h⟩
theorem On.ready{ops:Array Oper}{l0 rest l:List Nat}{t:Nat}{ag:Array Bool}(h:On ops l0 rest t l ag)(fN:l ≠ []):∀ j ∈ Region.ready .any ops ag,j ∈ l:=by
 intro j hj
 have AZ:=(mem_ready.1 hj).1
 rcases h.part j AZ with hl | hr
 ·exact hl
 ·exfalso
  rcases h.wait j hr with rfl | ⟨k,hk,hw⟩
  ·obtain ⟨m,hm,RQ⟩:=uc fN
   obtain ⟨j',xg,gP,hw⟩:=h.sink (fun e=>by rw [e] at hr; cases hr) m (h.sub m hm)
   rcases xg with rfl | xg
   ·exact vG hw (h.open_ m hm) hj
   ·obtain ⟨o,ho,e,he,hb,iA⟩:=sN hw
    cases hl:ag.getD j' false with
    | true =>
     have:=h.closed j' o ho hl e he hb
     rw [iA,vF (h.open_ m hm)] at this
     cases this
    | false =>
     have hs:j' < ag.size:=by rw [h.size]; exact (Array.getElem?_eq_some_iff.1 ho).1
     rcases h.part j' (zL hs hl) with h1 | h1
     ·have:=RQ j' h1; omega
     ·exact (h.out j' h1).2 xg
  ·exact vG hw (h.out k hk).1 hj
theorem On.step{ops:Array Oper}{l0 rest l:List Nat}{t j:Nat}{ag:Array Bool}(h:On ops l0 rest t l ag)(hj:j ∈ Region.ready .any ops ag)(hl:j ∈ l):On ops l0 rest t (l.erase j) (ag.setIfInBounds j true):=by
 obtain ⟨_,oj,Dx,vp⟩:=mem_ready.1 hj
 have other:∀ k (d:Bool),j ≠ k -> (ag.setIfInBounds j true).getD k d = ag.getD k d:=fun k d vB=>by
  simp only [Array.getD_eq_getD_getElem?,Array.getElem?_setIfInBounds_ne vB]
 refine ⟨by simp [h.size],?_,?_,?_,?_,fun k hk=>h.sub k (List.mem_of_mem_erase hk),h.sink,h.wait,h.nodup.erase j⟩
 ·intro k o ho hk e he hb
  by_cases vB:j = k
  ·subst vB
   rw [Dx] at ho
   cases ho
   exact getD_set_true (vp e he hb)
  ·rw [other k false vB] at hk
   exact getD_set_true (h.closed k o ho hk e he hb)
 ·intro k hk
  by_cases vB:j = k
  ·subst vB
   rw [Array.getD_eq_getD_getElem?] at hk
   rcases Nat.lt_or_ge j ag.size with h' | h'
   ·simp [h'] at hk
   ·simp at hk
  ·rw [other k true vB] at hk
   rcases h.part k hk with h1 | h1
   ·exact .inl ((List.mem_erase_of_ne (fun e=>vB e.symm)).2 h1)
   ·exact .inr h1
 ·intro k hk
  have h1:=h.out k hk
  have vB:j ≠ k:=fun e=>h1.2 (e ▸ h.sub j hl)
  exact ⟨by rw [other k true vB]; exact h1.1,h1.2⟩
 ·intro k hk
  have vB:j ≠ k:=fun e=>by subst e; exact (List.Nodup.not_mem_erase h.nodup) hk
  rw [other k true vB]; exact h.open_ k (List.mem_of_mem_erase hk)
section
variable {P:Program} {N:fA} {ops:Array Oper} {d:Nat} {ty:TypeId} {pos:String} {af:Array Edge}
def nX(P : Program)(ops : Array Oper)(w : World)(L : Array Bool → Act → Prop) : Nat → Array Bool → Act → Prop
 | 0,ag,a=>L ag a
 | n + 1,ag,a=>Region.ready .any ops ag ≠ [] /\ ∀ j ∈ Region.ready .any ops ag,stOp P ops w j (nX P ops w L n (ag.setIfInBounds j true)) a
theorem nX.any{w : World}{L : Array Bool → Act → Prop}{Q' : Exit → Act → World → Prop}{k : Nat}(hL : ∀ ag a, L ag a → wpAny P .any ops Q' k ag a w) :
  ∀ (n:Nat) (ag:Array Bool) (a:Act),nX P ops w L n ag a -> wpAny P .any ops Q' (n + k) ag a w
 | 0,ag,a,h=>by rw [Nat.zero_add]; exact hL _ _ h
 | n + 1,ag,a,h=>by
  rw [Nat.add_right_comm]
  exact ⟨fun e=>absurd e h.1,fun j hj=>wpOp_of_stOp (fun a'=>nX.any hL n _ a') (h.2 j hj)⟩
theorem nX.first{l0 rest : List Nat}{t : Nat}{w : World}{L : Array Bool → Act → Prop}{i : Nat}{oi : Oper}{v : Value}(hi : ops[i]? = some oi)(Ej : Region.noSelect ops = true) : ∀ (n : Nat) (l : List Nat) (ag : Array Bool) (a : Act),
  l.length = n -> On ops l0 rest t (i :: l) ag -> (∀ j oj,ops[j]? = some oj -> j ≠ i -> ag.getD j true = false -> (∀ e ∈ oj.after,Region.binds .any e = true -> e.on ≠ i) -> oi.apart ops oj = true) ->
  i ∈ Region.ready .any ops ag -> YieldsAt P ops w oi v a -> nX P ops w L n (ag.setIfInBounds i true) (a.put oi.dst v) -> nX P ops w L (n + 1) ag a:=by
 intro n
 induction n with
 | zero =>
  intro l ag a hl hB _ hr hy H
  refine ⟨fun e=>(by rw [e] at hr; cases hr),fun j hj=>?_⟩
  have h1:=hB.ready (by simp) j hj
  have Xr:l = []:=List.length_eq_zero_iff.1 hl
  subst Xr
  obtain rfl:j = i:=by simpa using h1
  exact hy.stOp hi H
 | succ n ih =>
  intro l ag a hl hB mP hr hy H
  refine ⟨fun e=>(by rw [e] at hr; cases hr),fun j hj=>?_⟩
  by_cases yM:j = i
  ·subst yM; exact hy.stOp hi H
  ·have h1:=hB.ready (by simp) j hj
   have h2:=hB.step hj h1
   have oy:j ∈ l:=by simpa [yM] using h1
   have fN:(i == j) = false:=by simpa using fun h=>yM h.symm
   rw [List.erase_cons,fN] at h2
   obtain ⟨AZ,oj,Dx,vp⟩:=mem_ready.1 hj
   have Hl:∀ e ∈ oj.after,Region.binds .any e = true -> e.on ≠ i:=by
    intro e he hb heq
    have h3:=vp e he hb
    have h4:=(mem_ready.1 hr).1
    rw [heq] at h3
    rcases Nat.lt_or_ge i ag.size with h' | h'
    ·simp [h'] at h3 h4; rw [h3] at h4; cases h4
    ·simp [Array.getElem?_eq_none h'] at h3
   have h5:=stOp_put Dx (mP j oj Dx yM AZ Hl) (fun cs b=>Region.noSelect_spec Ej i oi cs b hi) (fun cs b=>Region.noSelect_spec Ej j oj cs b Dx) hy (H.2 j (ready_mono hj yM))
   refine stOp_mono (fun a' h6=>ih (l.erase j) _ a' (by rw [List.length_erase_of_mem oy,hl]; rfl) h2 ?_ (ready_mono hr (fun h=>yM h.symm)) h6.1 ?_) h5
   ·intro k ok hk vj NA Nt
    refine mP k ok hk vj ?_ Nt
    by_cases vB:j = k
    ·subst vB; exact AZ
    ·have:(ag.setIfInBounds j true).getD k true = ag.getD k true:=by
      simp only [Array.getD_eq_getD_getElem?,Array.getElem?_setIfInBounds_ne vB]
     rw [this] at NA; exact NA
   ·have:(ag.setIfInBounds j true).setIfInBounds i true = (ag.setIfInBounds i true).setIfInBounds j true:=Array.setIfInBounds_comm _ _ yM
    rw [this]; exact h6.2
def AQ(P:Program)(N:fA)(ops:Array Oper)(l0 rest:List Nat)(t:Nat)(l:List Nat)(ag:Array Bool)(st:St)(K:Array Bool -> St -> Prop):Prop :=
 On ops l0 rest t l ag -> ∀ G:Ctx,G.fn = N -> ∀ a w,cI G st a w -> nX P ops w (fun tt a'=>∃ ba,K tt ba /\ cI G ba a' w) l.length ag a
theorem AQ.nil{l0 rest:List Nat}{t:Nat}{ag:Array Bool}{st:St}{K:Array Bool -> St -> Prop}(h:K ag st):AQ P N ops l0 rest t [] ag st K:=fun _ _ _ _ _ hh=>⟨st,h,hh⟩
theorem AQ.cons{l0 rest : List Nat}{t i : Nat}{l : List Nat}{ag : Array Bool}{st : St}{K : Array Bool → St → Prop}{op : Op}{x : X}(ho : ops[i]? = some ⟨some d, op, ty, pos, af, none⟩)
  (hB:(Region.noSelect ops && Region.free .any ops ag i && (Region.ready .any ops ag).contains i) = true) (hy:Yields P N st ⟨some d,op,ty,pos,af,none⟩ x) (hd:d < N.n)
  (k:AQ P N ops l0 rest t l (ag.setIfInBounds i true) (st.put d x) K):AQ P N ops l0 rest t (i :: l) ag st K:=by
 intro h4 G hn a w hh
 obtain ⟨E,RR,rfl,hi⟩:=hh
 obtain ⟨u,hr,hx⟩:=hy G E RR a hn hi
 simp only [Bool.and_eq_true] at hB
 obtain ⟨⟨h1,h2⟩,h3⟩:=hB
 have h5:=h4.step (j:=i) (by simpa using h3) (by simp)
 rw [List.erase_cons_head] at h5
 exact nX.first ho h1 l.length l ag a rfl h4 (Region.free_spec ho h2) (by simpa using h3) (v:=u) (.inl ⟨by simp [Region.wanted],.inl hr⟩) (k h5 G hn _ _ ⟨E,_,rfl,hi.iK (hn ▸ hd) hx⟩)
theorem AQ.skip{l0 rest : List Nat}{t i : Nat}{l : List Nat}{ag : Array Bool}{st : St}{K : Array Bool → St → Prop}{op : Op}{j dj : Nat}{want : Bool}{u : Value}(ho : ops[i]? = some ⟨some d, op, ty, pos, af, some (j, want)⟩)
  (hB:(Region.noSelect ops && Region.free .any ops ag i && (Region.ready .any ops ag).contains i) = true)
  (hj:(ops[j]?).bind (·.dst) = some dj) (vt:dj < N.n) (hd:d < N.n) (hx:look st.aF dj = some (.v u)) (fN:tX want u = true)
  (k:AQ P N ops l0 rest t l (ag.setIfInBounds i true) (st.put d (.v undef)) K):AQ P N ops l0 rest t (i :: l) ag st K:=by
 intro h4 G hn a w hh
 obtain ⟨E,RR,rfl,hi⟩:=hh
 simp only [Bool.and_eq_true] at hB
 obtain ⟨⟨h1,h2⟩,h3⟩:=hB
 have h5:=h4.step (j:=i) (by simpa using h3) (by simp)
 rw [List.erase_cons_head] at h5
 have hw:=mR (all:=ops) (dst:=some d) (op:=op) (ty:=ty) (pos:=pos) (af:=af) hi hj (hn ▸ vt) hx fN
 exact nX.first ho h1 l.length l ag a rfl h4 (Region.free_spec ho h2) (by simpa using h3) (v:=undef) (.inr ⟨hw,rfl⟩) (k h5 G hn _ _ ⟨E,_,rfl,hi.iK (hn ▸ hd) (by simp [RX])⟩)
theorem AQ.run{l0 rest : List Nat}{t i : Nat}{l : List Nat}{ag : Array Bool}{st : St}{K : Array Bool → St → Prop}{op : Op}{x : X}{j dj : Nat}{want : Bool}(ho : ops[i]? = some ⟨some d, op, ty, pos, af, some (j, want)⟩)
  (hB:(Region.noSelect ops && Region.free .any ops ag i && (Region.ready .any ops ag).contains i) = true)
  (hj:(ops[j]?).bind (·.dst) = some dj) (vt:dj < N.n) (hx:look st.aF dj = some (.v (.bool want))) (hy:Yields P N st ⟨some d,op,ty,pos,af,some (j,want)⟩ x) (hd:d < N.n)
  (k:AQ P N ops l0 rest t l (ag.setIfInBounds i true) (st.put d x) K):AQ P N ops l0 rest t (i :: l) ag st K:=by
 intro h4 G hn a w hh
 obtain ⟨E,RR,rfl,hi⟩:=hh
 obtain ⟨u,hr,j2⟩:=hy G E RR a hn hi
 simp only [Bool.and_eq_true] at hB
 obtain ⟨⟨h1,h2⟩,h3⟩:=hB
 have h5:=h4.step (j:=i) (by simpa using h3) (by simp)
 rw [List.erase_cons_head] at h5
 have hs:=hi.aF dj _ hx
 simp only [RX] at hs
 have fP:dj < a.tmps.size:=by rw [hi.tmps,hn]; exact vt
 have hv:a.tmps[dj]? = some (.bool want):=by
  have:=hs.1
  simp only [Array.getD,fP,dif_pos] at this
  rw [Array.getElem?_eq_getElem fP]
  exact congrArg some this
 have hw:Region.wanted ⟨some d,op,ty,pos,af,some (j,want)⟩ (yielded ops a.tmps) = true:=by
  simp [Region.wanted,yielded,hj,hv]
 exact nX.first ho h1 l.length l ag a rfl h4 (Region.free_spec ho h2) (by simpa using h3) (v:=u) (.inl ⟨hw,.inl hr⟩) (k h5 G hn _ _ ⟨E,_,rfl,hi.iK (hn ▸ hd) j2⟩)
theorem fB.br(l rest : List Nat)(t : Nat){m n : Nat}(hm : m = l.length + n){ag : Array Bool}{st : St}{K : St → Prop}(hB : JY ops l rest t ag = true)
  (h:AQ P N ops l rest t l ag st (fun tt ba=>fB P N ops n tt ba K)):fB P N ops m ag st K:=by
 subst hm
 intro G hn a w hh
 refine nX.any (fun tt a' ⟨ba,hk,iI⟩=>?_) l.length ag a (h (Hk hB) G hn a w hh)
 exact hk G hn a' w iI
end
end Go.AW
namespace Go.AW
open Go
section
variable {P:Program} {N:fA} {st:St} {Q:Exit -> St -> Prop} {all:Array Oper} {rest:List Oper} {d:Nat} {ty:TypeId} {pos:String} {af:Array Edge}
theorem Inv.oE{G : Ctx}{E : Env}{RR : Own → List Nat}{a : Act}(hi : Inv G E RR st a){tv : Nat}{x : X}(hy : look st.aF tv = some x)(hd : d < G.fn.n) :
  ∃ gG,Inv G E gG ((st.put tv .no).put d x) (a.put (some d) (a.eval (.tmp tv))):=by
 have hv:=hi.aF tv _ hy
 have mN:=hi.no tv
 refine ⟨_,mN.put (R:=RR (.slot tv)) hd hv (hi.nodup _) (fun b hb=>⟨(hi.own _ _ hb).1,(hi.own _ _ hb).2,fun p _ hp=>?_⟩)⟩
 unfold gg at hp
 split at hp
 ·cases hp
 ·rename_i h; exact hi.apart _ _ h b hp hb
theorem aU.bX{tv : Nat}{x : X}(hy : look st.aF tv = some x)(hd : d < N.n)(k : aU P N all rest ((st.put tv .no).put d x) Q) :
  aU P N all (⟨some d,.assign (.tmp tv),ty,pos,af,none⟩ :: rest) st Q :=
 aU.DM (fun G E RR a hn hi=>let ⟨gG,h⟩:=hi.oE hy (by rw [hn]; exact hd); ⟨a.eval (.tmp tv),E,gG,rfl,h⟩) k
theorem aU.oE{tv : Nat}{x : X}(hy : look st.aF tv = some x)(hd : d < N.n)(k : aU P N all rest ((st.put tv .no).put d x) Q) :
  aU P N all (⟨some d,.move (.tmp tv),ty,pos,af,none⟩ :: rest) st Q :=
 aU.DM (fun G E RR a hn hi=>let ⟨gG,h⟩:=hi.oE hy (by rw [hn]; exact hd); ⟨a.eval (.tmp tv),E,gG,rfl,h⟩) k
theorem eT.Bl{E : Env} : ∀ {xs : List X} {cs : List Value} {R : List Nat} {k : Nat} {x : X}, eT E xs cs R → xs[k]? = some x →
  ∃ u Ra Rk Rb,cs[k]? = some u /\ RX E x u Rk /\ R = Ra ++ (Rk ++ Rb) /\ eT E (xs.set k .no) cs (Ra ++ Rb)
 | [],_,_,_,_,_,h=>by simp at h
 | y :: r,cs,R,0,x,h,hx=>by
  simp only [eT] at h
  simp only [List.getElem?_cons_zero,Option.some.injEq] at hx
  subst hx
  obtain ⟨c,dv,R₁,R₂,rfl,h1,h2,rfl⟩:=h
  refine ⟨c,[],R₁,R₂,rfl,h1,rfl,?_⟩
  simp only [List.set_cons_zero,eT,List.nil_append]
  exact ⟨c,dv,[],R₂,rfl,by simp [RX],h2,rfl⟩
 | y :: r,cs,R,k + 1,x,h,hx=>by
  simp only [eT] at h
  obtain ⟨c,dv,R₁,R₂,rfl,h1,h2,rfl⟩:=h
  obtain ⟨u,Ra,Rk,Rb,hu,h3,rfl,h4⟩:=eT.Bl (k:=k) h2 (by simpa using hx)
  refine ⟨u,R₁ ++ Ra,Rk,Rb,by simpa using hu,h3,by simp,?_⟩
  simp only [List.set_cons_succ,eT]
  exact ⟨c,dv,R₁,Ra ++ Rb,rfl,h1,h4,by simp⟩
theorem aU.iO{tv : Nat}{xs : List X}{y : X}{k : Nat}(hx : look st.aF tv = some (.tup xs))(hy : xs[k]? = some y)(hd : d < N.n)
  (kk:aU P N all rest ((st.put tv (.tup (xs.set k .no))).put d y) Q):aU P N all (⟨some d,.extract (.tmp tv) k,ty,pos,af,none⟩ :: rest) st Q:=by
 refine aU.DM (fun G E RR a hn hi=>?_) kk
 have hp:=hi.aF tv _ hx
 have jR:=hi.nodup (.slot tv)
 simp only [RX] at hp
 obtain ⟨cs,hc,gQ⟩:=hp
 obtain ⟨u,Ra,Rk,Rb,hu,h1,hR,h2⟩:=eT.Bl gQ hy
 have dS:∀ b ∈ Ra ++ Rb,b ∈ RR (.slot tv):=by
  intro b hb
  rw [hR]
  rcases List.mem_append.1 hb with h | h
  ·exact cT h
  ·exact cD (cD h)
 have Ek:∀ b ∈ Rk,b ∈ RR (.slot tv):=fun b hb=>by rw [hR]; exact cD (cT hb)
 rw [hR,List.nodup_append,List.nodup_append] at jR
 obtain ⟨Vt,⟨Q5,JU,RS⟩,JI⟩:=jR
 have NB:(Ra ++ Rb).Nodup:=List.nodup_append.2 ⟨Vt,JU,fun x hx y hy=>JI x hx y (cD hy)⟩
 have mN := hi.relabel (d := tv) (x := .tup (xs.set k .no)) (R := Ra ++ Rb) (by simp only [RX]; exact ⟨cs, hc, h2⟩) NB
  (fun b hb=>⟨(hi.own _ _ (dS b hb)).1,(hi.own _ _ (dS b hb)).2,fun p hp Cs=>hi.apart p (.slot tv) hp b Cs (dS b hb)⟩)
 refine ⟨u,E,_,?_,mN.put (R:=Rk) (by rw [hn]; exact hd) h1 Q5 (fun b hb=>⟨(hi.own _ _ (Ek b hb)).1,(hi.own _ _ (Ek b hb)).2,fun p _ Cs=>?_⟩)⟩
 ·show (do let z <- Instr.extract (a.eval (.tmp tv)) k; pure (Next.value z):Sem Next).run P E.w = _
  have qY:a.eval (.tmp tv) = .tuple cs:=hc
  rw [qY]
  refine ek ?_
  have DI:cs[k]? = some u:=by simpa using hu
  simp only [Instr.extract,DI]; rfl
 ·unfold gg at Cs
  split at Cs
  ·rcases List.mem_append.1 Cs with h | h
   ·exact JI b h b (cT hb) rfl
   ·exact RS b hb b h rfl
  ·rename_i h; exact hi.apart _ _ h b Cs (Ek b hb)
end
end Go.AW
namespace Go.AW
open Go
section
variable {P:Program} {N:fA} {st:St} {Q:Exit -> St -> Prop} {all:Array Oper} {rest:List Oper} {d:Nat} {ty:TypeId} {pos:String} {af:Array Edge}
theorem aU.El{f : FuncId}{cF : Array Operand}{pQ : Array TypeId}{xs args : List X}{Q' : X → List Obj → Prop}(L : List Nat)(pI : aP P f = true)(gR : aw P f args [] [] Q')
  (gQ:lB st cF.toList = some xs) (fi:er st L (bW []) xs args) (h0:∀ o ∈ L,∃ ob,look st.aG o = some ob /\ jS ob) (hd:d < N.n)
  (k:∀ r,Q' r [] -> r.lt 0 = true /\ r.plain /\ aU P N all rest (st.put d (r.g9 (bW []))) Q) :
  aU P N all (⟨some d,.call ⟨.value (.func f),cF,pQ⟩,ty,pos,af,none⟩ :: rest) st Q:=by
 refine aU.call [] L pI gR gQ fi (fun j ob h=>by simp at h) rfl List.nodup_nil (fun _ _ h=>by cases h) h0 (fun _ h=>by cases h) hd ?_
 intro r aK hq hl
 have:aK = []:=List.eq_nil_of_length_eq_zero hl
 subst this
 obtain ⟨h1,h2,h3⟩:=k r hq
 refine ⟨⟨h1,fun _ h=>(by cases h),.inr ⟨h2,fun _ h=>(by cases h)⟩⟩,?_⟩
 rw [n7]; exact h3
end
end Go.AW
namespace Go.AW
open Go
mutual
def X.qV(o : Nat)(row : List X) : X → X
 | .ptr p s i k=>bif Nat.beq p o && Nat.beq (i * s) 0 then .fp row k else .ptr p s i k
 | .agg xs=>.agg (X.n9 o row xs)
 | .tup xs=>.tup (X.n9 o row xs)
 | .jQ f a b=>.jQ f (X.n9 o row a) (X.n9 o row b)
 | .v u=>.v u
 | .no=>.no
 | .fz s rs=>.fz s rs
 | .dK s rs=>.dK s rs
 | .aN p s l n=>.aN p s l n
 | .mref p=>.mref p
 | .fp r k=>.fp r k
def X.n9(o : Nat)(row : List X) : List X → List X
 | []=>[]
 | x :: r=>X.qV o row x :: X.n9 o row r
end
def Obj.qV(o : Nat)(row : List X) : Obj → Obj
 | .cells xs=>.cells (X.n9 o row xs)
 | .hole rs i q s n=>.rows 1 rs
 | ob=>ob
mutual
theorem X.Em{o : Nat}{row : List X} : ∀ {x : X}, x.free = true → (x.qV o row).free = true
 | .ptr p s i k,_=>by
  simp only [X.qV]
  cases Nat.beq p o && Nat.beq (i * s) 0 <;> rfl
 | .agg xs,h=>X.nA (xs:=xs) h
 | .tup xs,h=>X.nA (xs:=xs) h
 | .jQ f a b,_=>rfl
 | .v u,_ | .no,_ | .fz s rs,_ | .aN p s l n,_ | .mref p,_ | .fp r k,_=>rfl
theorem X.nA{o : Nat}{row : List X} : ∀ {xs : List X}, X.b6 xs = true → X.b6 (X.n9 o row xs) = true
 | [],_=>rfl
 | x :: r,h=>by
  simp only [X.b6,Bool.and_eq_true] at h
  simp only [X.n9,X.b6,X.Em h.1,X.nA h.2,Bool.and_self]
end
theorem X.xB{o : Nat}{row : List X} : ∀ {xs : List X}, (X.n9 o row xs).length = xs.length
 | []=>rfl
 | x :: r=>by simp [X.n9,X.xB (xs:=r)]
mutual
theorem RX.qV{E E' : Env}{o : Nat}{row : List X}{B : AX}(hB : E.β o = some B)(hF : RF E' row B.b B.off)(hβ : E'.β = E.β) : ∀ (x : X) (c : Value) (R : List Nat), E.On E' R → RX E x c R → RX E' (x.qV o row) c R
 | .ptr p s i k,c,R,hE,h=>by
  simp only [X.qV]
  cases hc:Nat.beq p o && Nat.beq (i * s) 0 with
  | false=>simp only [cond_false]; exact RX.mono _ c R hE (fun q _=>by rw [hβ]) h
  | true =>
   simp only [Bool.and_eq_true] at hc
   have h1:=Nat.eq_of_beq_eq_true hc.1
   have h2:=Nat.eq_of_beq_eq_true hc.2
   subst h1
   simp only [cond_true,RX] at h ⊢
   obtain ⟨hR,B',iL,rfl⟩:=h
   rw [hB] at iL
   obtain rfl:=Option.some.inj iL
   exact ⟨hR,B.b,B.off,by rw [h2,Nat.zero_add],hF⟩
 | .agg xs,c,R,hE,h=>by
  simp only [RX,X.qV] at h ⊢
  obtain ⟨cs,hc,hs⟩:=h
  exact ⟨cs,hc,bA.qV hB hF hβ xs _ R hE hs⟩
 | .tup xs,c,R,hE,h=>by
  simp only [RX,X.qV] at h ⊢
  obtain ⟨cs,hc,hs⟩:=h
  exact ⟨cs,hc,eT.qV hB hF hβ xs _ R hE hs⟩
 | .jQ fn a b,c,R,hE,h=>by
  simp only [RX,X.qV] at h ⊢
  obtain ⟨hR,f,cc,hc,h1,h2⟩:=h
  exact ⟨hR,f,cc,hc,eT.qV hB hF hβ a _ [] (hE.sub (by simp)) h1,eT.qV hB hF hβ b _ [] (hE.sub (by simp)) h2⟩
 | .v u,c,R,hE,h=>RX.mono (.v u) c R hE (fun q _=>by rw [hβ]) h
 | .no,c,R,hE,h=>RX.mono .no c R hE (fun q _=>by rw [hβ]) h
 | .fz s rs,c,R,hE,h=>RX.mono (.fz s rs) c R hE (fun q _=>by rw [hβ]) h
 | .dK s rs,c,R,hE,h=>RX.mono (.dK s rs) c R hE (fun q _=>by rw [hβ]) h
 | .aN p s l n,c,R,hE,h=>RX.mono (.aN p s l n) c R hE (fun q _=>by rw [hβ]) h
 | .mref p,c,R,hE,h=>RX.mono (.mref p) c R hE (fun q _=>by rw [hβ]) h
 | .fp r k,c,R,hE,h=>RX.mono (.fp r k) c R hE (fun q _=>by rw [hβ]) h
theorem bA.qV{E E' : Env}{o : Nat}{row : List X}{B : AX}(hB : E.β o = some B)(hF : RF E' row B.b B.off)(hβ : E'.β = E.β) : ∀ (xs : List X) (cs : List Value) (R : List Nat), E.On E' R → bA E xs cs R → bA E' (X.n9 o row xs) cs R
 | [],_,_,_,h=>by simpa [bA,X.n9] using h
 | x :: r,cs,R,hE,h=>by
  simp only [bA,X.n9] at h ⊢
  obtain ⟨c,dv,R₁,R₂,hc,hs,h1,h2,hR⟩:=h
  subst hR
  exact ⟨c,dv,R₁,R₂,hc,hs,RX.qV hB hF hβ x c R₁ (hE.sub (fun _ h=>cT h)) h1,bA.qV hB hF hβ r dv R₂ (hE.sub (fun _ h=>cD h)) h2,rfl⟩
theorem eT.qV{E E' : Env}{o : Nat}{row : List X}{B : AX}(hB : E.β o = some B)(hF : RF E' row B.b B.off)(hβ : E'.β = E.β) : ∀ (xs : List X) (cs : List Value) (R : List Nat), E.On E' R → eT E xs cs R → eT E' (X.n9 o row xs) cs R
 | [],_,_,_,h=>by simpa [eT,X.n9] using h
 | x :: r,cs,R,hE,h=>by
  simp only [eT,X.n9] at h ⊢
  obtain ⟨c,dv,R₁,R₂,hc,h1,h2,hR⟩:=h
  subst hR
  exact ⟨c,dv,R₁,R₂,hc,RX.qV hB hF hβ x c R₁ (hE.sub (fun _ h=>cT h)) h1,eT.qV hB hF hβ r dv R₂ (hE.sub (fun _ h=>cD h)) h2,rfl⟩
theorem RO.qV{E E' : Env}{o : Nat}{row : List X}{B : AX}(hB : E.β o = some B)(hF : RF E' row B.b B.off)(hβ : E'.β = E.β) : ∀ (xs : List X) (cs : Array Value) (off : Nat) (R : List Nat), E.On E' R → RO E xs cs off R → RO E' (X.n9 o row xs) cs off R
 | [],_,_,_,_,h=>by simpa [RO,X.n9] using h
 | x :: r,cs,off,R,hE,h=>by
  simp only [RO,X.n9] at h ⊢
  obtain ⟨u,R₁,R₂,hu,hs,h1,h2,hR⟩:=h
  subst hR
  exact ⟨u,R₁,R₂,hu,hs,RX.qV hB hF hβ x u R₁ (hE.sub (fun _ h=>cT h)) h1,RO.qV hB hF hβ r cs (off + 1) R₂ (hE.sub (fun _ h=>cD h)) h2,rfl⟩
end
def RT(o:Nat)(row:List X)(l:List (Nat × X)):List (Nat × X):=l.map fun p=>(p.1,p.2.qV o row)
def RU(o:Nat)(row:List X)(l:List (Nat × Obj)):List (Nat × Obj):=l.map fun p=>(p.1,p.2.qV o row)
theorem sb{α β : Type}{f : α → β} : ∀ {l : List (Nat × α)} {s : Nat} {y : β}, look (l.map fun p => (p.1, f p.2)) s = some y → ∃ x, look l s = some x ∧ y = f x
 | [],_,_,h=>by cases h
 | (t,x) :: r,s,y,h=>by
  simp only [List.map_cons,look] at h ⊢
  cases hb:Nat.beq t s with
  | true=>rw [hb] at h; simp only [cond_true,Option.some.injEq] at h ⊢; exact ⟨x,rfl,h.symm⟩
  | false=>rw [hb] at h; simp only [cond_false] at h ⊢; exact sb h
section
variable {N:fA} {st:St}
theorem Sh.iY(o:Nat){xs:List X}(ho:look st.aG o = some (.cells xs))(hn:X.iH xs = true):Sh N st ⟨RT o xs st.aF,(o,.gone) :: RU o xs st.aG⟩:=by
 intro G _ a w hh
 obtain ⟨E,RR,rfl,hi⟩:=hh
 have aZ:=hi.aG o _ ho
 simp only [dR] at aZ
 obtain ⟨tp,B,cs,ty,hB,hw,hφ,hlen,jX,jd⟩:=aZ
 have j4:∀ i v,cs[i]? = some v -> (E.cE (fun b=>b = B.b)).φ B.b i = some v:=by
  intro i v h
  rw [lk E (LB:=fun b=>b = B.b) rfl]
  unfold World.cell?
  simp [hw,h]
 have hle:∀ c i v,E.φ c i = some v -> (E.cE (fun b=>b = B.b)).φ c i = some v:=by
  intro c i v h
  by_cases hc:c = B.b
  ·subst hc; rw [hφ i] at h; cases h
  ·rw [fT E (LB:=fun b=>b = B.b) hc]; exact h
 have hF:RF (E.cE (fun b=>b = B.b)) xs B.b B.off:=by
  have h1:=RO.n8 (E:=E) (E':=E.cE (fun b=>b = B.b)) xs cs B.b B.off [] j4 ⟨rfl,rfl,hle,fun _ h=>by cases h⟩ hn jX
  rw [X.lD tp] at h1
  exact h1
 have mz:∀ p,p ≠ .obj o -> B.b ∉ RR p:=fun p hp hb=>hi.apart p (.obj o) hp _ hb (by rw [jd]; simp)
 have iA:∀ p,p ≠ .obj o -> E.On (E.cE (fun b=>b = B.b)) (RR p):=by
  intro p hp
  refine ⟨hle,fun c hc=>⟨rfl,fun h i=>?_⟩⟩
  rw [fT E (LB:=fun b=>b = B.b) (fun e=>mz p hp (e ▸ hc))]; exact h i
 have pG:B.b ∈ RR (.obj o):=by rw [jd]; simp
 have pT:∀ p,p ≠ .obj o -> gg RR (.obj o) [] p = RR p:=fun p hp=>by simp [gg,hp]
 have dS:∀ p,∀ b ∈ gg RR (.obj o) [] p,b ∈ RR p:=by
  intro p b hb
  unfold gg at hb
  split at hb
  ·cases hb
  ·exact hb
 refine ⟨E.cE (fun b=>b = B.b),gg RR (.obj o) [],rfl,{ hi with ox:=?_,aF:=?_,aG:=?_,nodup:=?_,apart:=?_,own:=?_,φ0:=?_,grow:=?_ }⟩
 ·intro c i v h
  by_cases hc:c = B.b
  ·rw [lk E (LB:=fun b=>b = B.b) hc] at h; exact h
  ·rw [fT E (LB:=fun b=>b = B.b) hc] at h; exact hi.ox c i v h
 ·intro s x hx
  obtain ⟨y,hy,rfl⟩:=sb (f:=X.qV o xs) hx
  rw [pT _ (by simp)]
  exact RX.qV hB hF rfl y _ _ (iA _ (by simp)) (hi.aF s y hy)
 ·intro q ob aZ
  simp only [look] at aZ
  cases hq:Nat.beq o q with
  | true =>
   rw [hq] at aZ
   simp only [cond_true,Option.some.injEq] at aZ
   obtain rfl:=Nat.eq_of_beq_eq_true hq
   subst aZ
   simp [dR,gg]
  | false =>
   rw [hq] at aZ
   simp only [cond_false] at aZ
   have fN:q ≠ o:=fun e=>by subst e; simp at hq
   obtain ⟨yJ,Hg,rfl⟩:=sb (f:=Obj.qV o xs) aZ
   rw [pT _ (by simp [fN])]
   have h1:=hi.aG q yJ Hg
   have sa:=iA (.obj q) (by simp [fN])
   cases yJ with
   | cells ys =>
    simp only [dR,Obj.qV] at h1 ⊢
    obtain ⟨h1,B',dv,Q6,h2,h3,h4,h5,h6,h7⟩:=h1
    exact ⟨X.nA h1,B',dv,Q6,h2,h3,(sa.2 B'.b (by rw [h7]; simp)).2 h4,by rw [X.xB]; exact h5,RO.qV hB hF rfl ys dv _ [] (sa.sub (fun _ h=>by cases h)) h6,h7⟩
   | rows s rs=>exact dR.mono sa rfl (fun _ _=>rfl) h1
   | yH es=>exact dR.mono sa rfl (fun _ _=>rfl) h1
   | gone=>exact dR.mono sa rfl (fun _ _=>rfl) h1
   | hole rs i p s n=>exact dR.mono sa rfl (fun _ _=>rfl) h1.w4
 ·intro p
  unfold gg
  split
  ·exact List.nodup_nil
  ·exact hi.nodup p
 ·intro p q ny b hb iy
  exact hi.apart p q ny b (dS p b hb) (dS q b iy)
 ·intro p b hb
  exact hi.own p b (dS p b hb)
 ·intro c i v h
  exact hle c i v (hi.φ0 c i v h)
 ·intro c i v h
  by_cases hc:c = B.b
  ·subst hc; exact .inr (hi.own _ _ pG).2
  ·rw [fT E (LB:=fun b=>b = B.b) hc] at h; exact hi.grow c i v h
end
section
variable {P:Program} {N:fA} {st:St} {Q:Exit -> St -> Prop} {all:Array Oper} {rest:List Oper} {dst:Option Nat} {d:Nat} {ty:TypeId} {pos:String} {af:Array Edge} {g:Option (Nat × Bool)}
theorem ud{G : Ctx}{E : Env}{RR : Own → List Nat}{a : Act}(hi : Inv G E RR st a) : ∀ {l : List Operand} {xs : List X}, lB st l = some xs → X.b6 xs = true → eT E xs (l.map a.eval) []
 | [],xs,h,_=>by simp only [lB,Option.some.injEq] at h; subst h; simp [eT]
 | o :: r,xs,h,hf=>by
  simp only [lB] at h
  cases h1:bV st o with
  | none=>simp [h1] at h
  | some y =>
   cases h2:lB st r with
   | none=>simp [h1,h2] at h
   | some ys =>
    rw [h1,h2] at h
    simp only [Option.some.injEq] at h
    subst h
    simp only [X.b6,Bool.and_eq_true] at hf
    obtain ⟨R,hR⟩:=hi.eval h1
    have h0:=RX.free hf.1 hR
    subst h0
    simp only [List.map_cons,eT]
    exact ⟨_,_,[],[],rfl,hR,ud hi h2 hf.2,rfl⟩
theorem Y.zc{fn : Fn}{first rV : Array Operand}{xs ys : List X}(hx : lB st first.toList = some xs)(hy : lB st rV.toList = some ys)(LV : X.b6 xs = true)(Xs : X.b6 ys = true) :
  Yields P N st ⟨dst,.makeFunc fn first rV,ty,pos,af,g⟩ (.jQ fn xs ys):=by
 intro G E RR a _ hi
 refine ⟨.func fn (first.map a.eval) (rV.map a.eval),rfl,?_⟩
 simp only [RX]
 refine ⟨trivial,_,_,rfl,?_,?_⟩
 ·rw [Array.toList_map]; exact ud hi hx LV
 ·rw [Array.toList_map]; exact ud hi hy Xs
theorem aU.JZ{f : FuncId}{x : Operand}{cF : Array Operand}{pQ : Array TypeId}{rV xs args : List X}{aG : List Obj}{F : List Nat}{Q' : X → List Obj → Prop}(ν L : List Nat)(hx : bV st x = some (.jQ (.func f) [] rV))(pI : aP P f = true)(gR : aw P f args aG F Q')
  (gQ:lB st cF.toList = some xs) (fi:er st L (bW ν) (xs ++ rV) args) (rj:qB st (bW ν) 0 aG) (hlen:ν.length = aG.length) (DX:ν.Nodup) (Hb:∀ o ∈ L,o ∉ ν)
  (h0:∀ o ∈ L,∃ ob,look st.aG o = some ob /\ jS ob) (Hc:∀ o ∈ loose ν F,N.F.elem o = false) (hd:d < N.n)
  (k:∀ r aK,Q' r aK -> aK.length = aG.length -> (r.lt aG.length = true /\ (∀ ob ∈ aK,ob.lt aG.length = true) /\ (L = [] \/ (r.plain /\ ∀ ob ∈ aK,ob.plain))) /\ aU P N all rest ((o8 st ν F aK).put d (r.g9 (bW ν))) Q) :
  aU P N all (⟨some d,.call ⟨.value x,cF,pQ⟩,ty,pos,af,none⟩ :: rest) st Q:=by
 intro G hn a w hh
 obtain ⟨E,RR,rfl,hi⟩:=hh
 obtain ⟨Rx,LV⟩:=hi.eval hx
 simp only [RX] at LV
 obtain ⟨_,ff,cc,Xt,Vu,Vv⟩:=LV
 simp only [eT] at Vu
 have RV:ff = #[]:=by
  have:=Vu.1
  cases ff; simp_all
 subst RV
 obtain ⟨yL,IN⟩:=rh hi gQ
 have vh:rV.length = cc.toList.length:=by
  have:∀ {l:List X} {c:List Value} {R:List Nat},eT E l c R -> l.length = c.length:=by
   intro l
   induction l with
   | nil=>intro c R h; simp only [eT] at h; rw [h.1]; rfl
   | cons y r ih =>
    intro c R h
    simp only [eT] at h
    obtain ⟨_,c',_,_,rfl,_,h2,_⟩:=h
    simp [ih h2]
  exact this Vv
 have hc:=hi.IM (vs:=cF.toList.map a.eval ++ cc.toList) gR (by simp only [List.length_append,List.length_map]; omega) (fun j y hy=>by
  rcases Nat.lt_or_ge j xs.length with hj | hj
  ·rw [List.getElem?_append_left hj] at hy
   obtain ⟨o,ho,R,hR⟩:=IN j y hy
   exact ⟨a.eval o,by rw [List.getElem?_append_left (by rw [List.length_map]; omega)]; simp [ho],R,hR⟩
  ·rw [List.getElem?_append_right hj] at hy
   obtain ⟨u,R,hu,hR⟩:=eT.get Vv hy
   exact ⟨u,by rw [List.getElem?_append_right (by rw [List.length_map]; omega),List.length_map,<- yL]; exact hu,R,hR⟩) fi
  (fun j ob h=>by have:=rj.get j ob h; rwa [Nat.zero_add] at this) hlen DX Hb h0 (fun o ho=>by rw [hn]; exact Hc o ho) (d:=d) (by rw [hn]; exact hd)
 have j6:(execOp a.eval ⟨some d,.call ⟨.value x,cF,pQ⟩,ty,pos,af,none⟩).run P E.w = .ok (.enter f (cF.toList.map a.eval ++ cc.toList).toArray) E.w:=by
  have e:(execOp a.eval ⟨some d,.call ⟨.value x,cF,pQ⟩,ty,pos,af,none⟩).run P E.w = (do let d <- Deferred.ofValue (a.eval x) (cF.map a.eval); invoke d.target d.args:Sem Next).run P E.w:=rfl
  rw [e,Xt]
  have e2:(do let d <- Deferred.ofValue (.func (.func f) #[] cc) (cF.map a.eval); invoke d.target d.args:Sem Next).run P E.w = (callFunc f ((#[] ++ cF.map a.eval) ++ cc)).run P E.w:=rfl
  rw [e2,tV pI]
  congr 2
  apply Array.ext'
  simp
 refine wpList_plain rfl fun K hK=>?_
 simp only [Oper.wp,j6,Oper.upon_enter]
 refine hc.mono ?_
 rintro e w' ⟨v,r,aK,rfl,Nq,xp,Ea⟩
 obtain ⟨⟨h1,h2,h3⟩,hk⟩:=k r aK Nq xp
 obtain ⟨ma,tT,hw,hI⟩:=Ea h1 h2 h3
 exact hK _ _ (hk G hn _ _ ⟨ma,tT,hw,hI⟩)
theorem aU.nC{f : FuncId}{x : Operand}{cF : Array Operand}{pQ : Array TypeId}{rV xs args : List X}{R : X}(hx : bV st x = some (.jQ (.func f) [] rV))(pI : aP P f = true)(gR : aw P f args [] [] (fun r o => r = R ∧ o = []))
  (gQ:lB st cF.toList = some xs) (fi:er st [] (bW []) (xs ++ rV) args) (hd:d < N.n) (gP:R.lt 0 = true)
  (k:aU P N all rest (st.put d R) Q):aU P N all (⟨some d,.call ⟨.value x,cF,pQ⟩,ty,pos,af,none⟩ :: rest) st Q:=by
 refine aU.JZ [] [] hx pI gR gQ fi trivial rfl List.nodup_nil (fun _ h=>by cases h) (fun _ h=>by cases h) (fun _ h=>by cases h) hd ?_
 rintro r aK ⟨rfl,rfl⟩ _
 refine ⟨⟨gP,fun _ h=>(by cases h),.inl rfl⟩,?_⟩
 rw [n7,X.tr gP]; exact k
end
section
variable {P:Program} {N:fA} {ops:Array Oper} {st:St} {d:Nat} {ag:Array Bool} {n:Nat} {K:St -> Prop} {KK:Array Bool -> St -> Prop} {l0 rest l:List Nat} {t:Nat}
theorem fB.le{ba:St}(hl:Le st ba)(h:fB P N ops n ag ba K):fB P N ops n ag st K:=fun G hn a w hh=>h G hn a w (hl.holds hh)
theorem fB.split{b:Bool}(hx:look st.aF d = some (.v (.bool b)))(ht:b = true -> fB P N ops n ag (st.put d (.v (.bool true))) K)(hf:b = false -> fB P N ops n ag (st.put d (.v (.bool false))) K):fB P N ops n ag st K:=by
 have:Le st (st.put d (.v (.bool b))):=⟨ie.cons hx (fun _ _ h=>h),fun _ _ h=>h⟩
 cases b
 ·exact (hf rfl).le this
 ·exact (ht rfl).le this
theorem fB.a8{p:Prop}{inst:Decidable p}(hx:look st.aF d = some (.v (.bool (decide p))))(ht:p -> fB P N ops n ag (st.put d (.v (.bool true))) K)(hf:¬ p -> fB P N ops n ag (st.put d (.v (.bool false))) K):fB P N ops n ag st K :=
 fB.split hx (fun h=>ht (of_decide_eq_true h)) (fun h=>hf (of_decide_eq_false h))
theorem AQ.le{ba:St}(hl:Le st ba)(h:AQ P N ops l0 rest t l ag ba KK):AQ P N ops l0 rest t l ag st KK:=fun ho G hn a w hh=>h ho G hn a w (hl.holds hh)
theorem AQ.split{b:Bool}(hx:look st.aF d = some (.v (.bool b)))(ht:b = true -> AQ P N ops l0 rest t l ag (st.put d (.v (.bool true))) KK)(hf:b = false -> AQ P N ops l0 rest t l ag (st.put d (.v (.bool false))) KK):AQ P N ops l0 rest t l ag st KK:=by
 have:Le st (st.put d (.v (.bool b))):=⟨ie.cons hx (fun _ _ h=>h),fun _ _ h=>h⟩
 cases b
 ·exact (hf rfl).le this
 ·exact (ht rfl).le this
theorem AQ.a8{p:Prop}{inst:Decidable p}(hx:look st.aF d = some (.v (.bool (decide p))))(ht:p -> AQ P N ops l0 rest t l ag (st.put d (.v (.bool true))) KK)(hf:¬ p -> AQ P N ops l0 rest t l ag (st.put d (.v (.bool false))) KK):AQ P N ops l0 rest t l ag st KK :=
 AQ.split hx (fun h=>ht (of_decide_eq_true h)) (fun h=>hf (of_decide_eq_false h))
end
def aL(b:ByteArray)(m:Nat):Nat:=(b.data.toList.getD m 0).toNat
theorem Y.qv{P : Program}{N : fA}{st : St}{dst : Option Nat}{ty : TypeId}{pos : String}{af : Array Edge}{g : Option (Nat × Bool)}{t : TypeId}{x ix : Operand}{b : ByteArray}{k : IntKind}{n : Int}{m : Nat}(ht : P.underlying t = some .string)(hx : bV st x = some (.v (.string b)))
  (z2:bV st ix = some (.v (.int k n))) (hn:n = (m:Int)) (hm:m < b.size):Yields P N st ⟨dst,.index t x ix,ty,pos,af,g⟩ (.v (.int .u8 ((aL b m:Nat):Int))):=by
 have h:=Y.qu (P:=P) (N:=N) (st:=st) (dst:=dst) (ty:=ty) (pos:=pos) (af:=af) (g:=g) ht hx z2 hn hm
 have e:b[m].toNat = aL b m:=by
  unfold aL
  have:b.data.toList.getD m 0 = b[m]:=by
   rw [List.getD_eq_getElem?_getD,List.getElem?_eq_getElem (by simpa using hm)]
   rfl
  rw [this]
 rw [e] at h
 exact h
theorem En(b:ByteArray)(m:Nat):aL b m <= 255:=by
 unfold aL
 have:=(b.data.toList.getD m 0).toNat_lt
 omega
end Go.AW
namespace Go.AW
open Go
theorem sc(n:Nat):IntKind.u64.wrap (n:Int) = ((n % 18446744073709551616:Nat):Int):=by
 simp [IntKind.wrap,IntKind.bits,IntKind.signed]
theorem xC(n:Nat)(h:n < 18446744073709551616):IntKind.u64.wrap (n:Int) = (n:Int):=by rw [sc,Nat.mod_eq_of_lt h]
theorem vH(n:Int)(h:0 <= n /\ n <= 18446744073709551615):IntKind.u64.wrap n = ((n.toNat:Nat):Int):=by rw [IntWalk.u64_in n h]; omega
theorem xD(n w:Nat):BitVec.ofInt w (n:Int) = BitVec.ofNat w n:=by
 apply BitVec.eq_of_toNat_eq
 simp [BitVec.toNat_ofInt,BitVec.toNat_ofNat]
section
variable {P:Program} {N:fA} {st:St} {dst:Option Nat} {ty:TypeId} {pos:String} {af:Array Edge} {g:Option (Nat × Bool)} {t t':TypeId} {x y:Operand} {a b:Nat}
theorem Y.qc(hx:bV st x = some (.v (.int .u64 (a:Int))))(hy:bV st y = some (.v (.int .u64 (b:Int)))):Yields P N st ⟨dst,.binOp .add t x y t',ty,pos,af,g⟩ (.v (.int .u64 (((a + b) % 18446744073709551616:Nat):Int))) :=
 Y.qa hx hy (by rw [<- sc]; congr 1)
theorem Y.zi(hx:bV st x = some (.v (.int .u64 (a:Int))))(hy:bV st y = some (.v (.int .u64 (b:Int)))):Yields P N st ⟨dst,.binOp .mul t x y t',ty,pos,af,g⟩ (.v (.int .u64 (((a * b) % 18446744073709551616:Nat):Int))) :=
 Y.zg hx hy (by rw [<- sc]; congr 1)
theorem Y.zp(hx:bV st x = some (.v (.int .u64 (a:Int))))(hy:bV st y = some (.v (.int .u64 (b:Int))))(hr:a < 18446744073709551616 /\ 1 <= b):Yields P N st ⟨dst,.binOp .quo t x y t',ty,pos,af,g⟩ (.v (.int .u64 ((a / b:Nat):Int))) :=
 Y.zn hx hy om (by
  rw [Int.tdiv_eq_ediv_of_nonneg om,<- Int.natCast_ediv]
  exact xC _ (Nat.lt_of_le_of_lt (Nat.div_le_self a b) hr.1))
theorem Y.zs{k:IntKind}(hx:bV st x = some (.v (.int k (a:Int))))(hy:bV st y = some (.v (.int k (b:Int))))(hr:1 <= b):Yields P N st ⟨dst,.binOp .rem t x y t',ty,pos,af,g⟩ (.v (.int k ((a % b:Nat):Int))) :=
 Y.zq hx hy om (by rw [Int.tmod_eq_emod_of_nonneg om]; exact (Int.natCast_emod a b).symm)
theorem Y.qe(hx:bV st x = some (.v (.int .u64 (a:Int))))(hy:bV st y = some (.v (.int .u64 (b:Int))))(hr:a < 18446744073709551616 /\ b < 18446744073709551616):Yields P N st ⟨dst,.binOp .and t x y t',ty,pos,af,g⟩ (.v (.int .u64 ((a &&& b:Nat):Int))) :=
 Y.qd hx hy (by
  rw [xD,xD,BitVec.toNat_and,BitVec.toNat_ofNat,BitVec.toNat_ofNat,show 2 ^ IntKind.u64.bits = 18446744073709551616 from rfl,Nat.mod_eq_of_lt hr.1,Nat.mod_eq_of_lt hr.2]
  exact xC _ (Nat.lt_of_le_of_lt Nat.and_le_left hr.1))
theorem Cz(a b:Nat)(h:a < 18446744073709551616):a / 2 ^ (min b 64) = a / 2 ^ b:=by
 rcases Nat.le_total b 64 with hb | hb
 ·rw [Nat.min_eq_left hb]
 ·rw [Nat.min_eq_right hb,Nat.div_eq_of_lt h]
  exact (Nat.div_eq_of_lt (Nat.lt_of_lt_of_le h (Nat.pow_le_pow_right (show 0 < 2 by decide) hb))).symm
theorem Y.zv{k':IntKind}{i:Int}(b:Nat)(hx:bV st x = some (.v (.int .u64 (a:Int))))(hy:bV st y = some (.v (.int k' i)))(hi:i = (b:Int))(hr:a < 18446744073709551616):Yields P N st ⟨dst,.binOp .shr t x y t',ty,pos,af,g⟩ (.v (.int .u64 ((a / 2 ^ b:Nat):Int))) :=
 Y.zu hx hy om (by
  subst hi
  show (a:Int).fdiv (2 ^ (Min.min b 64)) = _
  have h2:(0:Int) <= 2 ^ (Min.min b 64):=Int.le_of_lt (Int.pow_pos (show (0:Int) < 2 by decide))
  rw [<- Cz a b hr,Int.fdiv_eq_ediv_of_nonneg _ h2]
  norm_cast)
end
end Go.AW
namespace Go.AW
open Go
section
variable {P:Program} {N:fA} {ops:Array Oper} {st:St} {d:Nat} {ty:TypeId} {pos:String} {af:Array Edge} {K:St -> Prop}
theorem fB.bw{n : Nat}{ag : Array Bool}(i : Nat){op : Op}{j dj : Nat}{want : Bool}{u : Value}(ho : ops[i]? = some ⟨some d, op, ty, pos, af, some (j, want)⟩)
  (hB:(Region.noSelect ops && Region.free .any ops ag i && (Region.ready .any ops ag).contains i) = true)
  (hj:(ops[j]?).bind (·.dst) = some dj) (vt:dj < N.n) (hd:d < N.n) (hx:look st.aF dj = some (.v u)) (fN:tX want u = true)
  (k:fB P N ops n (ag.setIfInBounds i true) (st.put d (.v undef)) K):fB P N ops (n + 1) ag st K:=by
 intro G hn a w hh
 obtain ⟨E,RR,rfl,hi⟩:=hh
 simp only [Bool.and_eq_true] at hB
 have hw:=mR (all:=ops) (dst:=some d) (op:=op) (ty:=ty) (pos:=pos) (af:=af) hi hj (hn ▸ vt) hx fN
 refine wpAny_take (v:=undef) ho hB.1.1 hB.1.2 hB.2 ?_ (.inr ⟨hw,rfl⟩) (k G hn _ _ ⟨E,_,rfl,hi.iK (hn ▸ hd) (by simp [RX])⟩)
 intro c a w h
 cases h.1
theorem fB.gV{n : Nat}{ag : Array Bool}(i : Nat){op : Op}{x : X}{j dj : Nat}{want : Bool}(ho : ops[i]? = some ⟨some d, op, ty, pos, af, some (j, want)⟩)
  (hB:(Region.noSelect ops && Region.free .any ops ag i && (Region.ready .any ops ag).contains i) = true)
  (hj:(ops[j]?).bind (·.dst) = some dj) (vt:dj < N.n) (hx:look st.aF dj = some (.v (.bool want))) (hy:ax P N st ⟨some d,op,ty,pos,af,some (j,want)⟩ x) (hd:d < N.n)
  (k:fB P N ops n (ag.setIfInBounds i true) (st.put d x) K):fB P N ops (n + 1) ag st K:=by
 intro G hn a w hh
 obtain ⟨E,RR,rfl,hi⟩:=hh
 obtain ⟨u,hr,j2⟩:=hy G E RR a hn hi
 simp only [Bool.and_eq_true] at hB
 have hs:=hi.aF dj _ hx
 simp only [RX] at hs
 have fP:dj < a.tmps.size:=by rw [hi.tmps,hn]; exact vt
 have hv:a.tmps[dj]? = some (.bool want):=by
  have:=hs.1
  simp only [Array.getD,fP,dif_pos] at this
  rw [Array.getElem?_eq_getElem fP]
  exact congrArg some this
 have hw:Region.wanted ⟨some d,op,ty,pos,af,some (j,want)⟩ (yielded ops a.tmps) = true:=by
  simp [Region.wanted,yielded,hj,hv]
 refine wpAny_take (v:=u) ho hB.1.1 hB.1.2 hB.2 ?_ (.inl ⟨hw,hr⟩) (k G hn _ _ ⟨E,_,rfl,hi.iK (hn ▸ hd) j2⟩)
 intro c a w h
 cases h.1
end
end Go.AW
namespace Go.AW
open Go
section
variable {P:Program} {N:fA} {G:Ctx} {E:Env} {RR:Own -> List Nat} {st:St} {a:Act} {Q:Exit -> St -> Prop} {all:Array Oper} {rest:List Oper} {d:Nat} {dst:Option Nat} {ty:TypeId} {pos:String} {af:Array Edge} {g:Option (Nat × Bool)}
theorem Y.qi{t e s dO : Nat}{x : Operand}(ht : TY.slice P t = some (e, s, dO))(hx : bV st x = some (.v (.slice none 0 0))) :
  Yields P N st ⟨dst,.call ⟨.builtin .cap,#[x],#[t]⟩,ty,pos,af,g⟩ (.v (.int .i64 0)):=by
 intro G E RR a _ hi
 refine ⟨.int .i64 0,jn ?_,by simp [RX]⟩
 obtain ⟨hu,_⟩:=TY.dV ht
 have hc:=hi.val hx
 simp [builtin,Builtin.cap_,hc,run_underlying hu,goInt]
theorem Y.zx{t e s dO : Nat}{x : Operand}{lo iJ : Option Operand}(ht : TY.slice P t = some (e, s, dO))(hx : bV st x = some (.v (.slice none 0 0)))(hl : Bd st lo 0 0)(hh : Bd st iJ 0 0) :
  Yields P N st ⟨dst,.slice t x lo iJ none,ty,pos,af,g⟩ (.v (.slice none 0 0)):=by
 intro G E RR a _ hi
 obtain ⟨AZ,i,iM,fP,_⟩:=TY.dV ht
 have hc:=hi.val hx
 refine ⟨.slice none 0 0,?_,by simp [RX]⟩
 show (do let z <- Instr.sliceAt t (a.eval x) (lo.map a.eval) (iJ.map a.eval) none; pure (Next.value z):Sem Next).run P E.w = _
 rw [hc]
 refine ek ?_
 simp only [Instr.sliceAt,Sem.run_bind,run_underlying AZ,Result.andThen_ok,Instr.slice,iW hi hl hh (Nat.le_refl 0) (Nat.le_refl 0),run_sizeOf iM,fP]
 rfl
theorem aU.zM{t tn e s dO n : Nat}{x y : Operand}{z : List Value}{k kn : IntKind}(ht : TY.slice P t = some (e, s, dO))(hz : TY.zero P e = some z)(sI : z.length = s)(h1 : X.vo (z.map X.v) = true)(Vw : TY.isInt P tn = some kn)
  (hx:bV st x = some (.v (.slice none 0 0))) (hy:bV st y = some (.v (.int k (n:Int)))) (h0:0 < n) (Qz:0 < s) (hb:n * dO <= 281474976710656) (WZ:n <= 9223372036854775807) (hd:d < N.n)
  (kk:aU P N all rest (st.put d (.dK s (List.replicate n (z.map X.v)))) Q):aU P N all (⟨some d,.call ⟨.builtin .append,#[x,y],#[t,tn]⟩,ty,pos,af,none⟩ :: rest) st Q:=by
 refine aU.DM (fun G E RR a hn hi=>?_) kk
 obtain ⟨hu,i,iM,hs,IF⟩:=TY.dV ht
 obtain ⟨i',z0,qT,Dr,Ds⟩:=TY.gH hz
 rw [iM] at qT
 obtain rfl:=Option.some.inj qT
 have xu:z0.cells = z.toArray:=by rw [<- Ds]
 have j6:=Lib.run_append_nil_zeros (P:=P) E.w t tn ty e i z0 k kn hu (by unfold TY.isInt at Vw; split at Vw <;> simp_all:P.underlying tn = some (.int kn)) iM Dr n h0 (by rw [hs]; exact Qz) om (by rw [IF]; exact hb)
 rw [xu] at j6
 have hU:cA s (List.replicate n (z.map X.v)):=by
  intro r hr
  rw [(List.mem_replicate.1 hr).2]; simpa using sI
 have mN:=hi.Ba (di.drew G E) rfl
 have lV:=grownCap_ge E.w n 0 e
 have fP:(Builtin.zeroCells z.toArray n ++ Builtin.zeroCells z.toArray (grownCap E.w n 0 e - n)).size = grownCap E.w n 0 e * s:=by
  rw [Array.size_append,size_zeroCells,size_zeroCells,<- Nat.add_mul]
  simp only [List.size_toArray,sI]
  congr 1; omega
 obtain ⟨gG,iJ⟩:=mN.newRow (cs:=Builtin.zeroCells z.toArray n ++ Builtin.zeroCells z.toArray (grownCap E.w n 0 e - n)) (e:=e) (s:=s) (cap:=grownCap E.w n 0 e) (d:=d) hU (by rw [List.length_replicate]; exact lV) (by rw [fP]; exact Nat.le_refl _) (by
  refine cG.z9 hU fun j row hr=>?_
  have hj:j < n:=by
   rcases Nat.lt_or_ge j n with h' | h'
   ·exact h'
   ·rw [List.getElem?_eq_none (by rw [List.length_replicate]; exact h')] at hr; cases hr
  have:row = z.map X.v:=by
   have:=List.mem_of_getElem? hr
   exact (List.mem_replicate.1 this).2
  subst this
  refine ⟨DL z,bA.JL (v8 h1) fun q hq=>?_⟩
  have Cq:q < s:=by simpa [sI] using hq
  have gP:j * s + q < n * s:=by
   have:(j + 1) * s <= n * s:=Nat.mul_le_mul_right s hj
   rw [Nat.add_mul] at this; omega
  have JM:q < z.length:=by omega
  rw [Array.getElem?_append_left (by rw [size_zeroCells]; simp only [List.size_toArray,sI]; omega)]
  simp only [Nat.zero_add,Builtin.zeroCells]
  rw [Array.getElem?_map,Array.getElem?_range,if_pos (by simpa [sI] using gP)]
  simp only [Option.map_some,List.size_toArray,sI,DN Cq]
  rw [List.getElem?_eq_getElem JM]
  simp [JM]) (by rw [hn]; exact hd)
 simp only [List.length_replicate] at iJ
 refine ⟨_,_,_,?_,iJ⟩
 refine jn (g:=none) ?_
 have e':(#[x,y]:Array Operand).map a.eval = #[.slice none 0 0,.int k (n:Int)]:=by simp [hi.val hx,hi.val hy]
 rw [e']
 exact ek j6
theorem Sh.IT{d o s lo n : Nat}{rs : List (List X)}(tW : List (List X))(hx : look st.aF d = some (.aN o s lo n))(ho : look st.aG o = some (.rows s rs))(q7 : lo + n ≤ rs.length)(he : (rs.drop lo).take n = tW)(hF : N.F.elem o = false) :
  Sh N st (((st.kill o).dC o (.rows s tW)).put d (.aN o s 0 n)):=by subst he; exact Sh.trim hx ho q7 hF
end
end Go.AW
namespace Go.AW
open Go
theorem X.Bm : ∀ {xs : List X} (k : Nat), X.iH xs = true → X.iH (xs.set k .no) = true
 | [],_,_=>rfl
 | x :: r,0,h=>by
  simp only [X.iH,Bool.and_eq_true] at h
  simp [List.set,X.iH,X.nr,h.2]
 | x :: r,k + 1,h=>by
  simp only [X.iH,Bool.and_eq_true] at h
  simp [List.set,X.iH,h.1,X.Bm k h.2]
theorem RO.pick{E : Env}{cs : Array Value}{y : X} : ∀ {xs : List X} {off k : Nat} {R : List Nat}, RO E xs cs off R → xs[k]? = some y →
  ∃ u Ry R1,cs[off + k]? = some u /\ jW u /\ RX E y u Ry /\ RO E (xs.set k .no) cs off R1 /\ (R.Nodup -> (Ry ++ R1).Nodup) /\ ∀ b ∈ Ry ++ R1,b ∈ R
 | [],_,_,_,_,h=>by simp at h
 | x :: r,off,0,R,h,hy=>by
  simp only [RO] at h
  obtain ⟨u,R₁,R₂,hu,hs,h1,h2,rfl⟩:=h
  simp only [List.getElem?_cons_zero,Option.some.injEq] at hy
  subst hy
  refine ⟨u,R₁,R₂,hu,hs,h1,?_,fun h=>h,fun b hb=>hb⟩
  simp only [List.set,RO]
  exact ⟨u,[],R₂,hu,hs,by simp [RX],h2,rfl⟩
 | x :: r,off,k + 1,R,h,hy=>by
  simp only [RO] at h
  obtain ⟨u,R₁,R₂,hu,hs,h1,h2,rfl⟩:=h
  simp only [List.getElem?_cons_succ] at hy
  obtain ⟨v,Ry,R',hv,Xu,C5,xf,jR,dS⟩:=RO.pick h2 hy
  refine ⟨v,Ry,R₁ ++ R',by rw [show off + (k + 1) = off + 1 + k by omega]; exact hv,Xu,C5,?_,fun hn=>?_,fun b hb=>?_⟩
  ·simp only [List.set,RO]
   exact ⟨u,R₁,R',hu,hs,h1,xf,rfl⟩
  ·obtain ⟨n1,n2,n3⟩:=List.nodup_append.1 hn
   have h3:=jR n2
   rw [<- List.append_assoc,List.nodup_append]
   obtain ⟨m1,m2,m3⟩:=List.nodup_append.1 h3
   refine ⟨?_,m2,fun a ha b hb=>?_⟩
   ·rw [List.nodup_append]
    exact ⟨m1,n1,fun a ha b hb e=>n3 b hb a (dS a (List.mem_append.2 (.inl ha))) e.symm⟩
   ·rcases List.mem_append.1 ha with h | h
    ·exact m3 a h b hb
    ·exact n3 a h b (dS b (List.mem_append.2 (.inr hb)))
  ·rcases List.mem_append.1 hb with h | h
   ·exact List.mem_append.2 (.inr (dS b (List.mem_append.2 (.inl h))))
   ·rcases List.mem_append.1 h with h | h
    ·exact List.mem_append.2 (.inl h)
    ·exact List.mem_append.2 (.inr (dS b (List.mem_append.2 (.inr h))))
theorem cG.pick{E : Env}{cs : Array Value}{y : X}{s : Nat} : ∀ {rs : List (List X)} {row : List X} {off i k : Nat} {R : List Nat}, cA s rs → cG E rs cs off R → rs[i]? = some row → row[k]? = some y →
  ∃ u Ry R1,cs[off + (i * s + k)]? = some u /\ jW u /\ RX E y u Ry /\ cG E (rs.set i (row.set k .no)) cs off R1 /\ (R.Nodup -> (Ry ++ R1).Nodup) /\ ∀ b ∈ Ry ++ R1,b ∈ R
 | [],_,_,_,_,_,_,_,h,_=>by simp at h
 | r :: rs,row,off,0,k,R,_,h,hr,hy=>by
  simp only [cG] at h
  obtain ⟨R₁,R₂,hn,h1,h2,rfl⟩:=h
  simp only [List.getElem?_cons_zero,Option.some.injEq] at hr
  subst hr
  obtain ⟨u,Ry,R',hu,hs,C5,xf,jR,dS⟩:=RO.pick h1 hy
  refine ⟨u,Ry,R' ++ R₂,by rw [Nat.zero_mul,Nat.zero_add]; exact hu,hs,C5,?_,fun td=>?_,fun b hb=>?_⟩
  ·simp only [List.set,cG,List.length_set]
   exact ⟨R',R₂,X.Bm k hn,xf,h2,rfl⟩
  ·obtain ⟨n1,n2,n3⟩:=List.nodup_append.1 td
   rw [<- List.append_assoc,List.nodup_append]
   exact ⟨jR n1,n2,fun a ha b hb=>n3 a (dS a ha) b hb⟩
  ·rw [<- List.append_assoc] at hb
   rcases List.mem_append.1 hb with h | h
   ·exact List.mem_append.2 (.inl (dS b h))
   ·exact List.mem_append.2 (.inr h)
 | r :: rs,row,off,i + 1,k,R,hU,h,hr,hy=>by
  simp only [cG] at h
  obtain ⟨R₁,R₂,hn,h1,h2,rfl⟩:=h
  simp only [List.getElem?_cons_succ] at hr
  have hl:r.length = s:=hU r (List.mem_cons_self ..)
  obtain ⟨u,Ry,R',hu,hs,C5,xf,jR,dS⟩:=cG.pick (fun x hx=>hU x (List.mem_cons_of_mem _ hx)) h2 hr hy
  refine ⟨u,Ry,R₁ ++ R',by rw [show off + ((i + 1) * s + k) = off + r.length + (i * s + k) by rw [Nat.add_mul,hl]; omega]; exact hu,hs,C5,?_,fun td=>?_,fun b hb=>?_⟩
  ·simp only [List.set,cG]
   exact ⟨R₁,R',hn,h1,xf,rfl⟩
  ·obtain ⟨n1,n2,n3⟩:=List.nodup_append.1 td
   have h3:=jR n2
   rw [<- List.append_assoc,List.nodup_append]
   obtain ⟨m1,m2,m3⟩:=List.nodup_append.1 h3
   refine ⟨?_,m2,fun a ha b hb=>?_⟩
   ·rw [List.nodup_append]
    exact ⟨m1,n1,fun a ha b hb e=>n3 b hb a (dS a (List.mem_append.2 (.inl ha))) e.symm⟩
   ·rcases List.mem_append.1 ha with h | h
    ·exact m3 a h b hb
    ·exact n3 a h b (dS b (List.mem_append.2 (.inr hb)))
  ·rcases List.mem_append.1 hb with h | h
   ·exact List.mem_append.2 (.inr (dS b (List.mem_append.2 (.inl h))))
   ·rcases List.mem_append.1 h with h | h
    ·exact List.mem_append.2 (.inl h)
    ·exact List.mem_append.2 (.inr (dS b (List.mem_append.2 (.inr h))))
section
variable {P:Program} {N:fA} {st:St} {Q:Exit -> St -> Prop} {all:Array Oper} {rest:List Oper} {d:Nat} {ty:TypeId} {pos:String} {af:Array Edge}
theorem aU.NC{t : TypeId}{x : Operand}{o s i k : Nat}{y : X}{row : List X}{rs : List (List X)}(tW : List (List X))(ht : TY.shape P t = some none)(hx : bV st x = some (.ptr o s i k))(ho : look st.aG o = some (.rows s rs))(hr : rs[i]? = some row)(hy : row[k]? = some y)
  (he:rs.set i (row.set k .no) = tW) (hd:d < N.n) (kk:aU P N all rest ((st.dC o (.rows s tW)).put d y) Q) :
  aU P N all (⟨some d,.load t x,ty,pos,af,none⟩ :: rest) st Q:=by
 subst he
 refine aU.DM (fun G E RR a hn hi=>?_) kk
 obtain ⟨R,hp⟩:=hi.eval hx
 simp only [RX] at hp
 obtain ⟨_,B,hB,hc⟩:=hp
 have aZ:=hi.aG o _ ho
 have jR:=hi.nodup (.obj o)
 simp only [dR] at aZ
 obtain ⟨hu,aZ⟩:=aZ
 rcases aZ with ⟨_,h,_⟩ | ⟨B',cs,tb,R',iL,hw,hφ,lV,hlen,jX,jd⟩
 ·subst h; simp at hr
 rw [hB] at iL
 obtain rfl:=Option.some.inj iL
 obtain ⟨u,Ry,R1,yI,hs,C5,xf,Ka,dS⟩:=cG.pick hu jX hr hy
 rw [jd] at jR
 obtain ⟨tR,n5⟩:=List.nodup_cons.1 jR
 have MT:=Ka n5
 obtain ⟨m1,m2,m3⟩:=List.nodup_append.1 MT
 have xE:∀ b ∈ Ry ++ R1,b ∈ RR (.obj o):=fun b hb=>by rw [jd]; exact List.mem_cons.2 (.inr (dS b hb))
 have mN:Inv G E (gg RR (.obj o) (B.b :: R1)) (st.dC o (.rows s (rs.set i (row.set k .no)))) a:=by
  refine hi.dC ?_ ?_ ?_
  ·simp only [dR]
   refine ⟨hu.set (by rw [List.length_set]; exact hu row (List.mem_of_getElem? hr)),.inr ⟨B,cs,tb,R1,hB,hw,hφ,by simpa using lV,hlen,xf,rfl⟩⟩
  ·exact List.nodup_cons.2 ⟨fun h=>tR (dS _ (List.mem_append.2 (.inr h))),m2⟩
  ·intro b hb
   have o6:b ∈ RR (.obj o):=by
    rcases List.mem_cons.1 hb with h | h
    ·rw [jd,h]; simp
    ·exact xE b (List.mem_append.2 (.inr h))
   exact ⟨(hi.own _ _ o6).1,(hi.own _ _ o6).2,fun p hp h=>hi.apart _ _ hp b h o6⟩
 refine ⟨u,E,_,?_,mN.put (by rw [hn]; exact hd) C5 m1 fun b hb=>?_⟩
 ·show (do let z <- Instr.loadAt t (a.eval x); pure (Next.value z):Sem Next).run P E.w = _
  rw [hc]
  refine ek ?_
  have j4:E.w.cell? ⟨B.b,B.off + (i * s + k),none⟩ = some u:=by rw [dw hw]; exact yI
  simp only [Instr.loadAt,Instr.sureAddr,loadVar,Sem.run_bind,Sem.run_pure,Result.andThen_ok,(TY.l5 ht E.w).1]
  simp [j4]
 ·have o6:=xE b (List.mem_append.2 (.inl hb))
  refine ⟨(hi.own _ _ o6).1,(hi.own _ _ o6).2,fun p hp h=>?_⟩
  unfold gg at h
  split at h
  ·rename_i Q7
   rcases List.mem_cons.1 h with h' | h'
   ·exact tR (h' ▸ dS b (List.mem_append.2 (.inl hb)))
   ·exact m3 b hb b h' rfl
  ·rename_i Q7
   exact hi.apart _ _ Q7 b h o6
theorem aU.Bn{t : TypeId}{x : Operand}{o s i k LX tv : Nat}{rows : List (List X)}{GU : List X}{rs : List (List X)}(tW : List (List X))(ht : TY.size P t = some 1)(hx : bV st x = some (.ptr o s i k))(hy : look st.aF tv = some (.dK LX rows))
  (ho:look st.aG o = some (.rows s rs)) (hr:rs[i]? = some GU) (hk:k + 1 <= GU.length) (he:rs.set i (lg GU k [.dK LX rows]) = tW) (kk:aU P N all rest ((st.put tv .no).dC o (.rows s tW)) Q) :
  aU P N all (⟨none,.store t x (.tmp tv),ty,pos,af,none⟩ :: rest) st Q:=by
 subst he; exact aU.JP ht hx hy (row:=[]) rfl ho hr hk kk
end
end Go.AW
namespace Go.AW
open Go
theorem RO.Hm{E:Env}{cs:Array Value}{e off:Nat}{R:List Nat}(h:RO E [.v (.slice none 0 0)] cs off R):RO E [.dK e []] cs off R:=by
 simp only [RO] at h ⊢
 obtain ⟨u,R₁,R₂,hu,hs,h1,h2,h3⟩:=h
 simp only [RX] at h1
 refine ⟨u,R₁,R₂,hu,hs,?_,h2,h3⟩
 simp only [RX]
 exact ⟨fun _ h=>(by cases h),none,0,h1.1,.inl ⟨by trivial,by trivial,h1.2⟩⟩
theorem cG.Hm{E : Env}{cs : Array Value}{e : Nat} : ∀ {n off : Nat} {R : List Nat}, cG E (List.replicate n [.v (.slice none 0 0)]) cs off R → cG E (List.replicate n [.dK e []]) cs off R
 | 0,_,_,h=>by simpa [cG] using h
 | n + 1,off,R,h=>by
  simp only [List.replicate_succ,cG] at h ⊢
  obtain ⟨R₁,R₂,_,h1,h2,h3⟩:=h
  exact ⟨R₁,R₂,rfl,h1.Hm,cG.Hm h2,h3⟩
section
variable {N:fA} {st:St} {d:Nat}
theorem Sh.po(e:Nat){n:Nat}(hx:look st.aF d = some (.dK 1 (List.replicate n [.v (.slice none 0 0)]))):Sh N st (st.put d (.dK 1 (List.replicate n [.dK e []]))):=by
 intro G hn a w hh
 obtain ⟨E,RR,rfl,hi⟩:=hh
 have hv:=hi.aF d _ hx
 refine ⟨E,_,rfl,hi.relabel (d:=d) (R:=RR (.slot d)) ?_ (hi.nodup _) (fun b hb=>⟨(hi.own _ _ hb).1,(hi.own _ _ hb).2,fun p hp h=>hi.apart _ _ hp b h hb⟩)⟩
 simp only [RX] at hv ⊢
 obtain ⟨_,base,cap,hc,h⟩:=hv
 refine ⟨fun r hr=>by rw [(List.mem_replicate.1 hr).2]; rfl,base,cap,by simpa using hc,?_⟩
 rcases h with ⟨h1,h2,h3⟩ | ⟨b,off,cs,ty,R',h1,h2,h3,h4,h5,h6,h7⟩
 ·refine .inl ⟨?_,h2,h3⟩
  have:n = 0:=by simpa using congrArg List.length h1
  subst this; rfl
 ·exact .inr ⟨b,off,cs,ty,R',h1,h2,by simpa using h3,h4,h5,h6.Hm,h7⟩
end
theorem Bo{α:Type}{l:List α}{f:α -> List X}{m:Nat}{r:List X}(h:m < l.length):((l.map f).set (0 + m) r)[0 + m]? = some r:=by
 rw [Nat.zero_add,List.getElem?_set_self (by simpa using h)]
theorem xF{α:Type}{l:List α}{f:α -> List X}{m:Nat}{r q:List X}{v:α}(h:q = f v):((l.map f).set (0 + m) r).set (0 + m) q = (l.set m v).map f:=by
 rw [Nat.zero_add,List.set_set,h,List.map_set]
theorem C6{α:Type}{l:List α}{f:α -> List X}{m n:Nat}(h:n = l.length - m):((l.map f).drop (0 + m)).take n = (l.drop m).map f:=by
 rw [Nat.zero_add,<- List.map_drop,List.take_of_length_le (by simp; omega)]
theorem X.ue{α : Type}{f g : α → List X}(h : ∀ a, X.kF (f a) = g a) : ∀ l : List α, X.o9 (l.map f) = l.map g
 | []=>rfl
 | a :: r=>by simp only [List.map_cons,X.o9,h,X.ue h r]
theorem Sh.zO{α:Type}{f g:α -> List X}{N:fA}{st:St}{d s:Nat}{l:List α}(h:∀ a,X.kF (f a) = g a)(hx:look st.aF d = some (.dK s (l.map f))):Sh N st (st.put d (.fz s (l.map g))) :=
 Sh.rm hx (by simp only [X.n8,X.ue h])
end Go.AW
namespace Go.AW
open Go
section
variable {P:Program} {N:fA} {st:St} {Q:Exit -> St -> Prop} {all:Array Oper} {rest:List Oper} {d:Nat} {ty:TypeId} {pos:String} {af:Array Edge}
theorem aU.IU{t t' e s dO : Nat}{x y : Operand}{s' : Nat}{rows : List (List X)}(ht : TY.slice P t = some (e, s, dO))(hx : bV st x = some (.fz s' rows))(hy : bV st y = some (.v (.slice none 0 0)))(hd : d < N.n)
  (k:∀ b:Bool,(b = true -> rows = []) -> aU P N all rest (st.put d (.v (.bool b))) Q):aU P N all (⟨some d,.binOp .eql t x y t',ty,pos,af,none⟩ :: rest) st Q:=by
 intro G hn a w hh
 obtain ⟨E,RR,rfl,hi⟩:=hh
 obtain ⟨R,hp⟩:=hi.eval hx
 have Xv:=hi.val hy
 obtain ⟨hu,_⟩:=TY.dV ht
 simp only [RX] at hp
 obtain ⟨_,hU,base,cap,hc,cZ⟩:=hp
 have hr:(execOp a.eval ⟨some d,.binOp .eql t x y t',ty,pos,af,none⟩).run P E.w = .ok (.value (.bool base.isNone)) E.w:=by
  show (do let x <- (do eqGuard .eql t x y (a.eval x) (a.eval y); binOp .eql t (a.eval x) (a.eval y):Sem Value); pure (Next.value x):Sem Next).run P E.w = _
  rw [Xv,hc]
  refine ek ?_
  have:=Lib.run_eql_slice_nil (P:=P) E.w t e base rows.length cap 0 0 hu
  simp only [eqGuard,Sem.run_bind]
  simpa using this
 refine wpList_plain rfl fun K hK=>?_
 simp only [Oper.wp,hr,Oper.upon_value]
 refine hK _ _ (k base.isNone (fun h=>?_) G hn _ _ ⟨E,_,rfl,hi.iK (by rw [hn]; exact hd) (by simp [RX])⟩)
 rcases cZ with ⟨h1,_⟩ | ⟨b,off,h1,_⟩
 ·exact h1
 ·rw [h1] at h; cases h
theorem RO.sd{E : Env}{cs : Array Value}{x y : X}(zK : ∀ c, RX E x c [] → RX E y c [])(hf : x.free = true) : ∀ {xs : List X} {off k : Nat} {R : List Nat}, RO E xs cs off R → xs[k]? = some x → RO E (xs.set k y) cs off R
 | [],_,_,_,_,h=>by simp at h
 | z :: r,off,0,R,h,hy=>by
  simp only [RO] at h
  obtain ⟨u,R₁,R₂,hu,hs,h1,h2,rfl⟩:=h
  simp only [List.getElem?_cons_zero,Option.some.injEq] at hy
  subst hy
  have h0:=RX.free hf h1
  subst h0
  simp only [List.set,RO]
  exact ⟨u,[],R₂,hu,hs,zK u h1,h2,rfl⟩
 | z :: r,off,k + 1,R,h,hy=>by
  simp only [RO] at h
  obtain ⟨u,R₁,R₂,hu,hs,h1,h2,rfl⟩:=h
  simp only [List.getElem?_cons_succ] at hy
  simp only [List.set,RO]
  exact ⟨u,R₁,R₂,hu,hs,h1,RO.sd zK hf h2 hy,rfl⟩
theorem Sh.ew(o q s k : Nat){xs : List X}(ho : look (st.kill q).aG o = some (.cells xs))(hk : xs[k]? = some (.v (.slice none 0 0)))(tp : X.b6 (xs.set k (.aN q s 0 0)) = true)(Xw : Nat.beq q o = false)(hF : N.F.elem q = false) :
  Sh N st (((st.kill q).dC q (.rows s [])).dC o (.cells (xs.set k (.aN q s 0 0)))):=by
 intro G hn a w hh
 obtain ⟨E,RR,rfl,hi⟩:=hh
 obtain ⟨E',gG,hw,h1,h2⟩:=hi.nil q s (by rw [hn]; exact hF)
 have aZ:=h1.aG o (.cells xs) (by simp only [St.dC,look,Xw,cond_false]; exact ho)
 have Hn:=aZ
 simp only [dR] at Hn
 obtain ⟨_,B,cs,ty,hB,qU,hφ,fP,xf,hR⟩:=Hn
 refine ⟨E',_,hw,h1.dC (R:=gG (.obj o)) ?_ (h1.nodup _) (fun b hb=>⟨(h1.own _ _ hb).1,(h1.own _ _ hb).2,fun p hp h=>h1.apart _ _ hp b h hb⟩)⟩
 simp only [dR]
 refine ⟨tp,B,cs,ty,hB,qU,hφ,by rw [List.length_set]; exact fP,RO.sd (x:=.v (.slice none 0 0)) (fun c hc=>?_) rfl xf hk,hR⟩
 simp only [RX] at hc
 rw [hc.1]; exact h2
theorem bA.sd{E : Env}{x y : X}(zK : ∀ c, RX E x c [] → RX E y c [])(hf : x.free = true) : ∀ {xs : List X} {k : Nat} {cs : List Value} {R : List Nat}, bA E xs cs R → xs[k]? = some x → bA E (xs.set k y) cs R
 | [],_,_,_,_,h=>by simp at h
 | z :: r,0,cs,R,h,hy=>by
  simp only [bA] at h
  obtain ⟨c,dv,R₁,R₂,te,hs,h1,h2,rfl⟩:=h
  simp only [List.getElem?_cons_zero,Option.some.injEq] at hy
  subst hy
  have h0:=RX.free hf h1
  subst h0
  simp only [List.set,bA]
  exact ⟨c,dv,[],R₂,te,hs,zK c h1,h2,rfl⟩
 | z :: r,k + 1,cs,R,h,hy=>by
  simp only [bA] at h
  obtain ⟨c,dv,R₁,R₂,te,hs,h1,h2,rfl⟩:=h
  simp only [List.getElem?_cons_succ] at hy
  simp only [List.set,bA]
  exact ⟨c,dv,R₁,R₂,te,hs,h1,bA.sd zK hf h2 hy,rfl⟩
theorem Sh.Eo(s k:Nat){d:Nat}{xs:List X}(hx:look st.aF d = some (.agg xs))(hk:xs[k]? = some (.v (.slice none 0 0))):Sh N st (st.put d (.agg (xs.set k (.fz s [])))):=by
 intro G hn a w hh
 obtain ⟨E,RR,rfl,hi⟩:=hh
 have hv:=hi.aF d _ hx
 refine ⟨E,_,rfl,hi.relabel (d:=d) (R:=RR (.slot d)) ?_ (hi.nodup _) (fun b hb=>⟨(hi.own _ _ hb).1,(hi.own _ _ hb).2,fun p hp h=>hi.apart _ _ hp b h hb⟩)⟩
 simp only [RX] at hv ⊢
 obtain ⟨cs,hc,h⟩:=hv
 refine ⟨cs,hc,bA.sd (x:=.v (.slice none 0 0)) (fun c hc=>?_) rfl h hk⟩
 simp only [RX] at hc ⊢
 exact ⟨trivial,fun _ h=>(by cases h),none,0,hc.1,.inl ⟨by trivial,by trivial⟩⟩
theorem Sh.uf(o s k : Nat){xs : List X}(ho : look st.aG o = some (.cells xs))(hk : xs[k]? = some (.v (.slice none 0 0)))(tp : X.b6 (xs.set k (.fz s [])) = true) :
  Sh N st (st.dC o (.cells (xs.set k (.fz s [])))):=by
 intro G hn a w hh
 obtain ⟨E,RR,rfl,hi⟩:=hh
 have aZ:=hi.aG o _ ho
 simp only [dR] at aZ
 obtain ⟨_,B,cs,ty,hB,qU,hφ,fP,xf,hR⟩:=aZ
 refine ⟨E,_,rfl,hi.dC (R:=RR (.obj o)) ?_ (hi.nodup _) (fun b hb=>⟨(hi.own _ _ hb).1,(hi.own _ _ hb).2,fun p hp h=>hi.apart _ _ hp b h hb⟩)⟩
 simp only [dR]
 refine ⟨tp,B,cs,ty,hB,qU,hφ,by rw [List.length_set]; exact fP,RO.sd (x:=.v (.slice none 0 0)) (fun c hc=>?_) rfl xf hk,hR⟩
 simp only [RX] at hc ⊢
 exact ⟨trivial,fun _ h=>(by cases h),none,0,hc.1,.inl ⟨by trivial,by trivial⟩⟩
end
end Go.AW
