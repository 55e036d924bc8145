/- Part of the abstract walk: the rules that are used most, under short names. -/
import Derived.Test.YtlimckldnjmabaaAWx1
import Derived.KernelRfl
import Derived.DataShut
import Derived.Laws.StructEq
import Derived.OrdersHeld
import Derived.RangeFuncLeaves
import Derived.RangeFuncSeq
import Derived.RangeFuncCalls
import Derived.TacticsIn
import Derived.OrdersIn
import Derived.Sort.LoopGhostIn
set_option linter.unusedSimpArgs false
set_option linter.unusedVariables false
set_option linter.unusedSectionVars false
namespace Go.AW
open Go
section
variable {P:Program} {N:fA} {st:St} {Q:Exit -> St -> Prop} {all:Array Oper} {rest:List Oper} {d dd j:Nat} {want:Bool} {op:Op} {ty:TypeId} {pos:String} {af:Array Edge} {x:X} {u:Value}
theorem aU.vl(hy:Yields P N st ⟨some d,op,ty,pos,af,none⟩ x)(k:aU P N all rest (st.put d x) Q)(hd:d < N.n:=by decide):aU P N all (⟨some d,op,ty,pos,af,none⟩ :: rest) st Q:=aU.val hy hd k
theorem aU.gs(d : Nat)(hj : (all[j]?).bind (·.dst) = some d)(hx : look st.aF d = some (.v u))(fN : tX want u = true)(k : aU P N all rest (st.put dd (.v undef)) Q)(hd : d < N.n := by decide)(Hi : dd < N.n := by decide) :
  aU P N all (⟨some dd,op,ty,pos,af,some (j,want)⟩ :: rest) st Q:=aU.ay hj hd Hi hx fN k
theorem dA.sr{id:Nat}{l:List Oper}{y:Code}(h:aU P N l.toArray l st (jz (fun ba=>dA P N y ba Q) Q)):dA P N (.seq (.region id l.toArray false) y) st Q:=dA.seq (dA.region h)
variable {ops:Array Oper} {l0 rs l:List Nat} {t i dj:Nat} {ag:Array Bool} {K:Array Bool -> St -> Prop}
theorem AQ.cn(i : Nat)(ho : ops[i]? = some ⟨some d, op, ty, pos, af, none⟩)(hy : Yields P N st ⟨some d, op, ty, pos, af, none⟩ x)(k : AQ P N ops l0 rs t l (ag.setIfInBounds i true) (st.put d x) K)
  (hB:(Region.noSelect ops && Region.free .any ops ag i && (Region.ready .any ops ag).contains i) = true:=by kernel_rfl) (hd:d < N.n:=by decide):AQ P N ops l0 rs t (i :: l) ag st K:=AQ.cons ho hB hy hd k
theorem AQ.sk(i : Nat)(ho : ops[i]? = some ⟨some d, op, ty, pos, af, some (j, want)⟩)(hj : (ops[j]?).bind (·.dst) = some dj)(hx : look st.aF dj = some (.v u))(fN : tX want u = true)(k : AQ P N ops l0 rs t l (ag.setIfInBounds i true) (st.put d (.v undef)) K)
  (hB:(Region.noSelect ops && Region.free .any ops ag i && (Region.ready .any ops ag).contains i) = true:=by kernel_rfl) (vt:dj < N.n:=by decide) (hd:d < N.n:=by decide):AQ P N ops l0 rs t (i :: l) ag st K:=AQ.skip ho hB hj vt hd hx fN k
theorem AQ.rn(i : Nat)(ho : ops[i]? = some ⟨some d, op, ty, pos, af, some (j, want)⟩)(hj : (ops[j]?).bind (·.dst) = some dj)(hx : look st.aF dj = some (.v (.bool want)))(hy : Yields P N st ⟨some d, op, ty, pos, af, some (j, want)⟩ x)(k : AQ P N ops l0 rs t l (ag.setIfInBounds i true) (st.put d x) K)
  (hB:(Region.noSelect ops && Region.free .any ops ag i && (Region.ready .any ops ag).contains i) = true:=by kernel_rfl) (vt:dj < N.n:=by decide) (hd:d < N.n:=by decide):AQ P N ops l0 rs t (i :: l) ag st K:=AQ.run ho hB hj vt hx hy hd k
end
section
variable {P:Program} {N:fA} {st:St} {Q:Exit -> St -> Prop} {all:Array Oper} {rest:List Oper} {d:Nat} {ty:TypeId} {pos:String} {af:Array Edge} {y p:X}
theorem aU.mv{x:Operand}(k:aU P N all rest (st.put d y) Q)(hx:bV st x = some y:=by rfl)(hf:y.free = true:=by rfl)(hd:d < N.n:=by decide):aU P N all (⟨some d,.move x,ty,pos,af,none⟩ :: rest) st Q:=aU.val (Y.zf hx hf) hd k
theorem aU.an{x:Operand}(k:aU P N all rest (st.put d y) Q)(hx:bV st x = some y:=by rfl)(hf:y.free = true:=by rfl)(hd:d < N.n:=by decide):aU P N all (⟨some d,.assign x,ty,pos,af,none⟩ :: rest) st Q:=aU.val (Y.qf hx hf) hd k
theorem aU.ld{t : TypeId}{x : Operand}{row : List X}(ht : TY.shape P t = some none)(k : aU P N all rest (st.put d y) Q)(hx : bV st x = some p := by rfl)(hr : rowAt st p = some row := by rfl)(hy : row[my p]? = some y := by rfl)(hf : y.free = true := by rfl)(hd : d < N.n := by decide) :
  aU P N all (⟨some d,.load t x,ty,pos,af,none⟩ :: rest) st Q:=aU.val (Y.qz ht hx hr hy hf) hd k
end
section
variable {P:Program} {N:fA} {st:St} {Q:Exit -> St -> Prop} {all:Array Oper} {rest:List Oper} {d dd j:Nat} {want:Bool} {op:Op} {ty:TypeId} {pos:String} {af:Array Edge} {x y p q:X} {u:Value}
theorem aU.gw(d : Nat)(hy : Yields P N st ⟨some dd, op, ty, pos, af, some (j, want)⟩ x)(k : aU P N all rest (st.put dd x) Q)(hj : (all[j]?).bind (·.dst) = some d := by rfl)(hx : look st.aF d = some (.v (.bool want)) := by rfl)(hd : d < N.n := by decide)(Hi : dd < N.n := by decide) :
  aU P N all (⟨some dd,op,ty,pos,af,some (j,want)⟩ :: rest) st Q:=aU.aC hj hd hx (aU.val hy Hi k)
theorem aU.gz(d : Nat)(k : aU P N all rest (st.put dd (.v undef)) Q)(hj : (all[j]?).bind (·.dst) = some d := by rfl)(hx : look st.aF d = some (.v u) := by rfl)(fN : tX want u = true := by rfl)(hd : d < N.n := by decide)(Hi : dd < N.n := by decide) :
  aU P N all (⟨some dd,op,ty,pos,af,some (j,want)⟩ :: rest) st Q:=aU.ay hj hd Hi hx fN k
theorem aU.pk{c a b : Operand}{v : Bool}(k : aU P N all rest (st.put d y) Q)(hc : bV st c = some (.v (.bool v)) := by rfl)(hz : bV st (if v then a else b) = some y := by rfl)(hf : y.free = true := by rfl)(hd : d < N.n := by decide) :
  aU P N all (⟨some d,.pick c a b,ty,pos,af,none⟩ :: rest) st Q:=aU.val (Y.zm hc hz hf) hd k
theorem aU.fa{t : TypeId}{a : Operand}{f off : Nat}{ft : TypeId}(ht : TY.kC P t f = some (off, ft))(k : aU P N all rest (st.put d q) Q)(hx : bV st a = some p := by rfl)(hq : p.on off = some q := by rfl)(hd : d < N.n := by decide) :
  aU P N all (⟨some d,.fieldAddr t a f,ty,pos,af,none⟩ :: rest) st Q:=aU.val (Y.qo ht hx hq) hd k
end
theorem ie.c{α:Type}{l l':List (Nat × α)}{s:Nat}{x:α}(hr:ie l l')(h:look l s = some x:=by rfl):ie l ((s,x) :: l'):=ie.cons h hr
theorem ie.c2{α:Type}{l l':List (Nat × α)}{s t:Nat}{x y:α}(hr:ie l l')(h:look l s = some x:=by rfl)(h1:look l t = some y:=by rfl):ie l ((s,x) :: (t,y) :: l'):=ie.cons h (ie.cons h1 hr)
theorem ie.c4{α:Type}{l l':List (Nat × α)}{s t s1 t1:Nat}{x y x1 y1:α}(hr:ie l l')(h:look l s = some x:=by rfl)(h1:look l t = some y:=by rfl)(h2:look l s1 = some x1:=by rfl)(h3:look l t1 = some y1:=by rfl):ie l ((s,x) :: (t,y) :: (s1,x1) :: (t1,y1) :: l'):=ie.c2 (ie.c2 hr h2 h3) h h1
theorem ie.c8{α:Type}{l l':List (Nat × α)}{s t s1 t1 s2 t2 s3 t3:Nat}{x y x1 y1 x2 y2 x3 y3:α}(hr:ie l l')(h:look l s = some x:=by rfl)(h1:look l t = some y:=by rfl)(h2:look l s1 = some x1:=by rfl)(h3:look l t1 = some y1:=by rfl)(h4:look l s2 = some x2:=by rfl)(h5:look l t2 = some y2:=by rfl)(h6:look l s3 = some x3:=by rfl)(h7:look l t3 = some y3:=by rfl):ie l ((s,x) :: (t,y) :: (s1,x1) :: (t1,y1) :: (s2,x2) :: (t2,y2) :: (s3,x3) :: (t3,y3) :: l'):=ie.c4 (ie.c4 hr h4 h5 h6 h7) h h1 h2 h3
theorem dY{α β:Type}{f:α -> β}{l:List α}:some (l.map f).length = some l.length:=congrArg some (List.length_map ..)
theorem Ends.rb{P:Program}{pR:List ResultVar}{st:St}{b b':Bool}(h0:lA P st pR = some [.v (.bool b)])(h:b = b'):Ends P pR ([]:List Obj).length (fun r o=>r = .v (.bool b') /\ o = []) .ret st:=⟨_,_,h0,rfl,by rw [h]; exact ⟨rfl,rfl⟩⟩
theorem Ends.ri{P:Program}{pR:List ResultVar}{st:St}{k:IntKind}{b b':Int}(h0:lA P st pR = some [.v (.int k b)])(h:b = b'):Ends P pR ([]:List Obj).length (fun r o=>r = .v (.int k b') /\ o = []) .ret st:=⟨_,_,h0,rfl,by rw [h]; exact ⟨rfl,rfl⟩⟩
end Go.AW
namespace Go.AW
open Go
theorem CE{a:Int}(h:(Lit.int .u8 a).wf = true):∃ n:Nat,a = (n:Int) /\ n < 256:=by
 have h1:=(Lit.wf_int_iff .u8 a).1 h
 simp only [IntKind.min,IntKind.max,IntKind.signed,IntKind.bits] at h1
 exact ⟨a.toNat,by simp at h1; omega,by simp at h1; omega⟩
end Go.AW
namespace Go.AW
open Go
end Go.AW
namespace Go.AW
open Go
section
variable {P:Program} {N:fA} {st:St} {dst:Option Nat} {ty:TypeId} {pos:String} {af:Array Edge} {g:Option (Nat × Bool)}
end
end Go.AW
namespace Go.AW
open Go
theorem bA.FF{E E' : Env}{x y : X}{o : Nat}(hβ : ∀ q, q ≠ o → E'.β q = E.β q)(hf : x.free = true) : ∀ {xs : List X} {cs : List Value} {R : List Nat} {k : Nat}, bA E xs cs R → xs[k]? = some x → E.On E' R → X.ct o (xs.set k .no) = false →
  ∃ c Ra Rb,R = Ra ++ Rb /\ RX E x c [] /\ ∀ R1,RX E' y c R1 -> bA E' (xs.set k y) cs (Ra ++ (R1 ++ Rb))
 | [],_,_,_,_,h,_,_=>by simp at h
 | z :: r,cs,R,0,h,hy,hE,hm=>by
  simp only [bA] at h
  obtain ⟨c,dv,R₁,R₂,rfl,hs,h1,h2,rfl⟩:=h
  simp only [List.getElem?_cons_zero,Option.some.injEq] at hy
  subst hy
  have h0:=RX.free hf h1
  subst h0
  simp only [List.set,X.ct,Bool.or_eq_false_iff] at hm
  refine ⟨c,[],R₂,rfl,h1,fun R1 h3=>?_⟩
  simp only [List.set,bA,List.nil_append]
  exact ⟨c,dv,R1,R₂,rfl,hs,h3,bA.mono _ _ _ hE (fun q hq=>hβ q (fun e=>by rw [e,hm.2] at hq; cases hq)) h2,rfl⟩
 | z :: r,cs,R,k + 1,h,hy,hE,hm=>by
  simp only [bA] at h
  obtain ⟨c0,dv,R₁,R₂,rfl,hs,h1,h2,rfl⟩:=h
  simp only [List.getElem?_cons_succ] at hy
  simp only [List.set,X.ct,Bool.or_eq_false_iff] at hm
  obtain ⟨c,Ra,Rb,rfl,hc,hk⟩:=bA.FF hβ hf h2 hy (hE.sub (fun _ h=>List.mem_append.2 (.inr h))) hm.2
  refine ⟨c,R₁ ++ Ra,Rb,by rw [List.append_assoc],hc,fun R1 h3=>?_⟩
  simp only [List.set,bA]
  exact ⟨c0,dv,R₁,Ra ++ (R1 ++ Rb),rfl,hs,RX.mono _ _ _ (hE.sub (fun _ h=>List.mem_append.2 (.inl h))) (fun q hq=>hβ q (fun e=>by rw [e,hm.1] at hq; cases hq)) h1,hk R1 h3,by rw [List.append_assoc]⟩
theorem bA.Jz{E : Env}{x y : X}{o : Nat} : ∀ {xs : List X} {cs : List Value} {R : List Nat} {k : Nat}, bA E xs cs R → xs[k]? = some x → X.ct o (xs.set k .no) = false →
  ∃ c Ra R0 Rb,R = Ra ++ (R0 ++ Rb) /\ RX E x c R0 /\ ∀ (E':Env),(∀ q,q ≠ o -> E'.β q = E.β q) -> E.On E' R -> ∀ R1,RX E' y c R1 -> bA E' (xs.set k y) cs (Ra ++ (R1 ++ Rb))
 | [],_,_,_,_,h,_=>by simp at h
 | z :: r,cs,R,0,h,hy,hm=>by
  simp only [bA] at h
  obtain ⟨c,dv,R₁,R₂,rfl,hs,h1,h2,rfl⟩:=h
  simp only [List.getElem?_cons_zero,Option.some.injEq] at hy
  subst hy
  simp only [List.set,X.ct,Bool.or_eq_false_iff] at hm
  refine ⟨c,[],R₁,R₂,rfl,h1,fun E' hβ hE R1 h3=>?_⟩
  simp only [List.set,bA,List.nil_append]
  exact ⟨c,dv,R1,R₂,rfl,hs,h3,bA.mono _ _ _ (hE.sub (fun _ h=>List.mem_append.2 (.inr h))) (fun q hq=>hβ q (fun e=>by rw [e,hm.2] at hq; cases hq)) h2,rfl⟩
 | z :: r,cs,R,k + 1,h,hy,hm=>by
  simp only [bA] at h
  obtain ⟨c0,dv,R₁,R₂,rfl,hs,h1,h2,rfl⟩:=h
  simp only [List.getElem?_cons_succ] at hy
  simp only [List.set,X.ct,Bool.or_eq_false_iff] at hm
  obtain ⟨c,Ra,R0,Rb,rfl,hc,hk⟩:=bA.Jz (y:=y) h2 hy hm.2
  refine ⟨c,R₁ ++ Ra,R0,Rb,by rw [List.append_assoc],hc,fun E' hβ hE R1 h3=>?_⟩
  simp only [List.set,bA]
  exact ⟨c0,dv,R₁,Ra ++ (R1 ++ Rb),rfl,hs,RX.mono _ _ _ (hE.sub (fun _ h=>List.mem_append.2 (.inl h))) (fun q hq=>hβ q (fun e=>by rw [e,hm.1] at hq; cases hq)) h1,hk E' hβ (hE.sub (fun _ h=>List.mem_append.2 (.inr h))) R1 h3,by rw [List.append_assoc]⟩
section
variable {N:fA} {st:St} {d:Nat}
theorem Sh.OZ(k o : Nat){s n : Nat}{xs : List X}{rows : List (List X)}(hx : look st.aF d = some (.agg xs))(hk : xs[k]? = some (.aN o s 0 n))(ho : look st.aG o = some (.rows s rows))(hl : n = rows.length)(hm : X.ct o (xs.set k .no) = false)(hF : N.F.elem o = false) :
  Sh N st (((st.kill o).dC o (.rows 0 [])).put d (.agg (xs.set k (.dK s rows)))):=by
 intro G hn a w hh
 obtain ⟨E,RR,rfl,hi⟩:=hh
 subst hl
 have hv:=hi.aF d _ hx
 have aZ:=hi.aG o _ ho
 have jR:=hi.nodup (.obj o)
 have xz:=hi.nodup (.slot d)
 simp only [RX] at hv
 obtain ⟨cs,te,gQ⟩:=hv
 simp only [dR] at aZ
 obtain ⟨hu,aZ⟩:=aZ
 have hβ:di G E { E with β:=fun q=>if q = o then none else E.β q } (fun _=>False) :=
  ⟨rfl,fun _ h=>h.elim,fun _ h=>h.elim,fun _ _ _=>rfl,Nat.le_refl _,rfl,rfl,rfl⟩
 have h4 := hi.l8 hβ (o := o) (ob := .rows 0 []) (R := []) (fun _ h => h.elim) (fun q hq => by simp [hq]) (fun h => by rw [hn, hF] at h; cases h)
  (by simp only [dR]; exact ⟨fun _ h=>(by cases h),.inl ⟨by simp,trivial,trivial⟩⟩) List.nodup_nil (fun _ h=>by cases h)
 have iA:∀ R',E.On { E with β:=fun q=>if q = o then none else E.β q } R':=fun R'=>⟨fun _ _ _ h=>h,fun _ _=>⟨rfl,fun h=>h⟩⟩
 obtain ⟨c,Ra,Rb,yk,Pa,w5⟩:=bA.FF (E':={ E with β:=fun q=>if q = o then none else E.β q }) (y:=.dK s rows) (o:=o) (fun q hq=>by simp [hq]) rfl gQ hk (iA _) hm
 simp only [RX] at Pa
 obtain ⟨_,base,cap,hc,cZ⟩:=Pa
 have MY:∃ R,RX { E with β:=fun q=>if q = o then none else E.β q } (.dK s rows) c R /\ R.Nodup /\ ∀ b ∈ R,b ∈ RR (.obj o):=by
  simp only [RX]
  rcases aZ with ⟨h1,h2,h3⟩ | ⟨B,cs,ty,R',hB,hw,hφ,lV,fP,jX,jd⟩
  ·rcases cZ with ⟨_,_,_,h5⟩ | ⟨B,hB,_⟩
   ·exact ⟨[],⟨hu,base,cap,hc,.inl ⟨h2,h5,rfl⟩⟩,List.nodup_nil,fun _ h=>by cases h⟩
   ·rw [h1] at hB; cases hB
  ·rcases cZ with ⟨h1,_⟩ | ⟨B',iL,z3,td,hb⟩
   ·rw [hB] at h1; cases h1
   ·rw [hB] at iL
    obtain rfl:=Option.some.inj iL
    rcases hb with hb | hb
    ·refine ⟨[],⟨hu,base,cap,hc,.inl ⟨List.eq_nil_of_length_eq_zero om,hb,rfl⟩⟩,List.nodup_nil,fun _ h=>by cases h⟩
    ·refine ⟨RR (.obj o),⟨hu,base,cap,hc,.inr ⟨B.b,B.off,cs,ty,R',by simpa using hb,hw,om,by rw [show cap = B.cap by omega]; exact fP,hφ,cG.mono _ _ _ _ (iA R') jX,jd⟩⟩,jR,fun _ h=>h⟩
 obtain ⟨R,rY,xx,GV⟩:=MY
 have xA:∀ b ∈ Ra ++ (R ++ Rb),b ∈ RR (.slot d) \/ b ∈ RR (.obj o):=by
  intro b hb
  rcases List.mem_append.1 hb with h | h
  ·exact .inl (by rw [yk]; exact List.mem_append.2 (.inl h))
  ·rcases List.mem_append.1 h with h | h
   ·exact .inr (GV b h)
   ·exact .inl (by rw [yk]; exact List.mem_append.2 (.inr h))
 have KS:∀ b ∈ RR (.slot d),b ∉ RR (.obj o):=fun b hb=>hi.apart (.slot d) (.obj o) (by simp) b hb
 rw [yk] at xz KS
 obtain ⟨m1,m2,m3⟩:=List.nodup_append.1 xz
 refine ⟨{ E with β:=fun q=>if q = o then none else E.β q },_,rfl,h4.relabel (d:=d) (R:=Ra ++ (R ++ Rb)) ?_ ?_ (fun c hc=>?_)⟩
 ·simp only [RX]
  exact ⟨cs,te,w5 R rY⟩
 ·rw [List.nodup_append,List.nodup_append]
  refine ⟨m1,⟨xx,m2,fun x hx y hy e=>KS y (List.mem_append.2 (.inr hy)) (by rw [<- e]; exact GV x hx)⟩,fun x hx y hy e=>?_⟩
  rcases List.mem_append.1 hy with h | h
  ·exact KS x (List.mem_append.2 (.inl hx)) (by rw [e]; exact GV y h)
  ·exact m3 x hx y h e
 ·have mQ:c < E.w.heap.size /\ ¬ G.K c:=by rcases xA c hc with h | h <;> exact hi.own _ _ h
  refine ⟨mQ.1,mQ.2,fun p hp lW=>?_⟩
  have key:∀ q,q ≠ .slot d -> q ≠ .obj o -> c ∉ RR q:=by
   intro q h1 h2 h3
   rcases xA c hc with h | h
   ·exact hi.apart q (.slot d) h1 c h3 h
   ·exact hi.apart q (.obj o) h2 c h3 h
  cases p with
  | obj q =>
   by_cases hq:q = o
   ·subst hq; simp [fh] at lW
   ·have:c ∈ RR (.obj q):=by simpa [fh,hq] using lW
    exact key (.obj q) (by simp) (by simpa using hq) this
  | slot q =>
   rcases je st RR o [] q with h | h
   ·rw [h] at lW; cases lW
   ·rw [h] at lW; exact key (.slot q) hp (by simp) lW
theorem Sh.Pb(k o : Nat){s : Nat}{xs : List X}{rows : List (List X)}(hx : look st.aF d = some (.agg xs))(hk : xs[k]? = some (.dK s rows))(hm : X.ct o (xs.set k .no) = false)(hF : N.F.elem o = false) :
  Sh N st (((st.kill o).dC o (.rows s rows)).put d (.agg (xs.set k (.aN o s 0 rows.length)))):=by
 intro G hn a w hh
 obtain ⟨E,RR,rfl,hi⟩:=hh
 have hv:=hi.aF d _ hx
 have jR:=hi.nodup (.slot d)
 simp only [RX] at hv
 obtain ⟨QG,te,gQ⟩:=hv
 have mN:=hi.no d
 have Mj:∀ b ∈ RR (.slot d),b < E.w.heap.size /\ ¬ G.K b /\ ∀ p,b ∉ gg RR (.slot d) [] p:=by
  intro b hb
  refine ⟨(hi.own _ _ hb).1,(hi.own _ _ hb).2,fun p hp=>?_⟩
  unfold gg at hp
  split at hp
  ·cases hp
  ·rename_i h; exact hi.apart _ _ h b hp hb
 have iA:∀ (bk:Option AX) R',E.On { E with β:=fun q=>if q = o then bk else E.β q } R':=fun _ R'=>⟨fun _ _ _ h=>h,fun _ _=>⟨rfl,fun h=>h⟩⟩
 have hβ:∀ (bk:Option AX),di G E { E with β:=fun q=>if q = o then bk else E.β q } (fun _=>False):=fun _ =>
  ⟨rfl,fun _ h=>h.elim,fun _ h=>h.elim,fun _ _ _=>rfl,Nat.le_refl _,rfl,rfl,rfl⟩
 have fin : ∀ (bk : Option AX) (Ra R0 Rb : List Nat), RR (.slot d) = Ra ++ (R0 ++ Rb) → dR { E with β := fun q => if q = o then bk else E.β q } o (.rows s rows) R0 → bA { E with β := fun q => if q = o then bk else E.β q } (xs.set k (.aN o s 0 rows.length)) QG.toList (Ra ++ ([] ++ Rb)) →
   cI G (((st.kill o).dC o (.rows s rows)).put d (.agg (xs.set k (.aN o s 0 rows.length)))) a E.w:=by
  intro bk Ra R0 Rb hR aZ o0
  rw [hR] at jR
  obtain ⟨m1,m2,m3⟩:=List.nodup_append.1 jR
  obtain ⟨m4,m5,m6⟩:=List.nodup_append.1 m2
  have h4 := mN.l8 (hβ bk) (o := o) (ob := .rows s rows) (R := R0) (fun _ h => h.elim) (fun q hq => by simp [hq]) (fun h => by rw [hn, hF] at h; cases h) aZ m4
   (fun c hc=>by
    obtain ⟨a1,a2,a3⟩:=Mj c (by rw [hR]; simp [hc])
    exact ⟨a1,a2,fun p _=>a3 p⟩)
  have h5 := h4.relabel (d := d) (x := .agg (xs.set k (.aN o s 0 rows.length))) (R := Ra ++ ([] ++ Rb)) (by simp only [RX]; exact ⟨QG, te, o0⟩)
   (by
    rw [List.nil_append,List.nodup_append]
    exact ⟨m1,m5,fun x hx y hy=>m3 x hx y (List.mem_append.2 (.inr hy))⟩)
   (fun c hc=>by
    have JH:c ∈ RR (.slot d):=by
     rw [hR]
     rcases List.mem_append.1 hc with h | h
     ·exact List.mem_append.2 (.inl h)
     ·exact List.mem_append.2 (.inr (List.mem_append.2 (.inr (by simpa using h))))
    have J0:c ∉ R0:=by
     intro h0
     rcases List.mem_append.1 hc with h | h
     ·exact m3 c h c (List.mem_append.2 (.inl h0)) rfl
     ·exact m6 c h0 c (by simpa using h) rfl
    obtain ⟨a1,a2,a3⟩:=Mj c JH
    refine ⟨a1,a2,fun p hp lW=>?_⟩
    cases p with
    | obj q =>
     by_cases hq:q = o
     ·subst hq; exact J0 (by simpa [fh] using lW)
     ·exact a3 (.obj q) (by simpa [fh,hq] using lW)
    | slot q =>
     rcases je (st.put d .no) (gg RR (.slot d) []) o R0 q with h | h
     ·rw [h] at lW; cases lW
     ·rw [h] at lW; exact a3 _ lW)
  refine ⟨{ E with β:=fun q=>if q = o then bk else E.β q },_,rfl,{ h5 with aF:=fun q y hy=>h5.aF q y ?_,aG:=fun q y hy=>h5.aG q y hy }⟩
  simp only [St.put,St.dC,St.kill,tM,List.map_cons,look] at hy ⊢
  cases hb:Nat.beq d q with
  | true=>rw [hb] at hy; simpa using hy
  | false=>rw [hb] at hy; simpa using hy
 obtain ⟨c0,Ra,R0,Rb,hR,J0,w5⟩:=bA.Jz (y:=.aN o s 0 rows.length) (o:=o) gQ hk hm
 simp only [RX] at J0
 obtain ⟨hu,base,cap,hc,cZ⟩:=J0
 rcases cZ with ⟨h1,h2,h3⟩ | ⟨b,off,cs,ty,R',hb,hw,hl,ho,hφ,jX,jd⟩
 ·refine fin none Ra R0 Rb hR ?_ (w5 _ (fun q hq=>by simp [hq]) (iA none _) [] ?_)
  ·simp only [dR]; exact ⟨hu,.inl ⟨by simp,h1,h3⟩⟩
  ·simp only [RX]; exact ⟨trivial,base,cap,hc,.inl ⟨by simp,trivial,by simp [h1],h2⟩⟩
 ·refine fin (some ⟨b,off,cap⟩) Ra R0 Rb hR ?_ (w5 _ (fun q hq=>by simp [hq]) (iA _ _) [] ?_)
  ·simp only [dR]; exact ⟨hu,.inr ⟨⟨b,off,cap⟩,cs,ty,R',by simp,hw,hφ,hl,ho,cG.mono _ _ _ _ (iA _ _) jX,jd⟩⟩
  ·simp only [RX]; exact ⟨trivial,base,cap,hc,.inr ⟨⟨b,off,cap⟩,by simp,by simp,hl,.inr (by simpa using hb)⟩⟩
end
end Go.AW
namespace Go.AW
open Go
section
variable {P:Program} {N:fA} {st:St} {dst:Option Nat} {ty:TypeId} {pos:String} {af:Array Edge} {g:Option (Nat × Bool)}
end
end Go.AW
namespace Go.AW
open Go
theorem RO.setAt{E : Env}{cs : Array Value}{x y : X}{u : Value}(hf : x.free = true) : ∀ {xs : List X} {off k : Nat} {R : List Nat}, RO E xs cs off R → xs[k]? = some x → cs[off + k]? = some u → RX E y u [] → RO E (xs.set k y) cs off R
 | [],_,_,_,_,h,_,_=>by simp at h
 | z :: r,off,0,R,h,hy,hu,zK=>by
  simp only [RO] at h
  obtain ⟨u',R₁,R₂,DI,hs,h1,h2,rfl⟩:=h
  simp only [List.getElem?_cons_zero,Option.some.injEq] at hy
  subst hy
  have h0:=RX.free hf h1
  subst h0
  rw [Nat.add_zero,DI] at hu
  obtain rfl:=Option.some.inj hu
  simp only [List.set,RO]
  exact ⟨u',[],R₂,DI,hs,zK,h2,rfl⟩
 | z :: r,off,k + 1,R,h,hy,hu,zK=>by
  simp only [RO] at h
  obtain ⟨u',R₁,R₂,DI,hs,h1,h2,rfl⟩:=h
  simp only [List.getElem?_cons_succ] at hy
  simp only [List.set,RO]
  exact ⟨u',R₁,R₂,DI,hs,h1,RO.setAt hf h2 hy (by rw [show off + 1 + k = off + (k + 1) by omega]; exact hu) zK,rfl⟩
section
variable {N:fA} {G:Ctx} {E:Env} {RR:Own -> List Nat} {st:St} {a:Act}
theorem Inv.KT(hi : Inv G E RR st a){o s : Nat}{rs : List (List X)}(ho : look st.aG o = some (.rows s rs))(hf : cM rs)(hF : G.fn.F.elem o = false) :
  ∃ E' gG,E'.w = E.w /\ E'.β = E.β /\ Inv G E' gG ((st.kill o).dC o .gone) a /\ ∀ u n,n = rs.length -> RX E (.aN o s 0 n) u [] -> RX E' (.fz s rs) u []:=by
 have aZ:=hi.aG o _ ho
 simp only [dR] at aZ
 obtain ⟨hu,aZ⟩:=aZ
 have hβ:di G E E (fun _=>False):=⟨rfl,fun _ h=>h.elim,fun _ h=>h.elim,fun _ _ _=>rfl,Nat.le_refl _,rfl,rfl,rfl⟩
 have mN:=hi.l8 hβ (o:=o) (ob:=.gone) (R:=[]) (fun _ h=>h.elim) (fun q _=>rfl) (fun h=>rfl) (by simp only [dR]) List.nodup_nil (fun _ h=>by cases h)
 rcases aZ with ⟨h1,h2,h3⟩ | ⟨B,cs,ty,R',hB,hw,hφ,lV,fP,jX,jd⟩
 ·refine ⟨E,_,rfl,rfl,mN,fun u n hn hx=>?_⟩
  simp only [RX] at hx ⊢
  obtain ⟨_,base,cap,hc,cZ⟩:=hx
  rcases cZ with ⟨_,_,_,h5⟩ | ⟨B,hB,_⟩
  ·subst hn
   exact ⟨trivial,hu,base,cap,hc,.inl ⟨h2,h5⟩⟩
  ·rw [h1] at hB; cases hB
 ·have DW:=cG.free hf jX
  subst DW
  have o6:B.b ∈ RR (.obj o):=by rw [jd]; simp
  have hle:∀ c i v,E.φ c i = some v -> (if c = B.b then cs[i]? else E.φ c i) = some v:=by
   intro c i v h
   by_cases tq:c = B.b
   ·subst tq; rw [hφ i] at h; cases h
   ·rw [if_neg tq]; exact h
  have iA:∀ R:List Nat,B.b ∉ R -> E.On { E with φ:=fun c i=>if c = B.b then cs[i]? else E.φ c i } R:=by
   intro R JG
   refine ⟨hle,fun c qY=>⟨rfl,fun h i=>?_⟩⟩
   have:c ≠ B.b:=fun e=>JG (e ▸ qY)
   show (if c = B.b then cs[i]? else E.φ c i) = none
   rw [if_neg this]; exact h i
  have JU:∀ p,B.b ∉ fh st RR o [] p:=by
   intro p hp
   cases p with
   | obj q =>
    by_cases hq:q = o
    ·subst hq; simp [fh] at hp
    ·exact hi.apart (.obj q) (.obj o) (by simpa using hq) _ (by simpa [fh,hq] using hp) o6
   | slot q =>
    rcases je st RR o [] q with h | h
    ·rw [h] at hp; cases hp
    ·rw [h] at hp; exact hi.apart (.slot q) (.obj o) (by simp) _ hp o6
  refine ⟨{ E with φ := fun c i => if c = B.b then cs[i]? else E.φ c i }, _, rfl, rfl,
   {mN with
    ox:=by
     intro c i v h
     change (if c = B.b then cs[i]? else E.φ c i) = some v at h
     by_cases tq:c = B.b
     ·subst tq; rw [if_pos rfl] at h
      show E.w.cell? _ = _
      rw [dw hw]; exact h
     ·rw [if_neg tq] at h; exact hi.ox c i v h
    aF:=fun q x hx=>RX.mono x _ _ (iA _ (JU _)) (fun _ _=>rfl) (mN.aF q x hx)
    aG:=fun o ob aZ=>dR.mono (iA _ (JU _)) rfl (fun _ _=>rfl) (mN.aG o ob aZ)
    φ0:=fun c i v h=>hle c i v (hi.φ0 c i v h)
    grow:=by
     intro c i v h
     change (if c = B.b then cs[i]? else E.φ c i) = some v at h
     by_cases tq:c = B.b
     ·subst tq; exact .inr (hi.own _ _ o6).2
     ·rw [if_neg tq] at h; exact hi.grow c i v h },fun u n hn hx=>?_⟩
  simp only [RX] at hx ⊢
  obtain ⟨_,base,cap,hc,cZ⟩:=hx
  subst hn
  rcases cZ with ⟨h1,_⟩ | ⟨B',iL,z3,td,hb⟩
  ·rw [hB] at h1; cases h1
  ·rw [hB] at iL
   obtain rfl:=Option.some.inj iL
   rcases hb with hb | hb
   ·exact ⟨trivial,hu,base,cap,hc,.inl ⟨List.eq_nil_of_length_eq_zero om,hb⟩⟩
   ·refine ⟨trivial,hu,base,cap,hc,.inr ⟨B.b,B.off,by simpa using hb,td,?_⟩⟩
    refine cG.freeze (E:=E) (fun i v h=>?_) hle jX
    show (if B.b = B.b then cs[i]? else E.φ B.b i) = some v
    rw [if_pos rfl]; exact h
theorem Sh.oO(p o k : Nat){s n : Nat}{xs ys : List X}{rs : List (List X)}(hp : look st.aG p = some (.cells xs))(hk : xs[k]? = some (.aN o s 0 n))(ho : look st.aG o = some (.rows s rs))(hl : n = rs.length)(hf : cM rs)(hF : N.F.elem o = false)
  (IL:look ((st.kill o).dC o .gone).aG p = some (.cells ys)) (Bh:ys[k]? = some .no) (tp:X.b6 (ys.set k (.fz s rs)) = true) :
  Sh N st (((st.kill o).dC o .gone).dC p (.cells (ys.set k (.fz s rs)))):=by
 intro G hn a w hh
 obtain ⟨E,RR,rfl,hi⟩:=hh
 have Kj:=hi.aG p _ hp
 simp only [dR] at Kj
 obtain ⟨_,B,cs,ty,hB,hw,hφ,fP,xf,hR⟩:=Kj
 obtain ⟨u,Ry,R1,yI,hs,C5,_,_,_⟩:=RO.pick xf hk
 have h0:=RX.free (x:=.aN o s 0 n) rfl C5
 subst h0
 obtain ⟨E',gG,qU,V8,iJ,Mk⟩:=hi.KT ho hf (by rw [hn]; exact hF)
 have SE:=iJ.aG p _ IL
 have Pc:=SE
 simp only [dR] at Pc
 obtain ⟨_,B',dv,Q6,iL,Ir,SF,Ng,SH,JK⟩:=Pc
 rw [V8,hB] at iL
 obtain rfl:=Option.some.inj iL
 rw [qU,hw] at Ir
 simp only [Option.some.injEq,Go.Obj.cells.injEq] at Ir
 obtain ⟨rfl,rfl,_⟩:=Ir
 refine ⟨E',_,qU,iJ.dC (R:=gG (.obj p)) ?_ (iJ.nodup _) (fun b hb=>⟨(iJ.own _ _ hb).1,(iJ.own _ _ hb).2,fun q hq h=>iJ.apart _ _ hq b h hb⟩)⟩
 simp only [dR]
 exact ⟨tp,B,cs,ty,by rw [V8]; exact hB,by rw [qU]; exact hw,SF,by rw [List.length_set]; exact Ng,RO.setAt (x:=.no) rfl SH Bh yI (Mk u n hl C5),JK⟩
end
end Go.AW
namespace Go.AW
open Go
section
variable {P:Program} {N:fA} {st:St} {dst:Option Nat} {ty:TypeId} {pos:String} {af:Array Edge} {g:Option (Nat × Bool)}
theorem ax.bin{op : BinOp}{t t' : TypeId}{x y : Operand}{u v r : Value}(hx : bV st x = some (.v u))(hy : bV st y = some (.v v))
  (hr:∀ w,(do eqGuard op t x y u v; binOp op t u v:Sem Value).run P w = .ok r w):ax P N st ⟨dst,.binOp op t x y t',ty,pos,af,g⟩ (.v r):=by
 intro G E RR a _ hi
 refine ⟨r,fun w=>?_,by simp [RX]⟩
 show (do let x <- (do eqGuard op t x y (a.eval x) (a.eval y); binOp op t (a.eval x) (a.eval y):Sem Value); pure (Next.value x):Sem Next).run P w = _
 rw [hi.val hx,hi.val hy]
 exact ek (hr _)
section ints
variable {t t':TypeId} {x y:Operand} {k:IntKind} {a b r:Int}
theorem ax.add(hx:bV st x = some (.v (.int k a)))(hy:bV st y = some (.v (.int k b)))(hr:k.wrap (a + b) = r):ax P N st ⟨dst,.binOp .add t x y t',ty,pos,af,g⟩ (.v (.int k r)) :=
 ax.bin hx hy fun w=>by subst hr; simp [eqGuard,binOp,Op.intArith]
theorem ax.sub(hx:bV st x = some (.v (.int k a)))(hy:bV st y = some (.v (.int k b)))(hr:k.wrap (a - b) = r):ax P N st ⟨dst,.binOp .sub t x y t',ty,pos,af,g⟩ (.v (.int k r)) :=
 ax.bin hx hy fun w=>by subst hr; simp [eqGuard,binOp,Op.intArith]
theorem ax.mul(hx:bV st x = some (.v (.int k a)))(hy:bV st y = some (.v (.int k b)))(hr:k.wrap (a * b) = r):ax P N st ⟨dst,.binOp .mul t x y t',ty,pos,af,g⟩ (.v (.int k r)) :=
 ax.bin hx hy fun w=>by subst hr; simp [eqGuard,binOp,Op.intArith]
theorem ax.rem(hx:bV st x = some (.v (.int k a)))(hy:bV st y = some (.v (.int k b)))(h0:b ≠ 0)(hr:a.tmod b = r):ax P N st ⟨dst,.binOp .rem t x y t',ty,pos,af,g⟩ (.v (.int k r)) :=
 ax.bin hx hy fun w=>by subst hr; simp [eqGuard,binOp,Op.intDiv,h0]
theorem ax.lss(hx:bV st x = some (.v (.int k a)))(hy:bV st y = some (.v (.int k b))):ax P N st ⟨dst,.binOp .lss t x y t',ty,pos,af,g⟩ (.v (.bool (decide (a < b)))) :=
 ax.bin hx hy fun w=>by simp [eqGuard,binOp,Op.intCmp]
theorem ax.leq(hx:bV st x = some (.v (.int k a)))(hy:bV st y = some (.v (.int k b))):ax P N st ⟨dst,.binOp .leq t x y t',ty,pos,af,g⟩ (.v (.bool (decide (a <= b)))) :=
 ax.bin hx hy fun w=>by simp [eqGuard,binOp,Op.intCmp]
theorem ax.gtr(hx:bV st x = some (.v (.int k a)))(hy:bV st y = some (.v (.int k b))):ax P N st ⟨dst,.binOp .gtr t x y t',ty,pos,af,g⟩ (.v (.bool (decide (b < a)))) :=
 ax.bin hx hy fun w=>by simp [eqGuard,binOp,Op.intCmp]
theorem ax.geq(hx:bV st x = some (.v (.int k a)))(hy:bV st y = some (.v (.int k b))):ax P N st ⟨dst,.binOp .geq t x y t',ty,pos,af,g⟩ (.v (.bool (decide (b <= a)))) :=
 ax.bin hx hy fun w=>by simp [eqGuard,binOp,Op.intCmp]
theorem ax.eql(hx:bV st x = some (.v (.int k a)))(hy:bV st y = some (.v (.int k b))):ax P N st ⟨dst,.binOp .eql t x y t',ty,pos,af,g⟩ (.v (.bool (decide (a = b)))) :=
 ax.bin hx hy fun w=>by simp [eqGuard,binOp,Op.intCmp,BEq.beq]
theorem ax.neq(hx:bV st x = some (.v (.int k a)))(hy:bV st y = some (.v (.int k b))):ax P N st ⟨dst,.binOp .neq t x y t',ty,pos,af,g⟩ (.v (.bool (decide (a ≠ b)))) :=
 ax.bin hx hy fun w=>by simp [eqGuard,binOp,Op.intCmp,bne,BEq.beq]
end ints
theorem ax.un{op:UnOp}{t:TypeId}{x:Operand}{u r:Value}(hx:bV st x = some (.v u))(hr:∀ w,(Op.unary op u).run P w = .ok r w):ax P N st ⟨dst,.unOp op t x,ty,pos,af,g⟩ (.v r):=by
 intro G E RR a _ hi
 refine ⟨r,fun w=>?_,by simp [RX]⟩
 show (do let x <- Op.unary op (a.eval x); pure (Next.value x):Sem Next).run P w = _
 rw [hi.val hx]
 exact ek (hr _)
theorem ax.not{t:TypeId}{x:Operand}{b:Bool}(hx:bV st x = some (.v (.bool b))):ax P N st ⟨dst,.unOp .not t x,ty,pos,af,g⟩ (.v (.bool (!b))) :=
 ax.un hx fun _=>rfl
theorem ax.conv{s d : TypeId}{x : Operand}{k k' : IntKind}{n r : Int}(hs : TY.isInt P s = some k')(hd : TY.isInt P d = some k)(hx : bV st x = some (.v (.int k' n)))(hr : k.wrap n = r) :
  ax P N st ⟨dst,.convert s d x,ty,pos,af,g⟩ (.v (.int k r)):=by
 intro G E RR a _ hi
 refine ⟨.int k r,fun w=>?_,by simp [RX]⟩
 show (do let x <- convert s d (a.eval x); pure (Next.value x):Sem Next).run P w = _
 rw [hi.val hx]
 refine ek ?_
 have h1:P.underlying s = some (.int k'):=by unfold TY.isInt at hs; split at hs <;> simp_all
 have h2:P.underlying d = some (.int k):=by unfold TY.isInt at hd; split at hd <;> simp_all
 simp [convert,run_underlying h1,run_underlying h2,Conv.intToInt,hr]
section
variable {t t':TypeId} {x y:Operand} {a b:Int}
theorem ax.KU(hx:bV st x = some (.v (.int .i64 a)))(hy:bV st y = some (.v (.int .i64 b)))(hr:-9223372036854775808 <= a + b /\ a + b <= 9223372036854775807):ax P N st ⟨dst,.binOp .add t x y t',ty,pos,af,g⟩ (.v (.int .i64 (a + b))) :=
 ax.add hx hy (IntWalk.i64_in _ hr)
theorem ax.Pd(hx:bV st x = some (.v (.int .i64 a)))(hy:bV st y = some (.v (.int .i64 b)))(hr:-9223372036854775808 <= a - b /\ a - b <= 9223372036854775807):ax P N st ⟨dst,.binOp .sub t x y t',ty,pos,af,g⟩ (.v (.int .i64 (a - b))) :=
 ax.sub hx hy (IntWalk.i64_in _ hr)
theorem ax.SI(hx:bV st x = some (.v (.int .i64 a)))(hy:bV st y = some (.v (.int .i64 b)))(hr:-9223372036854775808 <= a * b /\ a * b <= 9223372036854775807):ax P N st ⟨dst,.binOp .mul t x y t',ty,pos,af,g⟩ (.v (.int .i64 (a * b))) :=
 ax.mul hx hy (IntWalk.i64_in _ hr)
theorem ax.FG{k:IntKind}(hx:bV st x = some (.v (.int k a)))(hy:bV st y = some (.v (.int k b)))(hr:0 <= a /\ 1 <= b):ax P N st ⟨dst,.binOp .rem t x y t',ty,pos,af,g⟩ (.v (.int k (a % b))) :=
 ax.rem hx hy om (IntWalk.rem_in a b hr.1)
end
theorem ax.wc{s d : TypeId}{x : Operand}{k k' : IntKind}{n : Int}(hs : TY.isInt P s = some k')(hd : TY.isInt P d = some k)(hx : bV st x = some (.v (.int k' n)))(hr : k.wrap n = n) :
  ax P N st ⟨dst,.convert s d x,ty,pos,af,g⟩ (.v (.int k n)):=ax.conv hs hd hx hr
theorem ax.len{t e s dO : Nat}{x : Operand}{y : X}{n : Nat}(ht : TY.slice P t = some (e, s, dO))(hx : bV st x = some y)(hn : y.len = some n) :
  ax P N st ⟨dst,.call ⟨.builtin .len,#[x],#[t]⟩,ty,pos,af,g⟩ (.v (.int .i64 (n:Int))):=by
 intro G E RR a _ hi
 obtain ⟨R,hp⟩:=hi.eval hx
 obtain ⟨base,cap,hc⟩:=hp.len hn
 refine ⟨.int .i64 (n:Int),fun w=>jn ?_,by simp [RX]⟩
 obtain ⟨hu,_⟩:=TY.dV ht
 simp [builtin,Builtin.len_,hc,run_underlying hu,goInt]
theorem ax.kj{t e s dO : Nat}{x ix : Operand}{rows : List (List X)}{row : List X}{k : IntKind}{n : Int}{m : Nat}(ht : TY.slice P t = some (e, s, dO))(hx : bV st x = some (.fz s rows))
  (z2:bV st ix = some (.v (.int k n))) (hn:n = (m:Int)) (hr:rows[m]? = some row):ax P N st ⟨dst,.indexAddr t x ix,ty,pos,af,g⟩ (.fp row 0):=by
 intro G E RR a _ hi
 obtain ⟨R,hp⟩:=hi.eval hx
 have hm:m < rows.length:=by
  rcases Nat.lt_or_ge m rows.length with h' | h'
  ·exact h'
  ·simp [List.getElem?_eq_none h'] at hr
 simp only [RX] at hp
 obtain ⟨_,hu,base,cap,hc,h⟩:=hp
 rcases h with ⟨h,_⟩ | ⟨b,off,rfl,hl,hf⟩
 ·subst h; simp at hr
 ·refine ⟨.pointer (some ⟨b,off + m * s,none⟩),fun w=>?_,?_⟩
  ·show (do let z <- Instr.indexAt t (a.eval x) (a.eval ix); pure (Next.value z):Sem Next).run P w = _
   rw [hc,hi.val z2]
   exact ek (lZ ht hn hm w)
  ·simp only [RX]
   exact ⟨trivial,b,off + m * s,rfl,kT.get hu hf hr⟩
theorem ax.wQ{t e s dO : Nat}{x ix : Operand}{o lo len : Nat}{k : IntKind}{n : Int}{m : Nat}(ht : TY.slice P t = some (e, s, dO))(hx : bV st x = some (.aN o s lo len))
  (z2:bV st ix = some (.v (.int k n))) (hn:n = (m:Int)) (hm:m < len):ax P N st ⟨dst,.indexAddr t x ix,ty,pos,af,g⟩ (.ptr o s (lo + m) 0):=by
 intro G E RR a _ hi
 obtain ⟨R,hp⟩:=hi.eval hx
 simp only [RX] at hp
 obtain ⟨_,base,cap,hc,h⟩:=hp
 rcases h with ⟨_,_,h,_⟩ | ⟨B,hB,_,hl,hb⟩
 ·omega
 ·have iy:base = some ⟨B.b,B.off + lo * s,none⟩:=hb.resolve_left om
  subst iy
  refine ⟨.pointer (some ⟨B.b,B.off + lo * s + m * s,none⟩),fun w=>?_,?_⟩
  ·show (do let z <- Instr.indexAt t (a.eval x) (a.eval ix); pure (Next.value z):Sem Next).run P w = _
   rw [hc,hi.val z2]
   exact ek (lZ ht hn hm w)
  ·simp only [RX]
   exact ⟨trivial,B,hB,by rw [Nat.add_mul]; simp [Nat.add_assoc]⟩
theorem ax.lN{t len e s : Nat}{x ix : Operand}{p q : X}{k : IntKind}{n : Int}{m : Nat}(ht : TY.array P t = some (len, e, s))(hx : bV st x = some p)
  (z2:bV st ix = some (.v (.int k n))) (hn:n = (m:Int)) (hm:m < len) (hq:p.on (m * s) = some q):ax P N st ⟨dst,.indexAddr t x ix,ty,pos,af,g⟩ q:=by
 intro G E RR a _ hi
 obtain ⟨R,hp⟩:=hi.eval hx
 obtain ⟨b,o,hc,h⟩:=hp.on hq
 refine ⟨_,fun w=>?_,h⟩
 show (do let z <- Instr.indexAt t (a.eval x) (a.eval ix); pure (Next.value z):Sem Next).run P w = _
 rw [hc,hi.val z2]
 refine ek ?_
 obtain ⟨hu,i,iM,hs⟩:=TY.tL ht
 subst hn
 simp [Instr.indexAt,Instr.sureAddr,asIntOf,run_underlying hu,hm,run_sizeOf iM,hs,iz]
end
end Go.AW
namespace Go.AW
open Go
section
variable {P:Program} {N:fA} {st:St} {ops:Array Oper} {d:Nat} {ty:TypeId} {pos:String} {af:Array Edge} {K:St -> Prop}
def SG(G:Ctx)(w:World):Prop:=(∀ b,G.K b -> w.heap[b]? = G.w0.heap[b]?) /\ ∀ b i v,G.φ0 b i = some v -> w.cell? ⟨b,i,none⟩ = some v
theorem cI.sg{G:Ctx}{a:Act}{w:World}(h:cI G st a w):SG G w:=by
  obtain ⟨E,RR,rfl,hi⟩:=h
  exact ⟨hi.ai,fun b i v hv=>hi.ox b i v (hi.φ0 b i v hv)⟩
def mF(G:Ctx)(E:Env)(L:List Nat)(T:Nat -> List Nat)(F':List Nat):Ctx:=⟨fun b=>G.K b \/ ∃ o,o ∈ L /\ b ∈ T o,E.w,E.φ,E.β,⟨G.fn.n,F'⟩,G.ds⟩
def dg(P:Program)(N:fA)(ops:Array Oper)(n:Nat)(ag:Array Bool)(st:St)(K:St -> Prop):Prop :=
  ∀ G:Ctx,G.fn = N -> ∀ a w,cI G st a w -> wpAnyH P .any ops (fun e a w=>e = .normal /\ ∃ ba,K ba /\ cI G ba a w) (SG G) n ag a w
def cb(P:Program)(N:fA)(L F':List Nat)(ops:Array Oper)(n:Nat)(ag:Array Bool)(st:St)(K:St -> Prop):Prop :=
  ∀ G : Ctx, G.fn = N → ∀ E RR a (T : Nat → List Nat), (∀ o ∈ L, RR (.obj o) = T o) → Inv G E RR st a →
    wpAnyH P .any ops (fun e a w=>e = .normal /\ ∃ ba,K ba /\ cI G ba a w) (SG (mF G E L T F')) n ag a E.w
theorem Inv.J1{G:Ctx}{E:Env}{RR:Own -> List Nat}{a:Act}(hi:Inv G E RR st a)(L:List Nat)(T:Nat -> List Nat)(F':List Nat):SG (mF G E L T F') E.w:=⟨fun _ _=>rfl,hi.ox⟩
theorem cb.blind{L F' : List Nat}{n : Nat}{ag : Array Bool}(i : Nat){op : Op}{x : X}(ho : ops[i]? = some ⟨some d, op, ty, pos, af, none⟩)
    (hB:(Region.noSelect ops && Region.free .any ops ag i && (Region.ready .any ops ag).contains i) = true) (hy:ax P N st ⟨some d,op,ty,pos,af,none⟩ x) (hd:d < N.n)
    (k:cb P N L F' ops n (ag.setIfInBounds i true) (st.put d x) K):cb P N L F' ops (n + 1) ag st K:=by
  intro G hn E RR a T hT hi
  obtain ⟨u,hr,hx⟩:=hy G E RR a hn hi
  simp only [Bool.and_eq_true] at hB
  refine wpAnyH_take (v:=u) ho hB.1.1 hB.1.2 hB.2 ?_ (.inl ⟨by simp [Region.wanted],fun w _=>hr w⟩) (hi.J1 L T F') (k G hn E _ _ T ?_ (hi.iK (hn ▸ hd) hx))
  · intro c a w h
    cases h.1
  · intro o ho
    have:=hT o ho
    simpa [gg] using this
def ym(L : List Nat) : X → Bool
  | .fp ..=>true
  | .ptr o ..=>L.elem o
  | _=>false
theorem Inv.held{G : Ctx}{E : Env}{RR : Own → List Nat}{a : Act}{L F' : List Nat}{T : Nat → List Nat}(hi : Inv G E RR st a)(hT : ∀ o ∈ L, RR (.obj o) = T o){p : X}{c : Value}{R : List Nat}{row : List X}
    (hp:RX E p c R) (hr:rowAt st p = some row) (hL:ym L p = true) :
    ∃ b off,c = .pointer (some ⟨b,off + my p,none⟩) /\ ∀ w,SG (mF G E L T F') w -> ∀ j,j < row.length -> w.cell? ⟨b,off + j,none⟩ = E.w.cell? ⟨b,off + j,none⟩:=by
  cases p with
  | fp row' k' =>
    simp only [rowAt,Option.some.injEq] at hr
    subst hr
    simp only [RX] at hp
    obtain ⟨_,b,off,hc,hf⟩:=hp
    refine ⟨b,off,hc,fun w hw j hj=>?_⟩
    obtain ⟨vs,hl,hv,hx⟩:=RF.cells hf
    obtain ⟨v,XB⟩:∃ v,vs[j]? = some v:=⟨vs[j]'om,List.getElem?_eq_getElem om⟩
    have h1:=hv j v XB
    rw [hi.ox _ _ _ h1]
    exact hw.2 _ _ _ h1
  | ptr o s i k' =>
    simp only [RX] at hp
    obtain ⟨_,B,hB,hc⟩:=hp
    have LZ:o ∈ L:=List.elem_iff.1 hL
    have SJ:=hT o LZ
    have hb:B.b ∈ T o:=by
      simp only [rowAt] at hr
      split at hr
      · rename_i xs ho
        have h0:=hi.aG o _ ho
        simp only [dR] at h0
        obtain ⟨_,B',cs,ty,iL,hw,_,_,jX,hR⟩:=h0
        rw [hB] at iL
        obtain rfl:=Option.some.inj iL
        rw [<- SJ,hR]; simp
      · rename_i s' rs ho
        have h0:=hi.aG o _ ho
        simp only [dR] at h0
        obtain ⟨hu,h0⟩:=h0
        rcases h0 with ⟨h0,_⟩ | ⟨B',cs,ty,R',iL,hw,_,_,_,_,hR⟩
        · rw [hB] at h0; cases h0
        · rw [hB] at iL
          obtain rfl:=Option.some.inj iL
          rw [<- SJ,hR]; simp
      · rename_i ho
        have h0:=hi.aG o _ ho
        simp only [dR] at h0
        obtain ⟨_,B',cs,ty,R',u,iL,hw,_,_,_,_,hR,_⟩:=h0
        rw [hB] at iL
        obtain rfl:=Option.some.inj iL
        rw [<- SJ,hR]; simp
      · cases hr
    refine ⟨B.b,B.off + i * s,by rw [hc]; simp [my,Nat.add_assoc],fun w hw j _=>?_⟩
    have:=hw.1 B.b (.inr ⟨o,LZ,hb⟩)
    unfold World.cell?
    simp only [mF] at this
    rw [this]
  | _=>cases hL
theorem tI{b b' o o' k:Nat}(h:Value.pointer (some ⟨b,o + k,none⟩) = Value.pointer (some ⟨b',o' + k,none⟩)):b = b' /\ o = o':=by
  simp only [Value.pointer.injEq,Option.some.injEq,Addr.mk.injEq] at h
  omega
theorem cb.load{L F' : List Nat}{n : Nat}{ag : Array Bool}(i : Nat){t : TypeId}{x : Operand}{p y : X}{row : List X}(ho : ops[i]? = some ⟨some d, .load t x, ty, pos, af, none⟩)
    (hB:(Region.noSelect ops && Region.free .any ops ag i && (Region.ready .any ops ag).contains i) = true) (ht:TY.shape P t = some none) (hx:bV st x = some p) (hL:ym L p = true) (hr:rowAt st p = some row)
    (hy:row[my p]? = some y) (hf:y.free = true) (hd:d < N.n)
    (k:cb P N L F' ops n (ag.setIfInBounds i true) (st.put d y) K):cb P N L F' ops (n + 1) ag st K:=by
  intro G hn E RR a T hT hi
  obtain ⟨R,hp⟩:=hi.eval hx
  obtain ⟨b,off,hc,j3⟩:=hi.behind hp hr
  obtain ⟨b',tO,qY,pT⟩:=hi.held (F':=F') hT hp hr hL
  obtain ⟨rfl,rfl⟩:=tI (hc.symm.trans qY)
  have hk:my p < row.length:=by
    rcases Nat.lt_or_ge (my p) row.length with h' | h'
    · exact h'
    · simp [List.getElem?_eq_none h'] at hy
  obtain ⟨vs,R',hl,hv,gQ⟩:=j3 (my p) 1 om
  rw [getElem?_drop_take_one hy] at gQ
  simp only [bA] at gQ
  obtain ⟨c,dv,R₁,R₂,JF,_,h1,⟨rfl,rfl⟩,rfl⟩:=gQ
  subst JF
  have h0:=RX.free hf h1
  subst h0
  simp only [Bool.and_eq_true] at hB
  refine wpAnyH_take (v:=c) ho hB.1.1 hB.1.2 hB.2 ?_ (.inl ⟨by simp [Region.wanted],fun w hw=>?_⟩) (hi.J1 L T F') (k G hn E _ _ T ?_ (hi.iK (hn ▸ hd) h1))
  · intro c a w h
    cases h.1
  · show (do let z <- Instr.loadAt t (a.eval x); pure (Next.value z):Sem Next).run P w = _
    rw [hc]
    refine ek ?_
    have j4:=hv 0 c rfl
    simp only [Instr.loadAt,Instr.sureAddr,loadVar,Sem.run_bind,Sem.run_pure,Result.andThen_ok,(TY.l5 ht w).1]
    simp only [Nat.add_zero] at j4
    rw [<- pT w hw _ hk] at j4
    simp [j4]
  · intro o ho
    have:=hT o ho
    simpa [gg] using this
theorem cb.fW{L F' : List Nat}{n : Nat}{ag : Array Bool}(i : Nat){t : TypeId}{x : Operand}{p : X}{row : List X}{m : Nat}{ys : List X}(ho : ops[i]? = some ⟨some d, .load t x, ty, pos, af, none⟩)
    (hB:(Region.noSelect ops && Region.free .any ops ag i && (Region.ready .any ops ag).contains i) = true) (ht:TY.shape P t = some (some m)) (hx:bV st x = some p) (hL:ym L p = true) (hr:rowAt st p = some row)
    (hm:my p + m <= row.length) (Cm:(row.drop (my p)).take m = ys) (hf:X.b6 ys = true) (hd:d < N.n)
    (k:cb P N L F' ops n (ag.setIfInBounds i true) (st.put d (.agg ys)) K):cb P N L F' ops (n + 1) ag st K:=by
  intro G hn E RR a T hT hi
  obtain ⟨R,hp⟩:=hi.eval hx
  obtain ⟨b,off,hc,j3⟩:=hi.behind hp hr
  obtain ⟨b',tO,qY,pT⟩:=hi.held (F':=F') hT hp hr hL
  obtain ⟨rfl,rfl⟩:=tI (hc.symm.trans qY)
  obtain ⟨vs,R',hl,hv,gQ⟩:=j3 (my p) m hm
  rw [Cm] at gQ
  have h0:=bA.free hf gQ
  subst h0
  simp only [Bool.and_eq_true] at hB
  refine wpAnyH_take (v:=.agg vs.toArray) ho hB.1.1 hB.1.2 hB.2 ?_ (.inl ⟨by simp [Region.wanted],fun w hw=>?_⟩) (hi.J1 L T F') (k G hn E _ _ T ?_ (hi.iK (hn ▸ hd) (by simp only [RX]; exact ⟨_,rfl,gQ⟩)))
  · intro c a w h
    cases h.1
  · show (do let z <- Instr.loadAt t (a.eval x); pure (Next.value z):Sem Next).run P w = _
    rw [hc]
    refine ek ?_
    obtain ⟨h1,h2⟩:=TY.nz ht w
    have h3:(loadCells ⟨b,off + my p,none⟩ m).run P w = .ok vs.toArray w:=by
      rw [<- hl]
      refine run_loadCells_list (w:=w) _ vs fun j v hj=>?_
      have oy:j < vs.length:=(List.getElem?_eq_some_iff.1 hj).1
      rw [iz,Nat.add_assoc,pT w hw _ om]; exact hv j v hj
    simp only [Instr.loadAt,Instr.sureAddr,loadVar,Sem.run_bind,Sem.run_pure,Result.andThen_ok,h1,if_true,h2,h3]
  · intro o ho
    have:=hT o ho
    simpa [gg] using this
def St.back(st : St) : List Nat → List (Nat × Obj) → List (Nat × Obj)
  | [],r=>r
  | o :: L,r=>match look st.aG o with
    | some ob=>(o,ob) :: st.back L r
    | none=>st.back L r
theorem we(st : St){r : List (Nat × Obj)}{q : Nat}{x : Obj} : ∀ {L : List Nat}, (∀ o ∈ L, ∃ ob, look st.aG o = some ob) → look (st.back L r) q = some x → (q ∈ L ∧ look st.aG q = some x) ∨ (q ∉ L ∧ look r q = some x)
  | [],_,h=>.inr ⟨by simp,h⟩
  | o :: L,hL,h=>by
    obtain ⟨ob,aZ⟩:=hL o (by simp)
    simp only [St.back,aZ,look] at h
    cases hb:Nat.beq o q with
    | true =>
      have:=Nat.eq_of_beq_eq_true hb
      subst this
      simp only [hb,cond_true,Option.some.injEq] at h
      exact .inl ⟨by simp,by rw [aZ,h]⟩
    | false =>
      simp only [hb,cond_false] at h
      have fN:q ≠ o:=Ne.symm (Nat.ne_of_beq_eq_false hb)
      rcases we st (fun o ho=>hL o (List.mem_cons_of_mem _ ho)) h with ⟨h1,h2⟩ | ⟨h1,h2⟩
      · exact .inl ⟨List.mem_cons_of_mem _ h1,h2⟩
      · exact .inr ⟨by simp [fN,h1],h2⟩
def cv(st:St)(L F':List Nat):Prop:=∀ o ∈ L,∃ ob,look st.aG o = some ob /\ ∀ q,ob.ct q = true -> F'.elem q = true
theorem mF.down{G : Ctx}{E : Env}{RR : Own → List Nat}{a : Act}{L F' : List Nat}{T : Nat → List Nat}(hi : Inv G E RR st a)(hT : ∀ o ∈ L, RR (.obj o) = T o){Ec : St}(hle : Le st Ec)(SK : ∀ o ∈ L, look Ec.aG o = none) :
    cI (mF G E L T F') Ec a E.w:=by
  refine ⟨E,fun p=>match p with | .obj o=>if o ∈ L then [] else RR (.obj o) | p=>RR p,rfl,?_⟩
  have sub:∀ p b,b ∈ (match p with | .obj o=>if o ∈ L then [] else RR (.obj o) | p=>RR p:List Nat) -> b ∈ RR p /\ ∀ o,p = .obj o -> o ∉ L:=by
    intro p b h
    cases p with
    | obj o =>
      by_cases hL:o ∈ L
      · simp [hL] at h
      · simp only [hL,if_false] at h
        exact ⟨h,fun q hq=>by cases hq; exact hL⟩
    | slot s=>exact ⟨h,fun q hq=>by cases hq⟩
  exact {
    ox:=hi.ox
    aF:=fun s x hx=>hi.aF s x (hle.1 s x hx)
    aG:=fun o ob ho=>by
      by_cases hL:o ∈ L
      · rw [SK o hL] at ho; cases ho
      · simp only [hL,if_false]; exact hi.aG o ob (hle.2 o ob ho)
    nodup:=fun p=>by
      cases p with
      | obj o =>
        by_cases hL:o ∈ L
        · simp [hL]
        · simp only [hL,if_false]; exact hi.nodup _
      | slot s=>exact hi.nodup _
    apart:=fun p q ny b hb iy=>hi.apart p q ny b (sub p b hb).1 (sub q b iy).1
    own:=fun p b hb=>by
      obtain ⟨h1,h2⟩:=sub p b hb
      refine ⟨(hi.own p b h1).1,fun xe=>?_⟩
      rcases (xe:G.K b \/ ∃ o,o ∈ L /\ b ∈ T o) with h | ⟨o,ho,Ml⟩
      · exact (hi.own p b h1).2 h
      · rw [<- hT o ho] at Ml
        have fN:p ≠ .obj o:=fun e=>h2 o e ho
        exact hi.apart p (.obj o) fN b h1 Ml
    ai:=fun _ _=>rfl
    size:=Nat.le_refl _
    small:=fun b xe=>by
      rcases (xe:G.K b \/ ∃ o,o ∈ L /\ b ∈ T o) with h | ⟨o,ho,Ml⟩
      · exact Nat.lt_of_lt_of_le (hi.small b h) hi.size
      · rw [<- hT o ho] at Ml
        exact (hi.own _ b Ml).1
    os:=rfl
    tape:=rfl
    output:=rfl
    φ0:=fun _ _ _ h=>h
    grow:=fun _ _ _ h=>.inl h
    fixed:=fun _ _=>rfl
    tmps:=hi.tmps
    defers:=hi.defers }
theorem mF.up{G : Ctx}{E : Env}{RR : Own → List Nat}{a : Act}{L F' : List Nat}{T : Nat → List Nat}(hi : Inv G E RR st a)(hT : ∀ o ∈ L, RR (.obj o) = T o)(hF : ∀ o, G.fn.F.elem o = true → F'.elem o = true)(KV : ∀ o ∈ L, F'.elem o = true)
    (aZ:cv st L F') {ba:St} {a':Act} {w':World} (h:cI (mF G E L T F') ba a' w'):cI G ⟨ba.aF,st.back L ba.aG⟩ a' w':=by
  obtain ⟨E',gG,rfl,hj⟩:=h
  have IE:∀ {o b},o ∈ L -> b ∈ RR (.obj o) -> (mF G E L T F').K b:=fun ho hb=>.inr ⟨_,ho,by rw [<- hT _ ho]; exact hb⟩
  have sub:∀ p b,b ∈ (match p with | .obj o=>if o ∈ L then RR (.obj o) else gG (.obj o) | p=>gG p:List Nat) -> (∃ o,o ∈ L /\ p = .obj o /\ b ∈ RR p) \/ ((∀ o,p = .obj o -> o ∉ L) /\ b ∈ gG p):=by
    intro p b h
    cases p with
    | obj o =>
      by_cases hL:o ∈ L
      · simp only [hL,if_true] at h
        exact .inl ⟨o,hL,rfl,h⟩
      · simp only [hL,if_false] at h
        exact .inr ⟨fun q hq=>by cases hq; exact hL,h⟩
    | slot s=>exact .inr ⟨fun q hq=>(by cases hq),h⟩
  refine ⟨E',fun p=>match p with | .obj o=>if o ∈ L then RR (.obj o) else gG (.obj o) | p=>gG p,rfl,?_⟩
  exact {
    ox:=hj.ox
    aF:=fun s x hx=>hj.aF s x hx
    aG:=fun o ob ho=>by
      rcases we st (fun o ho=>(aZ o ho).imp fun _ h=>h.1) ho with ⟨h1,h2⟩ | ⟨h1,h2⟩
      · simp only [h1,if_true]
        obtain ⟨yJ,Pe,Hn⟩:=aZ o h1
        rw [h2] at Pe
        obtain rfl:=Option.some.inj Pe
        refine dR.mono ⟨hj.φ0,fun b hb=>⟨hj.ai b (IE h1 hb),fun hn i=>?_⟩⟩ (hj.fixed o (KV o h1)) (fun q hq=>hj.fixed q (Hn q hq)) (hi.aG o ob h2)
        cases hφ:E'.φ b i with
        | none=>rfl
        | some v =>
          rcases hj.grow b i v hφ with h3 | h3
          · have h4:=hn i
            change E.φ b i = some v at h3
            rw [h4] at h3; cases h3
          · exact absurd (IE h1 hb) h3
      · simp only [h1,if_false]; exact hj.aG o ob h2
    nodup:=fun p=>by
      cases p with
      | obj o =>
        by_cases hL:o ∈ L
        · simp only [hL,if_true]; exact hi.nodup _
        · simp only [hL,if_false]; exact hj.nodup _
      | slot s=>exact hj.nodup _
    apart:=fun p q ny b hb iy=>by
      rcases sub p b hb with ⟨o,ho,rfl,h1⟩ | ⟨_,h1⟩ <;> rcases sub q b iy with ⟨o',nv,rfl,h2⟩ | ⟨_,h2⟩
      · exact hi.apart _ _ ny b h1 h2
      · exact (hj.own _ b h2).2 (IE ho h1)
      · exact (hj.own _ b h1).2 (IE nv h2)
      · exact hj.apart _ _ ny b h1 h2
    own:=fun p b hb=>by
      rcases sub p b hb with ⟨o,ho,rfl,h1⟩ | ⟨_,h1⟩
      · exact ⟨Nat.lt_of_lt_of_le (hi.own _ b h1).1 hj.size,(hi.own _ b h1).2⟩
      · exact ⟨(hj.own _ b h1).1,fun hk=>(hj.own _ b h1).2 (.inl hk)⟩
    ai:=fun b hb=>(hj.ai b (.inl hb)).trans (hi.ai b hb)
    size:=Nat.le_trans hi.size hj.size
    small:=hi.small
    os:=hj.os.trans hi.os
    tape:=hj.tape.trans hi.tape
    output:=hj.output.trans hi.output
    φ0:=fun b i v h=>hj.φ0 b i v (hi.φ0 b i v h)
    grow:=fun b i v h=>by
      rcases hj.grow b i v h with h1 | h1
      · exact hi.grow b i v h1
      · exact .inr fun hk=>h1 (.inl hk)
    fixed:=fun o ho=>(hj.fixed o (hF o ho)).trans (hi.fixed o ho)
    tmps:=hj.tmps
    defers:=hj.defers }
theorem qK{Q1 Q2:Exit -> Act -> World -> Prop}{K1 K2:Act -> World -> Prop}{j:Nat}{a:Act}{w:World}(hQ:∀ e a w,e ≠ .normal -> Q1 e a w -> False)(hK:∀ a w,K1 a w -> K2 a w)(h:wpOp P ops Q1 j K1 a w):wpOp P ops Q2 j K2 a w:=by
  unfold wpOp at *
  cases ho:ops[j]? with
  | none=>simp only [ho] at h ⊢; first | exact hK _ _ h | exact h
  | some o =>
    simp only [ho] at *
    split
    · rename_i hw
      simp only [hw,if_true] at h
      rcases h with h | ⟨_,hl⟩
      · refine .inl ?_
        unfold Oper.wp at *
        generalize (execOp a.eval o).run P w = r at *
        cases r with
        | ok nx w' =>
          cases nx <;> simp only [Oper.upon] at h ⊢ <;> first
            | exact hK _ _ h
            | exact Calls.mono h (fun e Vp he=>by
                cases e with
                | returned u=>exact hK _ _ he
                | panicked c=>exact (hQ _ _ _ (by simp) he).elim
                | outgrown=>exact (let ⟨_,_,h'⟩:=he; hQ _ _ _ (by simp) h').elim)
            | exact Rows.mono h (fun _ _ he=>hK _ _ he)
        | halt x w'=>cases x <;> simp only [Oper.upon] at h ⊢ <;> first | exact (hQ _ _ _ (by simp) h).elim | exact (let ⟨_,_,h'⟩:=h; hQ _ _ _ (by simp) h').elim | exact h
      · obtain ⟨_,_,h'⟩:=hl
        exact (hQ _ _ _ (by simp) h').elim
    · rename_i hw
      simp only [hw] at h
      exact hK _ _ h
theorem sX{md : Region.Mode}{S : World → Prop}{Q1 Q2 : Exit → Act → World → Prop}(hQ : ∀ e a w, e ≠ .normal → Q1 e a w → False)(hN : ∀ a w, Q1 .normal a w → Q2 .normal a w) :
    ∀ (n:Nat) (ag:Array Bool) (a:Act) (w:World),wpAnyH P md ops Q1 S n ag a w -> wpAnyH P md ops Q2 S n ag a w
  | 0,_,_,_,h=>⟨h.1,hN _ _ h.2⟩
  | n + 1,_,_,_,h=>⟨fun h0=>hN _ _ (h.1 h0),fun i hi=>qK hQ (fun a w h'=>⟨h'.1,sX hQ hN n _ a w h'.2⟩) (h.2 i hi)⟩
theorem cb.go{L F' : List Nat}{n : Nat}{ag : Array Bool}(Ec : St)(hle : Le st Ec)(SK : ∀ o ∈ L, look Ec.aG o = none)(hF : ∀ o, N.F.elem o = true → F'.elem o = true)(KV : ∀ o ∈ L, F'.elem o = true)
    (aZ:cv st L F') (k:dg P ⟨N.n,F'⟩ ops n ag Ec (fun ba=>K ⟨ba.aF,st.back L ba.aG⟩)):cb P N L F' ops n ag st K:=by
  intro G hn E RR a T hT hi
  refine sX (fun e a w he h=>he h.1) ?_ n ag a E.w (k (mF G E L T F') (by simp [mF,hn]) a E.w (mF.down hi hT hle SK))
  rintro a' w' ⟨_,ba,hk,hh⟩
  exact ⟨rfl,_,hk,mF.up hi hT (by rw [hn]; exact hF) KV aZ hh⟩
theorem dg.step{n : Nat}{ag : Array Bool}(j : Nat){o : Oper}(ho : ops[j]? = some o)
    (k:aU P N ops [o] st (fun e ba=>e = .normal /\ dg P N ops n (ag.setIfInBounds j true) ba K)) (G:Ctx) (hn:G.fn = N) (a:Act) (w:World) (hh:cI G st a w) :
    wpOp P ops (fun e a w=>e = .normal /\ ∃ ba,K ba /\ cI G ba a w) j (fun a' w'=>SG G w' /\ wpAnyH P .any ops (fun e a w=>e = .normal /\ ∃ ba,K ba /\ cI G ba a w) (SG G) n (ag.setIfInBounds j true) a' w') a w:=by
  have hk:=k G hn a w hh
  have key : wpOp P ops (fun e a w => od G (fun e ba => e = .normal ∧ dg P N ops n (ag.setIfInBounds j true) ba K) e a w) j
      (fun a w=>od G (fun e ba=>e = .normal /\ dg P N ops n (ag.setIfInBounds j true) ba K) .normal a w) a w:=by
    unfold wpOp; simp only [ho]; exact hk
  refine qK ?_ ?_ key
  · rintro e a w he ⟨ba,_,h,_⟩
    exact he h
  · rintro a w ⟨ba,iI,_,Bh⟩
    exact ⟨iI.sg,Bh G hn a w iI⟩
theorem dg.one{n : Nat}{ag : Array Bool}(i : Nat){o : Oper}(ho : ops[i]? = some o)(hr : (Region.ready .any ops ag == [i]) = true)
    (k:aU P N ops [o] st (fun e ba=>e = .normal /\ dg P N ops n (ag.setIfInBounds i true) ba K)):dg P N ops (n + 1) ag st K:=by
  intro G hn a w hh
  refine wpAnyH_all (rs:=[i]) (by simpa using hr) (by simp) ?_
  intro j hj
  have:j = i:=by simpa using hj
  subst this
  exact dg.step j ho k G hn a w hh
theorem dg.two{n : Nat}{ag : Array Bool}(i i' : Nat){o o' : Oper}(ho : ops[i]? = some o)(nv : ops[i']? = some o')(hr : (Region.ready .any ops ag == [i, i']) = true)
    (k:aU P N ops [o] st (fun e ba=>e = .normal /\ dg P N ops n (ag.setIfInBounds i true) ba K))
    (k':aU P N ops [o'] st (fun e ba=>e = .normal /\ dg P N ops n (ag.setIfInBounds i' true) ba K)):dg P N ops (n + 1) ag st K:=by
  intro G hn a w hh
  refine wpAnyH_all (rs:=[i,i']) (by simpa using hr) (by simp) ?_
  intro j hj
  simp only [List.mem_cons,List.not_mem_nil,or_false] at hj
  rcases hj with rfl | rfl
  · exact dg.step j ho k G hn a w hh
  · exact dg.step j nv k' G hn a w hh
theorem dg.blind{n : Nat}{ag : Array Bool}(i : Nat){op : Op}{x : X}(ho : ops[i]? = some ⟨some d, op, ty, pos, af, none⟩)
    (hB:(Region.noSelect ops && Region.free .any ops ag i && (Region.ready .any ops ag).contains i) = true) (hy:ax P N st ⟨some d,op,ty,pos,af,none⟩ x) (hd:d < N.n)
    (k:dg P N ops n (ag.setIfInBounds i true) (st.put d x) K):dg P N ops (n + 1) ag st K:=by
  intro G hn a w hh
  have hS:=hh.sg
  obtain ⟨E,RR,rfl,hi⟩:=hh
  obtain ⟨u,hr,hx⟩:=hy G E RR a hn hi
  simp only [Bool.and_eq_true] at hB
  refine wpAnyH_take (v:=u) ho hB.1.1 hB.1.2 hB.2 ?_ (.inl ⟨by simp [Region.wanted],fun w _=>hr w⟩) hS (k G hn _ _ ⟨E,_,rfl,hi.iK (hn ▸ hd) hx⟩)
  intro c a w h
  cases h.1
theorem dg.done{n:Nat}{ag:Array Bool}(hr:(Region.ready .any ops ag).isEmpty = true)(h:K st):dg P N ops n ag st K :=
  fun _ _ _ _ hh=>wpAnyH_done (by simpa using hr) ⟨rfl,st,h,hh⟩ n
theorem dA.jh(L F':List Nat){Q:Exit -> St -> Prop}{id:Nat}(hm:P.follows .mixedOrders = true)(h:cb P N L F' ops ops.size (Array.replicate ops.size false) st (fun ba=>Q .normal ba)):dA P N (.region id ops true) st Q:=by
  intro G hn a w hh
  obtain ⟨E,RR,hw,hi⟩:=hh.drew
  refine wp_mono (wp_region_held (S:=SG (mF G E L (fun o=>RR (.obj o)) F')) hm (hw ▸ h G hn E RR a _ (fun _ _=>rfl) hi)) ?_
  rintro e a w ⟨rfl,ba,hk,iI⟩
  exact ⟨ba,iI,hk⟩
theorem js{L : List Nat}{q : Nat}{x : Obj} : ∀ {l : List (Nat × Obj)}, look (l.filter fun p => !L.elem p.1) q = some x → look l q = some x ∧ q ∉ L
  | [],h=>by simp [look] at h
  | (o,ob) :: r,h=>by
    rw [List.filter_cons] at h
    cases hL:L.elem o with
    | true =>
      simp only [hL,Bool.not_true,Bool.false_eq_true,if_false] at h
      obtain ⟨h1,h2⟩:=js h
      refine ⟨?_,h2⟩
      have fN:Nat.beq o q = false:=by
        cases hb:Nat.beq o q with
        | false=>rfl
        | true =>
          have:=Nat.eq_of_beq_eq_true hb
          subst this
          exact absurd (List.elem_iff.1 hL) h2
      simp only [look,fN,cond_false]; exact h1
    | false =>
      simp only [hL,Bool.not_false,if_true,look] at h ⊢
      cases hb:Nat.beq o q with
      | true =>
        have:=Nat.eq_of_beq_eq_true hb
        subst this
        simp only [hb,cond_true] at h ⊢
        exact ⟨h,fun hm=>by rw [List.elem_iff.2 hm] at hL; cases hL⟩
      | false =>
        simp only [hb,cond_false] at h ⊢
        exact js h
theorem dA.gq{Q:Exit -> St -> Prop}{id:Nat}(hm:P.follows .mixedOrders = true)(h:cb P N [] N.F ops ops.size (Array.replicate ops.size false) st (fun ba=>Q .normal ba)):dA P N (.region id ops true) st Q:=dA.jh [] N.F hm h
theorem Le.aG{st:St}{l:List (Nat × Obj)}(h:ie st.aG l):Le st ⟨st.aF,l⟩:=⟨fun _ _ h=>h,h⟩
theorem cv.nil{F':List Nat}:cv st [] F':=fun _ h=>by cases h
def ownNames : List X → List Nat
  | []=>[]
  | .ptr o .. :: r | .aN o .. :: r | .mref o :: r=>o :: ownNames r
  | .v _ :: r | .fz .. :: r | .no :: r | .fp .. :: r | .dK .. :: r=>ownNames r
  | _ :: r=>ownNames r
def Ca : List X → Bool
  | []=>true
  | .agg _ :: _ | .tup _ :: _ | .jQ .. :: _=>false
  | _ :: r=>Ca r
theorem mG{q : Nat} : ∀ {xs : List X}, Ca xs = true → X.ct q xs = true → q ∈ ownNames xs
  | [],_,h=>by simp [X.ct] at h
  | x :: r,hf,h=>by
    simp only [X.ct,Bool.or_eq_true] at h
    cases x <;> simp only [Ca, Bool.false_eq_true] at hf <;> simp only [ownNames, X.eM, Bool.false_eq_true, false_or, beq_iff_eq, List.mem_cons] at h ⊢ <;>
      first
        | exact mG hf h
        | (rcases h with h | h
           · first | exact .inl h.symm | exact .inl h | exact .inl (Nat.eq_of_beq_eq_true h).symm | exact .inl (Nat.eq_of_beq_eq_true h)
           · exact .inr (mG hf h))
theorem cv.cells{F' L:List Nat}{o:Nat}{xs:List X}(ho:look st.aG o = some (.cells xs))(hf:Ca xs = true)(hn:(ownNames xs).all (fun q=>F'.elem q) = true)(hL:cv st L F'):cv st (o :: L) F':=by
  intro p hp
  rcases List.mem_cons.1 hp with rfl | hp
  · exact ⟨_,ho,fun q hq=>List.all_eq_true.1 hn q (mG hf hq)⟩
  · exact hL p hp
theorem cv.hole{F' L:List Nat}{o i q s n:Nat}{rs:List (List X)}(ho:look st.aG o = some (.hole rs i q s n))(hq:F'.elem q = true)(hL:cv st L F'):cv st (o :: L) F':=by
  intro p hp
  rcases List.mem_cons.1 hp with rfl | hp
  · exact ⟨_,ho,fun x hx=>by have h1:=Nat.eq_of_beq_eq_true (show Nat.beq q x = true from hx); subst h1; exact hq⟩
  · exact hL p hp
theorem cv.rows{F' L:List Nat}{o s:Nat}{rs:List (List X)}(ho:look st.aG o = some (.rows s rs))(hL:cv st L F'):cv st (o :: L) F':=by
  intro p hp
  rcases List.mem_cons.1 hp with rfl | hp
  · exact ⟨_,ho,fun x hx=>by cases hx⟩
  · exact hL p hp
theorem cb.J2{L F' : List Nat}{n : Nat}{ag : Array Bool}(hF : N.F.all (fun o => F'.elem o) = true)(KV : L.all (fun o => F'.elem o) = true)
    (aZ:cv st L F') (k:dg P ⟨N.n,F'⟩ ops n ag ⟨st.aF,st.aG.filter fun p=>!L.elem p.1⟩ (fun ba=>K ⟨ba.aF,st.back L ba.aG⟩)):cb P N L F' ops n ag st K :=
  cb.go ⟨st.aF,st.aG.filter fun p=>!L.elem p.1⟩ ⟨fun _ _ h=>h,fun _ _ h=>(js h).1⟩ (fun o ho=>by
    have key:∀ x,look (st.aG.filter fun p=>!L.elem p.1) o ≠ some x:=fun x h=>absurd ho (js h).2
    show look (st.aG.filter fun p=>!L.elem p.1) o = none
    generalize look (st.aG.filter fun p=>!L.elem p.1) o = z at key
    cases z with
    | none=>rfl
    | some x=>exact absurd rfl (key x)) (fun o ho=>List.all_eq_true.1 hF o (List.elem_iff.1 ho)) (fun o ho=>List.all_eq_true.1 KV o ho) aZ k
theorem cb.yn{n:Nat}{ag:Array Bool}(k:dg P N ops n ag st K):cb P N [] N.F ops n ag st K :=
  cb.go st (Le.refl st) (fun _ h=>by cases h) (fun _ h=>h) (fun _ h=>by cases h) cv.nil k
end
end Go.AW
namespace Go.AW
open Go
section
variable {P:Program}
def Pf(P : Program)(pR : List ResultVar)(F : List Nat)(k : Nat)(Q : X → List Obj → Prop) : Exit → St → Prop
 | .normal,st | .ret,st=>∃ xs,lA P st pR = some xs /\ ∃ Is r aK,Sh ⟨1,F⟩ ⟨[(0,re xs)],st.aG⟩ Is /\ look Is.aF 0 = some r /\ lh Is.aG 0 k = some aK /\ Q r aK
 | _,_=>False
theorem aw.QH{f : FuncId}{fn : Func}{c : Code}{args : List X}{aG : List Obj}{F : List Nat}{Q : X → List Obj → Prop}{n : Nat}{pR : List ResultVar}(hf : P.funcs[f]? = some fn)(hb : fn.body = some c)(hn : fn.ntmps = n)(hr : fn.results.toList = pR)
  (jR:(j8 pR).Nodup) (hle:args.length <= n) (h:dA P ⟨n,F⟩ c ⟨dW 0 args,dW 0 aG⟩ (Pf P pR F aG.length Q)):aw P f args aG F Q:=by
 intro K E RR dB hi
 refine calls_of_wp hf hb ?_
 have te:dB.size = args.length:=hi.tmps
 have iJ:Inv (ra K E ⟨n,F⟩) E RR ⟨dW 0 args,dW 0 aG⟩ ⟨dB ++ Array.replicate (fn.ntmps - dB.size) undef,[]⟩:=by
  refine { hi with aF:=?_,tmps:=?_,defers:=rfl }
  ·intro s x hx
   have h0:=hi.aF s x hx
   have hs:s < dB.size:=by
    rw [te]
    have j2:look (dW 0 args) s = some x:=hx
    rw [ig] at j2
    rcases Nat.lt_or_ge s args.length with h' | h'
    ·exact h'
    ·simp [List.getElem?_eq_none h'] at j2
   have:(dB ++ Array.replicate (fn.ntmps - dB.size) undef).getD s undef = dB.getD s undef:=by
    simp only [Array.getD_eq_getD_getElem?,Array.getElem?_append_left hs]
   show RX E x ((dB ++ Array.replicate (fn.ntmps - dB.size) undef).getD s undef) (RR (.slot s))
   rw [this]; exact h0
  ·show (dB ++ Array.replicate (fn.ntmps - dB.size) undef).size = n
   simp; omega
 refine wp_mono (h (ra K E ⟨n,F⟩) rfl _ _ ⟨E,RR,rfl,iJ⟩) ?_
 rintro e a w ⟨st,⟨E',gG,rfl,h1⟩,hq⟩
 have key : (∃ xs, lA P st pR = some xs ∧ ∃ Is r aK, Sh ⟨1, F⟩ ⟨[(0, re xs)], st.aG⟩ Is ∧ look Is.aF 0 = some r ∧ lh Is.aG 0 aG.length = some aK ∧ Q r aK) → a.defers = [] ∧ ∃ v, (results fn a.tmps).run P E'.w = .ok v E'.w ∧
   ∃ v' r aK,Ending.returned v = .returned v' /\ Q r aK /\ aK.length = aG.length /\ ∃ ma tT,ma.w = E'.w /\ Inv (ra K E ⟨1,F⟩) ma tT ⟨[(0,r)],dW 0 aK⟩ ⟨#[v'],[]⟩:=by
  rintro ⟨xs,DT,Is,r2,aK,s7,Q3,mz,hQ⟩
  obtain ⟨hlen,DU⟩:=n6 mz
  have kE:∀ j,j < aG.length -> look Is.aG j = aK[j]?:=fun j hj=>by have:=DU j hj; rwa [Nat.zero_add] at this
  refine ⟨h1.defers,?_⟩
  obtain ⟨cs,R,j6,hx,Nn,Q4⟩:=w8 h1 DT jR
  have tU:(results fn a.tmps).run P E'.w = .ok (if h:cs.toArray.size = 1 then cs.toArray[0] else .tuple cs.toArray) E'.w:=by
   have e:results fn a.tmps = (do let vs <- fn.results.mapM (q8 a.tmps); Pure.pure (if h:vs.size = 1 then vs[0] else .tuple vs):Sem Value):=rfl
   rw [e,show fn.results = pR.toArray by rw [<- hr]]
   refine kD (u:=cs.toArray) ?_ rfl
   rw [List.mapM_toArray]
   simp only [Sem.run_map,j6]
   rfl
  refine ⟨_,tU,_,r2,aK,rfl,hQ,hlen,?_⟩
  have R8:RX E' (re xs) (if h:cs.toArray.size = 1 then cs.toArray[0] else .tuple cs.toArray) R:=by
   cases xs with
   | nil =>
    simp only [eT] at hx
    obtain ⟨rfl,rfl⟩:=hx
    simp only [re,RX]
    exact ⟨#[],by simp,by simp [eT]⟩
   | cons x xs =>
    cases xs with
    | nil =>
     simp only [eT] at hx
     obtain ⟨c,dv,R₁,R₂,rfl,h1,⟨rfl,rfl⟩,rfl⟩:=hx
     simpa [re] using h1
    | cons y ys =>
     have j2:=hx
     simp only [eT] at hx
     obtain ⟨c,dv,R₁,R₂,rfl,_,⟨c',JS,R₃,R₄,rfl,_⟩,_⟩:=hx
     simp only [re,RX]
     exact ⟨(c :: c' :: JS).toArray,by simp,by simpa using j2⟩
  let pH:Own -> List Nat:=fun p=>match p with
   | .slot s=>if s = 0 then R else []
   | .obj o=>gG (.obj o)
  have pG:∀ p b,b ∈ pH p -> ∃ q,b ∈ gG q /\ ((∃ o,p = .obj o /\ q = .obj o) \/ (p = .slot 0 /\ ∃ t,q = .slot t)):=by
   intro p b hb
   cases p with
   | slot s =>
    by_cases hs:s = 0
    ·subst hs
     simp only [pH,if_true] at hb
     obtain ⟨t,_,ht⟩:=Q4 b hb
     exact ⟨.slot t,ht,.inr ⟨rfl,t,rfl⟩⟩
    ·simp [pH,hs] at hb
   | obj o=>exact ⟨.obj o,hb,.inl ⟨o,rfl,rfl⟩⟩
  have h3:cI (ra K E ⟨1,F⟩) ⟨[(0,re xs)],st.aG⟩ ⟨#[if h:cs.toArray.size = 1 then cs.toArray[0] else .tuple cs.toArray],[]⟩ E'.w:=by
   refine ⟨E',pH,rfl,{ h1 with aF:=?_,aG:=?_,nodup:=?_,apart:=?_,own:=?_,tmps:=?_,defers:=rfl }⟩
   ·intro s x j2
    simp only [look] at j2
    cases xe:Nat.beq 0 s with
    | false=>simp [xe] at j2
    | true =>
     have:=Nat.eq_of_beq_eq_true xe
     subst this
     simp only [xe,cond_true,Option.some.injEq] at j2
     subst j2
     simpa [pH] using R8
   ·intro o ob ho
    exact h1.aG o ob ho
   ·intro p
    cases p with
    | slot s=>by_cases hs:s = 0 <;> simp [pH,hs,Nn]
    | obj o=>exact h1.nodup _
   ·intro p q ny b hb iy
    obtain ⟨p',IL,R9⟩:=pG p b hb
    obtain ⟨q',Cq,No⟩:=pG q b iy
    have fN:p' ≠ q':=by
     rcases R9 with ⟨o,rfl,rfl⟩ | ⟨rfl,t,rfl⟩
     ·rcases No with ⟨o',rfl,rfl⟩ | ⟨rfl,t',rfl⟩
      ·exact ny
      ·simp
     ·rcases No with ⟨o',rfl,rfl⟩ | ⟨rfl,t',rfl⟩
      ·simp
      ·exact absurd rfl ny
    exact h1.apart p' q' fN b IL Cq
   ·intro p b hb
    obtain ⟨q,Cq,_⟩:=pG p b hb
    exact h1.own q b Cq
   ·rfl
  obtain ⟨E2,XC,Ir,h2⟩:=s7 _ rfl _ _ h3
  refine ⟨E2,XC,Ir,{ h2 with aF:=?_,aG:=?_ }⟩
  ·intro s x j2
   simp only [look] at j2
   cases xe:Nat.beq 0 s with
   | false=>simp [xe] at j2
   | true =>
    have:=Nat.eq_of_beq_eq_true xe
    subst this
    simp only [xe,cond_true,Option.some.injEq] at j2
    subst j2
    exact h2.aF 0 _ Q3
  ·intro o ob ho
   have nv:look (dW 0 aK) o = some ob:=ho
   rw [ig] at nv
   have gP:o < aG.length:=by
    rcases Nat.lt_or_ge o aG.length with h' | h'
    ·exact h'
    ·rw [List.getElem?_eq_none om] at nv; cases nv
   exact h2.aG o ob (by rw [kE o gP]; exact nv)
 cases e with
 | normal=>exact key hq
 | ret=>exact key hq
 | _=>exact hq.elim
theorem Sh.then{N:fA}{a b c:St}(h1:Sh N a b)(h2:Sh N b c):Sh N a c:=fun G hn x w hh=>h2 G hn x w (h1 G hn x w hh)
end
end Go.AW
namespace Go.AW
open Go
section
variable {N:fA} {st:St} {d:Nat}
theorem Sh.kJ(k o : Nat){s n : Nat}{xs zs : List X}{rows : List (List X)}(hx : look st.aF d = some (.tup (.agg xs :: zs)))(hz : X.ct o zs = false)(hk : xs[k]? = some (.aN o s 0 n))(ho : look st.aG o = some (.rows s rows))(hl : n = rows.length)(hm : X.ct o (xs.set k .no) = false)(hF : N.F.elem o = false) :
  Sh N st (((st.kill o).dC o (.rows 0 [])).put d (.tup (.agg (xs.set k (.dK s rows)) :: zs))):=by
 intro G hn a w hh
 obtain ⟨E,RR,rfl,hi⟩:=hh
 subst hl
 have hv:=hi.aF d _ hx
 have aZ:=hi.aG o _ ho
 have jR:=hi.nodup (.obj o)
 have xz:=hi.nodup (.slot d)
 simp only [RX,eT] at hv
 obtain ⟨ts,RP,c1,Vk,R1,R2,XD,⟨cs,rfl,gQ⟩,Q0,hR12⟩:=hv
 simp only [dR] at aZ
 obtain ⟨hu,aZ⟩:=aZ
 have hβ:di G E { E with β:=fun q=>if q = o then none else E.β q } (fun _=>False) :=
  ⟨rfl,fun _ h=>h.elim,fun _ h=>h.elim,fun _ _ _=>rfl,Nat.le_refl _,rfl,rfl,rfl⟩
 have h4 := hi.l8 hβ (o := o) (ob := .rows 0 []) (R := []) (fun _ h => h.elim) (fun q hq => by simp [hq]) (fun h => by rw [hn, hF] at h; cases h)
  (by simp only [dR]; exact ⟨fun _ h=>(by cases h),.inl ⟨by simp,trivial,trivial⟩⟩) List.nodup_nil (fun _ h=>by cases h)
 have iA:∀ R',E.On { E with β:=fun q=>if q = o then none else E.β q } R':=fun R'=>⟨fun _ _ _ h=>h,fun _ _=>⟨rfl,fun h=>h⟩⟩
 obtain ⟨c,Ra,QI,Pg,Pa,Ph⟩:=bA.FF (E':={ E with β:=fun q=>if q = o then none else E.β q }) (y:=.dK s rows) (o:=o) (fun q hq=>by simp [hq]) rfl gQ hk (iA _) hm
 have yk:RR (.slot d) = Ra ++ (QI ++ R2):=by rw [hR12,Pg,List.append_assoc]
 have w5:∀ R',RX { E with β:=fun q=>if q = o then none else E.β q } (.dK s rows) c R' -> RX { E with β:=fun q=>if q = o then none else E.β q } (.tup (.agg (xs.set k (.dK s rows)) :: zs)) (a.tmps.getD d undef) (Ra ++ (R' ++ (QI ++ R2))):=by
  intro R' h'
  rw [RP]
  simp only [RX,eT]
  exact ⟨ts,rfl,.agg cs,Vk,Ra ++ (R' ++ QI),R2,XD,⟨cs,rfl,Ph R' h'⟩,eT.mono _ _ _ (iA _) (fun q hq=>by
   have fN:q ≠ o:=fun e=>by rw [e,hz] at hq; cases hq
   simp [fN]) Q0,by simp only [List.append_assoc]⟩
 generalize QI ++ R2 = Rb at yk w5
 simp only [RX] at Pa
 obtain ⟨_,base,cap,hc,cZ⟩:=Pa
 have MY:∃ R,RX { E with β:=fun q=>if q = o then none else E.β q } (.dK s rows) c R /\ R.Nodup /\ ∀ b ∈ R,b ∈ RR (.obj o):=by
  simp only [RX]
  rcases aZ with ⟨h1,h2,h3⟩ | ⟨B,cs,ty,R',hB,hw,hφ,lV,fP,jX,jd⟩
  ·rcases cZ with ⟨_,_,_,h5⟩ | ⟨B,hB,_⟩
   ·exact ⟨[],⟨hu,base,cap,hc,.inl ⟨h2,h5,rfl⟩⟩,List.nodup_nil,fun _ h=>by cases h⟩
   ·rw [h1] at hB; cases hB
  ·rcases cZ with ⟨h1,_⟩ | ⟨B',iL,z3,td,hb⟩
   ·rw [hB] at h1; cases h1
   ·rw [hB] at iL
    obtain rfl:=Option.some.inj iL
    rcases hb with hb | hb
    ·refine ⟨[],⟨hu,base,cap,hc,.inl ⟨List.eq_nil_of_length_eq_zero om,hb,rfl⟩⟩,List.nodup_nil,fun _ h=>by cases h⟩
    ·refine ⟨RR (.obj o),⟨hu,base,cap,hc,.inr ⟨B.b,B.off,cs,ty,R',by simpa using hb,hw,om,by rw [show cap = B.cap by omega]; exact fP,hφ,cG.mono _ _ _ _ (iA R') jX,jd⟩⟩,jR,fun _ h=>h⟩
 obtain ⟨R,rY,xx,GV⟩:=MY
 have xA:∀ b ∈ Ra ++ (R ++ Rb),b ∈ RR (.slot d) \/ b ∈ RR (.obj o):=by
  intro b hb
  rcases List.mem_append.1 hb with h | h
  ·exact .inl (by rw [yk]; exact List.mem_append.2 (.inl h))
  ·rcases List.mem_append.1 h with h | h
   ·exact .inr (GV b h)
   ·exact .inl (by rw [yk]; exact List.mem_append.2 (.inr h))
 have KS:∀ b ∈ RR (.slot d),b ∉ RR (.obj o):=fun b hb=>hi.apart (.slot d) (.obj o) (by simp) b hb
 rw [yk] at xz KS
 obtain ⟨m1,m2,m3⟩:=List.nodup_append.1 xz
 refine ⟨{ E with β:=fun q=>if q = o then none else E.β q },_,rfl,h4.relabel (d:=d) (R:=Ra ++ (R ++ Rb)) ?_ ?_ (fun c hc=>?_)⟩
 ·exact w5 R rY
 ·rw [List.nodup_append,List.nodup_append]
  refine ⟨m1,⟨xx,m2,fun x hx y hy e=>KS y (List.mem_append.2 (.inr hy)) (by rw [<- e]; exact GV x hx)⟩,fun x hx y hy e=>?_⟩
  rcases List.mem_append.1 hy with h | h
  ·exact KS x (List.mem_append.2 (.inl hx)) (by rw [e]; exact GV y h)
  ·exact m3 x hx y h e
 ·have mQ:c < E.w.heap.size /\ ¬ G.K c:=by rcases xA c hc with h | h <;> exact hi.own _ _ h
  refine ⟨mQ.1,mQ.2,fun p hp lW=>?_⟩
  have key:∀ q,q ≠ .slot d -> q ≠ .obj o -> c ∉ RR q:=by
   intro q h1 h2 h3
   rcases xA c hc with h | h
   ·exact hi.apart q (.slot d) h1 c h3 h
   ·exact hi.apart q (.obj o) h2 c h3 h
  cases p with
  | obj q =>
   by_cases hq:q = o
   ·subst hq; simp [fh] at lW
   ·have:c ∈ RR (.obj q):=by simpa [fh,hq] using lW
    exact key (.obj q) (by simp) (by simpa using hq) this
  | slot q =>
   rcases je st RR o [] q with h | h
   ·rw [h] at lW; cases lW
   ·rw [h] at lW; exact key (.slot q) hp (by simp) lW
end
theorem Sh.wh{N : fA}{st : St}{d : Nat}(k o n : Nat){s : Nat}{xs : List X}{rows : List (List X)}(hx : look st.aF d = some (.agg xs))(hk : xs[k]? = some (.dK s rows))(hm : X.ct o (xs.set k .no) = false)(hF : N.F.elem o = false)(hn : n = rows.length) :
  Sh N st (((st.kill o).dC o (.rows s rows)).put d (.agg (xs.set k (.aN o s 0 n)))):=by subst hn; exact Sh.Pb k o hx hk hm hF
theorem dA.kK{P:Program}{N:fA}{st:St}{ops:Array Oper}(L F':List Nat)(J:St){Q:Exit -> St -> Prop}{id:Nat}(hm:P.follows .mixedOrders = true)(h:cb P N L F' ops ops.size (Array.replicate ops.size false) st (fun ba=>Le ba J))(k:Q .normal J):dA P N (.region id ops true) st Q:=by
 intro G hn a w hh
 obtain ⟨E,RR,hw,hi⟩:=hh.drew
 refine wp_mono (wp_region_held (S:=SG (mF G E L (fun o=>RR (.obj o)) F')) hm (hw ▸ h G hn E RR a _ (fun _ _=>rfl) hi)) ?_
 rintro e a w ⟨rfl,ba,hk,iI⟩
 exact ⟨J,hk.holds iI,k⟩
theorem dA.ea{P:Program}{N:fA}{st:St}{ops:Array Oper}(J:St){Q:Exit -> St -> Prop}{id:Nat}(hm:P.follows .mixedOrders = true)(h:cb P N [] N.F ops ops.size (Array.replicate ops.size false) st (fun ba=>Le ba J))(k:Q .normal J):dA P N (.region id ops true) st Q:=dA.kK [] N.F J hm h k
theorem yo(x:Nat):IntKind.u8.wrap (x:Int) = ((x % 256:Nat):Int):=by
 unfold IntKind.wrap
 simp only [IntKind.signed,IntKind.bits]
 simp
end Go.AW
namespace Go.AW
open Go
section
variable {P:Program} {ops:Array Oper} {Q:Exit -> Act -> World -> Prop} {md:Region.Mode} {S:World -> Prop}
def wpAnyL(P : Program)(md : Region.Mode)(ops : Array Oper)(Q : Exit → Act → World → Prop)(S : World → Prop)(LT : List Nat) : Nat → Array Bool → Act → World → Prop
 | 0,ag,a,w=>Region.ready md ops ag = [] /\ Q .normal a w
 | n + 1, ag, a, w => (Region.ready md ops ag = [] → Q .normal a w) ∧
   ∀ i ∈ Region.ready md ops ag,wpOp P ops Q i (fun a' w'=>(i ∈ LT \/ S w') /\ wpAnyL P md ops Q S LT n (ag.setIfInBounds i true) a' w') a w
theorem pX{LT : List Nat} : ∀ (n : Nat) (ag : Array Bool) (a : Act) (w : World), wpAnyL P md ops Q S LT n ag a w → wpAny P md ops Q n ag a w
 | 0,_,_,_,h=>h
 | n + 1,_,_,_,h=>⟨h.1,fun i hi=>wpOp_mono (fun a' w' h'=>pX n _ a' w' h'.2) (h.2 i hi)⟩
theorem wi{LT : List Nat} : ∀ (n : Nat) (ag : Array Bool) (a : Act) (w : World), (∀ j, ag.getD j true = false → j ∈ LT) → wpAny P md ops Q n ag a w → wpAnyL P md ops Q S LT n ag a w
 | 0,_,_,_,_,h=>h
 | n + 1,ag,_,_,hl,h=>⟨h.1,fun i hi=>wpOp_mono (fun a' w' h'=>⟨.inl (hl i (mem_ready.1 hi).1),wi n _ a' w' (fun j hj=>by
   refine hl j ?_
   by_cases QJ:i = j
   ·subst QJ; exact (mem_ready.1 hi).1
   ·rw [getD_set_ne true QJ] at hj; exact hj) h'⟩) (h.2 i hi)⟩
theorem wpAnyL_first{LT : List Nat}{i : Nat}{oi : Oper}{v : Value}(hi : ops[i]? = some oi)(Ej : ∀ (j : Nat) (o : Oper) cs b, ops[j]? = some o → o.op ≠ .select cs b)
  (hQ:∀ c a w,Q (.panic c) (a.put oi.dst v) w -> Q (.panic c) a w) (gP:∀ j ∈ LT,∀ oj,ops[j]? = some oj -> ∃ e ∈ oj.after,Region.binds md e = true /\ e.on = i) :
  ∀ (n : Nat) (ag : Array Bool) (a : Act) (w : World), (∀ j oj, ops[j]? = some oj → j ≠ i → ag.getD j true = false → (∀ e ∈ oj.after, Region.binds md e = true → e.on ≠ i) → oi.apart ops oj = true) →
   i ∈ Region.ready md ops ag -> YieldsIf P ops S oi v a -> S w -> wpAnyL P md ops Q S LT n (ag.setIfInBounds i true) (a.put oi.dst v) w -> wpAnyL P md ops Q S LT (n + 1) ag a w:=by
 intro n
 induction n with
 | zero =>
  intro ag a w _ hr hy hS H
  refine ⟨fun h=>(by rw [h] at hr; cases hr),fun j hj=>?_⟩
  by_cases yM:j = i
  ·subst yM; exact hy.wpOp hi hS ⟨.inr hS,H⟩
  ·have:=ready_mono hj yM
   rw [H.1] at this
   cases this
 | succ n ih =>
  intro ag a w mP hr hy hS H
  refine ⟨fun h=>(by rw [h] at hr; cases hr),fun j hj=>?_⟩
  by_cases yM:j = i
  ·subst yM; exact hy.wpOp hi hS ⟨.inr hS,H⟩
  ·have h1:=H.2 j (ready_mono hj yM)
   obtain ⟨Pj,oj,Dx,vp⟩:=mem_ready.1 hj
   have Hl:∀ e ∈ oj.after,Region.binds md e = true -> e.on ≠ i:=by
    intro e he hb heq
    have h3:=vp e he hb
    have h4:=(mem_ready.1 hr).1
    rw [heq] at h3
    rcases Nat.lt_or_ge i ag.size with h' | h'
    ·simp [h'] at h3 h4; rw [h3] at h4; cases h4
    ·simp [Array.getElem?_eq_none h'] at h3
   have oy:j ∉ LT:=fun hm=>by
    obtain ⟨e,he,hb,ho⟩:=gP j hm oj Dx
    exact Hl e he hb ho
   have h2:=wpOp_putIf Dx (mP j oj Dx yM Pj Hl) (fun cs b=>Ej i oi cs b hi) (fun cs b=>Ej j oj cs b Dx) hQ hy h1
   refine wpOp_mono (fun a' w' h3=>⟨h3.2.1,ih (ag.setIfInBounds j true) a' w' ?_ (ready_mono hr (Ne.symm yM)) h3.1 (h3.2.1.resolve_left oy) ?_⟩) h2
   ·intro k ok hk vj NA Nt
    refine mP k ok hk vj ?_ Nt
    by_cases vB:j = k
    ·subst vB; exact Pj
    ·rw [getD_set_ne true vB] at NA; exact NA
   ·rw [Array.setIfInBounds_comm _ _ yM]; exact h3.2.2
end
end Go.AW
namespace Go.AW
open Go
section
variable {P:Program} {N:fA} {st:St} {ops:Array Oper} {d:Nat} {ty:TypeId} {pos:String} {af:Array Edge} {K:St -> Prop}
def yp(ops:Array Oper)(LT:List Nat)(i:Nat):Bool:=LT.all fun j=>match ops[j]? with
 | some oj=>oj.after.toList.any fun e=>Region.binds .any e && e.on == i
 | none=>true
theorem mr{Q : Exit → Act → World → Prop}{S : World → Prop}{LT : List Nat}{i : Nat}{oi : Oper}{v : Value}{n : Nat}{ag : Array Bool}{a : Act}{w : World}(hi : ops[i]? = some oi)
  (hs:Region.noSelect ops = true) (hf:Region.free .any ops ag i = true) (hr:(Region.ready .any ops ag).contains i = true) (gP:yp ops LT i = true)
  (hQ:∀ c a w,Q (.panic c) (a.put oi.dst v) w -> Q (.panic c) a w) (hy:YieldsIf P ops S oi v a) (hS:S w)
  (h:wpAnyL P .any ops Q S LT n (ag.setIfInBounds i true) (a.put oi.dst v) w):wpAnyL P .any ops Q S LT (n + 1) ag a w :=
 wpAnyL_first hi (Region.noSelect_spec hs) hQ (fun j hj oj Dx=>by
  have h1:=List.all_eq_true.1 gP j hj
  simp only [Dx,List.any_eq_true,Bool.and_eq_true,beq_iff_eq,Array.mem_toList_iff] at h1
  exact h1) n ag a w (Region.free_spec hi hf) (by simpa using hr) hy hS h
theorem Ap{Q : Exit → Act → World → Prop}{S : World → Prop}{LT rs : List Nat}{n : Nat}{ag : Array Bool}{a : Act}{w : World}(hr : Region.ready .any ops ag = rs)(fN : rs ≠ [])
  (h:∀ i ∈ rs,wpOp P ops Q i (fun a' w'=>S w' /\ wpAnyL P .any ops Q S LT n (ag.setIfInBounds i true) a' w') a w):wpAnyL P .any ops Q S LT (n + 1) ag a w :=
 ⟨fun h0=>absurd (hr ▸ h0) fN,fun i hi=>wpOp_mono (fun _ _ h'=>⟨.inr h'.1,h'.2⟩) (h i (hr ▸ hi))⟩
def gI(P:Program)(N:fA)(LT:List Nat)(ops:Array Oper)(R:Nat -> Array Bool -> St -> Prop)(n:Nat)(ag:Array Bool)(st:St):Prop :=
 ∀ G : Ctx, G.fn = N → ∀ Q : Exit → Act → World → Prop, (∀ c a w, Q (.panic c) a w → False) →
  (∀ n' l' ba a' w',R n' l' ba -> cI G ba a' w' -> wpAnyL P .any ops Q (SG G) LT n' l' a' w') -> ∀ a w,cI G st a w -> wpAnyL P .any ops Q (SG G) LT n ag a w
def dH(P:Program)(N:fA)(LT L F':List Nat)(ops:Array Oper)(n:Nat)(ag:Array Bool)(st:St)(K:St -> Prop):Prop :=
 ∀ G : Ctx, G.fn = N → ∀ E RR a (T : Nat → List Nat), (∀ o ∈ L, RR (.obj o) = T o) → Inv G E RR st a →
  wpAnyL P .any ops (fun e a w=>e = .normal /\ ∃ ba,K ba /\ cI G ba a w) (SG (mF G E L T F')) LT n ag a E.w
theorem dH.blind{LT L F' : List Nat}{n : Nat}{ag : Array Bool}(i : Nat){op : Op}{x : X}(ho : ops[i]? = some ⟨some d, op, ty, pos, af, none⟩)
  (hB:(Region.noSelect ops && Region.free .any ops ag i && (Region.ready .any ops ag).contains i) = true) (gP:yp ops LT i = true) (hy:ax P N st ⟨some d,op,ty,pos,af,none⟩ x) (hd:d < N.n)
  (k:dH P N LT L F' ops n (ag.setIfInBounds i true) (st.put d x) K):dH P N LT L F' ops (n + 1) ag st K:=by
 intro G hn E RR a T hT hi
 obtain ⟨u,hr,hx⟩:=hy G E RR a hn hi
 simp only [Bool.and_eq_true] at hB
 refine mr (v:=u) ho hB.1.1 hB.1.2 hB.2 gP ?_ (.inl ⟨by simp [Region.wanted],fun w _=>hr w⟩) (hi.J1 L T F') (k G hn E _ _ T ?_ (hi.iK (hn ▸ hd) hx))
 ·intro c a w h
  cases h.1
 ·intro o ho
  have:=hT o ho
  simpa [gg] using this
theorem dH.load{LT L F' : List Nat}{n : Nat}{ag : Array Bool}(i : Nat){t : TypeId}{x : Operand}{p y : X}{row : List X}(ho : ops[i]? = some ⟨some d, .load t x, ty, pos, af, none⟩)
  (hB:(Region.noSelect ops && Region.free .any ops ag i && (Region.ready .any ops ag).contains i) = true) (gP:yp ops LT i = true) (ht:TY.shape P t = some none) (hx:bV st x = some p) (hL:ym L p = true) (hr:rowAt st p = some row)
  (hy:row[my p]? = some y) (hf:y.free = true) (hd:d < N.n)
  (k:dH P N LT L F' ops n (ag.setIfInBounds i true) (st.put d y) K):dH P N LT L F' ops (n + 1) ag st K:=by
 intro G hn E RR a T hT hi
 obtain ⟨R,hp⟩:=hi.eval hx
 obtain ⟨b,off,hc,j3⟩:=hi.behind hp hr
 obtain ⟨b',tO,qY,pT⟩:=hi.held (F':=F') hT hp hr hL
 obtain ⟨rfl,rfl⟩:=tI (hc.symm.trans qY)
 have hk:my p < row.length:=by
  rcases Nat.lt_or_ge (my p) row.length with h' | h'
  ·exact h'
  ·simp [List.getElem?_eq_none h'] at hy
 obtain ⟨vs,R',hl,hv,gQ⟩:=j3 (my p) 1 om
 rw [getElem?_drop_take_one hy] at gQ
 simp only [bA] at gQ
 obtain ⟨c,dv,R₁,R₂,JF,_,h1,⟨rfl,rfl⟩,rfl⟩:=gQ
 subst JF
 have h0:=RX.free hf h1
 subst h0
 simp only [Bool.and_eq_true] at hB
 refine mr (v:=c) ho hB.1.1 hB.1.2 hB.2 gP ?_ (.inl ⟨by simp [Region.wanted],fun w hw=>?_⟩) (hi.J1 L T F') (k G hn E _ _ T ?_ (hi.iK (hn ▸ hd) h1))
 ·intro c a w h
  cases h.1
 ·show (do let z <- Instr.loadAt t (a.eval x); pure (Next.value z):Sem Next).run P w = _
  rw [hc]
  refine ek ?_
  have j4:=hv 0 c rfl
  simp only [Instr.loadAt,Instr.sureAddr,loadVar,Sem.run_bind,Sem.run_pure,Result.andThen_ok,(TY.l5 ht w).1]
  simp only [Nat.add_zero] at j4
  rw [<- pT w hw _ hk] at j4
  simp [j4]
 ·intro o ho
  have:=hT o ho
  simpa [gg] using this
theorem dH.fW{LT L F' : List Nat}{n : Nat}{ag : Array Bool}(i : Nat){t : TypeId}{x : Operand}{p : X}{row : List X}{m : Nat}{ys : List X}(ho : ops[i]? = some ⟨some d, .load t x, ty, pos, af, none⟩)
  (hB:(Region.noSelect ops && Region.free .any ops ag i && (Region.ready .any ops ag).contains i) = true) (gP:yp ops LT i = true) (ht:TY.shape P t = some (some m)) (hx:bV st x = some p) (hL:ym L p = true) (hr:rowAt st p = some row)
  (hm:my p + m <= row.length) (Cm:(row.drop (my p)).take m = ys) (hf:X.b6 ys = true) (hd:d < N.n)
  (k:dH P N LT L F' ops n (ag.setIfInBounds i true) (st.put d (.agg ys)) K):dH P N LT L F' ops (n + 1) ag st K:=by
 intro G hn E RR a T hT hi
 obtain ⟨R,hp⟩:=hi.eval hx
 obtain ⟨b,off,hc,j3⟩:=hi.behind hp hr
 obtain ⟨b',tO,qY,pT⟩:=hi.held (F':=F') hT hp hr hL
 obtain ⟨rfl,rfl⟩:=tI (hc.symm.trans qY)
 obtain ⟨vs,R',hl,hv,gQ⟩:=j3 (my p) m hm
 rw [Cm] at gQ
 have h0:=bA.free hf gQ
 subst h0
 simp only [Bool.and_eq_true] at hB
 refine mr (v:=.agg vs.toArray) ho hB.1.1 hB.1.2 hB.2 gP ?_ (.inl ⟨by simp [Region.wanted],fun w hw=>?_⟩) (hi.J1 L T F') (k G hn E _ _ T ?_ (hi.iK (hn ▸ hd) (by simp only [RX]; exact ⟨_,rfl,gQ⟩)))
 ·intro c a w h
  cases h.1
 ·show (do let z <- Instr.loadAt t (a.eval x); pure (Next.value z):Sem Next).run P w = _
  rw [hc]
  refine ek ?_
  obtain ⟨h1,h2⟩:=TY.nz ht w
  have h3:(loadCells ⟨b,off + my p,none⟩ m).run P w = .ok vs.toArray w:=by
   rw [<- hl]
   refine run_loadCells_list (w:=w) _ vs fun j v hj=>?_
   have oy:j < vs.length:=(List.getElem?_eq_some_iff.1 hj).1
   rw [iz,Nat.add_assoc,pT w hw _ om]; exact hv j v hj
  simp only [Instr.loadAt,Instr.sureAddr,loadVar,Sem.run_bind,Sem.run_pure,Result.andThen_ok,h1,if_true,h2,h3]
 ·intro o ho
  have:=hT o ho
  simpa [gg] using this
def J3(P:Program)(N:fA)(LT L:List Nat)(ops:Array Oper)(st:St)(K:St -> Prop)(n':Nat)(l':Array Bool)(ba:St):Prop :=
 ((List.range l'.size).all fun j=>l'.getD j true || LT.elem j) = true /\ fB P N ops n' l' ⟨ba.aF,st.back L ba.aG⟩ K
theorem dH.J2{LT L F' : List Nat}{n : Nat}{ag : Array Bool}(hF : N.F.all (fun o => F'.elem o) = true)(KV : L.all (fun o => F'.elem o) = true)
  (aZ:cv st L F') (k:gI P ⟨N.n,F'⟩ LT ops (J3 P N LT L ops st K) n ag ⟨st.aF,st.aG.filter fun p=>!L.elem p.1⟩):dH P N LT L F' ops n ag st K:=by
 intro G hn E RR a T hT hi
 refine k (mF G E L T F') (by simp [mF,hn]) _ (fun c a w h=>by cases h.1) ?_ a E.w (mF.down hi hT ⟨fun _ _ h=>h,fun _ _ h=>(js h).1⟩ ?_)
 ·rintro n' l' ba a' w' ⟨hl,hk⟩ hh
  refine wi n' l' a' w' (fun j hj=>?_) (hk G hn a' w' (mF.up hi hT (fun o ho=>List.all_eq_true.1 hF o (List.elem_iff.1 (hn ▸ ho))) (fun o ho=>List.all_eq_true.1 KV o ho) aZ hh))
  rcases Nat.lt_or_ge j l'.size with h' | h'
  ·have h1:=List.all_eq_true.1 hl j (List.mem_range.2 h')
   rw [hj,Bool.false_or] at h1
   exact List.elem_iff.1 h1
  ·simp [Array.getD,Nat.not_lt.2 h'] at hj
 ·intro o ho
  have key:∀ x,look (st.aG.filter fun p=>!L.elem p.1) o ≠ some x:=fun x h=>absurd ho (js h).2
  show look (st.aG.filter fun p=>!L.elem p.1) o = none
  generalize look (st.aG.filter fun p=>!L.elem p.1) o = z at key
  cases z with
  | none=>rfl
  | some x=>exact absurd rfl (key x)
section
variable {LT:List Nat} {R:Nat -> Array Bool -> St -> Prop}
theorem gI.back{n:Nat}{ag:Array Bool}(h:R n ag st):gI P N LT ops R n ag st:=fun _ _ _ _ hR _ _ hh=>hR _ _ _ _ _ h hh
theorem gI.late{N0 : fA}{L : List Nat}{V9 : St}{n : Nat}{ag : Array Bool}(h : ((List.range ag.size).all fun j => ag.getD j true || LT.elem j) = true)
  (k:fB P N0 ops n ag ⟨st.aF,V9.back L st.aG⟩ K):gI P N LT ops (J3 P N0 LT L ops V9 K) n ag st:=gI.back ⟨h,k⟩
theorem gI.step{n : Nat}{ag : Array Bool}(j : Nat){o : Oper}(ho : ops[j]? = some o)
  (k:aU P N ops [o] st (fun e ba=>e = .normal /\ gI P N LT ops R n (ag.setIfInBounds j true) ba)) (G:Ctx) (hn:G.fn = N) (Q:Exit -> Act -> World -> Prop) (hQ:∀ c a w,Q (.panic c) a w -> False)
  (hR:∀ n' l' ba a' w',R n' l' ba -> cI G ba a' w' -> wpAnyL P .any ops Q (SG G) LT n' l' a' w') (a:Act) (w:World) (hh:cI G st a w) :
  wpOp P ops Q j (fun a' w'=>SG G w' /\ wpAnyL P .any ops Q (SG G) LT n (ag.setIfInBounds j true) a' w') a w:=by
 have hk:=k G hn a w hh
 have key : wpOp P ops (fun e a w => od G (fun e ba => e = .normal ∧ gI P N LT ops R n (ag.setIfInBounds j true) ba) e a w) j
   (fun a w=>od G (fun e ba=>e = .normal /\ gI P N LT ops R n (ag.setIfInBounds j true) ba) .normal a w) a w:=by
  unfold wpOp; simp only [ho]; exact hk
 refine qK ?_ ?_ key
 ·rintro e a w he ⟨ba,_,h,_⟩
  exact he h
 ·rintro a w ⟨ba,iI,_,Bh⟩
  exact ⟨iI.sg,Bh G hn Q hQ hR a w iI⟩
theorem gI.one{n : Nat}{ag : Array Bool}(i : Nat){o : Oper}(ho : ops[i]? = some o)(hr : (Region.ready .any ops ag == [i]) = true)
  (k:aU P N ops [o] st (fun e ba=>e = .normal /\ gI P N LT ops R n (ag.setIfInBounds i true) ba)):gI P N LT ops R (n + 1) ag st:=by
 intro G hn Q hQ hR a w hh
 refine Ap (rs:=[i]) (by simpa using hr) (by simp) ?_
 intro j hj
 have:j = i:=by simpa using hj
 subst this
 exact gI.step j ho k G hn Q hQ hR a w hh
theorem gI.blind{n : Nat}{ag : Array Bool}(i : Nat){op : Op}{x : X}(ho : ops[i]? = some ⟨some d, op, ty, pos, af, none⟩)
  (hB:(Region.noSelect ops && Region.free .any ops ag i && (Region.ready .any ops ag).contains i) = true) (gP:yp ops LT i = true) (hy:ax P N st ⟨some d,op,ty,pos,af,none⟩ x) (hd:d < N.n)
  (k:gI P N LT ops R n (ag.setIfInBounds i true) (st.put d x)):gI P N LT ops R (n + 1) ag st:=by
 intro G hn Q hQ hR a w hh
 have hS:=hh.sg
 obtain ⟨E,RR,rfl,hi⟩:=hh
 obtain ⟨u,hr,hx⟩:=hy G E RR a hn hi
 simp only [Bool.and_eq_true] at hB
 refine mr (v:=u) ho hB.1.1 hB.1.2 hB.2 gP ?_ (.inl ⟨by simp [Region.wanted],fun w _=>hr w⟩) hS (k G hn Q hQ hR _ _ ⟨E,_,rfl,hi.iK (hn ▸ hd) hx⟩)
 intro c a w h
 exact (hQ _ _ _ h).elim
end
theorem dA.Aq(LT L F':List Nat){Q:Exit -> St -> Prop}{id:Nat}(hm:P.follows .mixedOrders = true)(h:dH P N LT L F' ops ops.size (Array.replicate ops.size false) st (fun ba=>Q .normal ba)):dA P N (.region id ops true) st Q:=by
 intro G hn a w hh
 obtain ⟨E,RR,hw,hi⟩:=hh.drew
 refine wp_mono (wp_region_any hm (pX (S:=SG (mF G E L (fun o=>RR (.obj o)) F')) (LT:=LT) _ _ _ _ (hw ▸ h G hn E RR a _ (fun _ _=>rfl) hi))) ?_
 rintro e a w ⟨rfl,ba,hk,iI⟩
 exact ⟨ba,iI,hk⟩
end
end Go.AW
namespace Go.AW
open Go
section
variable {P:Program} {N:fA} {st:St} {ops:Array Oper} {d:Nat} {ty:TypeId} {pos:String} {af:Array Edge} {K:St -> Prop} {L F':List Nat} {n:Nat} {ag:Array Bool}
theorem Inv.le{G:Ctx}{E:Env}{RR:Own -> List Nat}{a:Act}{ba:St}(hi:Inv G E RR st a)(h:Le st ba):Inv G E RR ba a :=
 {hi with aF:=fun s x hx=>hi.aF s x (h.1 s x hx),aG:=fun o x hx=>hi.aG o x (h.2 o x hx) }
theorem cb.le{ba:St}(hl:Le st ba)(h:cb P N L F' ops n ag ba K):cb P N L F' ops n ag st K:=fun G hn E RR a T hT hi=>h G hn E RR a T hT (hi.le hl)
theorem cb.split{b:Bool}(hx:look st.aF d = some (.v (.bool b)))(ht:b = true -> cb P N L F' ops n ag (st.put d (.v (.bool true))) K)(hf:b = false -> cb P N L F' ops n ag (st.put d (.v (.bool false))) K):cb P N L F' ops n ag st K:=by
 have:Le st (st.put d (.v (.bool b))):=⟨ie.cons hx (fun _ _ h=>h),fun _ _ h=>h⟩
 cases b
 ·exact (hf rfl).le this
 ·exact (ht rfl).le this
theorem cb.a8{p:Prop}{inst:Decidable p}(hx:look st.aF d = some (.v (.bool (decide p))))(ht:p -> cb P N L F' ops n ag (st.put d (.v (.bool true))) K)(hf:¬ p -> cb P N L F' ops n ag (st.put d (.v (.bool false))) K):cb P N L F' ops n ag st K :=
 cb.split hx (fun h=>ht (of_decide_eq_true h)) (fun h=>hf (of_decide_eq_false h))
theorem Inv.wanted{G : Ctx}{E : Env}{RR : Own → List Nat}{a : Act}{j dj : Nat}{want : Bool}{dst : Option Nat}{op : Op}(hi : Inv G E RR st a)(hj : (ops[j]?).bind (·.dst) = some dj)(vt : dj < G.fn.n)(hx : look st.aF dj = some (.v (.bool want))) :
  Region.wanted ⟨dst,op,ty,pos,af,some (j,want)⟩ (yielded ops a.tmps) = true:=by
 have hs:=hi.aF dj _ hx
 simp only [RX] at hs
 have fP:dj < a.tmps.size:=by rw [hi.tmps]; exact vt
 have hv:a.tmps[dj]? = some (.bool want):=by
  have:=hs.1
  simp only [Array.getD,fP,dif_pos] at this
  rw [Array.getElem?_eq_getElem fP]
  exact congrArg some this
 simp [Region.wanted,yielded,hj,hv]
theorem cb.bw(i : Nat){op : Op}{j dj : Nat}{want : Bool}{u : Value}(ho : ops[i]? = some ⟨some d, op, ty, pos, af, some (j, want)⟩)
  (hB:(Region.noSelect ops && Region.free .any ops ag i && (Region.ready .any ops ag).contains i) = true)
  (hj:(ops[j]?).bind (·.dst) = some dj) (vt:dj < N.n) (hd:d < N.n) (hx:look st.aF dj = some (.v u)) (fN:tX want u = true)
  (k:cb P N L F' ops n (ag.setIfInBounds i true) (st.put d (.v undef)) K):cb P N L F' ops (n + 1) ag st K:=by
 intro G hn E RR a T hT hi
 simp only [Bool.and_eq_true] at hB
 have hw:=mR (all:=ops) (dst:=some d) (op:=op) (ty:=ty) (pos:=pos) (af:=af) hi hj (hn ▸ vt) hx fN
 refine wpAnyH_take (v:=undef) ho hB.1.1 hB.1.2 hB.2 ?_ (.inr ⟨hw,rfl⟩) (hi.J1 L T F') (k G hn E _ _ T ?_ (hi.iK (hn ▸ hd) (by simp [RX])))
 ·intro c a w h
  cases h.1
 ·intro o ho
  have:=hT o ho
  simpa [gg] using this
theorem cb.gV(i : Nat){op : Op}{x : X}{j dj : Nat}{want : Bool}(ho : ops[i]? = some ⟨some d, op, ty, pos, af, some (j, want)⟩)
  (hB:(Region.noSelect ops && Region.free .any ops ag i && (Region.ready .any ops ag).contains i) = true)
  (hj:(ops[j]?).bind (·.dst) = some dj) (vt:dj < N.n) (hx:look st.aF dj = some (.v (.bool want))) (hy:ax P N st ⟨some d,op,ty,pos,af,some (j,want)⟩ x) (hd:d < N.n)
  (k:cb P N L F' ops n (ag.setIfInBounds i true) (st.put d x) K):cb P N L F' ops (n + 1) ag st K:=by
 intro G hn E RR a T hT hi
 obtain ⟨u,hr,j2⟩:=hy G E RR a hn hi
 simp only [Bool.and_eq_true] at hB
 refine wpAnyH_take (v:=u) ho hB.1.1 hB.1.2 hB.2 ?_ (.inl ⟨hi.wanted hj (hn ▸ vt) hx,fun w _=>hr w⟩) (hi.J1 L T F') (k G hn E _ _ T ?_ (hi.iK (hn ▸ hd) j2))
 ·intro c a w h
  cases h.1
 ·intro o ho
  have:=hT o ho
  simpa [gg] using this
theorem ax.pick{c x y:Operand}{b:Bool}{z:X}{dst:Option Nat}{g:Option (Nat × Bool)}(hc:bV st c = some (.v (.bool b)))(hz:bV st (if b then x else y) = some z)(hf:z.free = true):ax P N st ⟨dst,.pick c x y,ty,pos,af,g⟩ z:=by
 intro G E RR a _ hi
 obtain ⟨R,h⟩:=hi.eval hz
 have:=RX.free hf h
 subst this
 refine ⟨a.eval (if b then x else y),fun w=>?_,h⟩
 have qY:=hi.val hc
 simp only [execOp,qY]
 cases b <;> rfl
theorem dg.le{ba:St}(hl:Le st ba)(h:dg P N ops n ag ba K):dg P N ops n ag st K:=fun G hn a w hh=>h G hn a w (hl.holds hh)
theorem dg.split{b:Bool}(hx:look st.aF d = some (.v (.bool b)))(ht:b = true -> dg P N ops n ag (st.put d (.v (.bool true))) K)(hf:b = false -> dg P N ops n ag (st.put d (.v (.bool false))) K):dg P N ops n ag st K:=by
 have:Le st (st.put d (.v (.bool b))):=⟨ie.cons hx (fun _ _ h=>h),fun _ _ h=>h⟩
 cases b
 ·exact (hf rfl).le this
 ·exact (ht rfl).le this
theorem dg.a8{p:Prop}{inst:Decidable p}(hx:look st.aF d = some (.v (.bool (decide p))))(ht:p -> dg P N ops n ag (st.put d (.v (.bool true))) K)(hf:¬ p -> dg P N ops n ag (st.put d (.v (.bool false))) K):dg P N ops n ag st K :=
 dg.split hx (fun h=>ht (of_decide_eq_true h)) (fun h=>hf (of_decide_eq_false h))
theorem dg.bw(i : Nat){op : Op}{j dj : Nat}{want : Bool}{u : Value}(ho : ops[i]? = some ⟨some d, op, ty, pos, af, some (j, want)⟩)
  (hB:(Region.noSelect ops && Region.free .any ops ag i && (Region.ready .any ops ag).contains i) = true)
  (hj:(ops[j]?).bind (·.dst) = some dj) (vt:dj < N.n) (hd:d < N.n) (hx:look st.aF dj = some (.v u)) (fN:tX want u = true)
  (k:dg P N ops n (ag.setIfInBounds i true) (st.put d (.v undef)) K):dg P N ops (n + 1) ag st K:=by
 intro G hn a w hh
 have hS:=hh.sg
 obtain ⟨E,RR,rfl,hi⟩:=hh
 simp only [Bool.and_eq_true] at hB
 have hw:=mR (all:=ops) (dst:=some d) (op:=op) (ty:=ty) (pos:=pos) (af:=af) hi hj (hn ▸ vt) hx fN
 refine wpAnyH_take (v:=undef) ho hB.1.1 hB.1.2 hB.2 ?_ (.inr ⟨hw,rfl⟩) hS (k G hn _ _ ⟨E,_,rfl,hi.iK (hn ▸ hd) (by simp [RX])⟩)
 intro c a w h
 cases h.1
theorem dg.gV(i : Nat){op : Op}{x : X}{j dj : Nat}{want : Bool}(ho : ops[i]? = some ⟨some d, op, ty, pos, af, some (j, want)⟩)
  (hB:(Region.noSelect ops && Region.free .any ops ag i && (Region.ready .any ops ag).contains i) = true)
  (hj:(ops[j]?).bind (·.dst) = some dj) (vt:dj < N.n) (hx:look st.aF dj = some (.v (.bool want))) (hy:ax P N st ⟨some d,op,ty,pos,af,some (j,want)⟩ x) (hd:d < N.n)
  (k:dg P N ops n (ag.setIfInBounds i true) (st.put d x) K):dg P N ops (n + 1) ag st K:=by
 intro G hn a w hh
 have hS:=hh.sg
 obtain ⟨E,RR,rfl,hi⟩:=hh
 obtain ⟨u,hr,j2⟩:=hy G E RR a hn hi
 simp only [Bool.and_eq_true] at hB
 refine wpAnyH_take (v:=u) ho hB.1.1 hB.1.2 hB.2 ?_ (.inl ⟨hi.wanted hj (hn ▸ vt) hx,fun w _=>hr w⟩) hS (k G hn _ _ ⟨E,_,rfl,hi.iK (hn ▸ hd) j2⟩)
 intro c a w h
 cases h.1
end
end Go.AW
namespace Go.AW
open Go
def FR(ro:Option Nat):Fence:={ Fence.wide with round:=ro }
def lb(o:Oper):Bool:=match o.op with | .defer _=>false | _=>true
theorem AN{o:Oper}(h:lb o = true):∀ c,o.op ≠ .defer c:=fun c e=>by simp [lb,e] at h
section
variable {P:Program} {Q:Exit -> Act -> World -> Prop} {a:Act} {w:World} {ro:Option Nat} {o:Oper} {next:Act -> World -> Prop}
theorem Gj{f:FuncId}{args:Array Value}{R:Ending -> World -> Prop}{n:Nat}(h:Calls P f args w R):CallsIn (FR ro) n P f args w R:=(callsIn_wide (n:=n)).2 h
theorem I5{row:String}{args:Array Value}{R:Value -> World -> Prop}{n:Nat}(h:Rows P row args w R):RowsIn (FR ro) n P row args w R :=
 fun c cs _=>let ⟨v,w',r,s⟩:=h c cs; ⟨v,w',r,stepsIn_wide.2 s⟩
theorem I6{r:Result Next}(h:o.upon P a next Q r):o.uponIn (FR ro) 0 P a next Q r:=by
 cases r with
 | ok x w' =>
  cases x
  case value v=>exact h
  case skip=>exact h
  case defer d=>exact h
  case enter f args=>exact ⟨fun h=>by simp [FR,Fence.wide] at h,Gj h⟩
  case row row args=>exact ⟨fun h=>by simp [FR,Fence.wide] at h,I5 h⟩
  all_goals exact (show False from h).elim
 | halt x w' =>
  cases x
  case panic v=>exact h
  all_goals exact (show False from h).elim
theorem Gk(hd:lb o = true)(h:o.wp P a w next Q):o.wpIn (FR ro) 0 P a w next Q:=by
 refine ⟨fun _ _=>trivial,?_⟩
 rw [Oper.semAt_eq _ _ _ (AN hd)]
 exact I6 h
theorem sC{ops : Array Oper}(hQ : ¬ LetsOut Q) : ∀ {l : List Oper} {a : Act} {w : World}, l.all lb = true → wpList P ops Q l a w → wpListIn (FR ro) 0 P ops Q l a w
 | [],_,_,_,h=>h
 | o :: rest,a,w,hd,h=>by
  simp only [List.all_cons,Bool.and_eq_true] at hd
  unfold wpList at h
  unfold wpListIn
  split at h
  ·rename_i hw
   rw [if_pos hw]
   rcases h with h | h
   ·exact Oper.wpIn_mono (fun _ _ h=>sC hQ hd.2 h) (Gk hd.1 h)
   ·exact absurd h.2 hQ
  ·rename_i hw
   rw [if_neg hw]
   exact ⟨fun _ _=>trivial,sC hQ hd.2 h⟩
theorem rO{ops : Array Oper}(hQ : ¬ LetsOut Q)(hd : ops.toList.all lb = true) : ∀ {l : List Nat} {a : Act} {w : World}, wpOps P ops Q l a w → wpOpsIn (FR ro) 0 P ops Q l a w
 | [],_,_,h=>h
 | i :: rest,a,w,h=>by
  unfold wpOps at h
  unfold wpOpsIn
  cases ho:ops[i]? with
  | none=>rw [ho] at h; exact rO hQ hd h
  | some o =>
   rw [ho] at h
   simp only at h ⊢
   have JA:lb o = true:=List.all_eq_true.1 hd o (Array.mem_toList_iff.2 (Array.mem_of_getElem? ho))
   split at h
   ·rename_i hw
    rw [if_pos hw]
    rcases h with h | h
    ·exact Oper.wpIn_mono (fun _ _ h=>rO hQ hd h) (Gk JA h)
    ·exact absurd h.2 hQ
   ·rename_i hw
    rw [if_neg hw]
    exact ⟨fun _ _=>trivial,rO hQ hd h⟩
theorem Df{id:Nat}{l:List Oper}(hQ:¬ LetsOut Q)(hd:l.all lb = true)(h:wpList P l.toArray Q l a w):(Code.region id l.toArray false).wpIn (FR ro) 0 P Q a w :=
 wpIn_region_lit (sC hQ hd h)
theorem lR{id : Nat}{ops : Array Oper}(hm : P.follows .mixedOrders = true)(hQ : ¬ LetsOut Q)(hd : ops.toList.all lb = true)(h : wpAny P .any ops Q ops.size (Array.replicate ops.size false) a { w with drawn := w.drawn + 1 }) :
  (Code.region id ops true).wpIn (FR ro) 0 P Q a w :=
 wpIn_region_draw fun t=>by
  simp only [Region.schedule,hm,Bool.true_or,if_true]
  exact rO hQ hd (wpAny_sound ops.size t _ a _ h)
end
def Dg(K : St → Prop) : Exit → St → Prop
 | .normal,st=>K st
 | _,_=>False
def Ctx.to(G:Ctx)(w:World):Ctx:={ G with w0:=w }
theorem cI.Gl{G : Ctx}{st : St}{a : Act}{w w' : World}{S : Nat → Prop}(h : cI G st a w)(hS : ∀ b, S b → G.K b ∧ ∀ i, G.φ0 b i = none)(fP : w.heap.size ≤ w'.heap.size)
  (hw:∀ b,b < w.heap.size -> ¬ S b -> w'.heap[b]? = w.heap[b]?):cI (G.to w') st a w':=by
 obtain ⟨E,RR,rfl,hi⟩:=h
 have Yl:∀ b i,S b -> E.φ b i = none:=fun b i hb=>by
  cases he:E.φ b i with
  | none=>rfl
  | some v =>
   rcases hi.grow b i v he with h1 | h1
   ·rw [(hS b hb).2 i] at h1; cases h1
   ·exact absurd (hS b hb).1 h1
 have j4:∀ b i v,E.φ b i = some v -> w'.cell? ⟨b,i,none⟩ = some v:=fun b i v hv=>by
  have h1:=hi.ox b i v hv
  have hb:b < E.w.heap.size:=by
   rcases Nat.lt_or_ge b E.w.heap.size with h2 | h2
   ·exact h2
   ·unfold World.cell? at h1
    rw [Array.getElem?_eq_none h2] at h1; cases h1
  unfold World.cell? at h1 ⊢
  rw [hw b hb (fun h2=>by rw [Yl b i h2] at hv; cases hv)]; exact h1
 have mQ:∀ p b,b ∈ RR p -> w'.heap[b]? = E.w.heap[b]?:=fun p b hb=>hw b (hi.own p b hb).1 (fun h2=>(hi.own p b hb).2 (hS b h2).1)
 have iA:∀ p,E.On { E with w:=w' } (RR p):=fun p=>⟨fun _ _ _ h=>h,fun c hc=>⟨mQ p c hc,fun h i=>h i⟩⟩
 refine ⟨{ E with w:=w' },RR,rfl,?_⟩
 constructor
 case ox=>exact j4
 case aF=>exact fun s x hx=>RX.mono x _ _ (iA _) (fun _ _=>rfl) (hi.aF s x hx)
 case aG=>exact fun o ob aZ=>dR.mono (iA _) rfl (fun _ _=>rfl) (hi.aG o ob aZ)
 case nodup=>exact hi.nodup
 case apart=>exact hi.apart
 case own=>exact fun p b hb=>⟨Nat.lt_of_lt_of_le (hi.own p b hb).1 fP,(hi.own p b hb).2⟩
 case ai=>exact fun _ _=>rfl
 case size=>exact Nat.le_refl _
 case small=>exact fun b hb=>Nat.lt_of_lt_of_le (Nat.lt_of_lt_of_le (hi.small b hb) hi.size) fP
 case os=>rfl
 case tape=>rfl
 case output=>rfl
 case φ0=>exact hi.φ0
 case grow=>exact hi.grow
 case fixed=>exact hi.fixed
 case tmps=>exact hi.tmps
 case defers=>exact hi.defers
end Go.AW
namespace Go.AW
open Go
abbrev I7:=List (Int × Int)
abbrev qN:=I7 × St
structure Kp(S:Nat -> Prop)(W W':World):Prop where
 size:W.heap.size <= W'.heap.size
 same:∀ b,b < W.heap.size -> ¬ S b -> W'.heap[b]? = W.heap[b]?
 os:W'.os = W.os
 tape:W'.tape = W.tape
 output:W'.output = W.output
theorem Kp.refl(S:Nat -> Prop)(W:World):Kp S W W:=⟨Nat.le_refl _,fun _ _ _=>rfl,rfl,rfl,rfl⟩
theorem Kp.trans{S:Nat -> Prop}{A B C:World}(h:Kp S A B)(k:Kp S B C):Kp S A C :=
 ⟨Nat.le_trans h.size k.size,fun b hb hs=>(k.same b (Nat.lt_of_lt_of_le hb h.size) hs).trans (h.same b hb hs),k.os.trans h.os,k.tape.trans h.tape,k.output.trans h.output⟩
structure vb(P:Program) where
 l:Nat
 n1:Nat
 S:Nat -> Prop
 J:I7 -> World -> Prop
 Good:Int × Int -> Prop
 L7:∀ i W W',J i W -> W.heap.size <= W'.heap.size -> (∀ b,b < n1 -> W'.heap[b]? = W.heap[b]?) -> J i W'
 yield:∀ i x W,J i W -> Good x -> n1 <= W.heap.size -> YieldAt (FR none) 0 P l #[.int .i64 x.1,.int .i64 x.2] W (fun e W'=>e = .returned (.bool true) /\ J (i ++ [x]) W' /\ Kp S W W')
 lt:∀ b,S b -> b < n1
abbrev vb.v{P:Program}(Y:vb P):X:=.v (.func (.yield Y.l) #[] #[])
def Cg(P:Program)(f:FuncId)(args:List X)(g:I7):Prop :=
 ∀ (Y : vb P) (i : I7) (E : Env) (dB : List Value), Y.J i E.w → Y.n1 ≤ E.w.heap.size → (∀ x ∈ g, Y.Good x) → eT E args dB [] → (∀ b k v, E.φ b k = some v → E.w.cell? ⟨b, k, none⟩ = some v) → (∀ b k, Y.S b → E.φ b k = none) →
  Calls P f (#[.func (.yield Y.l) #[] #[]] ++ dB.toArray) E.w (fun e W'=>∃ v,e = .returned v /\ Y.J (i ++ g) W' /\ Kp Y.S E.w W')
structure MA{P:Program}(Y:vb P)(G:Ctx):Prop where
 Rz:∀ b,b < G.w0.heap.size -> G.K b
 n1:Y.n1 <= G.w0.heap.size
 φ:∀ b i,Y.S b -> G.φ0 b i = none
structure HI{P:Program}(Y:vb P)(G:Ctx)(s:qN)(a:Act)(w:World):Prop where
 j:Y.J s.1 w
 h:cI (G.to w) s.2 a w
 kp:Kp Y.S G.w0 w
def bM(P:Program)(Y:vb P)(N:fA)(c:Code)(s:qN)(Q:Exit -> qN -> Prop):Prop :=
 ∀ G:Ctx,G.fn = N -> MA Y G -> ∀ a w,HI Y G s a w -> c.wp P (fun e a w=>∃ s',HI Y G s' a w /\ Q e s') a w
def ga(P:Program)(Y:vb P)(N:fA)(all:Array Oper)(rest:List Oper)(s:qN)(Q:Exit -> qN -> Prop):Prop :=
 ∀ G:Ctx,G.fn = N -> MA Y G -> ∀ a w,HI Y G s a w -> wpListIn (FR none) 0 P all (fun e a w=>∃ s',HI Y G s' a w /\ Q e s') rest a w
def oc(K : qN → Prop)(Q : Exit → qN → Prop) : Exit → qN → Prop
 | .normal,st=>K st
 | e,st=>Q e st
def y4(id : Nat)(Q : Exit → qN → Prop) : Exit → qN → Prop
 | .exit id',st=>bif Nat.beq id' id then Q .normal st else Q (.exit id') st
 | e,st=>Q e st
def wY(s s':qN):Prop:=s.1 = s'.1 /\ Le s.2 s'.2
section
variable {P:Program} {Y:vb P} {N:fA} {s:qN} {Q Q':Exit -> qN -> Prop} {i:I7} {st ba:St} {id:Nat} {x y c:Code}
theorem HI.le{G:Ctx}{s s':qN}{a:Act}{w:World}(hl:wY s s')(h:HI Y G s a w):HI Y G s' a w:=⟨hl.1 ▸ h.j,hl.2.holds h.h,h.kp⟩
theorem HI.step{G:Ctx}(hG:MA Y G){a a':Act}{w w':World}(h:HI Y G (i,st) a w)(h':cI (G.to w) ba a' w'):HI Y G (i,ba) a' w':=by
 have hr:cI (G.to w') ba a' w':=cI.Gl (G:=G.to w) (S:=fun _=>False) h' (fun _ h=>h.elim) (Nat.le_refl _) (fun _ _ _=>rfl)
 obtain ⟨E,RR,rfl,hi⟩:=h'
 have fP:w.heap.size <= E.w.heap.size:=hi.size
 have hold:∀ b,b < G.w0.heap.size -> E.w.heap[b]? = w.heap[b]?:=fun b hb=>hi.ai b (hG.Rz b hb)
 exact ⟨Y.L7 i w E.w h.j fP (fun b hb=>hold b (Nat.lt_of_lt_of_le hb hG.n1)),hr,Nat.le_trans h.kp.size fP,fun b hb hs=>(hold b hb).trans (h.kp.same b hb hs),hi.os.trans h.kp.os,hi.tape.trans h.kp.tape,hi.output.trans h.kp.output⟩
theorem HI.TJ{G:Ctx}(hG:MA Y G){a:Act}{w w':World}{i':I7}(h:HI Y G (i,st) a w)(hj:Y.J i' w')(hk:Kp Y.S w w'):HI Y G (i',st) a w' :=
 ⟨hj, cI.Gl (G := G.to w) (S := Y.S) h.h (fun b hb => ⟨hG.Rz b (Nat.lt_of_lt_of_le (Y.lt b hb) hG.n1), fun k => hG.φ b k hb⟩) hk.size hk.same,
  Nat.le_trans h.kp.size hk.size,fun b hb hs=>(hk.same b (Nat.lt_of_lt_of_le hb h.kp.size) hs).trans (h.kp.same b hb hs),hk.os.trans h.kp.os,hk.tape.trans h.kp.tape,hk.output.trans h.kp.output⟩
theorem HI.n1{G:Ctx}(hG:MA Y G){a:Act}{w:World}(h:HI Y G s a w):Y.n1 <= w.heap.size:=Nat.le_trans hG.n1 h.kp.size
theorem bM.of(h:dA P N c st (fun e ba=>Q e (i,ba))):bM P Y N c (i,st) Q:=by
 intro G hn hG a w hh
 refine wp_mono (h (G.to w) hn a w hh.h) ?_
 rintro e a' w' ⟨ba,h',hq⟩
 exact ⟨_,hh.step hG h',hq⟩
theorem bM.le{s':qN}(hl:wY s s')(h:bM P Y N c s' Q):bM P Y N c s Q:=fun G hn hG a w hh=>h G hn hG a w (hh.le hl)
theorem bM.sh(h:Sh N st ba)(k:bM P Y N c (i,ba) Q):bM P Y N c (i,st) Q:=fun G hn hG a w hh=>k G hn hG a w ⟨hh.j,h (G.to w) hn a w hh.h,hh.kp⟩
theorem bM.mono(h:bM P Y N c s Q)(hq:∀ e s,Q e s -> Q' e s):bM P Y N c s Q':=fun G hn hG a w hh=>wp_mono (h G hn hG a w hh) fun _ _ _ ⟨s',h',Cq⟩=>⟨s',h',hq _ _ Cq⟩
theorem bM.skip(h:Q .normal s):bM P Y N .skip s Q:=fun _ _ _ _ _ hh=>wp_skip ⟨s,hh,h⟩
theorem bM.exit(h:Q (.exit id) s):bM P Y N (.exit id) s Q:=fun _ _ _ _ _ hh=>wp_exit ⟨s,hh,h⟩
theorem bM.ret(h:Q .ret s):bM P Y N .ret s Q:=fun _ _ _ _ _ hh=>wp_ret ⟨s,hh,h⟩
theorem bM.seq(h:bM P Y N x s (oc (fun s'=>bM P Y N y s' Q) Q)):bM P Y N (.seq x y) s Q:=by
 intro G hn hG a w hh
 refine wp_seq (wp_mono (h G hn hG a w hh) ?_)
 rintro e a' w' ⟨s',iI,hq⟩
 cases e <;> first | exact hq G hn hG a' w' iI | exact ⟨s',iI,hq⟩
theorem bM.block(h:bM P Y N c s (y4 id Q)):bM P Y N (.block id c) s Q:=by
 intro G hn hG a w hh
 refine wp_block (wp_mono (h G hn hG a w hh) ?_)
 rintro e a' w' ⟨s',iI,hq⟩
 cases e with
 | exit id' =>
  simp only [y4] at hq
  simp only [Exit.inBlock]
  cases hb:Nat.beq id' id with
  | true =>
   rw [hb] at hq
   rw [if_pos (Nat.eq_of_beq_eq_true hb)]
   exact ⟨s',iI,hq⟩
  | false =>
   rw [hb] at hq
   rw [if_neg (Nat.ne_of_beq_eq_false hb)]
   exact ⟨s',iI,hq⟩
 | _=>exact ⟨s',iI,hq⟩
theorem bM.cond{o:Operand}{b:Bool}(hc:bV s.2 o = some (.v (.bool b)))(ht:b = true -> bM P Y N x s Q)(hf:b = false -> bM P Y N y s Q):bM P Y N (.cond o x y) s Q:=by
 intro G hn hG a w hh
 obtain ⟨E,RR,rfl,hi⟩:=hh.h
 exact wp_cond_split (hi.val hc) (fun h=>ht h G hn hG a E.w hh) (fun h=>hf h G hn hG a E.w hh)
theorem bM.aB{o:Operand}{p:Prop}{inst:Decidable p}(hc:bV s.2 o = some (.v (.bool (decide p))))(ht:p -> bM P Y N x s Q)(hf:¬ p -> bM P Y N y s Q):bM P Y N (.cond o x y) s Q :=
 bM.cond hc (fun h=>ht (of_decide_eq_true h)) (fun h=>hf (of_decide_eq_false h))
theorem bM.aQ{o:Operand}(hc:bV s.2 o = some (.v (.bool true)))(h:bM P Y N x s Q):bM P Y N (.cond o x y) s Q:=bM.cond hc (fun _=>h) (fun h=>by cases h)
theorem bM.cu{o:Operand}(hc:bV s.2 o = some (.v (.bool false)))(h:bM P Y N y s Q):bM P Y N (.cond o x y) s Q:=bM.cond hc (fun h=>by cases h) (fun _=>h)
theorem bM.Eb{d:Nat}{b:Bool}(hc:look st.aF d = some (.v (.bool b)))(ht:b = true -> bM P Y N x (i,st.put d (.v (.bool true))) Q)(hf:b = false -> bM P Y N y (i,st.put d (.v (.bool false))) Q):bM P Y N (.cond (.tmp d) x y) (i,st) Q:=by
 refine bM.cond (s:=(i,st)) (b:=b) hc (fun h=>?_) (fun h=>?_)
 ·subst h; exact bM.le (s:=(i,st)) (s':=(i,st.put d (.v (.bool true)))) ⟨rfl,Le.test hc⟩ (ht rfl)
 ·subst h; exact bM.le (s:=(i,st)) (s':=(i,st.put d (.v (.bool false)))) ⟨rfl,Le.test hc⟩ (hf rfl)
theorem bM.bt{d:Nat}{p:Prop}{inst:Decidable p}(hc:look st.aF d = some (.v (.bool (decide p))))(ht:p -> bM P Y N x (i,st.put d (.v (.bool true))) Q)(hf:¬ p -> bM P Y N y (i,st.put d (.v (.bool false))) Q):bM P Y N (.cond (.tmp d) x y) (i,st) Q :=
 bM.Eb hc (fun h=>ht (of_decide_eq_true h)) (fun h=>hf (of_decide_eq_false h))
theorem bM.loop{ι:Type}(S:ι -> qN)(I:ι -> Prop)(μ:ι -> Nat)(i0:ι)(hi:I i0)(hs:wY s (S i0))(round:∀ i,I i -> bM P Y N c (S i) (oc (fun s'=>∃ j,I j /\ μ j < μ i /\ wY s' (S j)) Q)):bM P Y N (.loop c) s Q:=by
 intro G hn hG a w hh
 refine tK (fun i a w=>I i /\ HI Y G (S i) a w) μ ?_ ⟨hi,hh.le hs⟩
 rintro i a w ⟨hI,hh⟩
 refine wp_mono (round i hI G hn hG a w hh) ?_
 rintro e a' w' ⟨s',iI,hq⟩
 cases e with
 | normal=>obtain ⟨j,hj,gP,hle⟩:=hq; exact ⟨j,⟨hj,iI.le hle⟩,gP⟩
 | _=>exact ⟨s',iI,hq⟩
theorem bM.join{ι:Type}(J:ι -> qN)(I:ι -> Prop)(hx:bM P Y N x s (oc (fun ba=>∃ i,I i /\ wY ba (J i)) Q))(hy:∀ i,I i -> bM P Y N y (J i) Q):bM P Y N (.seq x y) s Q:=by
 refine bM.seq (hx.mono ?_)
 intro e Ec h
 cases e with
 | normal=>obtain ⟨i,hI,hle⟩:=h; exact (hy i hI).le hle
 | _=>exact h
theorem bM.region{l:List Oper}(h:aU P N l.toArray l st (jz (fun ba=>Q .normal (i,ba)) (fun e ba=>Q e (i,ba)))):bM P Y N (.region id l.toArray false) (i,st) Q :=
 bM.of ((dA.region h).mono fun e st h=>by cases e <;> exact h)
theorem bM.sr{l:List Oper}(h:aU P N l.toArray l st (jz (fun ba=>bM P Y N y (i,ba) Q) (fun e ba=>Q e (i,ba)))):bM P Y N (.seq (.region id l.toArray false) y) (i,st) Q :=
 bM.seq (bM.of ((dA.region h).mono fun e st h=>by cases e <;> exact h))
end
end Go.AW
namespace Go.AW
open Go
theorem Gm{P:Program}{o:Oper}{Q1 Q2:Exit -> Act -> World -> Prop}{K1 K2:Act -> World -> Prop}{a:Act}{w:World}(hQ:∀ e a w,e ≠ .normal -> Q1 e a w -> False)(hK:∀ a w,K1 a w -> K2 a w)(h:o.wp P a w K1 Q1):o.wp P a w K2 Q2:=by
 unfold Oper.wp at *
 generalize (execOp a.eval o).run P w = r at *
 cases r with
 | ok nx w' =>
  cases nx <;> simp only [Oper.upon] at h ⊢ <;> first
   | exact hK _ _ h
   | exact Calls.mono h (fun e Vp he=>by
     cases e with
     | returned u=>exact hK _ _ he
     | panicked c=>exact (hQ _ _ _ (by simp) he).elim
     | outgrown=>exact (let ⟨_,_,h'⟩:=he; hQ _ _ _ (by simp) h').elim)
   | exact Rows.mono h (fun _ _ he=>hK _ _ he)
 | halt x w'=>cases x <;> simp only [Oper.upon] at h ⊢ <;> first | exact (hQ _ _ _ (by simp) h).elim | exact (let ⟨_,_,h'⟩:=h; hQ _ _ _ (by simp) h').elim | exact h
theorem X.wm : ∀ {xs : List X} {k : Nat} {x : X}, X.b6 xs = true → xs[k]? = some x → x.free = true
 | [],_,_,_,h=>by simp at h
 | y :: r,0,x,hf,h=>by
  simp only [X.b6,Bool.and_eq_true] at hf
  simp only [List.getElem?_cons_zero,Option.some.injEq] at h
  subst h; exact hf.1
 | y :: r,k + 1,x,hf,h=>by
  simp only [X.b6,Bool.and_eq_true] at hf
  simp only [List.getElem?_cons_succ] at h
  exact X.wm hf.2 h
section
variable {P:Program} {Y:vb P} {N:fA} {s:qN} {Q:Exit -> qN -> Prop} {i:I7} {st:St} {all:Array Oper} {rest:List Oper} {o:Oper} {d:Nat} {ty:TypeId} {pos:String} {af:Array Edge}
theorem ga.nil(h:Q .normal s):ga P Y N all [] s Q:=fun _ _ _ _ _ hh=>⟨s,hh,h⟩
theorem ga.op(h:aU P N all [o] st (Dg (fun ba=>ga P Y N all rest (i,ba) Q)))(hd:lb o = true:=by rfl):ga P Y N all (o :: rest) (i,st) Q:=by
 intro G hn hG a w hh
 have h1:=h (G.to w) hn a w hh.h
 have hk:∀ a' w',od (G.to w) (Dg (fun ba=>ga P Y N all rest (i,ba) Q)) .normal a' w' -> wpListIn (FR none) 0 P all (fun e a w=>∃ s',HI Y G s' a w /\ Q e s') rest a' w':=by
  rintro a' w' ⟨ba,h',hq⟩
  exact hq G hn hG a' w' (hh.step hG h')
 have VU:∀ e a' w',e ≠ .normal -> od (G.to w) (Dg (fun ba=>ga P Y N all rest (i,ba) Q)) e a' w' -> False:=by
  rintro e a' w' he ⟨ba,_,hq⟩
  cases e <;> first | exact he rfl | exact hq
 unfold wpList at h1
 unfold wpListIn
 split at h1
 ·rename_i hw
  rw [if_pos hw]
  rcases h1 with h1 | ⟨_,_,_,h2⟩
  ·exact Gk hd (Gm VU hk h1)
  ·exact (VU _ _ _ (by simp) h2).elim
 ·rename_i hw
  rw [if_neg hw]
  exact ⟨fun _ _=>trivial,hk _ _ h1⟩
theorem ga.le{s':qN}(hl:wY s s')(h:ga P Y N all rest s' Q):ga P Y N all rest s Q:=fun G hn hG a w hh=>h G hn hG a w (hh.le hl)
theorem ga.split{b:Bool}(hx:look st.aF d = some (.v (.bool b)))(ht:b = true -> ga P Y N all rest (i,st.put d (.v (.bool true))) Q)(hf:b = false -> ga P Y N all rest (i,st.put d (.v (.bool false))) Q):ga P Y N all rest (i,st) Q:=by
 cases b
 ·exact ga.le (s:=(i,st)) (s':=(i,st.put d (.v (.bool false)))) ⟨rfl,Le.test hx⟩ (hf rfl)
 ·exact ga.le (s:=(i,st)) (s':=(i,st.put d (.v (.bool true)))) ⟨rfl,Le.test hx⟩ (ht rfl)
theorem ga.a8{p:Prop}{inst:Decidable p}(hx:look st.aF d = some (.v (.bool (decide p))))(ht:p -> ga P Y N all rest (i,st.put d (.v (.bool true))) Q)(hf:¬ p -> ga P Y N all rest (i,st.put d (.v (.bool false))) Q):ga P Y N all rest (i,st) Q :=
 ga.split hx (fun h=>ht (of_decide_eq_true h)) (fun h=>hf (of_decide_eq_false h))
theorem ga.aC{dst : Option Nat}{op : Op}{j : Nat}{want : Bool}(hj : (all[j]?).bind (·.dst) = some d)(hd : d < N.n)(hx : look st.aF d = some (.v (.bool want)))
  (k:ga P Y N all (⟨dst,op,ty,pos,af,none⟩ :: rest) (i,st) Q):ga P Y N all (⟨dst,op,ty,pos,af,some (j,want)⟩ :: rest) (i,st) Q:=by
 intro G hn hG a w hh
 have hk:=k G hn hG a w hh
 obtain ⟨E,RR,rfl,hi⟩:=hh.h
 have hw:=hi.wanted (ops:=all) (dst:=dst) (op:=op) (ty:=ty) (pos:=pos) (af:=af) hj (by show d < (G.to E.w).fn.n; rw [show (G.to E.w).fn = N from hn]; exact hd) hx
 unfold wpListIn at hk ⊢
 rw [if_pos hw]
 rw [if_pos (by simp [Region.wanted])] at hk
 exact hk
theorem Dh{x : Operand}{cF : Array Operand}{pQ : Array TypeId}{a : Act}{w : World}{f : Fn}{cc : Array Value}{dst : Option Nat}{g : Option (Nat × Bool)}(hx : a.eval x = .func f #[] cc) :
  (execOp a.eval ⟨dst,.call ⟨.value x,cF,pQ⟩,ty,pos,af,g⟩).run P w = (invoke (.fn f cc) (#[] ++ cF.map a.eval)).run P w:=by
 have e:(execOp a.eval ⟨dst,.call ⟨.value x,cF,pQ⟩,ty,pos,af,g⟩).run P w = (do let d <- Deferred.ofValue (a.eval x) (cF.map a.eval); invoke d.target d.args:Sem Next).run P w:=rfl
 rw [e,hx]; rfl
theorem ga.yield{x : Operand}{cF : Array Operand}{pQ : Array TypeId}{p q : Int}(hx : bV st x = some Y.v)(gQ : lB st cF.toList = some [.v (.int .i64 p), .v (.int .i64 q)])(hg : Y.Good (p, q))(hd : d < N.n)
  (k:ga P Y N all rest (i ++ [(p,q)],st.put d (.v (.bool true))) Q):ga P Y N all (⟨some d,.call ⟨.value x,cF,pQ⟩,ty,pos,af,none⟩ :: rest) (i,st) Q:=by
 intro G hn hG a w hh
 have MS:=hh.n1 hG
 obtain ⟨E,RR,rfl,hi⟩:=hh.h
 have hv:=hi.val hx
 obtain ⟨yL,IN⟩:=rh hi gQ
 have fi:cF.map a.eval = #[.int .i64 p,.int .i64 q]:=by
  obtain ⟨o1,GO,R1,rY⟩:=IN 0 _ rfl
  obtain ⟨o2,DF,R2,xx⟩:=IN 1 _ rfl
  simp only [RX] at rY xx
  have hl:cF.toList.length = 2:=yL.symm
  apply Array.ext'
  rw [Array.toList_map]
  match hm:cF.toList,hl with
  | [u1,u2],_ =>
   rw [hm] at GO DF
   simp only [List.getElem?_cons_zero,List.getElem?_cons_succ,Option.some.injEq] at GO DF
   subst GO; subst DF
   simp [rY.1,xx.1]
 obtain ⟨fn,tmps,assign,body,hy,hR⟩:=Y.yield i (p,q) E.w hh.j hg MS
 have j6:(execOp a.eval ⟨some d,.call ⟨.value x,cF,pQ⟩,ty,pos,af,none⟩).run P E.w = .ok (.round Y.l fn tmps assign body) E.w:=by
  rw [Dh hv,fi]; exact hy
 refine wpListIn_plain rfl fun K hK=>?_
 refine ⟨fun _ _=>trivial,?_⟩
 rw [show (FR none).round = none from rfl,Oper.semAt_none,j6]
 refine ⟨fun h=>by simp [FR,Fence.wide] at h,hR.mono ?_⟩
 rintro e W' ⟨rfl,hj,hk⟩
 refine hK _ _ (k G hn hG _ _ ?_)
 have ht:=HI.TJ hG hh hj hk
 obtain ⟨E',gG,rfl,iJ⟩:=ht.h
 exact ⟨ht.j,⟨E',_,rfl,iJ.iK (by show d < (G.to E'.w).fn.n; rw [show (G.to E'.w).fn = N from hn]; exact hd) (by simp [RX])⟩,ht.kp⟩
theorem Cg.of{f : FuncId}{fn : Func}{c : Code}{args : List X}{g : I7}{n : Nat}(hf : P.funcs[f]? = some fn)(hb : fn.body = some c)(hn : fn.ntmps = n)(hr : fn.results = #[])(hle : args.length + 1 ≤ n)
  (h:∀ (Y:vb P) (i:I7),(∀ x ∈ g,Y.Good x) -> bM P Y ⟨n,[]⟩ c (i,⟨dW 0 (Y.v :: args),[]⟩) (fun e s=>(e = .normal \/ e = .ret) /\ s.1 = i ++ g)) (tp:X.b6 args = true):Cg P f args g:=by
 intro Y i E dB hJ MS hg fi Mk hφ
 refine calls_of_wp hf hb ?_
 let G:Ctx:=⟨fun b=>b < E.w.heap.size,E.w,E.φ,E.β,⟨n,[]⟩,[]⟩
 have hG:MA Y G:=⟨fun _ h=>h,MS,hφ⟩
 have hlen:∀ {l:List X} {c:List Value} {R:List Nat},eT E l c R -> l.length = c.length:=by
  intro l
  induction l with
  | nil=>intro c R h; simp only [eT] at h; rw [h.1]; rfl
  | cons y r ih =>
   intro c R h
   simp only [eT] at h
   obtain ⟨_,c',_,_,rfl,_,h2,_⟩:=h
   simp [ih h2]
 have hl:=hlen fi
 have hH:HI Y G (i,⟨dW 0 (Y.v :: args),[]⟩) ⟨(#[.func (.yield Y.l) #[] #[]] ++ dB.toArray) ++ Array.replicate (fn.ntmps - (#[Value.func (.yield Y.l) #[] #[]] ++ dB.toArray).size) undef,[]⟩ E.w:=by
  refine ⟨hJ,⟨E,fun _=>[],rfl,?_⟩,Kp.refl _ _⟩
  constructor
  case ox=>exact Mk
  case aF =>
   intro s x hx
   have j2:look (dW 0 (Y.v :: args)) s = some x:=hx
   rw [ig] at j2
   have hs:s < args.length + 1:=by
    rcases Nat.lt_or_ge s (args.length + 1) with h' | h'
    ·exact h'
    ·rw [List.getElem?_eq_none (by simpa using h')] at j2; cases j2
   have e1:((#[Value.func (.yield Y.l) #[] #[]] ++ dB.toArray) ++ Array.replicate (fn.ntmps - (#[Value.func (.yield Y.l) #[] #[]] ++ dB.toArray).size) undef).getD s undef = (Value.func (.yield Y.l) #[] #[] :: dB).getD s undef:=by
    rw [Array.getD_eq_getD_getElem?,Array.getElem?_append_left (by simp; omega)]
    simp [List.getD_eq_getElem?_getD]
   show RX E x _ []
   rw [e1]
   cases s with
   | zero =>
    simp only [List.getElem?_cons_zero,Option.some.injEq] at j2
    subst j2
    simp [RX]
   | succ s =>
    simp only [List.getElem?_cons_succ] at j2
    obtain ⟨u,R,hu,hR⟩:=eT.get fi j2
    have h0:=RX.free (X.wm tp j2) hR
    subst h0
    rw [List.getD_cons_succ,List.getD_eq_getElem?_getD,hu]; exact hR
  case aG=>intro o ob h; cases h
  case nodup=>exact fun _=>List.nodup_nil
  case apart=>exact fun _ _ _ _ h=>by cases h
  case own=>exact fun _ _ h=>by cases h
  case ai=>exact fun _ _=>rfl
  case size=>exact Nat.le_refl _
  case small=>exact fun _ h=>h
  case os=>rfl
  case tape=>rfl
  case output=>rfl
  case φ0=>exact fun _ _ _ h=>h
  case grow=>exact fun _ _ _ h=>.inl h
  case fixed=>exact fun _ _=>rfl
  case tmps=>show Array.size _ = n; simp; omega
  case defers=>rfl
 refine wp_mono (h Y i hg G rfl hG _ _ hH) ?_
 rintro e a w ⟨s,hs,he,hi⟩
 have hd:a.defers = []:=by obtain ⟨_,_,_,h⟩:=hs.h; exact h.defers
 have DT:(results fn a.tmps).run P w = .ok (.tuple #[]) w:=by
  have e:results fn a.tmps = (do let vs <- fn.results.mapM (q8 a.tmps); Pure.pure (if h:vs.size = 1 then vs[0] else .tuple vs):Sem Value):=rfl
  rw [e,hr]
  refine kD (u:=#[]) (by simp [Sem.run_pure]) rfl
 have hk:a.defers = [] /\ ∃ v,(results fn a.tmps).run P w = .ok v w /\ ∃ v',Ending.returned v = .returned v' /\ Y.J (i ++ g) w /\ Kp Y.S E.w w:=⟨hd,_,DT,_,rfl,hi ▸ hs.j,hs.kp⟩
 rcases he with rfl | rfl
 ·exact hk
 ·exact hk
end
end Go.AW
namespace Go.AW
open Go
def bN(P:Program)(l:Nat)(N:fA)(c:Code)(st:St)(Q:Exit -> St -> Prop):Prop :=
 ∀ G:Ctx,G.fn = N -> ∀ a w,cI G st a w -> c.wpIn (FR (some l)) 0 P (od G Q) a w
section
variable {P:Program} {l:Nat} {N:fA} {st ba:St} {Q Q':Exit -> St -> Prop} {id:Nat} {x y c:Code}
theorem bN.le(hl:Le st ba)(h:bN P l N c ba Q):bN P l N c st Q:=fun G hn a w hh=>h G hn a w (hl.holds hh)
theorem bN.mono(h:bN P l N c st Q)(hq:∀ e st,Q e st -> Q' e st):bN P l N c st Q':=fun G hn a w hh=>wpIn_mono (h G hn a w hh) fun e _ _ hp=>od.mono (hq e) hp
theorem bN.sh(h:Sh N st ba)(k:bN P l N c ba Q):bN P l N c st Q:=fun G hn a w hh=>k G hn a w (h G hn a w hh)
theorem bN.skip(h:Q .normal st):bN P l N .skip st Q:=fun _ _ _ _ hh=>wpIn_skip ⟨st,hh,h⟩
theorem bN.exit(h:Q (.exit id) st):bN P l N (.exit id) st Q:=fun _ _ _ _ hh=>wpIn_exit ⟨st,hh,h⟩
theorem bN.seq(h:bN P l N x st (jz (fun ba=>bN P l N y ba Q) Q)):bN P l N (.seq x y) st Q:=by
 intro G hn a w hh
 refine wpIn_seq (wpIn_mono (h G hn a w hh) ?_)
 rintro e a' w' ⟨ba,iI,hq⟩
 cases e <;> first | exact hq G hn a' w' iI | exact ⟨ba,iI,hq⟩
theorem bN.block(h:bN P l N c st (pf id Q)):bN P l N (.block id c) st Q:=by
 intro G hn a w hh
 refine wpIn_block (wpIn_mono (h G hn a w hh) ?_)
 rintro e a' w' ⟨ba,iI,hq⟩
 cases e with
 | exit id' =>
  simp only [pf] at hq
  simp only [Exit.inBlock]
  cases hb:Nat.beq id' id with
  | true =>
   rw [hb] at hq
   rw [if_pos (Nat.eq_of_beq_eq_true hb)]
   exact ⟨ba,iI,hq⟩
  | false =>
   rw [hb] at hq
   rw [if_neg (Nat.ne_of_beq_eq_false hb)]
   exact ⟨ba,iI,hq⟩
 | _=>exact ⟨ba,iI,hq⟩
theorem bN.cond{o:Operand}{b:Bool}(hc:bV st o = some (.v (.bool b)))(ht:b = true -> bN P l N x st Q)(hf:b = false -> bN P l N y st Q):bN P l N (.cond o x y) st Q:=by
 intro G hn a w hh
 obtain ⟨E,RR,rfl,hi⟩:=hh
 have hv:=hi.val hc
 cases b with
 | true=>exact wpIn_cond (t:=true) hv (by simpa using ht rfl G hn a E.w ⟨E,RR,rfl,hi⟩)
 | false=>exact wpIn_cond (t:=false) hv (by simpa using hf rfl G hn a E.w ⟨E,RR,rfl,hi⟩)
theorem bN.aB{o:Operand}{p:Prop}{inst:Decidable p}(hc:bV st o = some (.v (.bool (decide p))))(ht:p -> bN P l N x st Q)(hf:¬ p -> bN P l N y st Q):bN P l N (.cond o x y) st Q :=
 bN.cond hc (fun h=>ht (of_decide_eq_true h)) (fun h=>hf (of_decide_eq_false h))
theorem bN.aQ{o:Operand}(hc:bV st o = some (.v (.bool true)))(h:bN P l N x st Q):bN P l N (.cond o x y) st Q:=bN.cond hc (fun _=>h) (fun h=>by cases h)
theorem bN.cu{o:Operand}(hc:bV st o = some (.v (.bool false)))(h:bN P l N y st Q):bN P l N (.cond o x y) st Q:=bN.cond hc (fun h=>by cases h) (fun _=>h)
theorem bN.oD{x y:Code}(J:St)(I:Prop)(hx:bN P l N x st (jz (fun ba=>I /\ Le ba J) Q))(hy:I -> bN P l N y J Q):bN P l N (.seq x y) st Q :=
 bN.seq (hx.mono fun e Ec h=>by cases e with
  | normal=>exact (hy h.1).le h.2
  | _=>exact h)
theorem bN.region{ops:List Oper}(h:aU P N ops.toArray ops st (Dg (fun ba=>Q .normal ba)))(hd:ops.all lb = true:=by rfl):bN P l N (.region id ops.toArray false) st Q:=by
 intro G hn a w hh
 refine wpIn_mono (Df (Q:=od G (Dg (fun ba=>Q .normal ba))) (fun ⟨_,_,_,_,h⟩=>h) hd (h G hn a w hh)) ?_
 rintro e a' w' ⟨ba,iI,hq⟩
 cases e <;> first | exact ⟨ba,iI,hq⟩ | exact hq.elim
theorem bN.sr{ops:List Oper}(h:aU P N ops.toArray ops st (Dg (fun ba=>bN P l N y ba Q)))(hd:ops.all lb = true:=by rfl):bN P l N (.seq (.region id ops.toArray false) y) st Q :=
 bN.seq (bN.region (Q:=jz (fun ba=>bN P l N y ba Q) Q) h hd)
theorem bN.jh(L F':List Nat){ops:Array Oper}(hm:P.follows .mixedOrders = true)(h:cb P N L F' ops ops.size (Array.replicate ops.size false) st (fun ba=>Q .normal ba))(hd:ops.toList.all lb = true:=by rfl):bN P l N (.region id ops true) st Q:=by
 intro G hn a w hh
 obtain ⟨E,RR,hw,hi⟩:=hh.drew
 have h1:=hw ▸ h G hn E RR a _ (fun _ _=>rfl) hi
 refine wpIn_mono (lR (Q:=fun e a w=>e = .normal /\ ∃ ba,Q .normal ba /\ cI G ba a w) hm (fun ⟨_,_,h,_⟩=>by cases h) hd (wpAny_of_held _ _ _ _ h1)) ?_
 rintro e a w ⟨rfl,ba,hk,iI⟩
 exact ⟨ba,iI,hk⟩
theorem bN.gq{ops:Array Oper}(hm:P.follows .mixedOrders = true)(h:cb P N [] N.F ops ops.size (Array.replicate ops.size false) st (fun ba=>Q .normal ba))(hd:ops.toList.all lb = true:=by rfl):bN P l N (.region id ops true) st Q:=bN.jh [] N.F hm h hd
theorem bN.de{ops:Array Oper}(hm:P.follows .mixedOrders = true)(h:fB P N ops ops.size (Array.replicate ops.size false) st (fun ba=>Q .normal ba))(hd:ops.toList.all lb = true:=by rfl):bN P l N (.region id ops true) st Q:=by
 intro G hn a w hh
 have h1:=h G hn a _ hh.drew
 refine wpIn_mono (lR (Q:=fun e a w=>e = .normal /\ ∃ ba,Q .normal ba /\ cI G ba a w) hm (fun ⟨_,_,h,_⟩=>by cases h) hd h1) ?_
 rintro e a w ⟨rfl,ba,hk,iI⟩
 exact ⟨ba,iI,hk⟩
end
end Go.AW
namespace Go.AW
open Go
structure Ext(G G':Ctx):Prop where
 fn:G'.fn = G.fn
 K:∀ b,G.K b -> G'.K b
 ai:∀ b,G.K b -> G'.w0.heap[b]? = G.w0.heap[b]?
 size:G.w0.heap.size <= G'.w0.heap.size
 os:G'.w0.os = G.w0.os
 tape:G'.w0.tape = G.w0.tape
 output:G'.w0.output = G.w0.output
 φ0:∀ b i v,G.φ0 b i = some v -> G'.φ0 b i = some v
 grow:∀ b i v,G'.φ0 b i = some v -> G.φ0 b i = some v \/ ¬ G.K b
 fixed:∀ o,G.fn.F.elem o = true -> G'.β0 o = G.β0 o
 marks:∃ ms:List Nat,G'.ds = ms.map (fun D=>{ target:=.collected D,args:=#[] }) ++ G.ds /\ ms.Nodup /\ ∀ D ∈ ms,G'.K D /\ ¬ G.K D /\ G'.w0.heap[D]? = some (.deferred (some []))
theorem Ext.refl(G:Ctx):Ext G G:=⟨rfl,fun _ h=>h,fun _ _=>rfl,Nat.le_refl _,rfl,rfl,rfl,fun _ _ _ h=>h,fun _ _ _ h=>.inl h,fun _ _=>rfl,[],rfl,List.nodup_nil,fun _ h=>by cases h⟩
theorem Ext.trans{A B C:Ctx}(h:Ext A B)(k:Ext B C):Ext A C:=by
 obtain ⟨ms,h1,h2,h3⟩:=h.marks
 obtain ⟨ns,k1,k2,k3⟩:=k.marks
 refine ⟨k.fn.trans h.fn, fun b hb => k.K b (h.K b hb), fun b hb => (k.ai b (h.K b hb)).trans (h.ai b hb), Nat.le_trans h.size k.size, k.os.trans h.os, k.tape.trans h.tape, k.output.trans h.output, fun b i v hv => k.φ0 b i v (h.φ0 b i v hv), fun b i v hv => ?_,
  fun o ho=>(k.fixed o (by rw [h.fn]; exact ho)).trans (h.fixed o ho),ns ++ ms,?_,?_,?_⟩
 ·rcases k.grow b i v hv with h4 | h4
  ·exact h.grow b i v h4
  ·exact .inr (fun hb=>h4 (h.K b hb))
 ·rw [k1,h1,List.map_append,List.append_assoc]
 ·refine List.nodup_append.2 ⟨k2,h2,fun a ha b hb e=>?_⟩
  subst e
  exact (k3 a ha).2.1 (h3 a hb).1
 ·intro D hD
  rcases List.mem_append.1 hD with hD | hD
  ·obtain ⟨a,b,c⟩:=k3 D hD
   exact ⟨a,fun hk=>b (h.K D hk),c⟩
  ·obtain ⟨a,b,c⟩:=h3 D hD
   exact ⟨k.K D a,b,(k.ai D a).trans c⟩
def PQ(G:Ctx)(Q:Exit -> St -> Prop)(e:Exit)(a:Act)(w:World):Prop:=∃ G',Ext G G' /\ od G' Q e a w
def qO(P:Program)(N:fA)(c:Code)(st:St)(Q:Exit -> St -> Prop):Prop :=
 ∀ G:Ctx,G.fn = N -> ∀ a w,cI G st a w -> c.wp P (PQ G Q) a w
section
variable {P:Program} {N:fA} {st ba:St} {Q Q':Exit -> St -> Prop} {id:Nat} {x y c:Code}
theorem qO.of(h:dA P N c st Q):qO P N c st Q:=fun G hn a w hh=>wp_mono (h G hn a w hh) fun _ _ _ hp=>⟨G,.refl G,hp⟩
theorem qO.le(hl:Le st ba)(h:qO P N c ba Q):qO P N c st Q:=fun G hn a w hh=>h G hn a w (hl.holds hh)
theorem qO.sh(h:Sh N st ba)(k:qO P N c ba Q):qO P N c st Q:=fun G hn a w hh=>k G hn a w (h G hn a w hh)
theorem qO.seq(h:qO P N x st (jz (fun ba=>qO P N y ba Q) Q)):qO P N (.seq x y) st Q:=by
 intro G hn a w hh
 refine wp_seq (wp_mono (h G hn a w hh) ?_)
 rintro e a' w' ⟨G',hx,ba,iI,hq⟩
 cases e with
 | normal=>exact wp_mono (hq G' (hx.fn.trans hn) a' w' iI) fun _ _ _ ⟨Ym,j2,hp⟩=>⟨Ym,hx.trans j2,hp⟩
 | _=>exact ⟨G',hx,ba,iI,hq⟩
theorem qO.block(h:qO P N c st (pf id Q)):qO P N (.block id c) st Q:=by
 intro G hn a w hh
 refine wp_block (wp_mono (h G hn a w hh) ?_)
 rintro e a' w' ⟨G',hx,ba,iI,hq⟩
 cases e with
 | exit id' =>
  simp only [pf] at hq
  simp only [Exit.inBlock]
  cases hb:Nat.beq id' id with
  | true =>
   rw [hb] at hq
   rw [if_pos (Nat.eq_of_beq_eq_true hb)]
   exact ⟨G',hx,ba,iI,hq⟩
  | false =>
   rw [hb] at hq
   rw [if_neg (Nat.ne_of_beq_eq_false hb)]
   exact ⟨G',hx,ba,iI,hq⟩
 | _=>exact ⟨G',hx,ba,iI,hq⟩
end
end Go.AW
namespace Go.AW
open Go Go.RowKit
structure I8(ν:List Nat)(ob:Obj):Prop where
 plain:ob.plain
 Yn:jS ob
 ng:ob ≠ .gone
 eM:∀ q,ob.ct q = true -> q ∈ ν
section
variable {P:Program} {N:fA} {st:St} {Q:Exit -> St -> Prop}
end
end Go.AW
namespace Go.AW
open Go
section
variable {P:Program} {Y:vb P} {N:fA} {s:qN} {Q:Exit -> qN -> Prop}
theorem bM.oD{x y:Code}(J:qN)(I:Prop)(hx:bM P Y N x s (oc (fun ba=>I /\ wY ba J) Q))(hy:I -> bM P Y N y J Q):bM P Y N (.seq x y) s Q :=
 bM.join (fun _:Unit=>J) (fun _=>I) (hx.mono fun e _ h=>by cases e <;> first | exact ⟨(),h⟩ | exact h) (fun _ h=>hy h)
theorem bM.gS{α0 : Type}{c : Code}(S : α0 → qN)(I : α0 → Prop)(μ : α0 → Nat)(i0 : α0)(hi : I i0)(hs : wY s (S i0))
  (round:∀ a0,I a0 -> bM P Y N c (S a0) (oc (fun ba=>∃ b0,I b0 /\ μ b0 < μ a0 /\ wY ba (S b0)) Q)):bM P Y N (.loop c) s Q :=
 bM.loop (ι:=α0) (fun u=>S u) (fun u=>I u) (fun u=>μ u) i0 hi hs (fun u h=>(round u h).mono fun e _ h=>by
  cases e <;> first | exact h | (obtain ⟨b0,h⟩:=h; exact ⟨b0,h⟩))
theorem bM.iu{α0:Type}{x y:Code}(J:α0 -> qN)(I:α0 -> Prop)(hx:bM P Y N x s (oc (fun ba=>∃ b0,I b0 /\ wY ba (J b0)) Q))(hy:∀ a0,I a0 -> bM P Y N y (J a0) Q):bM P Y N (.seq x y) s Q :=
 bM.join (ι:=α0) (fun u=>J u) (fun u=>I u) (hx.mono fun e _ h=>by cases e <;> first | exact h | (obtain ⟨b0,h⟩:=h; exact ⟨b0,h⟩)) (fun u h=>hy u h)
theorem bM.gT{α0 α1 : Type}{c : Code}(S : α0 → α1 → qN)(I : α0 → α1 → Prop)(μ : α0 → α1 → Nat)(i0 : α0)(i1 : α1)(hi : I i0 i1)(hs : wY s (S i0 i1))
  (round:∀ a0 a1,I a0 a1 -> bM P Y N c (S a0 a1) (oc (fun ba=>∃ b0 b1,I b0 b1 /\ μ b0 b1 < μ a0 a1 /\ wY ba (S b0 b1)) Q)):bM P Y N (.loop c) s Q :=
 bM.loop (ι:=α0 × α1) (fun u=>S u.1 u.2) (fun u=>I u.1 u.2) (fun u=>μ u.1 u.2) (i0,i1) hi hs (fun u h=>(round u.1 u.2 h).mono fun e _ h=>by
  cases e <;> first | exact h | (obtain ⟨b0,b1,h⟩:=h; exact ⟨(b0,b1),h⟩))
theorem bM.kY{α0 α1:Type}{x y:Code}(J:α0 -> α1 -> qN)(I:α0 -> α1 -> Prop)(hx:bM P Y N x s (oc (fun ba=>∃ b0 b1,I b0 b1 /\ wY ba (J b0 b1)) Q))(hy:∀ a0 a1,I a0 a1 -> bM P Y N y (J a0 a1) Q):bM P Y N (.seq x y) s Q :=
 bM.join (ι:=α0 × α1) (fun u=>J u.1 u.2) (fun u=>I u.1 u.2) (hx.mono fun e _ h=>by cases e <;> first | exact h | (obtain ⟨b0,b1,h⟩:=h; exact ⟨(b0,b1),h⟩)) (fun u h=>hy u.1 u.2 h)
theorem bM.e8{α0 α1 α2 : Type}{c : Code}(S : α0 → α1 → α2 → qN)(I : α0 → α1 → α2 → Prop)(μ : α0 → α1 → α2 → Nat)(i0 : α0)(i1 : α1)(i2 : α2)(hi : I i0 i1 i2)(hs : wY s (S i0 i1 i2))
  (round:∀ a0 a1 a2,I a0 a1 a2 -> bM P Y N c (S a0 a1 a2) (oc (fun ba=>∃ b0 b1 b2,I b0 b1 b2 /\ μ b0 b1 b2 < μ a0 a1 a2 /\ wY ba (S b0 b1 b2)) Q)):bM P Y N (.loop c) s Q :=
 bM.loop (ι:=α0 × α1 × α2) (fun u=>S u.1 u.2.1 u.2.2) (fun u=>I u.1 u.2.1 u.2.2) (fun u=>μ u.1 u.2.1 u.2.2) (i0,i1,i2) hi hs (fun u h=>(round u.1 u.2.1 u.2.2 h).mono fun e _ h=>by
  cases e <;> first | exact h | (obtain ⟨b0,b1,b2,h⟩:=h; exact ⟨(b0,b1,b2),h⟩))
theorem bM.Bi{α0 α1 α2:Type}{x y:Code}(J:α0 -> α1 -> α2 -> qN)(I:α0 -> α1 -> α2 -> Prop)(hx:bM P Y N x s (oc (fun ba=>∃ b0 b1 b2,I b0 b1 b2 /\ wY ba (J b0 b1 b2)) Q))(hy:∀ a0 a1 a2,I a0 a1 a2 -> bM P Y N y (J a0 a1 a2) Q):bM P Y N (.seq x y) s Q :=
 bM.join (ι:=α0 × α1 × α2) (fun u=>J u.1 u.2.1 u.2.2) (fun u=>I u.1 u.2.1 u.2.2) (hx.mono fun e _ h=>by cases e <;> first | exact h | (obtain ⟨b0,b1,b2,h⟩:=h; exact ⟨(b0,b1,b2),h⟩)) (fun u h=>hy u.1 u.2.1 u.2.2 h)
theorem bM.Bj{α0 α1 α2 α3 : Type}{c : Code}(S : α0 → α1 → α2 → α3 → qN)(I : α0 → α1 → α2 → α3 → Prop)(μ : α0 → α1 → α2 → α3 → Nat)(i0 : α0)(i1 : α1)(i2 : α2)(i3 : α3)(hi : I i0 i1 i2 i3)(hs : wY s (S i0 i1 i2 i3))
  (round:∀ a0 a1 a2 a3,I a0 a1 a2 a3 -> bM P Y N c (S a0 a1 a2 a3) (oc (fun ba=>∃ b0 b1 b2 b3,I b0 b1 b2 b3 /\ μ b0 b1 b2 b3 < μ a0 a1 a2 a3 /\ wY ba (S b0 b1 b2 b3)) Q)):bM P Y N (.loop c) s Q :=
 bM.loop (ι:=α0 × α1 × α2 × α3) (fun u=>S u.1 u.2.1 u.2.2.1 u.2.2.2) (fun u=>I u.1 u.2.1 u.2.2.1 u.2.2.2) (fun u=>μ u.1 u.2.1 u.2.2.1 u.2.2.2) (i0,i1,i2,i3) hi hs (fun u h=>(round u.1 u.2.1 u.2.2.1 u.2.2.2 h).mono fun e _ h=>by
  cases e <;> first | exact h | (obtain ⟨b0,b1,b2,b3,h⟩:=h; exact ⟨(b0,b1,b2,b3),h⟩))
theorem bM.Bk{α0 α1 α2 α3:Type}{x y:Code}(J:α0 -> α1 -> α2 -> α3 -> qN)(I:α0 -> α1 -> α2 -> α3 -> Prop)(hx:bM P Y N x s (oc (fun ba=>∃ b0 b1 b2 b3,I b0 b1 b2 b3 /\ wY ba (J b0 b1 b2 b3)) Q))(hy:∀ a0 a1 a2 a3,I a0 a1 a2 a3 -> bM P Y N y (J a0 a1 a2 a3) Q):bM P Y N (.seq x y) s Q :=
 bM.join (ι:=α0 × α1 × α2 × α3) (fun u=>J u.1 u.2.1 u.2.2.1 u.2.2.2) (fun u=>I u.1 u.2.1 u.2.2.1 u.2.2.2) (hx.mono fun e _ h=>by cases e <;> first | exact h | (obtain ⟨b0,b1,b2,b3,h⟩:=h; exact ⟨(b0,b1,b2,b3),h⟩)) (fun u h=>hy u.1 u.2.1 u.2.2.1 u.2.2.2 h)
end
mutual
theorem I9{q : Nat} : ∀ {x : X}, x.nr = true → x.eM q = false
 | .v _,_ | .no,_ | .fz ..,_ | .dK ..,_ | .fp ..,_=>rfl
 | .ptr ..,h=>by cases h
 | .aN ..,h=>by cases h
 | .mref _,h=>by cases h
 | .agg xs,h=>l3 (xs:=xs) h
 | .tup xs,h=>l3 (xs:=xs) h
 | .jQ _ a b,h=>by
  simp only [X.nr,Bool.and_eq_true] at h
  simp only [X.eM,l3 h.1,l3 h.2,Bool.or_self]
theorem l3{q : Nat} : ∀ {xs : List X}, X.iH xs = true → X.ct q xs = false
 | [],_=>rfl
 | x :: r,h=>by
  simp only [X.iH,Bool.and_eq_true] at h
  simp only [X.ct,I9 h.1,l3 h.2,Bool.or_self]
end
theorem I8.cells{ν:List Nat}{xs:List X}(hp:X.fm xs)(hn:X.iH xs = true):I8 ν (.cells xs) :=
 ⟨hp,trivial,by simp,fun q h=>by have h:X.ct q xs = true:=h; rw [l3 hn] at h; cases h⟩
theorem I8.rows{ν:List Nat}{s:Nat}{rs:List (List X)}(hp:X.m8 rs)(h0:∀ r ∈ rs,X.b6 r = true):I8 ν (.rows s rs):=⟨hp,h0,by simp,fun q h=>by cases h⟩
end Go.AW
namespace Go.AW
open Go
section
variable {P:Program} {N:fA} {st:St} {Q:Exit -> St -> Prop} {all:Array Oper} {rest:List Oper} {d:Nat} {ty:TypeId} {pos:String} {af:Array Edge}
theorem Sh.Qj(o q i : Nat){s n : Nat}{rows : List (List X)}{rs : List (List X)}(tW : List (List X))(ho : look st.aG o = some (.rows 1 rs))(hr : rs[i]? = some [.dK s rows])(he : rs.set i [.no] = tW)(hl : n = rows.length)(fN : Nat.beq q o = false)(hF : N.F.elem q = false) :
  Sh N st (((st.kill q).dC q (.rows s rows)).dC o (.hole tW i q s n)):=by
 intro G hn a w hh
 obtain ⟨E,RR,rfl,hi⟩:=hh
 subst he hl
 have aZ:=hi.aG o _ ho
 have jR:=hi.nodup (.obj o)
 simp only [dR] at aZ
 obtain ⟨hu,aZ⟩:=aZ
 rcases aZ with ⟨_,h,_⟩ | ⟨B,cs,tb,R',hB,hw,hφ,lV,hlen,jX,jd⟩
 ·subst h; simp at hr
 have zC:i < rs.length:=by
  rcases Nat.lt_or_ge i rs.length with h' | h'
  ·exact h'
  ·simp [List.getElem?_eq_none h'] at hr
 obtain ⟨u,Ry,R1,yI,hs,C5,xf,Ka,dS⟩:=cG.pick (k:=0) (y:=.dK s rows) hu jX hr rfl
 rw [jd] at jR
 obtain ⟨tR,n5⟩:=List.nodup_cons.1 jR
 have MT:=Ka n5
 obtain ⟨m1,m2,m3⟩:=List.nodup_append.1 MT
 have xE:∀ b ∈ Ry ++ R1,b ∈ RR (.obj o):=fun b hb=>by rw [jd]; exact List.mem_cons.2 (.inr (dS b hb))
 have Cu:(B.b :: R1).Nodup:=List.nodup_cons.2 ⟨fun h=>tR (dS _ (List.mem_append.2 (.inr h))),m2⟩
 have yF:∀ b ∈ B.b :: R1,b ∈ RR (.obj o):=fun b hb=>by
  rcases List.mem_cons.1 hb with h | h
  ·rw [jd,h]; simp
  ·exact xE b (List.mem_append.2 (.inr h))
 have mN:Inv G E (gg RR (.obj o) (B.b :: R1)) (st.dC o (.rows 1 (rs.set i [.no]))) a:=by
  refine hi.dC ?_ Cu fun b hb=>?_
  ·simp only [dR]
   refine ⟨hu.set rfl,.inr ⟨B,cs,tb,R1,hB,hw,hφ,by simpa using lV,hlen,xf,rfl⟩⟩
  ·exact ⟨(hi.own _ _ (yF b hb)).1,(hi.own _ _ (yF b hb)).2,fun p hp h=>hi.apart _ _ hp b h (yF b hb)⟩
 have MK:q ≠ o:=Nat.ne_of_beq_eq_false fN
 have iA:∀ (bk:Option AX) R',E.On { E with β:=fun p=>if p = q then bk else E.β p } R':=fun _ R'=>⟨fun _ _ _ h=>h,fun _ _=>⟨rfl,fun h=>h⟩⟩
 have hβ:∀ (bk:Option AX),di G E { E with β:=fun p=>if p = q then bk else E.β p } (fun _=>False):=fun _ =>
  ⟨rfl,fun _ h=>h.elim,fun _ h=>h.elim,fun _ _ _=>rfl,Nat.le_refl _,rfl,rfl,rfl⟩
 have fin : ∀ (bk : Option AX), dR { E with β := fun p => if p = q then bk else E.β p } q (.rows s rows) Ry → RX { E with β := fun p => if p = q then bk else E.β p } (.aN q s 0 rows.length) u [] →
   cI G (((st.kill q).dC q (.rows s rows)).dC o (.hole (rs.set i [.no]) i q s rows.length)) a E.w:=by
  intro bk UE hx
  have h4 := mN.l8 (hβ bk) (o := q) (ob := .rows s rows) (R := Ry) (fun _ h => h.elim) (fun p hp => by simp [hp]) (fun h => by rw [hn, hF] at h; cases h) UE m1
   (fun c hc=>by
    have QW:=xE c (List.mem_append.2 (.inl hc))
    refine ⟨(hi.own _ _ QW).1,(hi.own _ _ QW).2,fun p hp lW=>?_⟩
    unfold gg at lW
    split at lW
    ·rcases List.mem_cons.1 lW with h | h
     ·exact tR (h ▸ dS c (List.mem_append.2 (.inl hc)))
     ·exact m3 c hc c h rfl
    ·rename_i Q7
     exact hi.apart p (.obj o) Q7 c lW QW)
  have UF:fh (st.dC o (.rows 1 (rs.set i [.no]))) (gg RR (.obj o) (B.b :: R1)) q Ry (.obj o) = B.b :: R1:=by simp [fh,Ne.symm MK,gg]
  have h5 := h4.dC (o := o) (ob := .hole (rs.set i [.no]) i q s rows.length) (R := B.b :: R1)
   (by
    simp only [dR]
    exact ⟨hu.set rfl,B,cs,tb,R1,u,by simp [Ne.symm MK,hB],hw,hφ,by simpa using lV,by simpa using hlen,cG.mono _ _ _ _ (iA bk R1) xf,rfl,by simpa using zC,by simpa using yI,hs,hx⟩)
   Cu (fun b hb=>⟨(hi.own _ _ (yF b hb)).1,(hi.own _ _ (yF b hb)).2,fun p hp h=>h4.apart p (.obj o) hp b h (by rw [UF]; exact hb)⟩)
  refine ⟨{ E with β:=fun p=>if p = q then bk else E.β p },_,rfl,{ h5 with aF:=fun p y hy=>h5.aF p y hy,aG:=fun p y hy=>h5.aG p y ?_ }⟩
  simp only [St.dC,St.kill,wz,List.map_cons,look] at hy ⊢
  cases hb:Nat.beq o p with
  | true=>rw [hb] at hy; simpa using hy
  | false=>rw [hb] at hy; simpa using hy
 simp only [RX] at C5
 obtain ⟨WI,base,cap,hc,cZ⟩:=C5
 rcases cZ with ⟨h1,h2,h3⟩ | ⟨b,off,dv,Q6,Cr,hb,qU,xp,nv,SF,zB,UG⟩
 ·refine fin none ?_ ?_
  ·simp only [dR]; exact ⟨WI,.inl ⟨by simp,h1,h3⟩⟩
  ·simp only [RX]; exact ⟨trivial,base,cap,hc,.inl ⟨by simp,trivial,by simp [h1],h2⟩⟩
 ·refine fin (some ⟨b,off,cap⟩) ?_ ?_
  ·simp only [dR]; exact ⟨WI,.inr ⟨⟨b,off,cap⟩,dv,Q6,Cr,by simp,qU,SF,xp,nv,cG.mono _ _ _ _ (iA _ _) zB,UG⟩⟩
  ·simp only [RX]; exact ⟨trivial,base,cap,hc,.inr ⟨⟨b,off,cap⟩,by simp,by simp,xp,.inr (by simpa using hb)⟩⟩
theorem Inv.vf{G:Ctx}{E:Env}{RR:Own -> List Nat}{a:Act}(hi:Inv G E RR st a){o i q s n:Nat}{rs:List (List X)}(ho:look st.aG o = some (.hole rs i q s n)):Inv G E RR (st.dC o (.rows 1 rs)) a :=
 {hi with
  aG:=fun p ob hp=>by
   simp only [St.dC,look] at hp
   cases hb:Nat.beq o p with
   | true =>
    rw [hb] at hp
    simp only [cond_true,Option.some.injEq] at hp
    obtain rfl:=Nat.eq_of_beq_eq_true hb
    subst hp
    exact (hi.aG o _ ho).w4
   | false =>
    rw [hb] at hp
    exact hi.aG p ob hp }
theorem dH.vf{LT L F' : List Nat}{ops : Array Oper}{m : Nat}{ag : Array Bool}{K : St → Prop}(o : Nat){i q s n : Nat}{rs : List (List X)}(ho : look st.aG o = some (.hole rs i q s n))
  (k:dH P N LT L F' ops m ag (st.dC o (.rows 1 rs)) K):dH P N LT L F' ops m ag st K:=fun G hn E RR a T hT hi=>k G hn E RR a T hT (hi.vf ho)
theorem cb.vf{L F' : List Nat}{ops : Array Oper}{m : Nat}{ag : Array Bool}{K : St → Prop}(o : Nat){i q s n : Nat}{rs : List (List X)}(ho : look st.aG o = some (.hole rs i q s n))
  (k:cb P N L F' ops m ag (st.dC o (.rows 1 rs)) K):cb P N L F' ops m ag st K:=fun G hn E RR a T hT hi=>k G hn E RR a T hT (hi.vf ho)
end
end Go.AW
namespace Go.AW
open Go
def v7(z z':List X):Prop:=∀ (E:Env) (cs:Array Value) (off:Nat) (R:List Nat),RO E z cs off R -> RO E z' cs off R
theorem v7.nil:v7 [] []:=fun _ _ _ _ h=>h
theorem v7.same{x:X}{r r':List X}(h:v7 r r'):v7 (x :: r) (x :: r'):=fun E cs off R hh=>by
 simp only [RO] at hh ⊢
 obtain ⟨u,R₁,R₂,h1,h2,h3,h4,h5⟩:=hh
 exact ⟨u,R₁,R₂,h1,h2,h3,h E cs _ _ h4,h5⟩
theorem v7.yG{s:Nat}{r r':List X}(h:v7 r r'):v7 (.v (.slice none 0 0) :: r) (.fz s [] :: r'):=fun E cs off R hh=>by
 simp only [RO] at hh ⊢
 obtain ⟨u,R₁,R₂,h1,h2,h3,h4,h5⟩:=hh
 refine ⟨u,R₁,R₂,h1,h2,?_,h E cs _ _ h4,h5⟩
 simp only [RX] at h3 ⊢
 exact ⟨h3.2,(fun r hr=>by cases hr),none,0,h3.1,Or.inl ⟨trivial,rfl⟩⟩
theorem cG.Qk{E : Env}{z z' : List X}(hl : z.length = z'.length)(hn : X.iH z' = true)(h : v7 z z') : ∀ (n : Nat) (cs : Array Value) (off : Nat) (R : List Nat), cG E (List.replicate n z) cs off R → cG E (List.replicate n z') cs off R
 | 0,_,_,_,hh=>hh
 | n + 1,cs,off,R,hh=>by
  rw [List.replicate_succ] at hh ⊢
  simp only [cG] at hh ⊢
  obtain ⟨R₁,R₂,_,h2,h3,h4⟩:=hh
  exact ⟨R₁,R₂,hn,h E cs off R₁ h2,hl ▸ cG.Qk hl hn h n cs _ R₂ h3,h4⟩
theorem Sh.Ql{N:fA}{st:St}{d s n:Nat}{z z':List X}(hx:look st.aF d = some (.dK s (List.replicate n z)))(hl:z.length = z'.length)(hn:X.iH z' = true)(h:v7 z z'):Sh N st (st.put d (.dK s (List.replicate n z'))):=by
 intro G _ a w hh
 obtain ⟨E,RR,rfl,hi⟩:=hh
 refine ⟨E,RR,rfl,{ hi with aF:=?_ }⟩
 intro t x ht
 simp only [St.put,look] at ht
 cases hb:Nat.beq d t with
 | false=>rw [hb] at ht; exact hi.aF t x ht
 | true =>
  rw [hb] at ht
  have e:=Nat.eq_of_beq_eq_true hb
  subst e
  simp only [cond_true,Option.some.injEq] at ht
  subst ht
  have h0:=hi.aF d _ hx
  simp only [RX,List.length_replicate] at h0 ⊢
  obtain ⟨hu,base,cap,hc,h1⟩:=h0
  refine ⟨fun r hr=>?_,base,cap,hc,?_⟩
  ·rw [(List.mem_replicate.1 hr).2,<- hl]
   exact hu z (List.mem_replicate.2 ⟨(List.mem_replicate.1 hr).1,rfl⟩)
  ·rcases h1 with ⟨h1,h2⟩ | ⟨b,off,cs,ty,R',h1,h2,h3,h4,h5,h6,h7⟩
   ·exact .inl ⟨by simpa using h1,h2⟩
   ·exact .inr ⟨b,off,cs,ty,R',h1,h2,h3,h4,h5,cG.Qk hl hn h n cs off R' h6,h7⟩
end Go.AW
namespace Go.AW
open Go
section
variable {P:Program} {l:Nat} {N:fA} {st:St} {Q:Exit -> St -> Prop}
theorem bN.loop{ι : Type}{c : Code}(S : ι → St)(I : ι → Prop)(μ : ι → Nat)(i : ι)(hi : I i)(hs : Le st (S i))
  (round:∀ i,I i -> bN P l N c (S i) (jz (fun ba=>∃ j,I j /\ μ j < μ i /\ Le ba (S j)) Q)):bN P l N (.loop c) st Q:=by
 intro G hn a w hh
 refine wpIn_loop_ghost (fun n a w=>∃ i,μ i = n /\ I i /\ cI G (S i) a w) (μ i) ⟨i,rfl,hi,hs.holds hh⟩ ?_
 rintro n a w ⟨i,rfl,hI,hh⟩
 refine wpIn_mono (round i hI G hn a w hh) ?_
 rintro e a' w' ⟨ba,iI,hq⟩
 cases e with
 | normal=>obtain ⟨j,hj,gP,hle⟩:=hq; exact ⟨μ j,gP,j,rfl,hj,hle.holds iI⟩
 | _=>exact ⟨ba,iI,hq⟩
theorem bN.join{ι:Type}{x y:Code}(J:ι -> St)(I:ι -> Prop)(hx:bN P l N x st (jz (fun ba=>∃ i,I i /\ Le ba (J i)) Q))(hy:∀ i,I i -> bN P l N y (J i) Q):bN P l N (.seq x y) st Q:=by
 refine bN.seq (hx.mono ?_)
 intro e Ec h
 cases e with
 | normal=>obtain ⟨i,hI,hle⟩:=h; exact (hy i hI).le hle
 | _=>exact h
theorem bN.bt{dj:Nat}{p:Prop}{inst:Decidable p}{x y:Code}(hc:look st.aF dj = some (.v (.bool (decide p))))(ht:p -> bN P l N x (st.put dj (.v (.bool true))) Q)(hf:¬ p -> bN P l N y (st.put dj (.v (.bool false))) Q):bN P l N (.cond (.tmp dj) x y) st Q:=by
 refine bN.aB (p:=p) (inst:=inst) hc (fun h=>?_) (fun h=>?_)
 ·exact (ht h).le (Le.test (by rw [hc,decide_eq_true h]))
 ·exact (hf h).le (Le.test (by rw [hc,decide_eq_false h]))
theorem bN.gS{α0 : Type}{c : Code}(S : α0 → St)(I : α0 → Prop)(μ : α0 → Nat)(i0 : α0)(hi : I i0)(hs : Le st (S i0))
  (round:∀ a0,I a0 -> bN P l N c (S a0) (jz (fun ba=>∃ b0,I b0 /\ μ b0 < μ a0 /\ Le ba (S b0)) Q)):bN P l N (.loop c) st Q :=
 bN.loop (ι:=α0) (fun u=>S u) (fun u=>I u) (fun u=>μ u) i0 hi hs (fun u h=>(round u h).mono fun e _ h=>by
  cases e <;> first | exact h | (obtain ⟨b0,h⟩:=h; exact ⟨b0,h⟩))
theorem bN.iu{α0:Type}{x y:Code}(J:α0 -> St)(I:α0 -> Prop)(hx:bN P l N x st (jz (fun ba=>∃ b0,I b0 /\ Le ba (J b0)) Q))(hy:∀ a0,I a0 -> bN P l N y (J a0) Q):bN P l N (.seq x y) st Q :=
 bN.join (ι:=α0) (fun u=>J u) (fun u=>I u) (hx.mono fun e _ h=>by cases e <;> first | exact h | (obtain ⟨b0,h⟩:=h; exact ⟨b0,h⟩)) (fun u h=>hy u h)
theorem bN.gT{α0 α1 : Type}{c : Code}(S : α0 → α1 → St)(I : α0 → α1 → Prop)(μ : α0 → α1 → Nat)(i0 : α0)(i1 : α1)(hi : I i0 i1)(hs : Le st (S i0 i1))
  (round:∀ a0 a1,I a0 a1 -> bN P l N c (S a0 a1) (jz (fun ba=>∃ b0 b1,I b0 b1 /\ μ b0 b1 < μ a0 a1 /\ Le ba (S b0 b1)) Q)):bN P l N (.loop c) st Q :=
 bN.loop (ι:=α0 × α1) (fun u=>S u.1 u.2) (fun u=>I u.1 u.2) (fun u=>μ u.1 u.2) (i0,i1) hi hs (fun u h=>(round u.1 u.2 h).mono fun e _ h=>by
  cases e <;> first | exact h | (obtain ⟨b0,b1,h⟩:=h; exact ⟨(b0,b1),h⟩))
theorem bN.kY{α0 α1:Type}{x y:Code}(J:α0 -> α1 -> St)(I:α0 -> α1 -> Prop)(hx:bN P l N x st (jz (fun ba=>∃ b0 b1,I b0 b1 /\ Le ba (J b0 b1)) Q))(hy:∀ a0 a1,I a0 a1 -> bN P l N y (J a0 a1) Q):bN P l N (.seq x y) st Q :=
 bN.join (ι:=α0 × α1) (fun u=>J u.1 u.2) (fun u=>I u.1 u.2) (hx.mono fun e _ h=>by cases e <;> first | exact h | (obtain ⟨b0,b1,h⟩:=h; exact ⟨(b0,b1),h⟩)) (fun u h=>hy u.1 u.2 h)
theorem bN.e8{α0 α1 α2 : Type}{c : Code}(S : α0 → α1 → α2 → St)(I : α0 → α1 → α2 → Prop)(μ : α0 → α1 → α2 → Nat)(i0 : α0)(i1 : α1)(i2 : α2)(hi : I i0 i1 i2)(hs : Le st (S i0 i1 i2))
  (round:∀ a0 a1 a2,I a0 a1 a2 -> bN P l N c (S a0 a1 a2) (jz (fun ba=>∃ b0 b1 b2,I b0 b1 b2 /\ μ b0 b1 b2 < μ a0 a1 a2 /\ Le ba (S b0 b1 b2)) Q)):bN P l N (.loop c) st Q :=
 bN.loop (ι:=α0 × α1 × α2) (fun u=>S u.1 u.2.1 u.2.2) (fun u=>I u.1 u.2.1 u.2.2) (fun u=>μ u.1 u.2.1 u.2.2) (i0,i1,i2) hi hs (fun u h=>(round u.1 u.2.1 u.2.2 h).mono fun e _ h=>by
  cases e <;> first | exact h | (obtain ⟨b0,b1,b2,h⟩:=h; exact ⟨(b0,b1,b2),h⟩))
theorem bN.Bi{α0 α1 α2:Type}{x y:Code}(J:α0 -> α1 -> α2 -> St)(I:α0 -> α1 -> α2 -> Prop)(hx:bN P l N x st (jz (fun ba=>∃ b0 b1 b2,I b0 b1 b2 /\ Le ba (J b0 b1 b2)) Q))(hy:∀ a0 a1 a2,I a0 a1 a2 -> bN P l N y (J a0 a1 a2) Q):bN P l N (.seq x y) st Q :=
 bN.join (ι:=α0 × α1 × α2) (fun u=>J u.1 u.2.1 u.2.2) (fun u=>I u.1 u.2.1 u.2.2) (hx.mono fun e _ h=>by cases e <;> first | exact h | (obtain ⟨b0,b1,b2,h⟩:=h; exact ⟨(b0,b1,b2),h⟩)) (fun u h=>hy u.1 u.2.1 u.2.2 h)
theorem bN.Bj{α0 α1 α2 α3 : Type}{c : Code}(S : α0 → α1 → α2 → α3 → St)(I : α0 → α1 → α2 → α3 → Prop)(μ : α0 → α1 → α2 → α3 → Nat)(i0 : α0)(i1 : α1)(i2 : α2)(i3 : α3)(hi : I i0 i1 i2 i3)(hs : Le st (S i0 i1 i2 i3))
  (round:∀ a0 a1 a2 a3,I a0 a1 a2 a3 -> bN P l N c (S a0 a1 a2 a3) (jz (fun ba=>∃ b0 b1 b2 b3,I b0 b1 b2 b3 /\ μ b0 b1 b2 b3 < μ a0 a1 a2 a3 /\ Le ba (S b0 b1 b2 b3)) Q)):bN P l N (.loop c) st Q :=
 bN.loop (ι:=α0 × α1 × α2 × α3) (fun u=>S u.1 u.2.1 u.2.2.1 u.2.2.2) (fun u=>I u.1 u.2.1 u.2.2.1 u.2.2.2) (fun u=>μ u.1 u.2.1 u.2.2.1 u.2.2.2) (i0,i1,i2,i3) hi hs (fun u h=>(round u.1 u.2.1 u.2.2.1 u.2.2.2 h).mono fun e _ h=>by
  cases e <;> first | exact h | (obtain ⟨b0,b1,b2,b3,h⟩:=h; exact ⟨(b0,b1,b2,b3),h⟩))
theorem bN.Bk{α0 α1 α2 α3:Type}{x y:Code}(J:α0 -> α1 -> α2 -> α3 -> St)(I:α0 -> α1 -> α2 -> α3 -> Prop)(hx:bN P l N x st (jz (fun ba=>∃ b0 b1 b2 b3,I b0 b1 b2 b3 /\ Le ba (J b0 b1 b2 b3)) Q))(hy:∀ a0 a1 a2 a3,I a0 a1 a2 a3 -> bN P l N y (J a0 a1 a2 a3) Q):bN P l N (.seq x y) st Q :=
 bN.join (ι:=α0 × α1 × α2 × α3) (fun u=>J u.1 u.2.1 u.2.2.1 u.2.2.2) (fun u=>I u.1 u.2.1 u.2.2.1 u.2.2.2) (hx.mono fun e _ h=>by cases e <;> first | exact h | (obtain ⟨b0,b1,b2,b3,h⟩:=h; exact ⟨(b0,b1,b2,b3),h⟩)) (fun u h=>hy u.1 u.2.1 u.2.2.1 u.2.2.2 h)
theorem bN.kK{id:Nat}(L F':List Nat)(J:St){ops:Array Oper}(hm:P.follows .mixedOrders = true)(h:cb P N L F' ops ops.size (Array.replicate ops.size false) st (fun ba=>Le ba J))(k:Q .normal J)(hd:ops.toList.all lb = true:=by rfl):bN P l N (.region id ops true) st Q:=by
 intro G hn a w hh
 obtain ⟨E,RR,hw,hi⟩:=hh.drew
 have h1:=hw ▸ h G hn E RR a _ (fun _ _=>rfl) hi
 refine wpIn_mono (lR (Q:=fun e a w=>e = .normal /\ ∃ ba,Le ba J /\ cI G ba a w) hm (fun ⟨_,_,h,_⟩=>by cases h) hd (wpAny_of_held _ _ _ _ h1)) ?_
 rintro e a w ⟨rfl,ba,hk,iI⟩
 exact ⟨J,hk.holds iI,k⟩
theorem bN.ea{id:Nat}(J:St){ops:Array Oper}(hm:P.follows .mixedOrders = true)(h:cb P N [] N.F ops ops.size (Array.replicate ops.size false) st (fun ba=>Le ba J))(k:Q .normal J)(hd:ops.toList.all lb = true:=by rfl):bN P l N (.region id ops true) st Q:=bN.kK [] N.F J hm h k hd
theorem dg.three{ops : Array Oper}{K : St → Prop}{n : Nat}{ag : Array Bool}(i i1 i2 : Nat){o o1 o2 : Oper}(ho : ops[i]? = some o)(GO : ops[i1]? = some o1)(DF : ops[i2]? = some o2)(hr : (Region.ready .any ops ag == [i, i1, i2]) = true)
  (k:aU P N ops [o] st (fun e ba=>e = .normal /\ dg P N ops n (ag.setIfInBounds i true) ba K))
  (k1:aU P N ops [o1] st (fun e ba=>e = .normal /\ dg P N ops n (ag.setIfInBounds i1 true) ba K))
  (k2:aU P N ops [o2] st (fun e ba=>e = .normal /\ dg P N ops n (ag.setIfInBounds i2 true) ba K)):dg P N ops (n + 1) ag st K:=by
 intro G hn a w hh
 refine wpAnyH_all (rs:=[i,i1,i2]) (by simpa using hr) (by simp) ?_
 intro j hj
 simp only [List.mem_cons,List.not_mem_nil,or_false] at hj
 rcases hj with rfl | rfl | rfl
 ·exact dg.step j ho k G hn a w hh
 ·exact dg.step j GO k1 G hn a w hh
 ·exact dg.step j DF k2 G hn a w hh
end
end Go.AW
