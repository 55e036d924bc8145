/- Part of the abstract walk: the rules that are used most, under short names. -/
import Derived.Test.YtlimckldnjmabaaAWx1
import Derived.KernelRfl
import Derived.DataShut
import Derived.Laws.StructEq
import Derived.OrdersHeld
import Derived.RangeFuncLeaves
import Derived.RangeFuncSeq
import Derived.RangeFuncCalls
import Derived.TacticsIn
import Derived.OrdersIn
import Derived.Sort.LoopGhostIn
set_option linter.unusedSimpArgs false
set_option linter.unusedVariables false
set_option linter.unusedSectionVars false
namespace Go.AW
open Go
section
variable {P:Program} {N:fo} {st:St} {Q:Exit -> St -> Prop} {all:Array Oper} {rest:List Oper} {d dd j:Nat} {want:Bool} {op:Op} {ty:TypeId} {pos:String} {af:Array Edge} {x:X} {u:Value}
theorem aQ.vl(hy:Yields P N st ⟨some d,op,ty,pos,af,none⟩ x)(k:aQ P N all rest (st.put d x) Q)(hd:d < N.n:=by decide):aQ P N all (⟨some d,op,ty,pos,af,none⟩ :: rest) st Q:=aQ.val hy hd k
theorem aQ.gs(d : Nat)(hj : (all[j]?).bind (·.dst) = some d)(hx : look st.aE d = some (.v u))(fH : uv want u = true)(k : aQ P N all rest (st.put dd (.v undef)) Q)(hd : d < N.n := by decide)(HB : dd < N.n := by decide) :
  aQ P N all (⟨some dd,op,ty,pos,af,some (j,want)⟩ :: rest) st Q:=aQ.aV hj hd HB hx fH k
theorem dx.sr{id:Nat}{l:List Oper}{y:Code}(h:aQ P N l.toArray l st (j5 (fun aY=>dx P N y aY Q) Q)):dx P N (.seq (.region id l.toArray false) y) st Q:=dx.seq (dx.region h)
variable {ops:Array Oper} {l0 rs l:List Nat} {t i dj:Nat} {ag:Array Bool} {K:Array Bool -> St -> Prop}
theorem AQ.cn(i : Nat)(ho : ops[i]? = some ⟨some d, op, ty, pos, af, none⟩)(hy : Yields P N st ⟨some d, op, ty, pos, af, none⟩ x)(k : AQ P N ops l0 rs t l (ag.setIfInBounds i true) (st.put d x) K)
  (hB:(Region.noSelect ops && Region.free .any ops ag i && (Region.ready .any ops ag).contains i) = true:=by kernel_rfl) (hd:d < N.n:=by decide):AQ P N ops l0 rs t (i :: l) ag st K:=AQ.cons ho hB hy hd k
theorem AQ.sk(i : Nat)(ho : ops[i]? = some ⟨some d, op, ty, pos, af, some (j, want)⟩)(hj : (ops[j]?).bind (·.dst) = some dj)(hx : look st.aE dj = some (.v u))(fH : uv want u = true)(k : AQ P N ops l0 rs t l (ag.setIfInBounds i true) (st.put d (.v undef)) K)
  (hB:(Region.noSelect ops && Region.free .any ops ag i && (Region.ready .any ops ag).contains i) = true:=by kernel_rfl) (vA:dj < N.n:=by decide) (hd:d < N.n:=by decide):AQ P N ops l0 rs t (i :: l) ag st K:=AQ.skip ho hB hj vA hd hx fH k
theorem AQ.rn(i : Nat)(ho : ops[i]? = some ⟨some d, op, ty, pos, af, some (j, want)⟩)(hj : (ops[j]?).bind (·.dst) = some dj)(hx : look st.aE dj = some (.v (.bool want)))(hy : Yields P N st ⟨some d, op, ty, pos, af, some (j, want)⟩ x)(k : AQ P N ops l0 rs t l (ag.setIfInBounds i true) (st.put d x) K)
  (hB:(Region.noSelect ops && Region.free .any ops ag i && (Region.ready .any ops ag).contains i) = true:=by kernel_rfl) (vA:dj < N.n:=by decide) (hd:d < N.n:=by decide):AQ P N ops l0 rs t (i :: l) ag st K:=AQ.run ho hB hj vA hx hy hd k
end
section
variable {P:Program} {N:fo} {st:St} {Q:Exit -> St -> Prop} {all:Array Oper} {rest:List Oper} {d:Nat} {ty:TypeId} {pos:String} {af:Array Edge} {y p:X}
theorem aQ.mv{x:Operand}(k:aQ P N all rest (st.put d y) Q)(hx:bV st x = some y:=by rfl)(hf:y.free = true:=by rfl)(hd:d < N.n:=by decide):aQ P N all (⟨some d,.move x,ty,pos,af,none⟩ :: rest) st Q:=aQ.val (Y.zh hx hf) hd k
theorem aQ.an{x:Operand}(k:aQ P N all rest (st.put d y) Q)(hx:bV st x = some y:=by rfl)(hf:y.free = true:=by rfl)(hd:d < N.n:=by decide):aQ P N all (⟨some d,.assign x,ty,pos,af,none⟩ :: rest) st Q:=aQ.val (Y.qf hx hf) hd k
theorem aQ.ld{t : TypeId}{x : Operand}{row : List X}(ht : TY.shape P t = some none)(k : aQ P N all rest (st.put d y) Q)(hx : bV st x = some p := by rfl)(hr : rowAt st p = some row := by rfl)(hy : row[mR p]? = some y := by rfl)(hf : y.free = true := by rfl)(hd : d < N.n := by decide) :
  aQ P N all (⟨some d,.load t x,ty,pos,af,none⟩ :: rest) st Q:=aQ.val (Y.za ht hx hr hy hf) hd k
end
section
variable {P:Program} {N:fo} {st:St} {Q:Exit -> St -> Prop} {all:Array Oper} {rest:List Oper} {d dd j:Nat} {want:Bool} {op:Op} {ty:TypeId} {pos:String} {af:Array Edge} {x y p q:X} {u:Value}
theorem aQ.gw(d : Nat)(hy : Yields P N st ⟨some dd, op, ty, pos, af, some (j, want)⟩ x)(k : aQ P N all rest (st.put dd x) Q)(hj : (all[j]?).bind (·.dst) = some d := by rfl)(hx : look st.aE d = some (.v (.bool want)) := by rfl)(hd : d < N.n := by decide)(HB : dd < N.n := by decide) :
  aQ P N all (⟨some dd,op,ty,pos,af,some (j,want)⟩ :: rest) st Q:=aQ.bn hj hd hx (aQ.val hy HB k)
theorem aQ.gz(d : Nat)(k : aQ P N all rest (st.put dd (.v undef)) Q)(hj : (all[j]?).bind (·.dst) = some d := by rfl)(hx : look st.aE d = some (.v u) := by rfl)(fH : uv want u = true := by rfl)(hd : d < N.n := by decide)(HB : dd < N.n := by decide) :
  aQ P N all (⟨some dd,op,ty,pos,af,some (j,want)⟩ :: rest) st Q:=aQ.aV hj hd HB hx fH k
theorem aQ.pk{c a b : Operand}{v : Bool}(k : aQ P N all rest (st.put d y) Q)(hc : bV st c = some (.v (.bool v)) := by rfl)(hz : bV st (if v then a else b) = some y := by rfl)(hf : y.free = true := by rfl)(hd : d < N.n := by decide) :
  aQ P N all (⟨some d,.pick c a b,ty,pos,af,none⟩ :: rest) st Q:=aQ.val (Y.zo hc hz hf) hd k
theorem aQ.fa{t : TypeId}{a : Operand}{f off : Nat}{ft : TypeId}(ht : TY.jQ P t f = some (off, ft))(k : aQ P N all rest (st.put d q) Q)(hx : bV st a = some p := by rfl)(hq : p.on off = some q := by rfl)(hd : d < N.n := by decide) :
  aQ P N all (⟨some d,.fieldAddr t a f,ty,pos,af,none⟩ :: rest) st Q:=aQ.val (Y.qp ht hx hq) hd k
end
theorem ir.c{α:Type}{l l':List (Nat × α)}{s:Nat}{x:α}(hr:ir l l')(h:look l s = some x:=by rfl):ir l ((s,x) :: l'):=ir.cons h hr
theorem ir.c2{α:Type}{l l':List (Nat × α)}{s t:Nat}{x y:α}(hr:ir l l')(h:look l s = some x:=by rfl)(h1:look l t = some y:=by rfl):ir l ((s,x) :: (t,y) :: l'):=ir.cons h (ir.cons h1 hr)
theorem ir.c4{α:Type}{l l':List (Nat × α)}{s t s1 t1:Nat}{x y x1 y1:α}(hr:ir l l')(h:look l s = some x:=by rfl)(h1:look l t = some y:=by rfl)(h2:look l s1 = some x1:=by rfl)(h3:look l t1 = some y1:=by rfl):ir l ((s,x) :: (t,y) :: (s1,x1) :: (t1,y1) :: l'):=ir.c2 (ir.c2 hr h2 h3) h h1
theorem ir.c8{α:Type}{l l':List (Nat × α)}{s t s1 t1 s2 t2 s3 t3:Nat}{x y x1 y1 x2 y2 x3 y3:α}(hr:ir l l')(h:look l s = some x:=by rfl)(h1:look l t = some y:=by rfl)(h2:look l s1 = some x1:=by rfl)(h3:look l t1 = some y1:=by rfl)(h4:look l s2 = some x2:=by rfl)(h5:look l t2 = some y2:=by rfl)(h6:look l s3 = some x3:=by rfl)(h7:look l t3 = some y3:=by rfl):ir l ((s,x) :: (t,y) :: (s1,x1) :: (t1,y1) :: (s2,x2) :: (t2,y2) :: (s3,x3) :: (t3,y3) :: l'):=ir.c4 (ir.c4 hr h4 h5 h6 h7) h h1 h2 h3
theorem fV{α β:Type}{f:α -> β}{l:List α}:some (l.map f).length = some l.length:=congrArg some (List.length_map ..)
theorem Ends.rb{P:Program}{q3:List ResultVar}{st:St}{b b':Bool}(h0:lH P st q3 = some [.v (.bool b)])(h:b = b'):Ends P q3 ([]:List Obj).length (fun r o=>r = .v (.bool b') /\ o = []) .ret st:=⟨_,_,h0,rfl,by rw [h]; exact ⟨rfl,rfl⟩⟩
theorem Ends.ri{P:Program}{q3:List ResultVar}{st:St}{k:IntKind}{b b':Int}(h0:lH P st q3 = some [.v (.int k b)])(h:b = b'):Ends P q3 ([]:List Obj).length (fun r o=>r = .v (.int k b') /\ o = []) .ret st:=⟨_,_,h0,rfl,by rw [h]; exact ⟨rfl,rfl⟩⟩
end Go.AW
namespace Go.AW
open Go
end Go.AW
namespace Go.AW
open Go
end Go.AW
namespace Go.AW
open Go
section
variable {P:Program} {N:fo} {st:St} {dst:Option Nat} {ty:TypeId} {pos:String} {af:Array Edge} {g:Option (Nat × Bool)}
end
end Go.AW
namespace Go.AW
open Go
theorem b6.EY{E E' : Env}{x y : X}{o : Nat}(hβ : ∀ q, q ≠ o → E'.β q = E.β q)(hf : x.free = true) : ∀ {xs : List X} {cs : List Value} {R : List Nat} {k : Nat}, b6 E xs cs R → xs[k]? = some x → E.On E' R → X.cv o (xs.set k .no) = false →
  ∃ c Ra Rb,R = Ra ++ Rb /\ RX E x c [] /\ ∀ R1,RX E' y c R1 -> b6 E' (xs.set k y) cs (Ra ++ (R1 ++ Rb))
 | [],_,_,_,_,h,_,_=>by simp at h
 | z :: r,cs,R,0,h,hy,hE,hm=>by
  simp only [b6] at h
  obtain ⟨c,dp,R₁,R₂,rfl,hs,h1,h2,rfl⟩:=h
  simp only [List.getElem?_cons_zero,Option.some.injEq] at hy
  subst hy
  have h0:=RX.free hf h1
  subst h0
  simp only [List.set,X.cv,Bool.or_eq_false_iff] at hm
  refine ⟨c,[],R₂,rfl,h1,fun R1 h3=>?_⟩
  simp only [List.set,b6,List.nil_append]
  exact ⟨c,dp,R1,R₂,rfl,hs,h3,b6.mono _ _ _ hE (fun q hq=>hβ q (fun e=>by rw [e,hm.2] at hq; cases hq)) h2,rfl⟩
 | z :: r,cs,R,k + 1,h,hy,hE,hm=>by
  simp only [b6] at h
  obtain ⟨c0,dp,R₁,R₂,rfl,hs,h1,h2,rfl⟩:=h
  simp only [List.getElem?_cons_succ] at hy
  simp only [List.set,X.cv,Bool.or_eq_false_iff] at hm
  obtain ⟨c,Ra,Rb,rfl,hc,hk⟩:=b6.EY hβ hf h2 hy (hE.sub (fun _ h=>List.mem_append.2 (.inr h))) hm.2
  refine ⟨c,R₁ ++ Ra,Rb,by rw [List.append_assoc],hc,fun R1 h3=>?_⟩
  simp only [List.set,b6]
  exact ⟨c0,dp,R₁,Ra ++ (R1 ++ Rb),rfl,hs,RX.mono _ _ _ (hE.sub (fun _ h=>List.mem_append.2 (.inl h))) (fun q hq=>hβ q (fun e=>by rw [e,hm.1] at hq; cases hq)) h1,hk R1 h3,by rw [List.append_assoc]⟩
theorem b6.JJ{E : Env}{x y : X}{o : Nat} : ∀ {xs : List X} {cs : List Value} {R : List Nat} {k : Nat}, b6 E xs cs R → xs[k]? = some x → X.cv o (xs.set k .no) = false →
  ∃ c Ra R0 Rb,R = Ra ++ (R0 ++ Rb) /\ RX E x c R0 /\ ∀ (E':Env),(∀ q,q ≠ o -> E'.β q = E.β q) -> E.On E' R -> ∀ R1,RX E' y c R1 -> b6 E' (xs.set k y) cs (Ra ++ (R1 ++ Rb))
 | [],_,_,_,_,h,_=>by simp at h
 | z :: r,cs,R,0,h,hy,hm=>by
  simp only [b6] at h
  obtain ⟨c,dp,R₁,R₂,rfl,hs,h1,h2,rfl⟩:=h
  simp only [List.getElem?_cons_zero,Option.some.injEq] at hy
  subst hy
  simp only [List.set,X.cv,Bool.or_eq_false_iff] at hm
  refine ⟨c,[],R₁,R₂,rfl,h1,fun E' hβ hE R1 h3=>?_⟩
  simp only [List.set,b6,List.nil_append]
  exact ⟨c,dp,R1,R₂,rfl,hs,h3,b6.mono _ _ _ (hE.sub (fun _ h=>List.mem_append.2 (.inr h))) (fun q hq=>hβ q (fun e=>by rw [e,hm.2] at hq; cases hq)) h2,rfl⟩
 | z :: r,cs,R,k + 1,h,hy,hm=>by
  simp only [b6] at h
  obtain ⟨c0,dp,R₁,R₂,rfl,hs,h1,h2,rfl⟩:=h
  simp only [List.getElem?_cons_succ] at hy
  simp only [List.set,X.cv,Bool.or_eq_false_iff] at hm
  obtain ⟨c,Ra,R0,Rb,rfl,hc,hk⟩:=b6.JJ (y:=y) h2 hy hm.2
  refine ⟨c,R₁ ++ Ra,R0,Rb,by rw [List.append_assoc],hc,fun E' hβ hE R1 h3=>?_⟩
  simp only [List.set,b6]
  exact ⟨c0,dp,R₁,Ra ++ (R1 ++ Rb),rfl,hs,RX.mono _ _ _ (hE.sub (fun _ h=>List.mem_append.2 (.inl h))) (fun q hq=>hβ q (fun e=>by rw [e,hm.1] at hq; cases hq)) h1,hk E' hβ (hE.sub (fun _ h=>List.mem_append.2 (.inr h))) R1 h3,by rw [List.append_assoc]⟩
section
variable {N:fo} {st:St} {d:Nat}
theorem Sh.Pa(k o : Nat){s n : Nat}{xs : List X}{rows : List (List X)}(hx : look st.aE d = some (.agg xs))(hk : xs[k]? = some (.aL o s 0 n))(ho : look st.aF o = some (.rows s rows))(hl : n = rows.length)(hm : X.cv o (xs.set k .no) = false)(hF : N.F.elem o = false) :
  Sh N st (((st.kill o).cV o (.rows 0 [])).put d (.agg (xs.set k (.dH s rows)))):=by
 intro G hn a w hh
 obtain ⟨E,RR,rfl,hi⟩:=hh
 subst hl
 have hv:=hi.aE d _ hx
 have aW:=hi.aF o _ ho
 have jB:=hi.nodup (.obj o)
 have xE:=hi.nodup (.slot d)
 simp only [RX] at hv
 obtain ⟨cs,tE,gN⟩:=hv
 simp only [dK] at aW
 obtain ⟨hu,aW⟩:=aW
 have hβ:dg G E { E with β:=fun q=>if q = o then none else E.β q } (fun _=>False) :=
  ⟨rfl,fun _ h=>h.elim,fun _ h=>h.elim,fun _ _ _=>rfl,Nat.le_refl _,rfl,rfl,rfl⟩
 have h4 := hi.lF hβ (o := o) (ob := .rows 0 []) (R := []) (fun _ h => h.elim) (fun q hq => by simp [hq]) (fun h => by rw [hn, hF] at h; cases h)
  (by simp only [dK]; exact ⟨fun _ h=>(by cases h),.inl ⟨by simp,trivial,trivial⟩⟩) List.nodup_nil (fun _ h=>by cases h)
 have im:∀ R',E.On { E with β:=fun q=>if q = o then none else E.β q } R':=fun R'=>⟨fun _ _ _ h=>h,fun _ _=>⟨rfl,fun h=>h⟩⟩
 obtain ⟨c,Ra,Rb,yh,Pb,wI⟩:=b6.EY (E':={ E with β:=fun q=>if q = o then none else E.β q }) (y:=.dH s rows) (o:=o) (fun q hq=>by simp [hq]) rfl gN hk (im _) hm
 simp only [RX] at Pb
 obtain ⟨_,base,cap,hc,cU⟩:=Pb
 have Ns:∃ R,RX { E with β:=fun q=>if q = o then none else E.β q } (.dH s rows) c R /\ R.Nodup /\ ∀ b ∈ R,b ∈ RR (.obj o):=by
  simp only [RX]
  rcases aW with ⟨h1,h2,h3⟩ | ⟨B,cs,ty,R',hB,hw,hφ,lx,fY,jS,iI⟩
  ·rcases cU with ⟨_,_,_,h5⟩ | ⟨B,hB,_⟩
   ·exact ⟨[],⟨hu,base,cap,hc,.inl ⟨h2,h5,rfl⟩⟩,List.nodup_nil,fun _ h=>by cases h⟩
   ·rw [h1] at hB; cases hB
  ·rcases cU with ⟨h1,_⟩ | ⟨B',iU,x6,tD,hb⟩
   ·rw [hB] at h1; cases h1
   ·rw [hB] at iU
    obtain rfl:=Option.some.inj iU
    rcases hb with hb | hb
    ·refine ⟨[],⟨hu,base,cap,hc,.inl ⟨List.eq_nil_of_length_eq_zero om,hb,rfl⟩⟩,List.nodup_nil,fun _ h=>by cases h⟩
    ·refine ⟨RR (.obj o),⟨hu,base,cap,hc,.inr ⟨B.b,B.off,cs,ty,R',by simpa using hb,hw,om,by rw [show cap = B.cap by omega]; exact fY,hφ,cE.mono _ _ _ _ (im R') jS,iI⟩⟩,jB,fun _ h=>h⟩
 obtain ⟨R,sw,xD,Hn⟩:=Ns
 have tG:∀ b ∈ Ra ++ (R ++ Rb),b ∈ RR (.slot d) \/ b ∈ RR (.obj o):=by
  intro b hb
  rcases List.mem_append.1 hb with h | h
  ·exact .inl (by rw [yh]; exact List.mem_append.2 (.inl h))
  ·rcases List.mem_append.1 h with h | h
   ·exact .inr (Hn b h)
   ·exact .inl (by rw [yh]; exact List.mem_append.2 (.inr h))
 have KX:∀ b ∈ RR (.slot d),b ∉ RR (.obj o):=fun b hb=>hi.apart (.slot d) (.obj o) (by simp) b hb
 rw [yh] at xE KX
 obtain ⟨m1,m2,m3⟩:=List.nodup_append.1 xE
 refine ⟨{ E with β:=fun q=>if q = o then none else E.β q },_,rfl,h4.relabel (d:=d) (R:=Ra ++ (R ++ Rb)) ?_ ?_ (fun c hc=>?_)⟩
 ·simp only [RX]
  exact ⟨cs,tE,wI R sw⟩
 ·rw [List.nodup_append,List.nodup_append]
  refine ⟨m1,⟨xD,m2,fun x hx y hy e=>KX y (List.mem_append.2 (.inr hy)) (by rw [<- e]; exact Hn x hx)⟩,fun x hx y hy e=>?_⟩
  rcases List.mem_append.1 hy with h | h
  ·exact KX x (List.mem_append.2 (.inl hx)) (by rw [e]; exact Hn y h)
  ·exact m3 x hx y h e
 ·have np:c < E.w.heap.size /\ ¬ G.K c:=by rcases tG c hc with h | h <;> exact hi.own _ _ h
  refine ⟨np.1,np.2,fun p hp mx=>?_⟩
  have key:∀ q,q ≠ .slot d -> q ≠ .obj o -> c ∉ RR q:=by
   intro q h1 h2 h3
   rcases tG c hc with h | h
   ·exact hi.apart q (.slot d) h1 c h3 h
   ·exact hi.apart q (.obj o) h2 c h3 h
  cases p with
  | obj q =>
   by_cases hq:q = o
   ·subst hq; simp [fq] at mx
   ·have:c ∈ RR (.obj q):=by simpa [fq,hq] using mx
    exact key (.obj q) (by simp) (by simpa using hq) this
  | slot q =>
   rcases ji st RR o [] q with h | h
   ·rw [h] at mx; cases mx
   ·rw [h] at mx; exact key (.slot q) hp (by simp) mx
theorem Sh.Pc(k o : Nat){s : Nat}{xs : List X}{rows : List (List X)}(hx : look st.aE d = some (.agg xs))(hk : xs[k]? = some (.dH s rows))(hm : X.cv o (xs.set k .no) = false)(hF : N.F.elem o = false) :
  Sh N st (((st.kill o).cV o (.rows s rows)).put d (.agg (xs.set k (.aL o s 0 rows.length)))):=by
 intro G hn a w hh
 obtain ⟨E,RR,rfl,hi⟩:=hh
 have hv:=hi.aE d _ hx
 have jB:=hi.nodup (.slot d)
 simp only [RX] at hv
 obtain ⟨Rp,tE,gN⟩:=hv
 have mw:=hi.no d
 have M0:∀ b ∈ RR (.slot d),b < E.w.heap.size /\ ¬ G.K b /\ ∀ p,b ∉ fI RR (.slot d) [] p:=by
  intro b hb
  refine ⟨(hi.own _ _ hb).1,(hi.own _ _ hb).2,fun p hp=>?_⟩
  unfold fI at hp
  split at hp
  ·cases hp
  ·rename_i h; exact hi.apart _ _ h b hp hb
 have im:∀ (bk:Option Bg) R',E.On { E with β:=fun q=>if q = o then bk else E.β q } R':=fun _ R'=>⟨fun _ _ _ h=>h,fun _ _=>⟨rfl,fun h=>h⟩⟩
 have hβ:∀ (bk:Option Bg),dg G E { E with β:=fun q=>if q = o then bk else E.β q } (fun _=>False):=fun _ =>
  ⟨rfl,fun _ h=>h.elim,fun _ h=>h.elim,fun _ _ _=>rfl,Nat.le_refl _,rfl,rfl,rfl⟩
 have fin : ∀ (bk : Option Bg) (Ra R0 Rb : List Nat), RR (.slot d) = Ra ++ (R0 ++ Rb) → dK { E with β := fun q => if q = o then bk else E.β q } o (.rows s rows) R0 → b6 { E with β := fun q => if q = o then bk else E.β q } (xs.set k (.aL o s 0 rows.length)) Rp.toList (Ra ++ ([] ++ Rb)) →
   cK G (((st.kill o).cV o (.rows s rows)).put d (.agg (xs.set k (.aL o s 0 rows.length)))) a E.w:=by
  intro bk Ra R0 Rb hR aW oI
  rw [hR] at jB
  obtain ⟨m1,m2,m3⟩:=List.nodup_append.1 jB
  obtain ⟨m4,m5,m6⟩:=List.nodup_append.1 m2
  have h4 := mw.lF (hβ bk) (o := o) (ob := .rows s rows) (R := R0) (fun _ h => h.elim) (fun q hq => by simp [hq]) (fun h => by rw [hn, hF] at h; cases h) aW m4
   (fun c hc=>by
    obtain ⟨a1,a2,a3⟩:=M0 c (by rw [hR]; simp [hc])
    exact ⟨a1,a2,fun p _=>a3 p⟩)
  have h5 := h4.relabel (d := d) (x := .agg (xs.set k (.aL o s 0 rows.length))) (R := Ra ++ ([] ++ Rb)) (by simp only [RX]; exact ⟨Rp, tE, oI⟩)
   (by
    rw [List.nil_append,List.nodup_append]
    exact ⟨m1,m5,fun x hx y hy=>m3 x hx y (List.mem_append.2 (.inr hy))⟩)
   (fun c hc=>by
    have Km:c ∈ RR (.slot d):=by
     rw [hR]
     rcases List.mem_append.1 hc with h | h
     ·exact List.mem_append.2 (.inl h)
     ·exact List.mem_append.2 (.inr (List.mem_append.2 (.inr (by simpa using h))))
    have JK:c ∉ R0:=by
     intro h0
     rcases List.mem_append.1 hc with h | h
     ·exact m3 c h c (List.mem_append.2 (.inl h0)) rfl
     ·exact m6 c h0 c (by simpa using h) rfl
    obtain ⟨a1,a2,a3⟩:=M0 c Km
    refine ⟨a1,a2,fun p hp mx=>?_⟩
    cases p with
    | obj q =>
     by_cases hq:q = o
     ·subst hq; exact JK (by simpa [fq] using mx)
     ·exact a3 (.obj q) (by simpa [fq,hq] using mx)
    | slot q =>
     rcases ji (st.put d .no) (fI RR (.slot d) []) o R0 q with h | h
     ·rw [h] at mx; cases mx
     ·rw [h] at mx; exact a3 _ mx)
  refine ⟨{ E with β:=fun q=>if q = o then bk else E.β q },_,rfl,{ h5 with aE:=fun q y hy=>h5.aE q y ?_,aF:=fun q y hy=>h5.aF q y hy }⟩
  simp only [St.put,St.cV,St.kill,uh,List.map_cons,look] at hy ⊢
  cases hb:Nat.beq d q with
  | true=>rw [hb] at hy; simpa using hy
  | false=>rw [hb] at hy; simpa using hy
 obtain ⟨c0,Ra,R0,Rb,hR,JK,wI⟩:=b6.JJ (y:=.aL o s 0 rows.length) (o:=o) gN hk hm
 simp only [RX] at JK
 obtain ⟨hu,base,cap,hc,cU⟩:=JK
 rcases cU with ⟨h1,h2,h3⟩ | ⟨b,off,cs,ty,R',hb,hw,hl,ho,hφ,jS,iI⟩
 ·refine fin none Ra R0 Rb hR ?_ (wI _ (fun q hq=>by simp [hq]) (im none _) [] ?_)
  ·simp only [dK]; exact ⟨hu,.inl ⟨by simp,h1,h3⟩⟩
  ·simp only [RX]; exact ⟨trivial,base,cap,hc,.inl ⟨by simp,trivial,by simp [h1],h2⟩⟩
 ·refine fin (some ⟨b,off,cap⟩) Ra R0 Rb hR ?_ (wI _ (fun q hq=>by simp [hq]) (im _ _) [] ?_)
  ·simp only [dK]; exact ⟨hu,.inr ⟨⟨b,off,cap⟩,cs,ty,R',by simp,hw,hφ,hl,ho,cE.mono _ _ _ _ (im _ _) jS,iI⟩⟩
  ·simp only [RX]; exact ⟨trivial,base,cap,hc,.inr ⟨⟨b,off,cap⟩,by simp,by simp,hl,.inr (by simpa using hb)⟩⟩
end
end Go.AW
namespace Go.AW
open Go
section
variable {P:Program} {N:fo} {st:St} {dst:Option Nat} {ty:TypeId} {pos:String} {af:Array Edge} {g:Option (Nat × Bool)}
theorem ax.bin{op : BinOp}{t t' : TypeId}{x y : Operand}{u v r : Value}(hx : bV st x = some (.v u))(hy : bV st y = some (.v v))
  (hr:∀ w,(do eqGuard op t x y u v; binOp op t u v:Sem Value).run P w = .ok r w):ax P N st ⟨dst,.binOp op t x y t',ty,pos,af,g⟩ (.v r):=by
 intro G E RR a _ hi
 refine ⟨r,fun w=>?_,by simp [RX]⟩
 show (do let x <- (do eqGuard op t x y (a.eval x) (a.eval y); binOp op t (a.eval x) (a.eval y):Sem Value); pure (Next.value x):Sem Next).run P w = _
 rw [hi.val hx,hi.val hy]
 exact eb (hr _)
section ints
variable {t t':TypeId} {x y:Operand} {k:IntKind} {a b r:Int}
theorem ax.add(hx:bV st x = some (.v (.int k a)))(hy:bV st y = some (.v (.int k b)))(hr:k.wrap (a + b) = r):ax P N st ⟨dst,.binOp .add t x y t',ty,pos,af,g⟩ (.v (.int k r)) :=
 ax.bin hx hy fun w=>by subst hr; simp [eqGuard,binOp,Op.intArith]
theorem ax.sub(hx:bV st x = some (.v (.int k a)))(hy:bV st y = some (.v (.int k b)))(hr:k.wrap (a - b) = r):ax P N st ⟨dst,.binOp .sub t x y t',ty,pos,af,g⟩ (.v (.int k r)) :=
 ax.bin hx hy fun w=>by subst hr; simp [eqGuard,binOp,Op.intArith]
theorem ax.mul(hx:bV st x = some (.v (.int k a)))(hy:bV st y = some (.v (.int k b)))(hr:k.wrap (a * b) = r):ax P N st ⟨dst,.binOp .mul t x y t',ty,pos,af,g⟩ (.v (.int k r)) :=
 ax.bin hx hy fun w=>by subst hr; simp [eqGuard,binOp,Op.intArith]
theorem ax.rem(hx:bV st x = some (.v (.int k a)))(hy:bV st y = some (.v (.int k b)))(h0:b ≠ 0)(hr:a.tmod b = r):ax P N st ⟨dst,.binOp .rem t x y t',ty,pos,af,g⟩ (.v (.int k r)) :=
 ax.bin hx hy fun w=>by subst hr; simp [eqGuard,binOp,Op.intDiv,h0]
theorem ax.lss(hx:bV st x = some (.v (.int k a)))(hy:bV st y = some (.v (.int k b))):ax P N st ⟨dst,.binOp .lss t x y t',ty,pos,af,g⟩ (.v (.bool (decide (a < b)))) :=
 ax.bin hx hy fun w=>by simp [eqGuard,binOp,Op.intCmp]
theorem ax.leq(hx:bV st x = some (.v (.int k a)))(hy:bV st y = some (.v (.int k b))):ax P N st ⟨dst,.binOp .leq t x y t',ty,pos,af,g⟩ (.v (.bool (decide (a <= b)))) :=
 ax.bin hx hy fun w=>by simp [eqGuard,binOp,Op.intCmp]
theorem ax.gtr(hx:bV st x = some (.v (.int k a)))(hy:bV st y = some (.v (.int k b))):ax P N st ⟨dst,.binOp .gtr t x y t',ty,pos,af,g⟩ (.v (.bool (decide (b < a)))) :=
 ax.bin hx hy fun w=>by simp [eqGuard,binOp,Op.intCmp]
theorem ax.geq(hx:bV st x = some (.v (.int k a)))(hy:bV st y = some (.v (.int k b))):ax P N st ⟨dst,.binOp .geq t x y t',ty,pos,af,g⟩ (.v (.bool (decide (b <= a)))) :=
 ax.bin hx hy fun w=>by simp [eqGuard,binOp,Op.intCmp]
theorem ax.eql(hx:bV st x = some (.v (.int k a)))(hy:bV st y = some (.v (.int k b))):ax P N st ⟨dst,.binOp .eql t x y t',ty,pos,af,g⟩ (.v (.bool (decide (a = b)))) :=
 ax.bin hx hy fun w=>by simp [eqGuard,binOp,Op.intCmp,BEq.beq]
theorem ax.neq(hx:bV st x = some (.v (.int k a)))(hy:bV st y = some (.v (.int k b))):ax P N st ⟨dst,.binOp .neq t x y t',ty,pos,af,g⟩ (.v (.bool (decide (a ≠ b)))) :=
 ax.bin hx hy fun w=>by simp [eqGuard,binOp,Op.intCmp,bne,BEq.beq]
end ints
theorem ax.un{op:UnOp}{t:TypeId}{x:Operand}{u r:Value}(hx:bV st x = some (.v u))(hr:∀ w,(Op.unary op u).run P w = .ok r w):ax P N st ⟨dst,.unOp op t x,ty,pos,af,g⟩ (.v r):=by
 intro G E RR a _ hi
 refine ⟨r,fun w=>?_,by simp [RX]⟩
 show (do let x <- Op.unary op (a.eval x); pure (Next.value x):Sem Next).run P w = _
 rw [hi.val hx]
 exact eb (hr _)
theorem ax.not{t:TypeId}{x:Operand}{b:Bool}(hx:bV st x = some (.v (.bool b))):ax P N st ⟨dst,.unOp .not t x,ty,pos,af,g⟩ (.v (.bool (!b))) :=
 ax.un hx fun _=>rfl
theorem ax.conv{s d : TypeId}{x : Operand}{k k' : IntKind}{n r : Int}(hs : TY.isInt P s = some k')(hd : TY.isInt P d = some k)(hx : bV st x = some (.v (.int k' n)))(hr : k.wrap n = r) :
  ax P N st ⟨dst,.convert s d x,ty,pos,af,g⟩ (.v (.int k r)):=by
 intro G E RR a _ hi
 refine ⟨.int k r,fun w=>?_,by simp [RX]⟩
 show (do let x <- convert s d (a.eval x); pure (Next.value x):Sem Next).run P w = _
 rw [hi.val hx]
 refine eb ?_
 have h1:P.underlying s = some (.int k'):=by unfold TY.isInt at hs; split at hs <;> simp_all
 have h2:P.underlying d = some (.int k):=by unfold TY.isInt at hd; split at hd <;> simp_all
 simp [convert,run_underlying h1,run_underlying h2,Conv.intToInt,hr]
section
variable {t t':TypeId} {x y:Operand} {a b:Int}
theorem ax.KY(hx:bV st x = some (.v (.int .i64 a)))(hy:bV st y = some (.v (.int .i64 b)))(hr:-9223372036854775808 <= a + b /\ a + b <= 9223372036854775807):ax P N st ⟨dst,.binOp .add t x y t',ty,pos,af,g⟩ (.v (.int .i64 (a + b))) :=
 ax.add hx hy (IntWalk.i64_in _ hr)
theorem ax.Pd(hx:bV st x = some (.v (.int .i64 a)))(hy:bV st y = some (.v (.int .i64 b)))(hr:-9223372036854775808 <= a - b /\ a - b <= 9223372036854775807):ax P N st ⟨dst,.binOp .sub t x y t',ty,pos,af,g⟩ (.v (.int .i64 (a - b))) :=
 ax.sub hx hy (IntWalk.i64_in _ hr)
theorem ax.Tl(hx:bV st x = some (.v (.int .i64 a)))(hy:bV st y = some (.v (.int .i64 b)))(hr:-9223372036854775808 <= a * b /\ a * b <= 9223372036854775807):ax P N st ⟨dst,.binOp .mul t x y t',ty,pos,af,g⟩ (.v (.int .i64 (a * b))) :=
 ax.mul hx hy (IntWalk.i64_in _ hr)
theorem ax.EZ{k:IntKind}(hx:bV st x = some (.v (.int k a)))(hy:bV st y = some (.v (.int k b)))(hr:0 <= a /\ 1 <= b):ax P N st ⟨dst,.binOp .rem t x y t',ty,pos,af,g⟩ (.v (.int k (a % b))) :=
 ax.rem hx hy om (IntWalk.rem_in a b hr.1)
end
theorem ax.wo{s d : TypeId}{x : Operand}{k k' : IntKind}{n : Int}(hs : TY.isInt P s = some k')(hd : TY.isInt P d = some k)(hx : bV st x = some (.v (.int k' n)))(hr : k.wrap n = n) :
  ax P N st ⟨dst,.convert s d x,ty,pos,af,g⟩ (.v (.int k n)):=ax.conv hs hd hx hr
theorem ax.len{t e s de : Nat}{x : Operand}{y : X}{n : Nat}(ht : TY.slice P t = some (e, s, de))(hx : bV st x = some y)(hn : y.len = some n) :
  ax P N st ⟨dst,.call ⟨.builtin .len,#[x],#[t]⟩,ty,pos,af,g⟩ (.v (.int .i64 (n:Int))):=by
 intro G E RR a _ hi
 obtain ⟨R,hp⟩:=hi.eval hx
 obtain ⟨base,cap,hc⟩:=hp.len hn
 refine ⟨.int .i64 (n:Int),fun w=>iu ?_,by simp [RX]⟩
 obtain ⟨hu,_⟩:=TY.dT ht
 simp [builtin,Builtin.len_,hc,run_underlying hu,goInt]
theorem ax.kj{t e s de : Nat}{x ix : Operand}{rows : List (List X)}{row : List X}{k : IntKind}{n : Int}{m : Nat}(ht : TY.slice P t = some (e, s, de))(hx : bV st x = some (.fz s rows))
  (z7:bV st ix = some (.v (.int k n))) (hn:n = (m:Int)) (hr:rows[m]? = some row):ax P N st ⟨dst,.indexAddr t x ix,ty,pos,af,g⟩ (.fp row 0):=by
 intro G E RR a _ hi
 obtain ⟨R,hp⟩:=hi.eval hx
 have hm:m < rows.length:=by
  rcases Nat.lt_or_ge m rows.length with h' | h'
  ·exact h'
  ·simp [List.getElem?_eq_none h'] at hr
 simp only [RX] at hp
 obtain ⟨_,hu,base,cap,hc,h⟩:=hp
 rcases h with ⟨h,_⟩ | ⟨b,off,rfl,hl,hf⟩
 ·subst h; simp at hr
 ·refine ⟨.pointer (some ⟨b,off + m * s,none⟩),fun w=>?_,?_⟩
  ·show (do let z <- Instr.indexAt t (a.eval x) (a.eval ix); pure (Next.value z):Sem Next).run P w = _
   rw [hc,hi.val z7]
   exact eb (m7 ht hn hm w)
  ·simp only [RX]
   exact ⟨trivial,b,off + m * s,rfl,kX.get hu hf hr⟩
theorem ax.wW{t e s de : Nat}{x ix : Operand}{o lo len : Nat}{k : IntKind}{n : Int}{m : Nat}(ht : TY.slice P t = some (e, s, de))(hx : bV st x = some (.aL o s lo len))
  (z7:bV st ix = some (.v (.int k n))) (hn:n = (m:Int)) (hm:m < len):ax P N st ⟨dst,.indexAddr t x ix,ty,pos,af,g⟩ (.ptr o s (lo + m) 0):=by
 intro G E RR a _ hi
 obtain ⟨R,hp⟩:=hi.eval hx
 simp only [RX] at hp
 obtain ⟨_,base,cap,hc,h⟩:=hp
 rcases h with ⟨_,_,h,_⟩ | ⟨B,hB,_,hl,hb⟩
 ·omega
 ·have iG:base = some ⟨B.b,B.off + lo * s,none⟩:=hb.resolve_left om
  subst iG
  refine ⟨.pointer (some ⟨B.b,B.off + lo * s + m * s,none⟩),fun w=>?_,?_⟩
  ·show (do let z <- Instr.indexAt t (a.eval x) (a.eval ix); pure (Next.value z):Sem Next).run P w = _
   rw [hc,hi.val z7]
   exact eb (m7 ht hn hm w)
  ·simp only [RX]
   exact ⟨trivial,B,hB,by rw [Nat.add_mul]; simp [Nat.add_assoc]⟩
theorem ax.lV{t len e s : Nat}{x ix : Operand}{p q : X}{k : IntKind}{n : Int}{m : Nat}(ht : TY.array P t = some (len, e, s))(hx : bV st x = some p)
  (z7:bV st ix = some (.v (.int k n))) (hn:n = (m:Int)) (hm:m < len) (hq:p.on (m * s) = some q):ax P N st ⟨dst,.indexAddr t x ix,ty,pos,af,g⟩ q:=by
 intro G E RR a _ hi
 obtain ⟨R,hp⟩:=hi.eval hx
 obtain ⟨b,o,hc,h⟩:=hp.on hq
 refine ⟨_,fun w=>?_,h⟩
 show (do let z <- Instr.indexAt t (a.eval x) (a.eval ix); pure (Next.value z):Sem Next).run P w = _
 rw [hc,hi.val z7]
 refine eb ?_
 obtain ⟨hu,i,iV,hs⟩:=TY.ug ht
 subst hn
 simp [Instr.indexAt,Instr.sureAddr,asIntOf,run_underlying hu,hm,run_sizeOf iV,hs,iH]
end
end Go.AW
namespace Go.AW
open Go
section
variable {P:Program} {N:fo} {st:St} {ops:Array Oper} {d:Nat} {ty:TypeId} {pos:String} {af:Array Edge} {K:St -> Prop}
def SG(G:Ctx)(w:World):Prop:=(∀ b,G.K b -> w.heap[b]? = G.w0.heap[b]?) /\ ∀ b i v,G.φ0 b i = some v -> w.cell? ⟨b,i,none⟩ = some v
theorem cK.sg{G:Ctx}{a:Act}{w:World}(h:cK G st a w):SG G w:=by
  obtain ⟨E,RR,rfl,hi⟩:=h
  exact ⟨hi.aj,fun b i v hv=>hi.nM b i v (hi.φ0 b i v hv)⟩
def mW(G:Ctx)(E:Env)(L:List Nat)(T:Nat -> List Nat)(F':List Nat):Ctx:=⟨fun b=>G.K b \/ ∃ o,o ∈ L /\ b ∈ T o,E.w,E.φ,E.β,⟨G.fn.n,F'⟩,G.ds⟩
def da(P:Program)(N:fo)(ops:Array Oper)(n:Nat)(ag:Array Bool)(st:St)(K:St -> Prop):Prop :=
  ∀ G:Ctx,G.fn = N -> ∀ a w,cK G st a w -> wpAnyH P .any ops (fun e a w=>e = .normal /\ ∃ aY,K aY /\ cK G aY a w) (SG G) n ag a w
def cg(P:Program)(N:fo)(L F':List Nat)(ops:Array Oper)(n:Nat)(ag:Array Bool)(st:St)(K:St -> Prop):Prop :=
  ∀ G : Ctx, G.fn = N → ∀ E RR a (T : Nat → List Nat), (∀ o ∈ L, RR (.obj o) = T o) → Inv G E RR st a →
    wpAnyH P .any ops (fun e a w=>e = .normal /\ ∃ aY,K aY /\ cK G aY a w) (SG (mW G E L T F')) n ag a E.w
theorem Inv.JL{G:Ctx}{E:Env}{RR:Own -> List Nat}{a:Act}(hi:Inv G E RR st a)(L:List Nat)(T:Nat -> List Nat)(F':List Nat):SG (mW G E L T F') E.w:=⟨fun _ _=>rfl,hi.nM⟩
theorem cg.blind{L F' : List Nat}{n : Nat}{ag : Array Bool}(i : Nat){op : Op}{x : X}(ho : ops[i]? = some ⟨some d, op, ty, pos, af, none⟩)
    (hB:(Region.noSelect ops && Region.free .any ops ag i && (Region.ready .any ops ag).contains i) = true) (hy:ax P N st ⟨some d,op,ty,pos,af,none⟩ x) (hd:d < N.n)
    (k:cg P N L F' ops n (ag.setIfInBounds i true) (st.put d x) K):cg P N L F' ops (n + 1) ag st K:=by
  intro G hn E RR a T hT hi
  obtain ⟨u,hr,hx⟩:=hy G E RR a hn hi
  simp only [Bool.and_eq_true] at hB
  refine wpAnyH_take (v:=u) ho hB.1.1 hB.1.2 hB.2 ?_ (.inl ⟨by simp [Region.wanted],fun w _=>hr w⟩) (hi.JL L T F') (k G hn E _ _ T ?_ (hi.iT (hn ▸ hd) hx))
  · intro c a w h
    cases h.1
  · intro o ho
    have:=hT o ho
    simpa [fI] using this
def yi(L : List Nat) : X → Bool
  | .fp ..=>true
  | .ptr o ..=>L.elem o
  | _=>false
theorem Inv.held{G : Ctx}{E : Env}{RR : Own → List Nat}{a : Act}{L F' : List Nat}{T : Nat → List Nat}(hi : Inv G E RR st a)(hT : ∀ o ∈ L, RR (.obj o) = T o){p : X}{c : Value}{R : List Nat}{row : List X}
    (hp:RX E p c R) (hr:rowAt st p = some row) (hL:yi L p = true) :
    ∃ b off,c = .pointer (some ⟨b,off + mR p,none⟩) /\ ∀ w,SG (mW G E L T F') w -> ∀ j,j < row.length -> w.cell? ⟨b,off + j,none⟩ = E.w.cell? ⟨b,off + j,none⟩:=by
  cases p with
  | fp row' k' =>
    simp only [rowAt,Option.some.injEq] at hr
    subst hr
    simp only [RX] at hp
    obtain ⟨_,b,off,hc,hf⟩:=hp
    refine ⟨b,off,hc,fun w hw j hj=>?_⟩
    obtain ⟨vs,hl,hv,hx⟩:=RF.cells hf
    obtain ⟨v,Y0⟩:∃ v,vs[j]? = some v:=⟨vs[j]'om,List.getElem?_eq_getElem om⟩
    have h1:=hv j v Y0
    rw [hi.nM _ _ _ h1]
    exact hw.2 _ _ _ h1
  | ptr o s i k' =>
    simp only [RX] at hp
    obtain ⟨_,B,hB,hc⟩:=hp
    have Mx:o ∈ L:=List.elem_iff.1 hL
    have Tm:=hT o Mx
    have hb:B.b ∈ T o:=by
      simp only [rowAt] at hr
      split at hr
      · rename_i xs ho
        have h0:=hi.aF o _ ho
        simp only [dK] at h0
        obtain ⟨_,B',cs,ty,iU,hw,_,_,jS,hR⟩:=h0
        rw [hB] at iU
        obtain rfl:=Option.some.inj iU
        rw [<- Tm,hR]; simp
      · rename_i s' rs ho
        have h0:=hi.aF o _ ho
        simp only [dK] at h0
        obtain ⟨hu,h0⟩:=h0
        rcases h0 with ⟨h0,_⟩ | ⟨B',cs,ty,R',iU,hw,_,_,_,_,hR⟩
        · rw [hB] at h0; cases h0
        · rw [hB] at iU
          obtain rfl:=Option.some.inj iU
          rw [<- Tm,hR]; simp
      · rename_i ho
        have h0:=hi.aF o _ ho
        simp only [dK] at h0
        obtain ⟨_,B',cs,ty,R',u,iU,hw,_,_,_,_,hR,_⟩:=h0
        rw [hB] at iU
        obtain rfl:=Option.some.inj iU
        rw [<- Tm,hR]; simp
      · cases hr
    refine ⟨B.b,B.off + i * s,by rw [hc]; simp [mR,Nat.add_assoc],fun w hw j _=>?_⟩
    have:=hw.1 B.b (.inr ⟨o,Mx,hb⟩)
    unfold World.cell?
    simp only [mW] at this
    rw [this]
  | _=>cases hL
theorem tZ{b b' o o' k:Nat}(h:Value.pointer (some ⟨b,o + k,none⟩) = Value.pointer (some ⟨b',o' + k,none⟩)):b = b' /\ o = o':=by
  simp only [Value.pointer.injEq,Option.some.injEq,Addr.mk.injEq] at h
  omega
theorem cg.load{L F' : List Nat}{n : Nat}{ag : Array Bool}(i : Nat){t : TypeId}{x : Operand}{p y : X}{row : List X}(ho : ops[i]? = some ⟨some d, .load t x, ty, pos, af, none⟩)
    (hB:(Region.noSelect ops && Region.free .any ops ag i && (Region.ready .any ops ag).contains i) = true) (ht:TY.shape P t = some none) (hx:bV st x = some p) (hL:yi L p = true) (hr:rowAt st p = some row)
    (hy:row[mR p]? = some y) (hf:y.free = true) (hd:d < N.n)
    (k:cg P N L F' ops n (ag.setIfInBounds i true) (st.put d y) K):cg P N L F' ops (n + 1) ag st K:=by
  intro G hn E RR a T hT hi
  obtain ⟨R,hp⟩:=hi.eval hx
  obtain ⟨b,off,hc,j9⟩:=hi.behind hp hr
  obtain ⟨b',uj,rz,q5⟩:=hi.held (F':=F') hT hp hr hL
  obtain ⟨rfl,rfl⟩:=tZ (hc.symm.trans rz)
  have hk:mR p < row.length:=by
    rcases Nat.lt_or_ge (mR p) row.length with h' | h'
    · exact h'
    · simp [List.getElem?_eq_none h'] at hy
  obtain ⟨vs,R',hl,hv,gN⟩:=j9 (mR p) 1 om
  rw [getElem?_drop_take_one hy] at gN
  simp only [b6] at gN
  obtain ⟨c,dp,R₁,R₂,Kk,_,h1,⟨rfl,rfl⟩,rfl⟩:=gN
  subst Kk
  have h0:=RX.free hf h1
  subst h0
  simp only [Bool.and_eq_true] at hB
  refine wpAnyH_take (v:=c) ho hB.1.1 hB.1.2 hB.2 ?_ (.inl ⟨by simp [Region.wanted],fun w hw=>?_⟩) (hi.JL L T F') (k G hn E _ _ T ?_ (hi.iT (hn ▸ hd) h1))
  · intro c a w h
    cases h.1
  · show (do let z <- Instr.loadAt t (a.eval x); pure (Next.value z):Sem Next).run P w = _
    rw [hc]
    refine eb ?_
    have jA:=hv 0 c rfl
    simp only [Instr.loadAt,Instr.sureAddr,loadVar,Sem.run_bind,Sem.run_pure,Result.andThen_ok,(TY.kb ht w).1]
    simp only [Nat.add_zero] at jA
    rw [<- q5 w hw _ hk] at jA
    simp [jA]
  · intro o ho
    have:=hT o ho
    simpa [fI] using this
theorem cg.fe{L F' : List Nat}{n : Nat}{ag : Array Bool}(i : Nat){t : TypeId}{x : Operand}{p : X}{row : List X}{m : Nat}{ys : List X}(ho : ops[i]? = some ⟨some d, .load t x, ty, pos, af, none⟩)
    (hB:(Region.noSelect ops && Region.free .any ops ag i && (Region.ready .any ops ag).contains i) = true) (ht:TY.shape P t = some (some m)) (hx:bV st x = some p) (hL:yi L p = true) (hr:rowAt st p = some row)
    (hm:mR p + m <= row.length) (Cw:(row.drop (mR p)).take m = ys) (hf:X.bu ys = true) (hd:d < N.n)
    (k:cg P N L F' ops n (ag.setIfInBounds i true) (st.put d (.agg ys)) K):cg P N L F' ops (n + 1) ag st K:=by
  intro G hn E RR a T hT hi
  obtain ⟨R,hp⟩:=hi.eval hx
  obtain ⟨b,off,hc,j9⟩:=hi.behind hp hr
  obtain ⟨b',uj,rz,q5⟩:=hi.held (F':=F') hT hp hr hL
  obtain ⟨rfl,rfl⟩:=tZ (hc.symm.trans rz)
  obtain ⟨vs,R',hl,hv,gN⟩:=j9 (mR p) m hm
  rw [Cw] at gN
  have h0:=b6.free hf gN
  subst h0
  simp only [Bool.and_eq_true] at hB
  refine wpAnyH_take (v:=.agg vs.toArray) ho hB.1.1 hB.1.2 hB.2 ?_ (.inl ⟨by simp [Region.wanted],fun w hw=>?_⟩) (hi.JL L T F') (k G hn E _ _ T ?_ (hi.iT (hn ▸ hd) (by simp only [RX]; exact ⟨_,rfl,gN⟩)))
  · intro c a w h
    cases h.1
  · show (do let z <- Instr.loadAt t (a.eval x); pure (Next.value z):Sem Next).run P w = _
    rw [hc]
    refine eb ?_
    obtain ⟨h1,h2⟩:=TY.nP ht w
    have h3:(loadCells ⟨b,off + mR p,none⟩ m).run P w = .ok vs.toArray w:=by
      rw [<- hl]
      refine run_loadCells_list (w:=w) _ vs fun j v hj=>?_
      have oG:j < vs.length:=(List.getElem?_eq_some_iff.1 hj).1
      rw [iH,Nat.add_assoc,q5 w hw _ om]; exact hv j v hj
    simp only [Instr.loadAt,Instr.sureAddr,loadVar,Sem.run_bind,Sem.run_pure,Result.andThen_ok,h1,if_true,h2,h3]
  · intro o ho
    have:=hT o ho
    simpa [fI] using this
def St.back(st : St) : List Nat → List (Nat × Obj) → List (Nat × Obj)
  | [],r=>r
  | o :: L,r=>match look st.aF o with
    | some ob=>(o,ob) :: st.back L r
    | none=>st.back L r
theorem wu(st : St){r : List (Nat × Obj)}{q : Nat}{x : Obj} : ∀ {L : List Nat}, (∀ o ∈ L, ∃ ob, look st.aF o = some ob) → look (st.back L r) q = some x → (q ∈ L ∧ look st.aF q = some x) ∨ (q ∉ L ∧ look r q = some x)
  | [],_,h=>.inr ⟨by simp,h⟩
  | o :: L,hL,h=>by
    obtain ⟨ob,aW⟩:=hL o (by simp)
    simp only [St.back,aW,look] at h
    cases hb:Nat.beq o q with
    | true =>
      have:=Nat.eq_of_beq_eq_true hb
      subst this
      simp only [hb,cond_true,Option.some.injEq] at h
      exact .inl ⟨by simp,by rw [aW,h]⟩
    | false =>
      simp only [hb,cond_false] at h
      have fH:q ≠ o:=Ne.symm (Nat.ne_of_beq_eq_false hb)
      rcases wu st (fun o ho=>hL o (List.mem_cons_of_mem _ ho)) h with ⟨h1,h2⟩ | ⟨h1,h2⟩
      · exact .inl ⟨List.mem_cons_of_mem _ h1,h2⟩
      · exact .inr ⟨by simp [fH,h1],h2⟩
def bZ(st:St)(L F':List Nat):Prop:=∀ o ∈ L,∃ ob,look st.aF o = some ob /\ ∀ q,ob.cv q = true -> F'.elem q = true
theorem mW.down{G : Ctx}{E : Env}{RR : Own → List Nat}{a : Act}{L F' : List Nat}{T : Nat → List Nat}(hi : Inv G E RR st a)(hT : ∀ o ∈ L, RR (.obj o) = T o){Ej : St}(hle : Le st Ej)(Tn : ∀ o ∈ L, look Ej.aF o = none) :
    cK (mW G E L T F') Ej a E.w:=by
  refine ⟨E,fun p=>match p with | .obj o=>if o ∈ L then [] else RR (.obj o) | p=>RR p,rfl,?_⟩
  have sub:∀ p b,b ∈ (match p with | .obj o=>if o ∈ L then [] else RR (.obj o) | p=>RR p:List Nat) -> b ∈ RR p /\ ∀ o,p = .obj o -> o ∉ L:=by
    intro p b h
    cases p with
    | obj o =>
      by_cases hL:o ∈ L
      · simp [hL] at h
      · simp only [hL,if_false] at h
        exact ⟨h,fun q hq=>by cases hq; exact hL⟩
    | slot s=>exact ⟨h,fun q hq=>by cases hq⟩
  exact {
    nM:=hi.nM
    aE:=fun s x hx=>hi.aE s x (hle.1 s x hx)
    aF:=fun o ob ho=>by
      by_cases hL:o ∈ L
      · rw [Tn o hL] at ho; cases ho
      · simp only [hL,if_false]; exact hi.aF o ob (hle.2 o ob ho)
    nodup:=fun p=>by
      cases p with
      | obj o =>
        by_cases hL:o ∈ L
        · simp [hL]
        · simp only [hL,if_false]; exact hi.nodup _
      | slot s=>exact hi.nodup _
    apart:=fun p q nO b hb iG=>hi.apart p q nO b (sub p b hb).1 (sub q b iG).1
    own:=fun p b hb=>by
      obtain ⟨h1,h2⟩:=sub p b hb
      refine ⟨(hi.own p b h1).1,fun xu=>?_⟩
      rcases (xu:G.K b \/ ∃ o,o ∈ L /\ b ∈ T o) with h | ⟨o,ho,MA⟩
      · exact (hi.own p b h1).2 h
      · rw [<- hT o ho] at MA
        have fH:p ≠ .obj o:=fun e=>h2 o e ho
        exact hi.apart p (.obj o) fH b h1 MA
    aj:=fun _ _=>rfl
    size:=Nat.le_refl _
    small:=fun b xu=>by
      rcases (xu:G.K b \/ ∃ o,o ∈ L /\ b ∈ T o) with h | ⟨o,ho,MA⟩
      · exact Nat.lt_of_lt_of_le (hi.small b h) hi.size
      · rw [<- hT o ho] at MA
        exact (hi.own _ b MA).1
    os:=rfl
    tape:=rfl
    output:=rfl
    φ0:=fun _ _ _ h=>h
    grow:=fun _ _ _ h=>.inl h
    fixed:=fun _ _=>rfl
    tmps:=hi.tmps
    defers:=hi.defers }
theorem mW.up{G : Ctx}{E : Env}{RR : Own → List Nat}{a : Act}{L F' : List Nat}{T : Nat → List Nat}(hi : Inv G E RR st a)(hT : ∀ o ∈ L, RR (.obj o) = T o)(hF : ∀ o, G.fn.F.elem o = true → F'.elem o = true)(KZ : ∀ o ∈ L, F'.elem o = true)
    (aW:bZ st L F') {aY:St} {a':Act} {w':World} (h:cK (mW G E L T F') aY a' w'):cK G ⟨aY.aE,st.back L aY.aF⟩ a' w':=by
  obtain ⟨E',gG,rfl,hj⟩:=h
  have Jk:∀ {o b},o ∈ L -> b ∈ RR (.obj o) -> (mW G E L T F').K b:=fun ho hb=>.inr ⟨_,ho,by rw [<- hT _ ho]; exact hb⟩
  have sub:∀ p b,b ∈ (match p with | .obj o=>if o ∈ L then RR (.obj o) else gG (.obj o) | p=>gG p:List Nat) -> (∃ o,o ∈ L /\ p = .obj o /\ b ∈ RR p) \/ ((∀ o,p = .obj o -> o ∉ L) /\ b ∈ gG p):=by
    intro p b h
    cases p with
    | obj o =>
      by_cases hL:o ∈ L
      · simp only [hL,if_true] at h
        exact .inl ⟨o,hL,rfl,h⟩
      · simp only [hL,if_false] at h
        exact .inr ⟨fun q hq=>by cases hq; exact hL,h⟩
    | slot s=>exact .inr ⟨fun q hq=>(by cases hq),h⟩
  refine ⟨E',fun p=>match p with | .obj o=>if o ∈ L then RR (.obj o) else gG (.obj o) | p=>gG p,rfl,?_⟩
  exact {
    nM:=hj.nM
    aE:=fun s x hx=>hj.aE s x hx
    aF:=fun o ob ho=>by
      rcases wu st (fun o ho=>(aW o ho).imp fun _ h=>h.1) ho with ⟨h1,h2⟩ | ⟨h1,h2⟩
      · simp only [h1,if_true]
        obtain ⟨yX,Pe,HG⟩:=aW o h1
        rw [h2] at Pe
        obtain rfl:=Option.some.inj Pe
        refine dK.mono ⟨hj.φ0,fun b hb=>⟨hj.aj b (Jk h1 hb),fun hn i=>?_⟩⟩ (hj.fixed o (KZ o h1)) (fun q hq=>hj.fixed q (HG q hq)) (hi.aF o ob h2)
        cases hφ:E'.φ b i with
        | none=>rfl
        | some v =>
          rcases hj.grow b i v hφ with h3 | h3
          · have h4:=hn i
            change E.φ b i = some v at h3
            rw [h4] at h3; cases h3
          · exact absurd (Jk h1 hb) h3
      · simp only [h1,if_false]; exact hj.aF o ob h2
    nodup:=fun p=>by
      cases p with
      | obj o =>
        by_cases hL:o ∈ L
        · simp only [hL,if_true]; exact hi.nodup _
        · simp only [hL,if_false]; exact hj.nodup _
      | slot s=>exact hj.nodup _
    apart:=fun p q nO b hb iG=>by
      rcases sub p b hb with ⟨o,ho,rfl,h1⟩ | ⟨_,h1⟩ <;> rcases sub q b iG with ⟨o',nJ,rfl,h2⟩ | ⟨_,h2⟩
      · exact hi.apart _ _ nO b h1 h2
      · exact (hj.own _ b h2).2 (Jk ho h1)
      · exact (hj.own _ b h1).2 (Jk nJ h2)
      · exact hj.apart _ _ nO b h1 h2
    own:=fun p b hb=>by
      rcases sub p b hb with ⟨o,ho,rfl,h1⟩ | ⟨_,h1⟩
      · exact ⟨Nat.lt_of_lt_of_le (hi.own _ b h1).1 hj.size,(hi.own _ b h1).2⟩
      · exact ⟨(hj.own _ b h1).1,fun hk=>(hj.own _ b h1).2 (.inl hk)⟩
    aj:=fun b hb=>(hj.aj b (.inl hb)).trans (hi.aj b hb)
    size:=Nat.le_trans hi.size hj.size
    small:=hi.small
    os:=hj.os.trans hi.os
    tape:=hj.tape.trans hi.tape
    output:=hj.output.trans hi.output
    φ0:=fun b i v h=>hj.φ0 b i v (hi.φ0 b i v h)
    grow:=fun b i v h=>by
      rcases hj.grow b i v h with h1 | h1
      · exact hi.grow b i v h1
      · exact .inr fun hk=>h1 (.inl hk)
    fixed:=fun o ho=>(hj.fixed o (hF o ho)).trans (hi.fixed o ho)
    tmps:=hj.tmps
    defers:=hj.defers }
theorem qP{Q1 Q2:Exit -> Act -> World -> Prop}{K1 K2:Act -> World -> Prop}{j:Nat}{a:Act}{w:World}(hQ:∀ e a w,e ≠ .normal -> Q1 e a w -> False)(hK:∀ a w,K1 a w -> K2 a w)(h:wpOp P ops Q1 j K1 a w):wpOp P ops Q2 j K2 a w:=by
  unfold wpOp at *
  cases ho:ops[j]? with
  | none=>simp only [ho] at h ⊢; first | exact hK _ _ h | exact h
  | some o =>
    simp only [ho] at *
    split
    · rename_i hw
      simp only [hw,if_true] at h
      rcases h with h | ⟨_,hl⟩
      · refine .inl ?_
        unfold Oper.wp at *
        generalize (execOp a.eval o).run P w = r at *
        cases r with
        | ok nx w' =>
          cases nx <;> simp only [Oper.upon] at h ⊢ <;> first
            | exact hK _ _ h
            | exact Calls.mono h (fun e Wu he=>by
                cases e with
                | returned u=>exact hK _ _ he
                | panicked c=>exact (hQ _ _ _ (by simp) he).elim
                | outgrown=>exact (let ⟨_,_,h'⟩:=he; hQ _ _ _ (by simp) h').elim)
            | exact Rows.mono h (fun _ _ he=>hK _ _ he)
        | halt x w'=>cases x <;> simp only [Oper.upon] at h ⊢ <;> first | exact (hQ _ _ _ (by simp) h).elim | exact (let ⟨_,_,h'⟩:=h; hQ _ _ _ (by simp) h').elim | exact h
      · obtain ⟨_,_,h'⟩:=hl
        exact (hQ _ _ _ (by simp) h').elim
    · rename_i hw
      simp only [hw] at h
      exact hK _ _ h
theorem tp{md : Region.Mode}{S : World → Prop}{Q1 Q2 : Exit → Act → World → Prop}(hQ : ∀ e a w, e ≠ .normal → Q1 e a w → False)(hN : ∀ a w, Q1 .normal a w → Q2 .normal a w) :
    ∀ (n:Nat) (ag:Array Bool) (a:Act) (w:World),wpAnyH P md ops Q1 S n ag a w -> wpAnyH P md ops Q2 S n ag a w
  | 0,_,_,_,h=>⟨h.1,hN _ _ h.2⟩
  | n + 1,_,_,_,h=>⟨fun h0=>hN _ _ (h.1 h0),fun i hi=>qP hQ (fun a w h'=>⟨h'.1,tp hQ hN n _ a w h'.2⟩) (h.2 i hi)⟩
theorem cg.go{L F' : List Nat}{n : Nat}{ag : Array Bool}(Ej : St)(hle : Le st Ej)(Tn : ∀ o ∈ L, look Ej.aF o = none)(hF : ∀ o, N.F.elem o = true → F'.elem o = true)(KZ : ∀ o ∈ L, F'.elem o = true)
    (aW:bZ st L F') (k:da P ⟨N.n,F'⟩ ops n ag Ej (fun aY=>K ⟨aY.aE,st.back L aY.aF⟩)):cg P N L F' ops n ag st K:=by
  intro G hn E RR a T hT hi
  refine tp (fun e a w he h=>he h.1) ?_ n ag a E.w (k (mW G E L T F') (by simp [mW,hn]) a E.w (mW.down hi hT hle Tn))
  rintro a' w' ⟨_,aY,hk,hh⟩
  exact ⟨rfl,_,hk,mW.up hi hT (by rw [hn]; exact hF) KZ aW hh⟩
theorem da.step{n : Nat}{ag : Array Bool}(j : Nat){o : Oper}(ho : ops[j]? = some o)
    (k:aQ P N ops [o] st (fun e aY=>e = .normal /\ da P N ops n (ag.setIfInBounds j true) aY K)) (G:Ctx) (hn:G.fn = N) (a:Act) (w:World) (hh:cK G st a w) :
    wpOp P ops (fun e a w=>e = .normal /\ ∃ aY,K aY /\ cK G aY a w) j (fun a' w'=>SG G w' /\ wpAnyH P .any ops (fun e a w=>e = .normal /\ ∃ aY,K aY /\ cK G aY a w) (SG G) n (ag.setIfInBounds j true) a' w') a w:=by
  have hk:=k G hn a w hh
  have key : wpOp P ops (fun e a w => oB G (fun e aY => e = .normal ∧ da P N ops n (ag.setIfInBounds j true) aY K) e a w) j
      (fun a w=>oB G (fun e aY=>e = .normal /\ da P N ops n (ag.setIfInBounds j true) aY K) .normal a w) a w:=by
    unfold wpOp; simp only [ho]; exact hk
  refine qP ?_ ?_ key
  · rintro e a w he ⟨aY,_,h,_⟩
    exact he h
  · rintro a w ⟨aY,iR,_,Bq⟩
    exact ⟨iR.sg,Bq G hn a w iR⟩
theorem da.one{n : Nat}{ag : Array Bool}(i : Nat){o : Oper}(ho : ops[i]? = some o)(hr : (Region.ready .any ops ag == [i]) = true)
    (k:aQ P N ops [o] st (fun e aY=>e = .normal /\ da P N ops n (ag.setIfInBounds i true) aY K)):da P N ops (n + 1) ag st K:=by
  intro G hn a w hh
  refine wpAnyH_all (rs:=[i]) (by simpa using hr) (by simp) ?_
  intro j hj
  have:j = i:=by simpa using hj
  subst this
  exact da.step j ho k G hn a w hh
theorem da.two{n : Nat}{ag : Array Bool}(i i' : Nat){o o' : Oper}(ho : ops[i]? = some o)(nJ : ops[i']? = some o')(hr : (Region.ready .any ops ag == [i, i']) = true)
    (k:aQ P N ops [o] st (fun e aY=>e = .normal /\ da P N ops n (ag.setIfInBounds i true) aY K))
    (k':aQ P N ops [o'] st (fun e aY=>e = .normal /\ da P N ops n (ag.setIfInBounds i' true) aY K)):da P N ops (n + 1) ag st K:=by
  intro G hn a w hh
  refine wpAnyH_all (rs:=[i,i']) (by simpa using hr) (by simp) ?_
  intro j hj
  simp only [List.mem_cons,List.not_mem_nil,or_false] at hj
  rcases hj with rfl | rfl
  · exact da.step j ho k G hn a w hh
  · exact da.step j nJ k' G hn a w hh
theorem da.blind{n : Nat}{ag : Array Bool}(i : Nat){op : Op}{x : X}(ho : ops[i]? = some ⟨some d, op, ty, pos, af, none⟩)
    (hB:(Region.noSelect ops && Region.free .any ops ag i && (Region.ready .any ops ag).contains i) = true) (hy:ax P N st ⟨some d,op,ty,pos,af,none⟩ x) (hd:d < N.n)
    (k:da P N ops n (ag.setIfInBounds i true) (st.put d x) K):da P N ops (n + 1) ag st K:=by
  intro G hn a w hh
  have hS:=hh.sg
  obtain ⟨E,RR,rfl,hi⟩:=hh
  obtain ⟨u,hr,hx⟩:=hy G E RR a hn hi
  simp only [Bool.and_eq_true] at hB
  refine wpAnyH_take (v:=u) ho hB.1.1 hB.1.2 hB.2 ?_ (.inl ⟨by simp [Region.wanted],fun w _=>hr w⟩) hS (k G hn _ _ ⟨E,_,rfl,hi.iT (hn ▸ hd) hx⟩)
  intro c a w h
  cases h.1
theorem da.done{n:Nat}{ag:Array Bool}(hr:(Region.ready .any ops ag).isEmpty = true)(h:K st):da P N ops n ag st K :=
  fun _ _ _ _ hh=>wpAnyH_done (by simpa using hr) ⟨rfl,st,h,hh⟩ n
theorem dx.g7(L F':List Nat){Q:Exit -> St -> Prop}{id:Nat}(hm:P.follows .mixedOrders = true)(h:cg P N L F' ops ops.size (Array.replicate ops.size false) st (fun aY=>Q .normal aY)):dx P N (.region id ops true) st Q:=by
  intro G hn a w hh
  obtain ⟨E,RR,hw,hi⟩:=hh.drew
  refine wp_mono (wp_region_held (S:=SG (mW G E L (fun o=>RR (.obj o)) F')) hm (hw ▸ h G hn E RR a _ (fun _ _=>rfl) hi)) ?_
  rintro e a w ⟨rfl,aY,hk,iR⟩
  exact ⟨aY,iR,hk⟩
theorem jw{L : List Nat}{q : Nat}{x : Obj} : ∀ {l : List (Nat × Obj)}, look (l.filter fun p => !L.elem p.1) q = some x → look l q = some x ∧ q ∉ L
  | [],h=>by simp [look] at h
  | (o,ob) :: r,h=>by
    rw [List.filter_cons] at h
    cases hL:L.elem o with
    | true =>
      simp only [hL,Bool.not_true,Bool.false_eq_true,if_false] at h
      obtain ⟨h1,h2⟩:=jw h
      refine ⟨?_,h2⟩
      have fH:Nat.beq o q = false:=by
        cases hb:Nat.beq o q with
        | false=>rfl
        | true =>
          have:=Nat.eq_of_beq_eq_true hb
          subst this
          exact absurd (List.elem_iff.1 hL) h2
      simp only [look,fH,cond_false]; exact h1
    | false =>
      simp only [hL,Bool.not_false,if_true,look] at h ⊢
      cases hb:Nat.beq o q with
      | true =>
        have:=Nat.eq_of_beq_eq_true hb
        subst this
        simp only [hb,cond_true] at h ⊢
        exact ⟨h,fun hm=>by rw [List.elem_iff.2 hm] at hL; cases hL⟩
      | false =>
        simp only [hb,cond_false] at h ⊢
        exact jw h
theorem dx.gr{Q:Exit -> St -> Prop}{id:Nat}(hm:P.follows .mixedOrders = true)(h:cg P N [] N.F ops ops.size (Array.replicate ops.size false) st (fun aY=>Q .normal aY)):dx P N (.region id ops true) st Q:=dx.g7 [] N.F hm h
theorem Le.aF{st:St}{l:List (Nat × Obj)}(h:ir st.aF l):Le st ⟨st.aE,l⟩:=⟨fun _ _ h=>h,h⟩
theorem bZ.nil{F':List Nat}:bZ st [] F':=fun _ h=>by cases h
def ownNames : List X → List Nat
  | []=>[]
  | .ptr o .. :: r | .aL o .. :: r | .mref o :: r=>o :: ownNames r
  | .v _ :: r | .fz .. :: r | .no :: r | .fp .. :: r | .dH .. :: r=>ownNames r
  | _ :: r=>ownNames r
def BN : List X → Bool
  | []=>true
  | .agg _ :: _ | .tup _ :: _ | .j7 .. :: _=>false
  | _ :: r=>BN r
theorem mX{q : Nat} : ∀ {xs : List X}, BN xs = true → X.cv q xs = true → q ∈ ownNames xs
  | [],_,h=>by simp [X.cv] at h
  | x :: r,hf,h=>by
    simp only [X.cv,Bool.or_eq_true] at h
    cases x <;> simp only [BN, Bool.false_eq_true] at hf <;> simp only [ownNames, X.eO, Bool.false_eq_true, false_or, beq_iff_eq, List.mem_cons] at h ⊢ <;>
      first
        | exact mX hf h
        | (rcases h with h | h
           · first | exact .inl h.symm | exact .inl h | exact .inl (Nat.eq_of_beq_eq_true h).symm | exact .inl (Nat.eq_of_beq_eq_true h)
           · exact .inr (mX hf h))
theorem bZ.cells{F' L:List Nat}{o:Nat}{xs:List X}(ho:look st.aF o = some (.cells xs))(hf:BN xs = true)(hn:(ownNames xs).all (fun q=>F'.elem q) = true)(hL:bZ st L F'):bZ st (o :: L) F':=by
  intro p hp
  rcases List.mem_cons.1 hp with rfl | hp
  · exact ⟨_,ho,fun q hq=>List.all_eq_true.1 hn q (mX hf hq)⟩
  · exact hL p hp
theorem bZ.hole{F' L:List Nat}{o i q s n:Nat}{rs:List (List X)}(ho:look st.aF o = some (.hole rs i q s n))(hq:F'.elem q = true)(hL:bZ st L F'):bZ st (o :: L) F':=by
  intro p hp
  rcases List.mem_cons.1 hp with rfl | hp
  · exact ⟨_,ho,fun x hx=>by have h1:=Nat.eq_of_beq_eq_true (show Nat.beq q x = true from hx); subst h1; exact hq⟩
  · exact hL p hp
theorem bZ.rows{F' L:List Nat}{o s:Nat}{rs:List (List X)}(ho:look st.aF o = some (.rows s rs))(hL:bZ st L F'):bZ st (o :: L) F':=by
  intro p hp
  rcases List.mem_cons.1 hp with rfl | hp
  · exact ⟨_,ho,fun x hx=>by cases hx⟩
  · exact hL p hp
theorem cg.GZ{L F' : List Nat}{n : Nat}{ag : Array Bool}(hF : N.F.all (fun o => F'.elem o) = true)(KZ : L.all (fun o => F'.elem o) = true)
    (aW:bZ st L F') (k:da P ⟨N.n,F'⟩ ops n ag ⟨st.aE,st.aF.filter fun p=>!L.elem p.1⟩ (fun aY=>K ⟨aY.aE,st.back L aY.aF⟩)):cg P N L F' ops n ag st K :=
  cg.go ⟨st.aE,st.aF.filter fun p=>!L.elem p.1⟩ ⟨fun _ _ h=>h,fun _ _ h=>(jw h).1⟩ (fun o ho=>by
    have key:∀ x,look (st.aF.filter fun p=>!L.elem p.1) o ≠ some x:=fun x h=>absurd ho (jw h).2
    show look (st.aF.filter fun p=>!L.elem p.1) o = none
    generalize look (st.aF.filter fun p=>!L.elem p.1) o = z at key
    cases z with
    | none=>rfl
    | some x=>exact absurd rfl (key x)) (fun o ho=>List.all_eq_true.1 hF o (List.elem_iff.1 ho)) (fun o ho=>List.all_eq_true.1 KZ o ho) aW k
theorem cg.yj{n:Nat}{ag:Array Bool}(k:da P N ops n ag st K):cg P N [] N.F ops n ag st K :=
  cg.go st (Le.refl st) (fun _ h=>by cases h) (fun _ h=>h) (fun _ h=>by cases h) bZ.nil k
end
end Go.AW
namespace Go.AW
open Go
section
variable {P:Program}
def Pf(P : Program)(q3 : List ResultVar)(F : List Nat)(k : Nat)(Q : X → List Obj → Prop) : Exit → St → Prop
 | .normal,st | .ret,st=>∃ xs,lH P st q3 = some xs /\ ∃ Ib r aJ,Sh ⟨1,F⟩ ⟨[(0,r4 xs)],st.aF⟩ Ib /\ look Ib.aE 0 = some r /\ lz Ib.aF 0 k = some aJ /\ Q r aJ
 | _,_=>False
theorem aw.Rq{f : FuncId}{fn : Func}{c : Code}{args : List X}{aF : List Obj}{F : List Nat}{Q : X → List Obj → Prop}{n : Nat}{q3 : List ResultVar}(hf : P.funcs[f]? = some fn)(hb : fn.body = some c)(hn : fn.ntmps = n)(hr : fn.results.toList = q3)
  (jB:(jE q3).Nodup) (hle:args.length <= n) (h:dx P ⟨n,F⟩ c ⟨dU 0 args,dU 0 aF⟩ (Pf P q3 F aF.length Q)):aw P f args aF F Q:=by
 intro K E RR dy hi
 refine calls_of_wp hf hb ?_
 have tE:dy.size = args.length:=hi.tmps
 have iS:Inv (r3 K E ⟨n,F⟩) E RR ⟨dU 0 args,dU 0 aF⟩ ⟨dy ++ Array.replicate (fn.ntmps - dy.size) undef,[]⟩:=by
  refine { hi with aE:=?_,tmps:=?_,defers:=rfl }
  ·intro s x hx
   have h0:=hi.aE s x hx
   have hs:s < dy.size:=by
    rw [tE]
    have j8:look (dU 0 args) s = some x:=hx
    rw [iv] at j8
    rcases Nat.lt_or_ge s args.length with h' | h'
    ·exact h'
    ·simp [List.getElem?_eq_none h'] at j8
   have:(dy ++ Array.replicate (fn.ntmps - dy.size) undef).getD s undef = dy.getD s undef:=by
    simp only [Array.getD_eq_getD_getElem?,Array.getElem?_append_left hs]
   show RX E x ((dy ++ Array.replicate (fn.ntmps - dy.size) undef).getD s undef) (RR (.slot s))
   rw [this]; exact h0
  ·show (dy ++ Array.replicate (fn.ntmps - dy.size) undef).size = n
   simp; omega
 refine wp_mono (h (r3 K E ⟨n,F⟩) rfl _ _ ⟨E,RR,rfl,iS⟩) ?_
 rintro e a w ⟨st,⟨E',gG,rfl,h1⟩,hq⟩
 have key : (∃ xs, lH P st q3 = some xs ∧ ∃ Ib r aJ, Sh ⟨1, F⟩ ⟨[(0, r4 xs)], st.aF⟩ Ib ∧ look Ib.aE 0 = some r ∧ lz Ib.aF 0 aF.length = some aJ ∧ Q r aJ) → a.defers = [] ∧ ∃ v, (results fn a.tmps).run P E'.w = .ok v E'.w ∧
   ∃ v' r aJ,Ending.returned v = .returned v' /\ Q r aJ /\ aJ.length = aF.length /\ ∃ m8 uq,m8.w = E'.w /\ Inv (r3 K E ⟨1,F⟩) m8 uq ⟨[(0,r)],dU 0 aJ⟩ ⟨#[v'],[]⟩:=by
  rintro ⟨xs,Ea,Ib,r2,aJ,Fa,QX,kG,hQ⟩
  obtain ⟨hlen,Eb⟩:=nQ kG
  have kF:∀ j,j < aF.length -> look Ib.aF j = aJ[j]?:=fun j hj=>by have:=Eb j hj; rwa [Nat.zero_add] at this
  refine ⟨h1.defers,?_⟩
  obtain ⟨cs,R,jC,hx,Kz,QY⟩:=wM h1 Ea jB
  have ur:(results fn a.tmps).run P E'.w = .ok (if h:cs.toArray.size = 1 then cs.toArray[0] else .tuple cs.toArray) E'.w:=by
   have e:results fn a.tmps = (do let vs <- fn.results.mapM (qH a.tmps); Pure.pure (if h:vs.size = 1 then vs[0] else .tuple vs):Sem Value):=rfl
   rw [e,show fn.results = q3.toArray by rw [<- hr]]
   refine kE (u:=cs.toArray) ?_ rfl
   rw [List.mapM_toArray]
   simp only [Sem.run_map,jC]
   rfl
  refine ⟨_,ur,_,r2,aJ,rfl,hQ,hlen,?_⟩
  have Sw:RX E' (r4 xs) (if h:cs.toArray.size = 1 then cs.toArray[0] else .tuple cs.toArray) R:=by
   cases xs with
   | nil =>
    simp only [eV] at hx
    obtain ⟨rfl,rfl⟩:=hx
    simp only [r4,RX]
    exact ⟨#[],by simp,by simp [eV]⟩
   | cons x xs =>
    cases xs with
    | nil =>
     simp only [eV] at hx
     obtain ⟨c,dp,R₁,R₂,rfl,h1,⟨rfl,rfl⟩,rfl⟩:=hx
     simpa [r4] using h1
    | cons y ys =>
     have j8:=hx
     simp only [eV] at hx
     obtain ⟨c,dp,R₁,R₂,rfl,_,⟨c',K0,R₃,R₄,rfl,_⟩,_⟩:=hx
     simp only [r4,RX]
     exact ⟨(c :: c' :: K0).toArray,by simp,by simpa using j8⟩
  let pU:Own -> List Nat:=fun p=>match p with
   | .slot s=>if s = 0 then R else []
   | .obj o=>gG (.obj o)
  have nK:∀ p b,b ∈ pU p -> ∃ q,b ∈ gG q /\ ((∃ o,p = .obj o /\ q = .obj o) \/ (p = .slot 0 /\ ∃ t,q = .slot t)):=by
   intro p b hb
   cases p with
   | slot s =>
    by_cases hs:s = 0
    ·subst hs
     simp only [pU,if_true] at hb
     obtain ⟨t,_,ht⟩:=QY b hb
     exact ⟨.slot t,ht,.inr ⟨rfl,t,rfl⟩⟩
    ·simp [pU,hs] at hb
   | obj o=>exact ⟨.obj o,hb,.inl ⟨o,rfl,rfl⟩⟩
  have h3:cK (r3 K E ⟨1,F⟩) ⟨[(0,r4 xs)],st.aF⟩ ⟨#[if h:cs.toArray.size = 1 then cs.toArray[0] else .tuple cs.toArray],[]⟩ E'.w:=by
   refine ⟨E',pU,rfl,{ h1 with aE:=?_,aF:=?_,nodup:=?_,apart:=?_,own:=?_,tmps:=?_,defers:=rfl }⟩
   ·intro s x j8
    simp only [look] at j8
    cases xu:Nat.beq 0 s with
    | false=>simp [xu] at j8
    | true =>
     have:=Nat.eq_of_beq_eq_true xu
     subst this
     simp only [xu,cond_true,Option.some.injEq] at j8
     subst j8
     simpa [pU] using Sw
   ·intro o ob ho
    exact h1.aF o ob ho
   ·intro p
    cases p with
    | slot s=>by_cases hs:s = 0 <;> simp [pU,hs,Kz]
    | obj o=>exact h1.nodup _
   ·intro p q nO b hb iG
    obtain ⟨p',Jq,Sx⟩:=nK p b hb
    obtain ⟨q',C6,NG⟩:=nK q b iG
    have fH:p' ≠ q':=by
     rcases Sx with ⟨o,rfl,rfl⟩ | ⟨rfl,t,rfl⟩
     ·rcases NG with ⟨o',rfl,rfl⟩ | ⟨rfl,t',rfl⟩
      ·exact nO
      ·simp
     ·rcases NG with ⟨o',rfl,rfl⟩ | ⟨rfl,t',rfl⟩
      ·simp
      ·exact absurd rfl nO
    exact h1.apart p' q' fH b Jq C6
   ·intro p b hb
    obtain ⟨q,C6,_⟩:=nK p b hb
    exact h1.own q b C6
   ·rfl
  obtain ⟨E2,Y1,La,h2⟩:=Fa _ rfl _ _ h3
  refine ⟨E2,Y1,La,{ h2 with aE:=?_,aF:=?_ }⟩
  ·intro s x j8
   simp only [look] at j8
   cases xu:Nat.beq 0 s with
   | false=>simp [xu] at j8
   | true =>
    have:=Nat.eq_of_beq_eq_true xu
    subst this
    simp only [xu,cond_true,Option.some.injEq] at j8
    subst j8
    exact h2.aE 0 _ QX
  ·intro o ob ho
   have nJ:look (dU 0 aJ) o = some ob:=ho
   rw [iv] at nJ
   have gQ:o < aF.length:=by
    rcases Nat.lt_or_ge o aF.length with h' | h'
    ·exact h'
    ·rw [List.getElem?_eq_none om] at nJ; cases nJ
   exact h2.aF o ob (by rw [kF o gQ]; exact nJ)
 cases e with
 | normal=>exact key hq
 | ret=>exact key hq
 | _=>exact hq.elim
theorem Sh.then{N:fo}{a b c:St}(h1:Sh N a b)(h2:Sh N b c):Sh N a c:=fun G hn x w hh=>h2 G hn x w (h1 G hn x w hh)
end
end Go.AW
namespace Go.AW
open Go
section
variable {N:fo} {st:St} {d:Nat}
theorem Sh.kL(k o : Nat){s n : Nat}{xs zs : List X}{rows : List (List X)}(hx : look st.aE d = some (.tup (.agg xs :: zs)))(hz : X.cv o zs = false)(hk : xs[k]? = some (.aL o s 0 n))(ho : look st.aF o = some (.rows s rows))(hl : n = rows.length)(hm : X.cv o (xs.set k .no) = false)(hF : N.F.elem o = false) :
  Sh N st (((st.kill o).cV o (.rows 0 [])).put d (.tup (.agg (xs.set k (.dH s rows)) :: zs))):=by
 intro G hn a w hh
 obtain ⟨E,RR,rfl,hi⟩:=hh
 subst hl
 have hv:=hi.aE d _ hx
 have aW:=hi.aF o _ ho
 have jB:=hi.nodup (.obj o)
 have xE:=hi.nodup (.slot d)
 simp only [RX,eV] at hv
 obtain ⟨ts,SA,c1,Wl,R1,R2,WE,⟨cs,rfl,gN⟩,QW,hR12⟩:=hv
 simp only [dK] at aW
 obtain ⟨hu,aW⟩:=aW
 have hβ:dg G E { E with β:=fun q=>if q = o then none else E.β q } (fun _=>False) :=
  ⟨rfl,fun _ h=>h.elim,fun _ h=>h.elim,fun _ _ _=>rfl,Nat.le_refl _,rfl,rfl,rfl⟩
 have h4 := hi.lF hβ (o := o) (ob := .rows 0 []) (R := []) (fun _ h => h.elim) (fun q hq => by simp [hq]) (fun h => by rw [hn, hF] at h; cases h)
  (by simp only [dK]; exact ⟨fun _ h=>(by cases h),.inl ⟨by simp,trivial,trivial⟩⟩) List.nodup_nil (fun _ h=>by cases h)
 have im:∀ R',E.On { E with β:=fun q=>if q = o then none else E.β q } R':=fun R'=>⟨fun _ _ _ h=>h,fun _ _=>⟨rfl,fun h=>h⟩⟩
 obtain ⟨c,Ra,Rr,Pg,Pb,Ph⟩:=b6.EY (E':={ E with β:=fun q=>if q = o then none else E.β q }) (y:=.dH s rows) (o:=o) (fun q hq=>by simp [hq]) rfl gN hk (im _) hm
 have yh:RR (.slot d) = Ra ++ (Rr ++ R2):=by rw [hR12,Pg,List.append_assoc]
 have wI:∀ R',RX { E with β:=fun q=>if q = o then none else E.β q } (.dH s rows) c R' -> RX { E with β:=fun q=>if q = o then none else E.β q } (.tup (.agg (xs.set k (.dH s rows)) :: zs)) (a.tmps.getD d undef) (Ra ++ (R' ++ (Rr ++ R2))):=by
  intro R' h'
  rw [SA]
  simp only [RX,eV]
  exact ⟨ts,rfl,.agg cs,Wl,Ra ++ (R' ++ Rr),R2,WE,⟨cs,rfl,Ph R' h'⟩,eV.mono _ _ _ (im _) (fun q hq=>by
   have fH:q ≠ o:=fun e=>by rw [e,hz] at hq; cases hq
   simp [fH]) QW,by simp only [List.append_assoc]⟩
 generalize Rr ++ R2 = Rb at yh wI
 simp only [RX] at Pb
 obtain ⟨_,base,cap,hc,cU⟩:=Pb
 have Ns:∃ R,RX { E with β:=fun q=>if q = o then none else E.β q } (.dH s rows) c R /\ R.Nodup /\ ∀ b ∈ R,b ∈ RR (.obj o):=by
  simp only [RX]
  rcases aW with ⟨h1,h2,h3⟩ | ⟨B,cs,ty,R',hB,hw,hφ,lx,fY,jS,iI⟩
  ·rcases cU with ⟨_,_,_,h5⟩ | ⟨B,hB,_⟩
   ·exact ⟨[],⟨hu,base,cap,hc,.inl ⟨h2,h5,rfl⟩⟩,List.nodup_nil,fun _ h=>by cases h⟩
   ·rw [h1] at hB; cases hB
  ·rcases cU with ⟨h1,_⟩ | ⟨B',iU,x6,tD,hb⟩
   ·rw [hB] at h1; cases h1
   ·rw [hB] at iU
    obtain rfl:=Option.some.inj iU
    rcases hb with hb | hb
    ·refine ⟨[],⟨hu,base,cap,hc,.inl ⟨List.eq_nil_of_length_eq_zero om,hb,rfl⟩⟩,List.nodup_nil,fun _ h=>by cases h⟩
    ·refine ⟨RR (.obj o),⟨hu,base,cap,hc,.inr ⟨B.b,B.off,cs,ty,R',by simpa using hb,hw,om,by rw [show cap = B.cap by omega]; exact fY,hφ,cE.mono _ _ _ _ (im R') jS,iI⟩⟩,jB,fun _ h=>h⟩
 obtain ⟨R,sw,xD,Hn⟩:=Ns
 have tG:∀ b ∈ Ra ++ (R ++ Rb),b ∈ RR (.slot d) \/ b ∈ RR (.obj o):=by
  intro b hb
  rcases List.mem_append.1 hb with h | h
  ·exact .inl (by rw [yh]; exact List.mem_append.2 (.inl h))
  ·rcases List.mem_append.1 h with h | h
   ·exact .inr (Hn b h)
   ·exact .inl (by rw [yh]; exact List.mem_append.2 (.inr h))
 have KX:∀ b ∈ RR (.slot d),b ∉ RR (.obj o):=fun b hb=>hi.apart (.slot d) (.obj o) (by simp) b hb
 rw [yh] at xE KX
 obtain ⟨m1,m2,m3⟩:=List.nodup_append.1 xE
 refine ⟨{ E with β:=fun q=>if q = o then none else E.β q },_,rfl,h4.relabel (d:=d) (R:=Ra ++ (R ++ Rb)) ?_ ?_ (fun c hc=>?_)⟩
 ·exact wI R sw
 ·rw [List.nodup_append,List.nodup_append]
  refine ⟨m1,⟨xD,m2,fun x hx y hy e=>KX y (List.mem_append.2 (.inr hy)) (by rw [<- e]; exact Hn x hx)⟩,fun x hx y hy e=>?_⟩
  rcases List.mem_append.1 hy with h | h
  ·exact KX x (List.mem_append.2 (.inl hx)) (by rw [e]; exact Hn y h)
  ·exact m3 x hx y h e
 ·have np:c < E.w.heap.size /\ ¬ G.K c:=by rcases tG c hc with h | h <;> exact hi.own _ _ h
  refine ⟨np.1,np.2,fun p hp mx=>?_⟩
  have key:∀ q,q ≠ .slot d -> q ≠ .obj o -> c ∉ RR q:=by
   intro q h1 h2 h3
   rcases tG c hc with h | h
   ·exact hi.apart q (.slot d) h1 c h3 h
   ·exact hi.apart q (.obj o) h2 c h3 h
  cases p with
  | obj q =>
   by_cases hq:q = o
   ·subst hq; simp [fq] at mx
   ·have:c ∈ RR (.obj q):=by simpa [fq,hq] using mx
    exact key (.obj q) (by simp) (by simpa using hq) this
  | slot q =>
   rcases ji st RR o [] q with h | h
   ·rw [h] at mx; cases mx
   ·rw [h] at mx; exact key (.slot q) hp (by simp) mx
end
theorem Sh.Pj{N : fo}{st : St}{d : Nat}(k o n : Nat){s : Nat}{xs : List X}{rows : List (List X)}(hx : look st.aE d = some (.agg xs))(hk : xs[k]? = some (.dH s rows))(hm : X.cv o (xs.set k .no) = false)(hF : N.F.elem o = false)(hn : n = rows.length) :
  Sh N st (((st.kill o).cV o (.rows s rows)).put d (.agg (xs.set k (.aL o s 0 n)))):=by subst hn; exact Sh.Pc k o hx hk hm hF
theorem dx.kM{P:Program}{N:fo}{st:St}{ops:Array Oper}(L F':List Nat)(J:St){Q:Exit -> St -> Prop}{id:Nat}(hm:P.follows .mixedOrders = true)(h:cg P N L F' ops ops.size (Array.replicate ops.size false) st (fun aY=>Le aY J))(k:Q .normal J):dx P N (.region id ops true) st Q:=by
 intro G hn a w hh
 obtain ⟨E,RR,hw,hi⟩:=hh.drew
 refine wp_mono (wp_region_held (S:=SG (mW G E L (fun o=>RR (.obj o)) F')) hm (hw ▸ h G hn E RR a _ (fun _ _=>rfl) hi)) ?_
 rintro e a w ⟨rfl,aY,hk,iR⟩
 exact ⟨J,hk.holds iR,k⟩
theorem dx.dW{P:Program}{N:fo}{st:St}{ops:Array Oper}(J:St){Q:Exit -> St -> Prop}{id:Nat}(hm:P.follows .mixedOrders = true)(h:cg P N [] N.F ops ops.size (Array.replicate ops.size false) st (fun aY=>Le aY J))(k:Q .normal J):dx P N (.region id ops true) st Q:=dx.kM [] N.F J hm h k
theorem yk(x:Nat):IntKind.u8.wrap (x:Int) = ((x % 256:Nat):Int):=by
 unfold IntKind.wrap
 simp only [IntKind.signed,IntKind.bits]
 simp
end Go.AW
namespace Go.AW
open Go
section
variable {P:Program} {ops:Array Oper} {Q:Exit -> Act -> World -> Prop} {md:Region.Mode} {S:World -> Prop}
def wpAnyL(P : Program)(md : Region.Mode)(ops : Array Oper)(Q : Exit → Act → World → Prop)(S : World → Prop)(LT : List Nat) : Nat → Array Bool → Act → World → Prop
 | 0,ag,a,w=>Region.ready md ops ag = [] /\ Q .normal a w
 | n + 1, ag, a, w => (Region.ready md ops ag = [] → Q .normal a w) ∧
   ∀ i ∈ Region.ready md ops ag,wpOp P ops Q i (fun a' w'=>(i ∈ LT \/ S w') /\ wpAnyL P md ops Q S LT n (ag.setIfInBounds i true) a' w') a w
theorem q8{LT : List Nat} : ∀ (n : Nat) (ag : Array Bool) (a : Act) (w : World), wpAnyL P md ops Q S LT n ag a w → wpAny P md ops Q n ag a w
 | 0,_,_,_,h=>h
 | n + 1,_,_,_,h=>⟨h.1,fun i hi=>wpOp_mono (fun a' w' h'=>q8 n _ a' w' h'.2) (h.2 i hi)⟩
theorem wx{LT : List Nat} : ∀ (n : Nat) (ag : Array Bool) (a : Act) (w : World), (∀ j, ag.getD j true = false → j ∈ LT) → wpAny P md ops Q n ag a w → wpAnyL P md ops Q S LT n ag a w
 | 0,_,_,_,_,h=>h
 | n + 1,ag,_,_,hl,h=>⟨h.1,fun i hi=>wpOp_mono (fun a' w' h'=>⟨.inl (hl i (mem_ready.1 hi).1),wx n _ a' w' (fun j hj=>by
   refine hl j ?_
   by_cases Rs:i = j
   ·subst Rs; exact (mem_ready.1 hi).1
   ·rw [getD_set_ne true Rs] at hj; exact hj) h'⟩) (h.2 i hi)⟩
theorem wpAnyL_first{LT : List Nat}{i : Nat}{oi : Oper}{v : Value}(hi : ops[i]? = some oi)(Ep : ∀ (j : Nat) (o : Oper) cs b, ops[j]? = some o → o.op ≠ .select cs b)
  (hQ:∀ c a w,Q (.panic c) (a.put oi.dst v) w -> Q (.panic c) a w) (gQ:∀ j ∈ LT,∀ oj,ops[j]? = some oj -> ∃ e ∈ oj.after,Region.binds md e = true /\ e.on = i) :
  ∀ (n : Nat) (ag : Array Bool) (a : Act) (w : World), (∀ j oj, ops[j]? = some oj → j ≠ i → ag.getD j true = false → (∀ e ∈ oj.after, Region.binds md e = true → e.on ≠ i) → oi.apart ops oj = true) →
   i ∈ Region.ready md ops ag -> YieldsIf P ops S oi v a -> S w -> wpAnyL P md ops Q S LT n (ag.setIfInBounds i true) (a.put oi.dst v) w -> wpAnyL P md ops Q S LT (n + 1) ag a w:=by
 intro n
 induction n with
 | zero =>
  intro ag a w _ hr hy hS H
  refine ⟨fun h=>(by rw [h] at hr; cases hr),fun j hj=>?_⟩
  by_cases yZ:j = i
  ·subst yZ; exact hy.wpOp hi hS ⟨.inr hS,H⟩
  ·have:=ready_mono hj yZ
   rw [H.1] at this
   cases this
 | succ n ih =>
  intro ag a w nk hr hy hS H
  refine ⟨fun h=>(by rw [h] at hr; cases hr),fun j hj=>?_⟩
  by_cases yZ:j = i
  ·subst yZ; exact hy.wpOp hi hS ⟨.inr hS,H⟩
  ·have h1:=H.2 j (ready_mono hj yZ)
   obtain ⟨Pk,oj,DB,v7⟩:=mem_ready.1 hj
   have HE:∀ e ∈ oj.after,Region.binds md e = true -> e.on ≠ i:=by
    intro e he hb heq
    have h3:=v7 e he hb
    have h4:=(mem_ready.1 hr).1
    rw [heq] at h3
    rcases Nat.lt_or_ge i ag.size with h' | h'
    ·simp [h'] at h3 h4; rw [h3] at h4; cases h4
    ·simp [Array.getElem?_eq_none h'] at h3
   have oG:j ∉ LT:=fun hm=>by
    obtain ⟨e,he,hb,ho⟩:=gQ j hm oj DB
    exact HE e he hb ho
   have h2:=wpOp_putIf DB (nk j oj DB yZ Pk HE) (fun cs b=>Ep i oi cs b hi) (fun cs b=>Ep j oj cs b DB) hQ hy h1
   refine wpOp_mono (fun a' w' h3=>⟨h3.2.1,ih (ag.setIfInBounds j true) a' w' ?_ (ready_mono hr (Ne.symm yZ)) h3.1 (h3.2.1.resolve_left oG) ?_⟩) h2
   ·intro k ok hk vz NT NL
    refine nk k ok hk vz ?_ NL
    by_cases vP:j = k
    ·subst vP; exact Pk
    ·rw [getD_set_ne true vP] at NT; exact NT
   ·rw [Array.setIfInBounds_comm _ _ yZ]; exact h3.2.2
end
end Go.AW
namespace Go.AW
open Go
section
variable {P:Program} {N:fo} {st:St} {ops:Array Oper} {d:Nat} {ty:TypeId} {pos:String} {af:Array Edge} {K:St -> Prop}
def ym(ops:Array Oper)(LT:List Nat)(i:Nat):Bool:=LT.all fun j=>match ops[j]? with
 | some oj=>oj.after.toList.any fun e=>Region.binds .any e && e.on == i
 | none=>true
theorem mK{Q : Exit → Act → World → Prop}{S : World → Prop}{LT : List Nat}{i : Nat}{oi : Oper}{v : Value}{n : Nat}{ag : Array Bool}{a : Act}{w : World}(hi : ops[i]? = some oi)
  (hs:Region.noSelect ops = true) (hf:Region.free .any ops ag i = true) (hr:(Region.ready .any ops ag).contains i = true) (gQ:ym ops LT i = true)
  (hQ:∀ c a w,Q (.panic c) (a.put oi.dst v) w -> Q (.panic c) a w) (hy:YieldsIf P ops S oi v a) (hS:S w)
  (h:wpAnyL P .any ops Q S LT n (ag.setIfInBounds i true) (a.put oi.dst v) w):wpAnyL P .any ops Q S LT (n + 1) ag a w :=
 wpAnyL_first hi (Region.noSelect_spec hs) hQ (fun j hj oj DB=>by
  have h1:=List.all_eq_true.1 gQ j hj
  simp only [DB,List.any_eq_true,Bool.and_eq_true,beq_iff_eq,Array.mem_toList_iff] at h1
  exact h1) n ag a w (Region.free_spec hi hf) (by simpa using hr) hy hS h
theorem Al{Q : Exit → Act → World → Prop}{S : World → Prop}{LT rs : List Nat}{n : Nat}{ag : Array Bool}{a : Act}{w : World}(hr : Region.ready .any ops ag = rs)(fH : rs ≠ [])
  (h:∀ i ∈ rs,wpOp P ops Q i (fun a' w'=>S w' /\ wpAnyL P .any ops Q S LT n (ag.setIfInBounds i true) a' w') a w):wpAnyL P .any ops Q S LT (n + 1) ag a w :=
 ⟨fun h0=>absurd (hr ▸ h0) fH,fun i hi=>wpOp_mono (fun _ _ h'=>⟨.inr h'.1,h'.2⟩) (h i (hr ▸ hi))⟩
def gL(P:Program)(N:fo)(LT:List Nat)(ops:Array Oper)(R:Nat -> Array Bool -> St -> Prop)(n:Nat)(ag:Array Bool)(st:St):Prop :=
 ∀ G : Ctx, G.fn = N → ∀ Q : Exit → Act → World → Prop, (∀ c a w, Q (.panic c) a w → False) →
  (∀ n' l' aY a' w',R n' l' aY -> cK G aY a' w' -> wpAnyL P .any ops Q (SG G) LT n' l' a' w') -> ∀ a w,cK G st a w -> wpAnyL P .any ops Q (SG G) LT n ag a w
def dJ(P:Program)(N:fo)(LT L F':List Nat)(ops:Array Oper)(n:Nat)(ag:Array Bool)(st:St)(K:St -> Prop):Prop :=
 ∀ G : Ctx, G.fn = N → ∀ E RR a (T : Nat → List Nat), (∀ o ∈ L, RR (.obj o) = T o) → Inv G E RR st a →
  wpAnyL P .any ops (fun e a w=>e = .normal /\ ∃ aY,K aY /\ cK G aY a w) (SG (mW G E L T F')) LT n ag a E.w
theorem dJ.blind{LT L F' : List Nat}{n : Nat}{ag : Array Bool}(i : Nat){op : Op}{x : X}(ho : ops[i]? = some ⟨some d, op, ty, pos, af, none⟩)
  (hB:(Region.noSelect ops && Region.free .any ops ag i && (Region.ready .any ops ag).contains i) = true) (gQ:ym ops LT i = true) (hy:ax P N st ⟨some d,op,ty,pos,af,none⟩ x) (hd:d < N.n)
  (k:dJ P N LT L F' ops n (ag.setIfInBounds i true) (st.put d x) K):dJ P N LT L F' ops (n + 1) ag st K:=by
 intro G hn E RR a T hT hi
 obtain ⟨u,hr,hx⟩:=hy G E RR a hn hi
 simp only [Bool.and_eq_true] at hB
 refine mK (v:=u) ho hB.1.1 hB.1.2 hB.2 gQ ?_ (.inl ⟨by simp [Region.wanted],fun w _=>hr w⟩) (hi.JL L T F') (k G hn E _ _ T ?_ (hi.iT (hn ▸ hd) hx))
 ·intro c a w h
  cases h.1
 ·intro o ho
  have:=hT o ho
  simpa [fI] using this
theorem dJ.load{LT L F' : List Nat}{n : Nat}{ag : Array Bool}(i : Nat){t : TypeId}{x : Operand}{p y : X}{row : List X}(ho : ops[i]? = some ⟨some d, .load t x, ty, pos, af, none⟩)
  (hB:(Region.noSelect ops && Region.free .any ops ag i && (Region.ready .any ops ag).contains i) = true) (gQ:ym ops LT i = true) (ht:TY.shape P t = some none) (hx:bV st x = some p) (hL:yi L p = true) (hr:rowAt st p = some row)
  (hy:row[mR p]? = some y) (hf:y.free = true) (hd:d < N.n)
  (k:dJ P N LT L F' ops n (ag.setIfInBounds i true) (st.put d y) K):dJ P N LT L F' ops (n + 1) ag st K:=by
 intro G hn E RR a T hT hi
 obtain ⟨R,hp⟩:=hi.eval hx
 obtain ⟨b,off,hc,j9⟩:=hi.behind hp hr
 obtain ⟨b',uj,rz,q5⟩:=hi.held (F':=F') hT hp hr hL
 obtain ⟨rfl,rfl⟩:=tZ (hc.symm.trans rz)
 have hk:mR p < row.length:=by
  rcases Nat.lt_or_ge (mR p) row.length with h' | h'
  ·exact h'
  ·simp [List.getElem?_eq_none h'] at hy
 obtain ⟨vs,R',hl,hv,gN⟩:=j9 (mR p) 1 om
 rw [getElem?_drop_take_one hy] at gN
 simp only [b6] at gN
 obtain ⟨c,dp,R₁,R₂,Kk,_,h1,⟨rfl,rfl⟩,rfl⟩:=gN
 subst Kk
 have h0:=RX.free hf h1
 subst h0
 simp only [Bool.and_eq_true] at hB
 refine mK (v:=c) ho hB.1.1 hB.1.2 hB.2 gQ ?_ (.inl ⟨by simp [Region.wanted],fun w hw=>?_⟩) (hi.JL L T F') (k G hn E _ _ T ?_ (hi.iT (hn ▸ hd) h1))
 ·intro c a w h
  cases h.1
 ·show (do let z <- Instr.loadAt t (a.eval x); pure (Next.value z):Sem Next).run P w = _
  rw [hc]
  refine eb ?_
  have jA:=hv 0 c rfl
  simp only [Instr.loadAt,Instr.sureAddr,loadVar,Sem.run_bind,Sem.run_pure,Result.andThen_ok,(TY.kb ht w).1]
  simp only [Nat.add_zero] at jA
  rw [<- q5 w hw _ hk] at jA
  simp [jA]
 ·intro o ho
  have:=hT o ho
  simpa [fI] using this
theorem dJ.fe{LT L F' : List Nat}{n : Nat}{ag : Array Bool}(i : Nat){t : TypeId}{x : Operand}{p : X}{row : List X}{m : Nat}{ys : List X}(ho : ops[i]? = some ⟨some d, .load t x, ty, pos, af, none⟩)
  (hB:(Region.noSelect ops && Region.free .any ops ag i && (Region.ready .any ops ag).contains i) = true) (gQ:ym ops LT i = true) (ht:TY.shape P t = some (some m)) (hx:bV st x = some p) (hL:yi L p = true) (hr:rowAt st p = some row)
  (hm:mR p + m <= row.length) (Cw:(row.drop (mR p)).take m = ys) (hf:X.bu ys = true) (hd:d < N.n)
  (k:dJ P N LT L F' ops n (ag.setIfInBounds i true) (st.put d (.agg ys)) K):dJ P N LT L F' ops (n + 1) ag st K:=by
 intro G hn E RR a T hT hi
 obtain ⟨R,hp⟩:=hi.eval hx
 obtain ⟨b,off,hc,j9⟩:=hi.behind hp hr
 obtain ⟨b',uj,rz,q5⟩:=hi.held (F':=F') hT hp hr hL
 obtain ⟨rfl,rfl⟩:=tZ (hc.symm.trans rz)
 obtain ⟨vs,R',hl,hv,gN⟩:=j9 (mR p) m hm
 rw [Cw] at gN
 have h0:=b6.free hf gN
 subst h0
 simp only [Bool.and_eq_true] at hB
 refine mK (v:=.agg vs.toArray) ho hB.1.1 hB.1.2 hB.2 gQ ?_ (.inl ⟨by simp [Region.wanted],fun w hw=>?_⟩) (hi.JL L T F') (k G hn E _ _ T ?_ (hi.iT (hn ▸ hd) (by simp only [RX]; exact ⟨_,rfl,gN⟩)))
 ·intro c a w h
  cases h.1
 ·show (do let z <- Instr.loadAt t (a.eval x); pure (Next.value z):Sem Next).run P w = _
  rw [hc]
  refine eb ?_
  obtain ⟨h1,h2⟩:=TY.nP ht w
  have h3:(loadCells ⟨b,off + mR p,none⟩ m).run P w = .ok vs.toArray w:=by
   rw [<- hl]
   refine run_loadCells_list (w:=w) _ vs fun j v hj=>?_
   have oG:j < vs.length:=(List.getElem?_eq_some_iff.1 hj).1
   rw [iH,Nat.add_assoc,q5 w hw _ om]; exact hv j v hj
  simp only [Instr.loadAt,Instr.sureAddr,loadVar,Sem.run_bind,Sem.run_pure,Result.andThen_ok,h1,if_true,h2,h3]
 ·intro o ho
  have:=hT o ho
  simpa [fI] using this
def JM(P:Program)(N:fo)(LT L:List Nat)(ops:Array Oper)(st:St)(K:St -> Prop)(n':Nat)(l':Array Bool)(aY:St):Prop :=
 ((List.range l'.size).all fun j=>l'.getD j true || LT.elem j) = true /\ fE P N ops n' l' ⟨aY.aE,st.back L aY.aF⟩ K
theorem dJ.GZ{LT L F' : List Nat}{n : Nat}{ag : Array Bool}(hF : N.F.all (fun o => F'.elem o) = true)(KZ : L.all (fun o => F'.elem o) = true)
  (aW:bZ st L F') (k:gL P ⟨N.n,F'⟩ LT ops (JM P N LT L ops st K) n ag ⟨st.aE,st.aF.filter fun p=>!L.elem p.1⟩):dJ P N LT L F' ops n ag st K:=by
 intro G hn E RR a T hT hi
 refine k (mW G E L T F') (by simp [mW,hn]) _ (fun c a w h=>by cases h.1) ?_ a E.w (mW.down hi hT ⟨fun _ _ h=>h,fun _ _ h=>(jw h).1⟩ ?_)
 ·rintro n' l' aY a' w' ⟨hl,hk⟩ hh
  refine wx n' l' a' w' (fun j hj=>?_) (hk G hn a' w' (mW.up hi hT (fun o ho=>List.all_eq_true.1 hF o (List.elem_iff.1 (hn ▸ ho))) (fun o ho=>List.all_eq_true.1 KZ o ho) aW hh))
  rcases Nat.lt_or_ge j l'.size with h' | h'
  ·have h1:=List.all_eq_true.1 hl j (List.mem_range.2 h')
   rw [hj,Bool.false_or] at h1
   exact List.elem_iff.1 h1
  ·simp [Array.getD,Nat.not_lt.2 h'] at hj
 ·intro o ho
  have key:∀ x,look (st.aF.filter fun p=>!L.elem p.1) o ≠ some x:=fun x h=>absurd ho (jw h).2
  show look (st.aF.filter fun p=>!L.elem p.1) o = none
  generalize look (st.aF.filter fun p=>!L.elem p.1) o = z at key
  cases z with
  | none=>rfl
  | some x=>exact absurd rfl (key x)
section
variable {LT:List Nat} {R:Nat -> Array Bool -> St -> Prop}
theorem gL.back{n:Nat}{ag:Array Bool}(h:R n ag st):gL P N LT ops R n ag st:=fun _ _ _ _ hR _ _ hh=>hR _ _ _ _ _ h hh
theorem gL.late{N0 : fo}{L : List Nat}{WG : St}{n : Nat}{ag : Array Bool}(h : ((List.range ag.size).all fun j => ag.getD j true || LT.elem j) = true)
  (k:fE P N0 ops n ag ⟨st.aE,WG.back L st.aF⟩ K):gL P N LT ops (JM P N0 LT L ops WG K) n ag st:=gL.back ⟨h,k⟩
theorem gL.step{n : Nat}{ag : Array Bool}(j : Nat){o : Oper}(ho : ops[j]? = some o)
  (k:aQ P N ops [o] st (fun e aY=>e = .normal /\ gL P N LT ops R n (ag.setIfInBounds j true) aY)) (G:Ctx) (hn:G.fn = N) (Q:Exit -> Act -> World -> Prop) (hQ:∀ c a w,Q (.panic c) a w -> False)
  (hR:∀ n' l' aY a' w',R n' l' aY -> cK G aY a' w' -> wpAnyL P .any ops Q (SG G) LT n' l' a' w') (a:Act) (w:World) (hh:cK G st a w) :
  wpOp P ops Q j (fun a' w'=>SG G w' /\ wpAnyL P .any ops Q (SG G) LT n (ag.setIfInBounds j true) a' w') a w:=by
 have hk:=k G hn a w hh
 have key : wpOp P ops (fun e a w => oB G (fun e aY => e = .normal ∧ gL P N LT ops R n (ag.setIfInBounds j true) aY) e a w) j
   (fun a w=>oB G (fun e aY=>e = .normal /\ gL P N LT ops R n (ag.setIfInBounds j true) aY) .normal a w) a w:=by
  unfold wpOp; simp only [ho]; exact hk
 refine qP ?_ ?_ key
 ·rintro e a w he ⟨aY,_,h,_⟩
  exact he h
 ·rintro a w ⟨aY,iR,_,Bq⟩
  exact ⟨iR.sg,Bq G hn Q hQ hR a w iR⟩
theorem gL.one{n : Nat}{ag : Array Bool}(i : Nat){o : Oper}(ho : ops[i]? = some o)(hr : (Region.ready .any ops ag == [i]) = true)
  (k:aQ P N ops [o] st (fun e aY=>e = .normal /\ gL P N LT ops R n (ag.setIfInBounds i true) aY)):gL P N LT ops R (n + 1) ag st:=by
 intro G hn Q hQ hR a w hh
 refine Al (rs:=[i]) (by simpa using hr) (by simp) ?_
 intro j hj
 have:j = i:=by simpa using hj
 subst this
 exact gL.step j ho k G hn Q hQ hR a w hh
theorem gL.blind{n : Nat}{ag : Array Bool}(i : Nat){op : Op}{x : X}(ho : ops[i]? = some ⟨some d, op, ty, pos, af, none⟩)
  (hB:(Region.noSelect ops && Region.free .any ops ag i && (Region.ready .any ops ag).contains i) = true) (gQ:ym ops LT i = true) (hy:ax P N st ⟨some d,op,ty,pos,af,none⟩ x) (hd:d < N.n)
  (k:gL P N LT ops R n (ag.setIfInBounds i true) (st.put d x)):gL P N LT ops R (n + 1) ag st:=by
 intro G hn Q hQ hR a w hh
 have hS:=hh.sg
 obtain ⟨E,RR,rfl,hi⟩:=hh
 obtain ⟨u,hr,hx⟩:=hy G E RR a hn hi
 simp only [Bool.and_eq_true] at hB
 refine mK (v:=u) ho hB.1.1 hB.1.2 hB.2 gQ ?_ (.inl ⟨by simp [Region.wanted],fun w _=>hr w⟩) hS (k G hn Q hQ hR _ _ ⟨E,_,rfl,hi.iT (hn ▸ hd) hx⟩)
 intro c a w h
 exact (hQ _ _ _ h).elim
end
theorem dx.Am(LT L F':List Nat){Q:Exit -> St -> Prop}{id:Nat}(hm:P.follows .mixedOrders = true)(h:dJ P N LT L F' ops ops.size (Array.replicate ops.size false) st (fun aY=>Q .normal aY)):dx P N (.region id ops true) st Q:=by
 intro G hn a w hh
 obtain ⟨E,RR,hw,hi⟩:=hh.drew
 refine wp_mono (wp_region_any hm (q8 (S:=SG (mW G E L (fun o=>RR (.obj o)) F')) (LT:=LT) _ _ _ _ (hw ▸ h G hn E RR a _ (fun _ _=>rfl) hi))) ?_
 rintro e a w ⟨rfl,aY,hk,iR⟩
 exact ⟨aY,iR,hk⟩
end
end Go.AW
namespace Go.AW
open Go
section
variable {P:Program} {N:fo} {st:St} {Q:Exit -> St -> Prop} {all:Array Oper} {rest:List Oper} {d:Nat} {ty:TypeId} {pos:String} {af:Array Edge}
theorem Sh.Pm(o q i : Nat){s n : Nat}{rows : List (List X)}{rs : List (List X)}(tf : List (List X))(ho : look st.aF o = some (.rows 1 rs))(hr : rs[i]? = some [.dH s rows])(he : rs.set i [.no] = tf)(hl : n = rows.length)(fH : Nat.beq q o = false)(hF : N.F.elem q = false) :
  Sh N st (((st.kill q).cV q (.rows s rows)).cV o (.hole tf i q s n)):=by
 intro G hn a w hh
 obtain ⟨E,RR,rfl,hi⟩:=hh
 subst he hl
 have aW:=hi.aF o _ ho
 have jB:=hi.nodup (.obj o)
 simp only [dK] at aW
 obtain ⟨hu,aW⟩:=aW
 rcases aW with ⟨_,h,_⟩ | ⟨B,cs,tb,R',hB,hw,hφ,lx,hlen,jS,iI⟩
 ·subst h; simp at hr
 have zE:i < rs.length:=by
  rcases Nat.lt_or_ge i rs.length with h' | h'
  ·exact h'
  ·simp [List.getElem?_eq_none h'] at hr
 obtain ⟨u,Ry,R1,yV,hs,CE,xv,KA,dR⟩:=cE.pick (k:=0) (y:=.dH s rows) hu jS hr rfl
 rw [iI] at jB
 obtain ⟨sy,nj⟩:=List.nodup_cons.1 jB
 have Nn:=KA nj
 obtain ⟨m1,m2,m3⟩:=List.nodup_append.1 Nn
 have xP:∀ b ∈ Ry ++ R1,b ∈ RR (.obj o):=fun b hb=>by rw [iI]; exact List.mem_cons.2 (.inr (dR b hb))
 have C9:(B.b :: R1).Nodup:=List.nodup_cons.2 ⟨fun h=>sy (dR _ (List.mem_append.2 (.inr h))),m2⟩
 have yn:∀ b ∈ B.b :: R1,b ∈ RR (.obj o):=fun b hb=>by
  rcases List.mem_cons.1 hb with h | h
  ·rw [iI,h]; simp
  ·exact xP b (List.mem_append.2 (.inr h))
 have mw:Inv G E (fI RR (.obj o) (B.b :: R1)) (st.cV o (.rows 1 (rs.set i [.no]))) a:=by
  refine hi.cV ?_ C9 fun b hb=>?_
  ·simp only [dK]
   refine ⟨hu.set rfl,.inr ⟨B,cs,tb,R1,hB,hw,hφ,by simpa using lx,hlen,xv,rfl⟩⟩
  ·exact ⟨(hi.own _ _ (yn b hb)).1,(hi.own _ _ (yn b hb)).2,fun p hp h=>hi.apart _ _ hp b h (yn b hb)⟩
 have Nd:q ≠ o:=Nat.ne_of_beq_eq_false fH
 have im:∀ (bk:Option Bg) R',E.On { E with β:=fun p=>if p = q then bk else E.β p } R':=fun _ R'=>⟨fun _ _ _ h=>h,fun _ _=>⟨rfl,fun h=>h⟩⟩
 have hβ:∀ (bk:Option Bg),dg G E { E with β:=fun p=>if p = q then bk else E.β p } (fun _=>False):=fun _ =>
  ⟨rfl,fun _ h=>h.elim,fun _ h=>h.elim,fun _ _ _=>rfl,Nat.le_refl _,rfl,rfl,rfl⟩
 have fin : ∀ (bk : Option Bg), dK { E with β := fun p => if p = q then bk else E.β p } q (.rows s rows) Ry → RX { E with β := fun p => if p = q then bk else E.β p } (.aL q s 0 rows.length) u [] →
   cK G (((st.kill q).cV q (.rows s rows)).cV o (.hole (rs.set i [.no]) i q s rows.length)) a E.w:=by
  intro bk To hx
  have h4 := mw.lF (hβ bk) (o := q) (ob := .rows s rows) (R := Ry) (fun _ h => h.elim) (fun p hp => by simp [hp]) (fun h => by rw [hn, hF] at h; cases h) To m1
   (fun c hc=>by
    have Ru:=xP c (List.mem_append.2 (.inl hc))
    refine ⟨(hi.own _ _ Ru).1,(hi.own _ _ Ru).2,fun p hp mx=>?_⟩
    unfold fI at mx
    split at mx
    ·rcases List.mem_cons.1 mx with h | h
     ·exact sy (h ▸ dR c (List.mem_append.2 (.inl hc)))
     ·exact m3 c hc c h rfl
    ·rename_i Rh
     exact hi.apart p (.obj o) Rh c mx Ru)
  have Tp:fq (st.cV o (.rows 1 (rs.set i [.no]))) (fI RR (.obj o) (B.b :: R1)) q Ry (.obj o) = B.b :: R1:=by simp [fq,Ne.symm Nd,fI]
  have h5 := h4.cV (o := o) (ob := .hole (rs.set i [.no]) i q s rows.length) (R := B.b :: R1)
   (by
    simp only [dK]
    exact ⟨hu.set rfl,B,cs,tb,R1,u,by simp [Ne.symm Nd,hB],hw,hφ,by simpa using lx,by simpa using hlen,cE.mono _ _ _ _ (im bk R1) xv,rfl,by simpa using zE,by simpa using yV,hs,hx⟩)
   C9 (fun b hb=>⟨(hi.own _ _ (yn b hb)).1,(hi.own _ _ (yn b hb)).2,fun p hp h=>h4.apart p (.obj o) hp b h (by rw [Tp]; exact hb)⟩)
  refine ⟨{ E with β:=fun p=>if p = q then bk else E.β p },_,rfl,{ h5 with aE:=fun p y hy=>h5.aE p y hy,aF:=fun p y hy=>h5.aF p y ?_ }⟩
  simp only [St.cV,St.kill,wG,List.map_cons,look] at hy ⊢
  cases hb:Nat.beq o p with
  | true=>rw [hb] at hy; simpa using hy
  | false=>rw [hb] at hy; simpa using hy
 simp only [RX] at CE
 obtain ⟨WH,base,cap,hc,cU⟩:=CE
 rcases cU with ⟨h1,h2,h3⟩ | ⟨b,off,dp,Rg,C7,hb,rq,x5,nJ,Tq,zD,Tr⟩
 ·refine fin none ?_ ?_
  ·simp only [dK]; exact ⟨WH,.inl ⟨by simp,h1,h3⟩⟩
  ·simp only [RX]; exact ⟨trivial,base,cap,hc,.inl ⟨by simp,trivial,by simp [h1],h2⟩⟩
 ·refine fin (some ⟨b,off,cap⟩) ?_ ?_
  ·simp only [dK]; exact ⟨WH,.inr ⟨⟨b,off,cap⟩,dp,Rg,C7,by simp,rq,Tq,x5,nJ,cE.mono _ _ _ _ (im _ _) zD,Tr⟩⟩
  ·simp only [RX]; exact ⟨trivial,base,cap,hc,.inr ⟨⟨b,off,cap⟩,by simp,by simp,x5,.inr (by simpa using hb)⟩⟩
theorem Inv.uH{G:Ctx}{E:Env}{RR:Own -> List Nat}{a:Act}(hi:Inv G E RR st a){o i q s n:Nat}{rs:List (List X)}(ho:look st.aF o = some (.hole rs i q s n)):Inv G E RR (st.cV o (.rows 1 rs)) a :=
 {hi with
  aF:=fun p ob hp=>by
   simp only [St.cV,look] at hp
   cases hb:Nat.beq o p with
   | true =>
    rw [hb] at hp
    simp only [cond_true,Option.some.injEq] at hp
    obtain rfl:=Nat.eq_of_beq_eq_true hb
    subst hp
    exact (hi.aF o _ ho).wH
   | false =>
    rw [hb] at hp
    exact hi.aF p ob hp }
theorem dJ.uH{LT L F' : List Nat}{ops : Array Oper}{m : Nat}{ag : Array Bool}{K : St → Prop}(o : Nat){i q s n : Nat}{rs : List (List X)}(ho : look st.aF o = some (.hole rs i q s n))
  (k:dJ P N LT L F' ops m ag (st.cV o (.rows 1 rs)) K):dJ P N LT L F' ops m ag st K:=fun G hn E RR a T hT hi=>k G hn E RR a T hT (hi.uH ho)
theorem cg.uH{L F' : List Nat}{ops : Array Oper}{m : Nat}{ag : Array Bool}{K : St → Prop}(o : Nat){i q s n : Nat}{rs : List (List X)}(ho : look st.aF o = some (.hole rs i q s n))
  (k:cg P N L F' ops m ag (st.cV o (.rows 1 rs)) K):cg P N L F' ops m ag st K:=fun G hn E RR a T hT hi=>k G hn E RR a T hT (hi.uH ho)
end
end Go.AW
namespace Go.AW
open Go
section
variable {P:Program} {N:fo} {st:St} {dst:Option Nat} {ty:TypeId} {pos:String} {af:Array Edge} {g:Option (Nat × Bool)}
theorem Lb(a b:Int):(if b > a then b else a) = Max.max a b:=by rw [Int.max_def]; split <;> split <;> omega
theorem Y.zf{t1 t2 t3 t4 : TypeId}{x y z v : Operand}{k : IntKind}{a b c d : Int}(hx : bV st x = some (.v (.int k a)))(hy : bV st y = some (.v (.int k b)))(hz : bV st z = some (.v (.int k c)))(hv : bV st v = some (.v (.int k d))) :
  Yields P N st ⟨dst,.call ⟨.builtin .max,#[x,y,z,v],#[t1,t2,t3,t4]⟩,ty,pos,af,g⟩ (.v (.int k (Max.max (Max.max (Max.max a b) c) d))):=by
 intro G E RR ac _ hi
 refine ⟨.int k (Max.max (Max.max (Max.max a b) c) d),iu ?_,by simp [RX]⟩
 have h1:=hi.val hx
 have h2:=hi.val hy
 have h3:=hi.val hz
 have h4:=hi.val hv
 simp only [<- Lb]
 simp [builtin,Builtin.max_,h1,h2,h3,h4,Builtin.max2]
end
end Go.AW
namespace Go.AW
open Go
section
variable {P:Program} {N:fo} {st:St} {dst:Option Nat} {ty:TypeId} {pos:String} {af:Array Edge} {g:Option (Nat × Bool)}
end
end Go.AW
namespace Go.AW
open Go
theorem RO.setAt{E : Env}{cs : Array Value}{x y : X}{u : Value}(hf : x.free = true) : ∀ {xs : List X} {off k : Nat} {R : List Nat}, RO E xs cs off R → xs[k]? = some x → cs[off + k]? = some u → RX E y u [] → RO E (xs.set k y) cs off R
 | [],_,_,_,_,h,_,_=>by simp at h
 | z :: r,off,0,R,h,hy,hu,zO=>by
  simp only [RO] at h
  obtain ⟨u',R₁,R₂,Cy,hs,h1,h2,rfl⟩:=h
  simp only [List.getElem?_cons_zero,Option.some.injEq] at hy
  subst hy
  have h0:=RX.free hf h1
  subst h0
  rw [Nat.add_zero,Cy] at hu
  obtain rfl:=Option.some.inj hu
  simp only [List.set,RO]
  exact ⟨u',[],R₂,Cy,hs,zO,h2,rfl⟩
 | z :: r,off,k + 1,R,h,hy,hu,zO=>by
  simp only [RO] at h
  obtain ⟨u',R₁,R₂,Cy,hs,h1,h2,rfl⟩:=h
  simp only [List.getElem?_cons_succ] at hy
  simp only [List.set,RO]
  exact ⟨u',R₁,R₂,Cy,hs,h1,RO.setAt hf h2 hy (by rw [show off + 1 + k = off + (k + 1) by omega]; exact hu) zO,rfl⟩
section
variable {N:fo} {G:Ctx} {E:Env} {RR:Own -> List Nat} {st:St} {a:Act}
theorem Inv.L1(hi : Inv G E RR st a){o s : Nat}{rs : List (List X)}(ho : look st.aF o = some (.rows s rs))(hf : cC rs)(hF : G.fn.F.elem o = false) :
  ∃ E' gG,E'.w = E.w /\ E'.β = E.β /\ Inv G E' gG ((st.kill o).cV o .gone) a /\ ∀ u n,n = rs.length -> RX E (.aL o s 0 n) u [] -> RX E' (.fz s rs) u []:=by
 have aW:=hi.aF o _ ho
 simp only [dK] at aW
 obtain ⟨hu,aW⟩:=aW
 have hβ:dg G E E (fun _=>False):=⟨rfl,fun _ h=>h.elim,fun _ h=>h.elim,fun _ _ _=>rfl,Nat.le_refl _,rfl,rfl,rfl⟩
 have mw:=hi.lF hβ (o:=o) (ob:=.gone) (R:=[]) (fun _ h=>h.elim) (fun q _=>rfl) (fun h=>rfl) (by simp only [dK]) List.nodup_nil (fun _ h=>by cases h)
 rcases aW with ⟨h1,h2,h3⟩ | ⟨B,cs,ty,R',hB,hw,hφ,lx,fY,jS,iI⟩
 ·refine ⟨E,_,rfl,rfl,mw,fun u n hn hx=>?_⟩
  simp only [RX] at hx ⊢
  obtain ⟨_,base,cap,hc,cU⟩:=hx
  rcases cU with ⟨_,_,_,h5⟩ | ⟨B,hB,_⟩
  ·subst hn
   exact ⟨trivial,hu,base,cap,hc,.inl ⟨h2,h5⟩⟩
  ·rw [h1] at hB; cases hB
 ·have Ed:=cE.free hf jS
  subst Ed
  have oM:B.b ∈ RR (.obj o):=by rw [iI]; simp
  have hle:∀ c i v,E.φ c i = some v -> (if c = B.b then cs[i]? else E.φ c i) = some v:=by
   intro c i v h
   by_cases lJ:c = B.b
   ·subst lJ; rw [hφ i] at h; cases h
   ·rw [if_neg lJ]; exact h
  have im:∀ R:List Nat,B.b ∉ R -> E.On { E with φ:=fun c i=>if c = B.b then cs[i]? else E.φ c i } R:=by
   intro R Kl
   refine ⟨hle,fun c rz=>⟨rfl,fun h i=>?_⟩⟩
   have:c ≠ B.b:=fun e=>Kl (e ▸ rz)
   show (if c = B.b then cs[i]? else E.φ c i) = none
   rw [if_neg this]; exact h i
  have K4:∀ p,B.b ∉ fq st RR o [] p:=by
   intro p hp
   cases p with
   | obj q =>
    by_cases hq:q = o
    ·subst hq; simp [fq] at hp
    ·exact hi.apart (.obj q) (.obj o) (by simpa using hq) _ (by simpa [fq,hq] using hp) oM
   | slot q =>
    rcases ji st RR o [] q with h | h
    ·rw [h] at hp; cases hp
    ·rw [h] at hp; exact hi.apart (.slot q) (.obj o) (by simp) _ hp oM
  refine ⟨{ E with φ := fun c i => if c = B.b then cs[i]? else E.φ c i }, _, rfl, rfl,
   {mw with
    nM:=by
     intro c i v h
     change (if c = B.b then cs[i]? else E.φ c i) = some v at h
     by_cases lJ:c = B.b
     ·subst lJ; rw [if_pos rfl] at h
      show E.w.cell? _ = _
      rw [dq hw]; exact h
     ·rw [if_neg lJ] at h; exact hi.nM c i v h
    aE:=fun q x hx=>RX.mono x _ _ (im _ (K4 _)) (fun _ _=>rfl) (mw.aE q x hx)
    aF:=fun o ob aW=>dK.mono (im _ (K4 _)) rfl (fun _ _=>rfl) (mw.aF o ob aW)
    φ0:=fun c i v h=>hle c i v (hi.φ0 c i v h)
    grow:=by
     intro c i v h
     change (if c = B.b then cs[i]? else E.φ c i) = some v at h
     by_cases lJ:c = B.b
     ·subst lJ; exact .inr (hi.own _ _ oM).2
     ·rw [if_neg lJ] at h; exact hi.grow c i v h },fun u n hn hx=>?_⟩
  simp only [RX] at hx ⊢
  obtain ⟨_,base,cap,hc,cU⟩:=hx
  subst hn
  rcases cU with ⟨h1,_⟩ | ⟨B',iU,x6,tD,hb⟩
  ·rw [hB] at h1; cases h1
  ·rw [hB] at iU
   obtain rfl:=Option.some.inj iU
   rcases hb with hb | hb
   ·exact ⟨trivial,hu,base,cap,hc,.inl ⟨List.eq_nil_of_length_eq_zero om,hb⟩⟩
   ·refine ⟨trivial,hu,base,cap,hc,.inr ⟨B.b,B.off,by simpa using hb,tD,?_⟩⟩
    refine cE.freeze (E:=E) (fun i v h=>?_) hle jS
    show (if B.b = B.b then cs[i]? else E.φ B.b i) = some v
    rw [if_pos rfl]; exact h
theorem Sh.rY(p o k : Nat){s n : Nat}{xs ys : List X}{rs : List (List X)}(hp : look st.aF p = some (.cells xs))(hk : xs[k]? = some (.aL o s 0 n))(ho : look st.aF o = some (.rows s rs))(hl : n = rs.length)(hf : cC rs)(hF : N.F.elem o = false)
  (Jq:look ((st.kill o).cV o .gone).aF p = some (.cells ys)) (Bq:ys[k]? = some .no) (sX:X.bu (ys.set k (.fz s rs)) = true) :
  Sh N st (((st.kill o).cV o .gone).cV p (.cells (ys.set k (.fz s rs)))):=by
 intro G hn a w hh
 obtain ⟨E,RR,rfl,hi⟩:=hh
 have KH:=hi.aF p _ hp
 simp only [dK] at KH
 obtain ⟨_,B,cs,ty,hB,hw,hφ,fY,xv,hR⟩:=KH
 obtain ⟨u,Ry,R1,yV,hs,CE,_,_,_⟩:=RO.pick xv hk
 have h0:=RX.free (x:=.aL o s 0 n) rfl CE
 subst h0
 obtain ⟨E',gG,rq,WM,iS,IE⟩:=hi.L1 ho hf (by rw [hn]; exact hF)
 have T2:=iS.aF p _ Jq
 have P8:=T2
 simp only [dK] at P8
 obtain ⟨_,B',dp,Rg,iU,La,Tq,NA,T3,Kq⟩:=P8
 rw [WM,hB] at iU
 obtain rfl:=Option.some.inj iU
 rw [rq,hw] at La
 simp only [Option.some.injEq,Go.Obj.cells.injEq] at La
 obtain ⟨rfl,rfl,_⟩:=La
 refine ⟨E',_,rq,iS.cV (R:=gG (.obj p)) ?_ (iS.nodup _) (fun b hb=>⟨(iS.own _ _ hb).1,(iS.own _ _ hb).2,fun q hq h=>iS.apart _ _ hq b h hb⟩)⟩
 simp only [dK]
 exact ⟨sX,B,cs,ty,by rw [WM]; exact hB,by rw [rq]; exact hw,Tq,by rw [List.length_set]; exact NA,RO.setAt (x:=.no) rfl T3 Bq yV (IE u n hl CE),Kq⟩
end
end Go.AW
namespace Go.AW
open Go
section
variable {P:Program} {N:fo} {st:St} {ops:Array Oper} {d:Nat} {ty:TypeId} {pos:String} {af:Array Edge} {K:St -> Prop} {L F':List Nat} {n:Nat} {ag:Array Bool}
theorem Inv.le{G:Ctx}{E:Env}{RR:Own -> List Nat}{a:Act}{aY:St}(hi:Inv G E RR st a)(h:Le st aY):Inv G E RR aY a :=
 {hi with aE:=fun s x hx=>hi.aE s x (h.1 s x hx),aF:=fun o x hx=>hi.aF o x (h.2 o x hx) }
theorem cg.le{aY:St}(hl:Le st aY)(h:cg P N L F' ops n ag aY K):cg P N L F' ops n ag st K:=fun G hn E RR a T hT hi=>h G hn E RR a T hT (hi.le hl)
theorem cg.split{b:Bool}(hx:look st.aE d = some (.v (.bool b)))(ht:b = true -> cg P N L F' ops n ag (st.put d (.v (.bool true))) K)(hf:b = false -> cg P N L F' ops n ag (st.put d (.v (.bool false))) K):cg P N L F' ops n ag st K:=by
 have:Le st (st.put d (.v (.bool b))):=⟨ir.cons hx (fun _ _ h=>h),fun _ _ h=>h⟩
 cases b
 ·exact (hf rfl).le this
 ·exact (ht rfl).le this
theorem cg.aC{p:Prop}{inst:Decidable p}(hx:look st.aE d = some (.v (.bool (decide p))))(ht:p -> cg P N L F' ops n ag (st.put d (.v (.bool true))) K)(hf:¬ p -> cg P N L F' ops n ag (st.put d (.v (.bool false))) K):cg P N L F' ops n ag st K :=
 cg.split hx (fun h=>ht (of_decide_eq_true h)) (fun h=>hf (of_decide_eq_false h))
theorem Inv.wanted{G : Ctx}{E : Env}{RR : Own → List Nat}{a : Act}{j dj : Nat}{want : Bool}{dst : Option Nat}{op : Op}(hi : Inv G E RR st a)(hj : (ops[j]?).bind (·.dst) = some dj)(vA : dj < G.fn.n)(hx : look st.aE dj = some (.v (.bool want))) :
  Region.wanted ⟨dst,op,ty,pos,af,some (j,want)⟩ (yielded ops a.tmps) = true:=by
 have hs:=hi.aE dj _ hx
 simp only [RX] at hs
 have fY:dj < a.tmps.size:=by rw [hi.tmps]; exact vA
 have hv:a.tmps[dj]? = some (.bool want):=by
  have:=hs.1
  simp only [Array.getD,fY,dif_pos] at this
  rw [Array.getElem?_eq_getElem fY]
  exact congrArg some this
 simp [Region.wanted,yielded,hj,hv]
theorem cg.cQ(i : Nat){op : Op}{j dj : Nat}{want : Bool}{u : Value}(ho : ops[i]? = some ⟨some d, op, ty, pos, af, some (j, want)⟩)
  (hB:(Region.noSelect ops && Region.free .any ops ag i && (Region.ready .any ops ag).contains i) = true)
  (hj:(ops[j]?).bind (·.dst) = some dj) (vA:dj < N.n) (hd:d < N.n) (hx:look st.aE dj = some (.v u)) (fH:uv want u = true)
  (k:cg P N L F' ops n (ag.setIfInBounds i true) (st.put d (.v undef)) K):cg P N L F' ops (n + 1) ag st K:=by
 intro G hn E RR a T hT hi
 simp only [Bool.and_eq_true] at hB
 have hw:=nq (all:=ops) (dst:=some d) (op:=op) (ty:=ty) (pos:=pos) (af:=af) hi hj (hn ▸ vA) hx fH
 refine wpAnyH_take (v:=undef) ho hB.1.1 hB.1.2 hB.2 ?_ (.inr ⟨hw,rfl⟩) (hi.JL L T F') (k G hn E _ _ T ?_ (hi.iT (hn ▸ hd) (by simp [RX])))
 ·intro c a w h
  cases h.1
 ·intro o ho
  have:=hT o ho
  simpa [fI] using this
theorem cg.lN(i : Nat){op : Op}{x : X}{j dj : Nat}{want : Bool}(ho : ops[i]? = some ⟨some d, op, ty, pos, af, some (j, want)⟩)
  (hB:(Region.noSelect ops && Region.free .any ops ag i && (Region.ready .any ops ag).contains i) = true)
  (hj:(ops[j]?).bind (·.dst) = some dj) (vA:dj < N.n) (hx:look st.aE dj = some (.v (.bool want))) (hy:ax P N st ⟨some d,op,ty,pos,af,some (j,want)⟩ x) (hd:d < N.n)
  (k:cg P N L F' ops n (ag.setIfInBounds i true) (st.put d x) K):cg P N L F' ops (n + 1) ag st K:=by
 intro G hn E RR a T hT hi
 obtain ⟨u,hr,j8⟩:=hy G E RR a hn hi
 simp only [Bool.and_eq_true] at hB
 refine wpAnyH_take (v:=u) ho hB.1.1 hB.1.2 hB.2 ?_ (.inl ⟨hi.wanted hj (hn ▸ vA) hx,fun w _=>hr w⟩) (hi.JL L T F') (k G hn E _ _ T ?_ (hi.iT (hn ▸ hd) j8))
 ·intro c a w h
  cases h.1
 ·intro o ho
  have:=hT o ho
  simpa [fI] using this
theorem ax.pick{c x y:Operand}{b:Bool}{z:X}{dst:Option Nat}{g:Option (Nat × Bool)}(hc:bV st c = some (.v (.bool b)))(hz:bV st (if b then x else y) = some z)(hf:z.free = true):ax P N st ⟨dst,.pick c x y,ty,pos,af,g⟩ z:=by
 intro G E RR a _ hi
 obtain ⟨R,h⟩:=hi.eval hz
 have:=RX.free hf h
 subst this
 refine ⟨a.eval (if b then x else y),fun w=>?_,h⟩
 have rz:=hi.val hc
 simp only [execOp,rz]
 cases b <;> rfl
theorem da.le{aY:St}(hl:Le st aY)(h:da P N ops n ag aY K):da P N ops n ag st K:=fun G hn a w hh=>h G hn a w (hl.holds hh)
theorem da.split{b:Bool}(hx:look st.aE d = some (.v (.bool b)))(ht:b = true -> da P N ops n ag (st.put d (.v (.bool true))) K)(hf:b = false -> da P N ops n ag (st.put d (.v (.bool false))) K):da P N ops n ag st K:=by
 have:Le st (st.put d (.v (.bool b))):=⟨ir.cons hx (fun _ _ h=>h),fun _ _ h=>h⟩
 cases b
 ·exact (hf rfl).le this
 ·exact (ht rfl).le this
theorem da.aC{p:Prop}{inst:Decidable p}(hx:look st.aE d = some (.v (.bool (decide p))))(ht:p -> da P N ops n ag (st.put d (.v (.bool true))) K)(hf:¬ p -> da P N ops n ag (st.put d (.v (.bool false))) K):da P N ops n ag st K :=
 da.split hx (fun h=>ht (of_decide_eq_true h)) (fun h=>hf (of_decide_eq_false h))
theorem da.cQ(i : Nat){op : Op}{j dj : Nat}{want : Bool}{u : Value}(ho : ops[i]? = some ⟨some d, op, ty, pos, af, some (j, want)⟩)
  (hB:(Region.noSelect ops && Region.free .any ops ag i && (Region.ready .any ops ag).contains i) = true)
  (hj:(ops[j]?).bind (·.dst) = some dj) (vA:dj < N.n) (hd:d < N.n) (hx:look st.aE dj = some (.v u)) (fH:uv want u = true)
  (k:da P N ops n (ag.setIfInBounds i true) (st.put d (.v undef)) K):da P N ops (n + 1) ag st K:=by
 intro G hn a w hh
 have hS:=hh.sg
 obtain ⟨E,RR,rfl,hi⟩:=hh
 simp only [Bool.and_eq_true] at hB
 have hw:=nq (all:=ops) (dst:=some d) (op:=op) (ty:=ty) (pos:=pos) (af:=af) hi hj (hn ▸ vA) hx fH
 refine wpAnyH_take (v:=undef) ho hB.1.1 hB.1.2 hB.2 ?_ (.inr ⟨hw,rfl⟩) hS (k G hn _ _ ⟨E,_,rfl,hi.iT (hn ▸ hd) (by simp [RX])⟩)
 intro c a w h
 cases h.1
theorem da.lN(i : Nat){op : Op}{x : X}{j dj : Nat}{want : Bool}(ho : ops[i]? = some ⟨some d, op, ty, pos, af, some (j, want)⟩)
  (hB:(Region.noSelect ops && Region.free .any ops ag i && (Region.ready .any ops ag).contains i) = true)
  (hj:(ops[j]?).bind (·.dst) = some dj) (vA:dj < N.n) (hx:look st.aE dj = some (.v (.bool want))) (hy:ax P N st ⟨some d,op,ty,pos,af,some (j,want)⟩ x) (hd:d < N.n)
  (k:da P N ops n (ag.setIfInBounds i true) (st.put d x) K):da P N ops (n + 1) ag st K:=by
 intro G hn a w hh
 have hS:=hh.sg
 obtain ⟨E,RR,rfl,hi⟩:=hh
 obtain ⟨u,hr,j8⟩:=hy G E RR a hn hi
 simp only [Bool.and_eq_true] at hB
 refine wpAnyH_take (v:=u) ho hB.1.1 hB.1.2 hB.2 ?_ (.inl ⟨hi.wanted hj (hn ▸ vA) hx,fun w _=>hr w⟩) hS (k G hn _ _ ⟨E,_,rfl,hi.iT (hn ▸ hd) j8⟩)
 intro c a w h
 cases h.1
end
end Go.AW
namespace Go.AW
open Go
def FR(ro:Option Nat):Fence:={ Fence.wide with round:=ro }
def lr(o:Oper):Bool:=match o.op with | .defer _=>false | _=>true
theorem AM{o:Oper}(h:lr o = true):∀ c,o.op ≠ .defer c:=fun c e=>by simp [lr,e] at h
section
variable {P:Program} {Q:Exit -> Act -> World -> Prop} {a:Act} {w:World} {ro:Option Nat} {o:Oper} {next:Act -> World -> Prop}
theorem Gn{f:FuncId}{args:Array Value}{R:Ending -> World -> Prop}{n:Nat}(h:Calls P f args w R):CallsIn (FR ro) n P f args w R:=(callsIn_wide (n:=n)).2 h
theorem IU{row:String}{args:Array Value}{R:Value -> World -> Prop}{n:Nat}(h:Rows P row args w R):RowsIn (FR ro) n P row args w R :=
 fun c cs _=>let ⟨v,w',r,s⟩:=h c cs; ⟨v,w',r,stepsIn_wide.2 s⟩
theorem IV{r:Result Next}(h:o.upon P a next Q r):o.uponIn (FR ro) 0 P a next Q r:=by
 cases r with
 | ok x w' =>
  cases x
  case value v=>exact h
  case skip=>exact h
  case defer d=>exact h
  case enter f args=>exact ⟨fun h=>by simp [FR,Fence.wide] at h,Gn h⟩
  case row row args=>exact ⟨fun h=>by simp [FR,Fence.wide] at h,IU h⟩
  all_goals exact (show False from h).elim
 | halt x w' =>
  cases x
  case panic v=>exact h
  all_goals exact (show False from h).elim
theorem Gp(hd:lr o = true)(h:o.wp P a w next Q):o.wpIn (FR ro) 0 P a w next Q:=by
 refine ⟨fun _ _=>trivial,?_⟩
 rw [Oper.semAt_eq _ _ _ (AM hd)]
 exact IV h
theorem sS{ops : Array Oper}(hQ : ¬ LetsOut Q) : ∀ {l : List Oper} {a : Act} {w : World}, l.all lr = true → wpList P ops Q l a w → wpListIn (FR ro) 0 P ops Q l a w
 | [],_,_,_,h=>h
 | o :: rest,a,w,hd,h=>by
  simp only [List.all_cons,Bool.and_eq_true] at hd
  unfold wpList at h
  unfold wpListIn
  split at h
  ·rename_i hw
   rw [if_pos hw]
   rcases h with h | h
   ·exact Oper.wpIn_mono (fun _ _ h=>sS hQ hd.2 h) (Gp hd.1 h)
   ·exact absurd h.2 hQ
  ·rename_i hw
   rw [if_neg hw]
   exact ⟨fun _ _=>trivial,sS hQ hd.2 h⟩
theorem sc{ops : Array Oper}(hQ : ¬ LetsOut Q)(hd : ops.toList.all lr = true) : ∀ {l : List Nat} {a : Act} {w : World}, wpOps P ops Q l a w → wpOpsIn (FR ro) 0 P ops Q l a w
 | [],_,_,h=>h
 | i :: rest,a,w,h=>by
  unfold wpOps at h
  unfold wpOpsIn
  cases ho:ops[i]? with
  | none=>rw [ho] at h; exact sc hQ hd h
  | some o =>
   rw [ho] at h
   simp only at h ⊢
   have PO:lr o = true:=List.all_eq_true.1 hd o (Array.mem_toList_iff.2 (Array.mem_of_getElem? ho))
   split at h
   ·rename_i hw
    rw [if_pos hw]
    rcases h with h | h
    ·exact Oper.wpIn_mono (fun _ _ h=>sc hQ hd h) (Gp PO h)
    ·exact absurd h.2 hQ
   ·rename_i hw
    rw [if_neg hw]
    exact ⟨fun _ _=>trivial,sc hQ hd h⟩
theorem Dj{id:Nat}{l:List Oper}(hQ:¬ LetsOut Q)(hd:l.all lr = true)(h:wpList P l.toArray Q l a w):(Code.region id l.toArray false).wpIn (FR ro) 0 P Q a w :=
 wpIn_region_lit (sS hQ hd h)
theorem mc{id : Nat}{ops : Array Oper}(hm : P.follows .mixedOrders = true)(hQ : ¬ LetsOut Q)(hd : ops.toList.all lr = true)(h : wpAny P .any ops Q ops.size (Array.replicate ops.size false) a { w with drawn := w.drawn + 1 }) :
  (Code.region id ops true).wpIn (FR ro) 0 P Q a w :=
 wpIn_region_draw fun t=>by
  simp only [Region.schedule,hm,Bool.true_or,if_true]
  exact sc hQ hd (wpAny_sound ops.size t _ a _ h)
end
def Dk(K : St → Prop) : Exit → St → Prop
 | .normal,st=>K st
 | _,_=>False
def Ctx.to(G:Ctx)(w:World):Ctx:={ G with w0:=w }
theorem cK.Gq{G : Ctx}{st : St}{a : Act}{w w' : World}{S : Nat → Prop}(h : cK G st a w)(hS : ∀ b, S b → G.K b ∧ ∀ i, G.φ0 b i = none)(fY : w.heap.size ≤ w'.heap.size)
  (hw:∀ b,b < w.heap.size -> ¬ S b -> w'.heap[b]? = w.heap[b]?):cK (G.to w') st a w':=by
 obtain ⟨E,RR,rfl,hi⟩:=h
 have YZ:∀ b i,S b -> E.φ b i = none:=fun b i hb=>by
  cases he:E.φ b i with
  | none=>rfl
  | some v =>
   rcases hi.grow b i v he with h1 | h1
   ·rw [(hS b hb).2 i] at h1; cases h1
   ·exact absurd (hS b hb).1 h1
 have jA:∀ b i v,E.φ b i = some v -> w'.cell? ⟨b,i,none⟩ = some v:=fun b i v hv=>by
  have h1:=hi.nM b i v hv
  have hb:b < E.w.heap.size:=by
   rcases Nat.lt_or_ge b E.w.heap.size with h2 | h2
   ·exact h2
   ·unfold World.cell? at h1
    rw [Array.getElem?_eq_none h2] at h1; cases h1
  unfold World.cell? at h1 ⊢
  rw [hw b hb (fun h2=>by rw [YZ b i h2] at hv; cases hv)]; exact h1
 have np:∀ p b,b ∈ RR p -> w'.heap[b]? = E.w.heap[b]?:=fun p b hb=>hw b (hi.own p b hb).1 (fun h2=>(hi.own p b hb).2 (hS b h2).1)
 have im:∀ p,E.On { E with w:=w' } (RR p):=fun p=>⟨fun _ _ _ h=>h,fun c hc=>⟨np p c hc,fun h i=>h i⟩⟩
 refine ⟨{ E with w:=w' },RR,rfl,?_⟩
 constructor
 case nM=>exact jA
 case aE=>exact fun s x hx=>RX.mono x _ _ (im _) (fun _ _=>rfl) (hi.aE s x hx)
 case aF=>exact fun o ob aW=>dK.mono (im _) rfl (fun _ _=>rfl) (hi.aF o ob aW)
 case nodup=>exact hi.nodup
 case apart=>exact hi.apart
 case own=>exact fun p b hb=>⟨Nat.lt_of_lt_of_le (hi.own p b hb).1 fY,(hi.own p b hb).2⟩
 case aj=>exact fun _ _=>rfl
 case size=>exact Nat.le_refl _
 case small=>exact fun b hb=>Nat.lt_of_lt_of_le (Nat.lt_of_lt_of_le (hi.small b hb) hi.size) fY
 case os=>rfl
 case tape=>rfl
 case output=>rfl
 case φ0=>exact hi.φ0
 case grow=>exact hi.grow
 case fixed=>exact hi.fixed
 case tmps=>exact hi.tmps
 case defers=>exact hi.defers
end Go.AW
namespace Go.AW
open Go
abbrev IW:=List (Int × Int)
abbrev qV:=IW × St
structure Kp(S:Nat -> Prop)(W W':World):Prop where
 size:W.heap.size <= W'.heap.size
 same:∀ b,b < W.heap.size -> ¬ S b -> W'.heap[b]? = W.heap[b]?
 os:W'.os = W.os
 tape:W'.tape = W.tape
 output:W'.output = W.output
theorem Kp.refl(S:Nat -> Prop)(W:World):Kp S W W:=⟨Nat.le_refl _,fun _ _ _=>rfl,rfl,rfl,rfl⟩
theorem Kp.trans{S:Nat -> Prop}{A B C:World}(h:Kp S A B)(k:Kp S B C):Kp S A C :=
 ⟨Nat.le_trans h.size k.size,fun b hb hs=>(k.same b (Nat.lt_of_lt_of_le hb h.size) hs).trans (h.same b hb hs),k.os.trans h.os,k.tape.trans h.tape,k.output.trans h.output⟩
structure vk(P:Program) where
 l:Nat
 n1:Nat
 S:Nat -> Prop
 J:IW -> World -> Prop
 Good:Int × Int -> Prop
 LS:∀ i W W',J i W -> W.heap.size <= W'.heap.size -> (∀ b,b < n1 -> W'.heap[b]? = W.heap[b]?) -> J i W'
 yield:∀ i x W,J i W -> Good x -> n1 <= W.heap.size -> YieldAt (FR none) 0 P l #[.int .i64 x.1,.int .i64 x.2] W (fun e W'=>e = .returned (.bool true) /\ J (i ++ [x]) W' /\ Kp S W W')
 lt:∀ b,S b -> b < n1
abbrev vk.v{P:Program}(Y:vk P):X:=.v (.func (.yield Y.l) #[] #[])
def Cm(P:Program)(f:FuncId)(args:List X)(g:IW):Prop :=
 ∀ (Y : vk P) (i : IW) (E : Env) (dy : List Value), Y.J i E.w → Y.n1 ≤ E.w.heap.size → (∀ x ∈ g, Y.Good x) → eV E args dy [] → (∀ b k v, E.φ b k = some v → E.w.cell? ⟨b, k, none⟩ = some v) → (∀ b k, Y.S b → E.φ b k = none) →
  Calls P f (#[.func (.yield Y.l) #[] #[]] ++ dy.toArray) E.w (fun e W'=>∃ v,e = .returned v /\ Y.J (i ++ g) W' /\ Kp Y.S E.w W')
structure MO{P:Program}(Y:vk P)(G:Ctx):Prop where
 Sm:∀ b,b < G.w0.heap.size -> G.K b
 n1:Y.n1 <= G.w0.heap.size
 φ:∀ b i,Y.S b -> G.φ0 b i = none
structure HI{P:Program}(Y:vk P)(G:Ctx)(s:qV)(a:Act)(w:World):Prop where
 j:Y.J s.1 w
 h:cK (G.to w) s.2 a w
 kp:Kp Y.S G.w0 w
def bM(P:Program)(Y:vk P)(N:fo)(c:Code)(s:qV)(Q:Exit -> qV -> Prop):Prop :=
 ∀ G:Ctx,G.fn = N -> MO Y G -> ∀ a w,HI Y G s a w -> c.wp P (fun e a w=>∃ s',HI Y G s' a w /\ Q e s') a w
def gh(P:Program)(Y:vk P)(N:fo)(all:Array Oper)(rest:List Oper)(s:qV)(Q:Exit -> qV -> Prop):Prop :=
 ∀ G:Ctx,G.fn = N -> MO Y G -> ∀ a w,HI Y G s a w -> wpListIn (FR none) 0 P all (fun e a w=>∃ s',HI Y G s' a w /\ Q e s') rest a w
def o9(K : qV → Prop)(Q : Exit → qV → Prop) : Exit → qV → Prop
 | .normal,st=>K st
 | e,st=>Q e st
def yF(id : Nat)(Q : Exit → qV → Prop) : Exit → qV → Prop
 | .exit id',st=>bif Nat.beq id' id then Q .normal st else Q (.exit id') st
 | e,st=>Q e st
def xk(s s':qV):Prop:=s.1 = s'.1 /\ Le s.2 s'.2
section
variable {P:Program} {Y:vk P} {N:fo} {s:qV} {Q Q':Exit -> qV -> Prop} {i:IW} {st aY:St} {id:Nat} {x y c:Code}
theorem HI.le{G:Ctx}{s s':qV}{a:Act}{w:World}(hl:xk s s')(h:HI Y G s a w):HI Y G s' a w:=⟨hl.1 ▸ h.j,hl.2.holds h.h,h.kp⟩
theorem HI.step{G:Ctx}(hG:MO Y G){a a':Act}{w w':World}(h:HI Y G (i,st) a w)(h':cK (G.to w) aY a' w'):HI Y G (i,aY) a' w':=by
 have hr:cK (G.to w') aY a' w':=cK.Gq (G:=G.to w) (S:=fun _=>False) h' (fun _ h=>h.elim) (Nat.le_refl _) (fun _ _ _=>rfl)
 obtain ⟨E,RR,rfl,hi⟩:=h'
 have fY:w.heap.size <= E.w.heap.size:=hi.size
 have hold:∀ b,b < G.w0.heap.size -> E.w.heap[b]? = w.heap[b]?:=fun b hb=>hi.aj b (hG.Sm b hb)
 exact ⟨Y.LS i w E.w h.j fY (fun b hb=>hold b (Nat.lt_of_lt_of_le hb hG.n1)),hr,Nat.le_trans h.kp.size fY,fun b hb hs=>(hold b hb).trans (h.kp.same b hb hs),hi.os.trans h.kp.os,hi.tape.trans h.kp.tape,hi.output.trans h.kp.output⟩
theorem HI.Uu{G:Ctx}(hG:MO Y G){a:Act}{w w':World}{i':IW}(h:HI Y G (i,st) a w)(hj:Y.J i' w')(hk:Kp Y.S w w'):HI Y G (i',st) a w' :=
 ⟨hj, cK.Gq (G := G.to w) (S := Y.S) h.h (fun b hb => ⟨hG.Sm b (Nat.lt_of_lt_of_le (Y.lt b hb) hG.n1), fun k => hG.φ b k hb⟩) hk.size hk.same,
  Nat.le_trans h.kp.size hk.size,fun b hb hs=>(hk.same b (Nat.lt_of_lt_of_le hb h.kp.size) hs).trans (h.kp.same b hb hs),hk.os.trans h.kp.os,hk.tape.trans h.kp.tape,hk.output.trans h.kp.output⟩
theorem HI.n1{G:Ctx}(hG:MO Y G){a:Act}{w:World}(h:HI Y G s a w):Y.n1 <= w.heap.size:=Nat.le_trans hG.n1 h.kp.size
theorem bM.of(h:dx P N c st (fun e aY=>Q e (i,aY))):bM P Y N c (i,st) Q:=by
 intro G hn hG a w hh
 refine wp_mono (h (G.to w) hn a w hh.h) ?_
 rintro e a' w' ⟨aY,h',hq⟩
 exact ⟨_,hh.step hG h',hq⟩
theorem bM.le{s':qV}(hl:xk s s')(h:bM P Y N c s' Q):bM P Y N c s Q:=fun G hn hG a w hh=>h G hn hG a w (hh.le hl)
theorem bM.sh(h:Sh N st aY)(k:bM P Y N c (i,aY) Q):bM P Y N c (i,st) Q:=fun G hn hG a w hh=>k G hn hG a w ⟨hh.j,h (G.to w) hn a w hh.h,hh.kp⟩
theorem bM.mono(h:bM P Y N c s Q)(hq:∀ e s,Q e s -> Q' e s):bM P Y N c s Q':=fun G hn hG a w hh=>wp_mono (h G hn hG a w hh) fun _ _ _ ⟨s',h',C6⟩=>⟨s',h',hq _ _ C6⟩
theorem bM.skip(h:Q .normal s):bM P Y N .skip s Q:=fun _ _ _ _ _ hh=>wp_skip ⟨s,hh,h⟩
theorem bM.exit(h:Q (.exit id) s):bM P Y N (.exit id) s Q:=fun _ _ _ _ _ hh=>wp_exit ⟨s,hh,h⟩
theorem bM.ret(h:Q .ret s):bM P Y N .ret s Q:=fun _ _ _ _ _ hh=>wp_ret ⟨s,hh,h⟩
theorem bM.seq(h:bM P Y N x s (o9 (fun s'=>bM P Y N y s' Q) Q)):bM P Y N (.seq x y) s Q:=by
 intro G hn hG a w hh
 refine wp_seq (wp_mono (h G hn hG a w hh) ?_)
 rintro e a' w' ⟨s',iR,hq⟩
 cases e <;> first | exact hq G hn hG a' w' iR | exact ⟨s',iR,hq⟩
theorem bM.block(h:bM P Y N c s (yF id Q)):bM P Y N (.block id c) s Q:=by
 intro G hn hG a w hh
 refine wp_block (wp_mono (h G hn hG a w hh) ?_)
 rintro e a' w' ⟨s',iR,hq⟩
 cases e with
 | exit id' =>
  simp only [yF] at hq
  simp only [Exit.inBlock]
  cases hb:Nat.beq id' id with
  | true =>
   rw [hb] at hq
   rw [if_pos (Nat.eq_of_beq_eq_true hb)]
   exact ⟨s',iR,hq⟩
  | false =>
   rw [hb] at hq
   rw [if_neg (Nat.ne_of_beq_eq_false hb)]
   exact ⟨s',iR,hq⟩
 | _=>exact ⟨s',iR,hq⟩
theorem bM.cond{o:Operand}{b:Bool}(hc:bV s.2 o = some (.v (.bool b)))(ht:b = true -> bM P Y N x s Q)(hf:b = false -> bM P Y N y s Q):bM P Y N (.cond o x y) s Q:=by
 intro G hn hG a w hh
 obtain ⟨E,RR,rfl,hi⟩:=hh.h
 exact wp_cond_split (hi.val hc) (fun h=>ht h G hn hG a E.w hh) (fun h=>hf h G hn hG a E.w hh)
theorem bM.aA{o:Operand}{p:Prop}{inst:Decidable p}(hc:bV s.2 o = some (.v (.bool (decide p))))(ht:p -> bM P Y N x s Q)(hf:¬ p -> bM P Y N y s Q):bM P Y N (.cond o x y) s Q :=
 bM.cond hc (fun h=>ht (of_decide_eq_true h)) (fun h=>hf (of_decide_eq_false h))
theorem bM.aO{o:Operand}(hc:bV s.2 o = some (.v (.bool true)))(h:bM P Y N x s Q):bM P Y N (.cond o x y) s Q:=bM.cond hc (fun _=>h) (fun h=>by cases h)
theorem bM.cZ{o:Operand}(hc:bV s.2 o = some (.v (.bool false)))(h:bM P Y N y s Q):bM P Y N (.cond o x y) s Q:=bM.cond hc (fun h=>by cases h) (fun _=>h)
theorem bM.Ei{d:Nat}{b:Bool}(hc:look st.aE d = some (.v (.bool b)))(ht:b = true -> bM P Y N x (i,st.put d (.v (.bool true))) Q)(hf:b = false -> bM P Y N y (i,st.put d (.v (.bool false))) Q):bM P Y N (.cond (.tmp d) x y) (i,st) Q:=by
 refine bM.cond (s:=(i,st)) (b:=b) hc (fun h=>?_) (fun h=>?_)
 ·subst h; exact bM.le (s:=(i,st)) (s':=(i,st.put d (.v (.bool true)))) ⟨rfl,Le.test hc⟩ (ht rfl)
 ·subst h; exact bM.le (s:=(i,st)) (s':=(i,st.put d (.v (.bool false)))) ⟨rfl,Le.test hc⟩ (hf rfl)
theorem bM.bm{d:Nat}{p:Prop}{inst:Decidable p}(hc:look st.aE d = some (.v (.bool (decide p))))(ht:p -> bM P Y N x (i,st.put d (.v (.bool true))) Q)(hf:¬ p -> bM P Y N y (i,st.put d (.v (.bool false))) Q):bM P Y N (.cond (.tmp d) x y) (i,st) Q :=
 bM.Ei hc (fun h=>ht (of_decide_eq_true h)) (fun h=>hf (of_decide_eq_false h))
theorem bM.loop{ι:Type}(S:ι -> qV)(I:ι -> Prop)(μ:ι -> Nat)(i0:ι)(hi:I i0)(hs:xk s (S i0))(round:∀ i,I i -> bM P Y N c (S i) (o9 (fun s'=>∃ j,I j /\ μ j < μ i /\ xk s' (S j)) Q)):bM P Y N (.loop c) s Q:=by
 intro G hn hG a w hh
 refine uf (fun i a w=>I i /\ HI Y G (S i) a w) μ ?_ ⟨hi,hh.le hs⟩
 rintro i a w ⟨hI,hh⟩
 refine wp_mono (round i hI G hn hG a w hh) ?_
 rintro e a' w' ⟨s',iR,hq⟩
 cases e with
 | normal=>obtain ⟨j,hj,gQ,hle⟩:=hq; exact ⟨j,⟨hj,iR.le hle⟩,gQ⟩
 | _=>exact ⟨s',iR,hq⟩
theorem bM.join{ι:Type}(J:ι -> qV)(I:ι -> Prop)(hx:bM P Y N x s (o9 (fun aY=>∃ i,I i /\ xk aY (J i)) Q))(hy:∀ i,I i -> bM P Y N y (J i) Q):bM P Y N (.seq x y) s Q:=by
 refine bM.seq (hx.mono ?_)
 intro e Ej h
 cases e with
 | normal=>obtain ⟨i,hI,hle⟩:=h; exact (hy i hI).le hle
 | _=>exact h
theorem bM.region{l:List Oper}(h:aQ P N l.toArray l st (j5 (fun aY=>Q .normal (i,aY)) (fun e aY=>Q e (i,aY)))):bM P Y N (.region id l.toArray false) (i,st) Q :=
 bM.of ((dx.region h).mono fun e st h=>by cases e <;> exact h)
theorem bM.sr{l:List Oper}(h:aQ P N l.toArray l st (j5 (fun aY=>bM P Y N y (i,aY) Q) (fun e aY=>Q e (i,aY)))):bM P Y N (.seq (.region id l.toArray false) y) (i,st) Q :=
 bM.seq (bM.of ((dx.region h).mono fun e st h=>by cases e <;> exact h))
end
end Go.AW
namespace Go.AW
open Go
theorem Gs{P:Program}{o:Oper}{Q1 Q2:Exit -> Act -> World -> Prop}{K1 K2:Act -> World -> Prop}{a:Act}{w:World}(hQ:∀ e a w,e ≠ .normal -> Q1 e a w -> False)(hK:∀ a w,K1 a w -> K2 a w)(h:o.wp P a w K1 Q1):o.wp P a w K2 Q2:=by
 unfold Oper.wp at *
 generalize (execOp a.eval o).run P w = r at *
 cases r with
 | ok nx w' =>
  cases nx <;> simp only [Oper.upon] at h ⊢ <;> first
   | exact hK _ _ h
   | exact Calls.mono h (fun e Wu he=>by
     cases e with
     | returned u=>exact hK _ _ he
     | panicked c=>exact (hQ _ _ _ (by simp) he).elim
     | outgrown=>exact (let ⟨_,_,h'⟩:=he; hQ _ _ _ (by simp) h').elim)
   | exact Rows.mono h (fun _ _ he=>hK _ _ he)
 | halt x w'=>cases x <;> simp only [Oper.upon] at h ⊢ <;> first | exact (hQ _ _ _ (by simp) h).elim | exact (let ⟨_,_,h'⟩:=h; hQ _ _ _ (by simp) h').elim | exact h
theorem X.w9 : ∀ {xs : List X} {k : Nat} {x : X}, X.bu xs = true → xs[k]? = some x → x.free = true
 | [],_,_,_,h=>by simp at h
 | y :: r,0,x,hf,h=>by
  simp only [X.bu,Bool.and_eq_true] at hf
  simp only [List.getElem?_cons_zero,Option.some.injEq] at h
  subst h; exact hf.1
 | y :: r,k + 1,x,hf,h=>by
  simp only [X.bu,Bool.and_eq_true] at hf
  simp only [List.getElem?_cons_succ] at h
  exact X.w9 hf.2 h
section
variable {P:Program} {Y:vk P} {N:fo} {s:qV} {Q:Exit -> qV -> Prop} {i:IW} {st:St} {all:Array Oper} {rest:List Oper} {o:Oper} {d:Nat} {ty:TypeId} {pos:String} {af:Array Edge}
theorem gh.nil(h:Q .normal s):gh P Y N all [] s Q:=fun _ _ _ _ _ hh=>⟨s,hh,h⟩
theorem gh.op(h:aQ P N all [o] st (Dk (fun aY=>gh P Y N all rest (i,aY) Q)))(hd:lr o = true:=by rfl):gh P Y N all (o :: rest) (i,st) Q:=by
 intro G hn hG a w hh
 have h1:=h (G.to w) hn a w hh.h
 have hk:∀ a' w',oB (G.to w) (Dk (fun aY=>gh P Y N all rest (i,aY) Q)) .normal a' w' -> wpListIn (FR none) 0 P all (fun e a w=>∃ s',HI Y G s' a w /\ Q e s') rest a' w':=by
  rintro a' w' ⟨aY,h',hq⟩
  exact hq G hn hG a' w' (hh.step hG h')
 have Xb:∀ e a' w',e ≠ .normal -> oB (G.to w) (Dk (fun aY=>gh P Y N all rest (i,aY) Q)) e a' w' -> False:=by
  rintro e a' w' he ⟨aY,_,hq⟩
  cases e <;> first | exact he rfl | exact hq
 unfold wpList at h1
 unfold wpListIn
 split at h1
 ·rename_i hw
  rw [if_pos hw]
  rcases h1 with h1 | ⟨_,_,_,h2⟩
  ·exact Gp hd (Gs Xb hk h1)
  ·exact (Xb _ _ _ (by simp) h2).elim
 ·rename_i hw
  rw [if_neg hw]
  exact ⟨fun _ _=>trivial,hk _ _ h1⟩
theorem gh.le{s':qV}(hl:xk s s')(h:gh P Y N all rest s' Q):gh P Y N all rest s Q:=fun G hn hG a w hh=>h G hn hG a w (hh.le hl)
theorem gh.split{b:Bool}(hx:look st.aE d = some (.v (.bool b)))(ht:b = true -> gh P Y N all rest (i,st.put d (.v (.bool true))) Q)(hf:b = false -> gh P Y N all rest (i,st.put d (.v (.bool false))) Q):gh P Y N all rest (i,st) Q:=by
 cases b
 ·exact gh.le (s:=(i,st)) (s':=(i,st.put d (.v (.bool false)))) ⟨rfl,Le.test hx⟩ (hf rfl)
 ·exact gh.le (s:=(i,st)) (s':=(i,st.put d (.v (.bool true)))) ⟨rfl,Le.test hx⟩ (ht rfl)
theorem gh.aC{p:Prop}{inst:Decidable p}(hx:look st.aE d = some (.v (.bool (decide p))))(ht:p -> gh P Y N all rest (i,st.put d (.v (.bool true))) Q)(hf:¬ p -> gh P Y N all rest (i,st.put d (.v (.bool false))) Q):gh P Y N all rest (i,st) Q :=
 gh.split hx (fun h=>ht (of_decide_eq_true h)) (fun h=>hf (of_decide_eq_false h))
theorem gh.bn{dst : Option Nat}{op : Op}{j : Nat}{want : Bool}(hj : (all[j]?).bind (·.dst) = some d)(hd : d < N.n)(hx : look st.aE d = some (.v (.bool want)))
  (k:gh P Y N all (⟨dst,op,ty,pos,af,none⟩ :: rest) (i,st) Q):gh P Y N all (⟨dst,op,ty,pos,af,some (j,want)⟩ :: rest) (i,st) Q:=by
 intro G hn hG a w hh
 have hk:=k G hn hG a w hh
 obtain ⟨E,RR,rfl,hi⟩:=hh.h
 have hw:=hi.wanted (ops:=all) (dst:=dst) (op:=op) (ty:=ty) (pos:=pos) (af:=af) hj (by show d < (G.to E.w).fn.n; rw [show (G.to E.w).fn = N from hn]; exact hd) hx
 unfold wpListIn at hk ⊢
 rw [if_pos hw]
 rw [if_pos (by simp [Region.wanted])] at hk
 exact hk
theorem Dl{x : Operand}{cI : Array Operand}{q2 : Array TypeId}{a : Act}{w : World}{f : Fn}{cc : Array Value}{dst : Option Nat}{g : Option (Nat × Bool)}(hx : a.eval x = .func f #[] cc) :
  (execOp a.eval ⟨dst,.call ⟨.value x,cI,q2⟩,ty,pos,af,g⟩).run P w = (invoke (.fn f cc) (#[] ++ cI.map a.eval)).run P w:=by
 have e:(execOp a.eval ⟨dst,.call ⟨.value x,cI,q2⟩,ty,pos,af,g⟩).run P w = (do let d <- Deferred.ofValue (a.eval x) (cI.map a.eval); invoke d.target d.args:Sem Next).run P w:=rfl
 rw [e,hx]; rfl
theorem gh.yield{x : Operand}{cI : Array Operand}{q2 : Array TypeId}{p q : Int}(hx : bV st x = some Y.v)(gN : lI st cI.toList = some [.v (.int .i64 p), .v (.int .i64 q)])(hg : Y.Good (p, q))(hd : d < N.n)
  (k:gh P Y N all rest (i ++ [(p,q)],st.put d (.v (.bool true))) Q):gh P Y N all (⟨some d,.call ⟨.value x,cI,q2⟩,ty,pos,af,none⟩ :: rest) (i,st) Q:=by
 intro G hn hG a w hh
 have Nm:=hh.n1 hG
 obtain ⟨E,RR,rfl,hi⟩:=hh.h
 have hv:=hi.val hx
 obtain ⟨xI,Js⟩:=r6 hi gN
 have eW:cI.map a.eval = #[.int .i64 p,.int .i64 q]:=by
  obtain ⟨o1,Co,R1,sw⟩:=Js 0 _ rfl
  obtain ⟨o2,oA,R2,xD⟩:=Js 1 _ rfl
  simp only [RX] at sw xD
  have hl:cI.toList.length = 2:=xI.symm
  apply Array.ext'
  rw [Array.toList_map]
  match hm:cI.toList,hl with
  | [u1,u2],_ =>
   rw [hm] at Co oA
   simp only [List.getElem?_cons_zero,List.getElem?_cons_succ,Option.some.injEq] at Co oA
   subst Co; subst oA
   simp [sw.1,xD.1]
 obtain ⟨fn,tmps,assign,body,hy,hR⟩:=Y.yield i (p,q) E.w hh.j hg Nm
 have jC:(execOp a.eval ⟨some d,.call ⟨.value x,cI,q2⟩,ty,pos,af,none⟩).run P E.w = .ok (.round Y.l fn tmps assign body) E.w:=by
  rw [Dl hv,eW]; exact hy
 refine wpListIn_plain rfl fun K hK=>?_
 refine ⟨fun _ _=>trivial,?_⟩
 rw [show (FR none).round = none from rfl,Oper.semAt_none,jC]
 refine ⟨fun h=>by simp [FR,Fence.wide] at h,hR.mono ?_⟩
 rintro e W' ⟨rfl,hj,hk⟩
 refine hK _ _ (k G hn hG _ _ ?_)
 have ht:=HI.Uu hG hh hj hk
 obtain ⟨E',gG,rfl,iS⟩:=ht.h
 exact ⟨ht.j,⟨E',_,rfl,iS.iT (by show d < (G.to E'.w).fn.n; rw [show (G.to E'.w).fn = N from hn]; exact hd) (by simp [RX])⟩,ht.kp⟩
theorem Cm.of{f : FuncId}{fn : Func}{c : Code}{args : List X}{g : IW}{n : Nat}(hf : P.funcs[f]? = some fn)(hb : fn.body = some c)(hn : fn.ntmps = n)(hr : fn.results = #[])(hle : args.length + 1 ≤ n)
  (h:∀ (Y:vk P) (i:IW),(∀ x ∈ g,Y.Good x) -> bM P Y ⟨n,[]⟩ c (i,⟨dU 0 (Y.v :: args),[]⟩) (fun e s=>(e = .normal \/ e = .ret) /\ s.1 = i ++ g)) (sX:X.bu args = true):Cm P f args g:=by
 intro Y i E dy hJ Nm hg eW IE hφ
 refine calls_of_wp hf hb ?_
 let G:Ctx:=⟨fun b=>b < E.w.heap.size,E.w,E.φ,E.β,⟨n,[]⟩,[]⟩
 have hG:MO Y G:=⟨fun _ h=>h,Nm,hφ⟩
 have hlen:∀ {l:List X} {c:List Value} {R:List Nat},eV E l c R -> l.length = c.length:=by
  intro l
  induction l with
  | nil=>intro c R h; simp only [eV] at h; rw [h.1]; rfl
  | cons y r ih =>
   intro c R h
   simp only [eV] at h
   obtain ⟨_,c',_,_,rfl,_,h2,_⟩:=h
   simp [ih h2]
 have hl:=hlen eW
 have hH:HI Y G (i,⟨dU 0 (Y.v :: args),[]⟩) ⟨(#[.func (.yield Y.l) #[] #[]] ++ dy.toArray) ++ Array.replicate (fn.ntmps - (#[Value.func (.yield Y.l) #[] #[]] ++ dy.toArray).size) undef,[]⟩ E.w:=by
  refine ⟨hJ,⟨E,fun _=>[],rfl,?_⟩,Kp.refl _ _⟩
  constructor
  case nM=>exact IE
  case aE =>
   intro s x hx
   have j8:look (dU 0 (Y.v :: args)) s = some x:=hx
   rw [iv] at j8
   have hs:s < args.length + 1:=by
    rcases Nat.lt_or_ge s (args.length + 1) with h' | h'
    ·exact h'
    ·rw [List.getElem?_eq_none (by simpa using h')] at j8; cases j8
   have e1:((#[Value.func (.yield Y.l) #[] #[]] ++ dy.toArray) ++ Array.replicate (fn.ntmps - (#[Value.func (.yield Y.l) #[] #[]] ++ dy.toArray).size) undef).getD s undef = (Value.func (.yield Y.l) #[] #[] :: dy).getD s undef:=by
    rw [Array.getD_eq_getD_getElem?,Array.getElem?_append_left (by simp; omega)]
    simp [List.getD_eq_getElem?_getD]
   show RX E x _ []
   rw [e1]
   cases s with
   | zero =>
    simp only [List.getElem?_cons_zero,Option.some.injEq] at j8
    subst j8
    simp [RX]
   | succ s =>
    simp only [List.getElem?_cons_succ] at j8
    obtain ⟨u,R,hu,hR⟩:=eV.get eW j8
    have h0:=RX.free (X.w9 sX j8) hR
    subst h0
    rw [List.getD_cons_succ,List.getD_eq_getElem?_getD,hu]; exact hR
  case aF=>intro o ob h; cases h
  case nodup=>exact fun _=>List.nodup_nil
  case apart=>exact fun _ _ _ _ h=>by cases h
  case own=>exact fun _ _ h=>by cases h
  case aj=>exact fun _ _=>rfl
  case size=>exact Nat.le_refl _
  case small=>exact fun _ h=>h
  case os=>rfl
  case tape=>rfl
  case output=>rfl
  case φ0=>exact fun _ _ _ h=>h
  case grow=>exact fun _ _ _ h=>.inl h
  case fixed=>exact fun _ _=>rfl
  case tmps=>show Array.size _ = n; simp; omega
  case defers=>rfl
 refine wp_mono (h Y i hg G rfl hG _ _ hH) ?_
 rintro e a w ⟨s,hs,he,hi⟩
 have hd:a.defers = []:=by obtain ⟨_,_,_,h⟩:=hs.h; exact h.defers
 have Ea:(results fn a.tmps).run P w = .ok (.tuple #[]) w:=by
  have e:results fn a.tmps = (do let vs <- fn.results.mapM (qH a.tmps); Pure.pure (if h:vs.size = 1 then vs[0] else .tuple vs):Sem Value):=rfl
  rw [e,hr]
  refine kE (u:=#[]) (by simp [Sem.run_pure]) rfl
 have hk:a.defers = [] /\ ∃ v,(results fn a.tmps).run P w = .ok v w /\ ∃ v',Ending.returned v = .returned v' /\ Y.J (i ++ g) w /\ Kp Y.S E.w w:=⟨hd,_,Ea,_,rfl,hi ▸ hs.j,hs.kp⟩
 rcases he with rfl | rfl
 ·exact hk
 ·exact hk
end
end Go.AW
namespace Go.AW
open Go
def bN(P:Program)(l:Nat)(N:fo)(c:Code)(st:St)(Q:Exit -> St -> Prop):Prop :=
 ∀ G:Ctx,G.fn = N -> ∀ a w,cK G st a w -> c.wpIn (FR (some l)) 0 P (oB G Q) a w
section
variable {P:Program} {l:Nat} {N:fo} {st aY:St} {Q Q':Exit -> St -> Prop} {id:Nat} {x y c:Code}
theorem bN.le(hl:Le st aY)(h:bN P l N c aY Q):bN P l N c st Q:=fun G hn a w hh=>h G hn a w (hl.holds hh)
theorem bN.mono(h:bN P l N c st Q)(hq:∀ e st,Q e st -> Q' e st):bN P l N c st Q':=fun G hn a w hh=>wpIn_mono (h G hn a w hh) fun e _ _ hp=>oB.mono (hq e) hp
theorem bN.sh(h:Sh N st aY)(k:bN P l N c aY Q):bN P l N c st Q:=fun G hn a w hh=>k G hn a w (h G hn a w hh)
theorem bN.skip(h:Q .normal st):bN P l N .skip st Q:=fun _ _ _ _ hh=>wpIn_skip ⟨st,hh,h⟩
theorem bN.exit(h:Q (.exit id) st):bN P l N (.exit id) st Q:=fun _ _ _ _ hh=>wpIn_exit ⟨st,hh,h⟩
theorem bN.seq(h:bN P l N x st (j5 (fun aY=>bN P l N y aY Q) Q)):bN P l N (.seq x y) st Q:=by
 intro G hn a w hh
 refine wpIn_seq (wpIn_mono (h G hn a w hh) ?_)
 rintro e a' w' ⟨aY,iR,hq⟩
 cases e <;> first | exact hq G hn a' w' iR | exact ⟨aY,iR,hq⟩
theorem bN.block(h:bN P l N c st (p4 id Q)):bN P l N (.block id c) st Q:=by
 intro G hn a w hh
 refine wpIn_block (wpIn_mono (h G hn a w hh) ?_)
 rintro e a' w' ⟨aY,iR,hq⟩
 cases e with
 | exit id' =>
  simp only [p4] at hq
  simp only [Exit.inBlock]
  cases hb:Nat.beq id' id with
  | true =>
   rw [hb] at hq
   rw [if_pos (Nat.eq_of_beq_eq_true hb)]
   exact ⟨aY,iR,hq⟩
  | false =>
   rw [hb] at hq
   rw [if_neg (Nat.ne_of_beq_eq_false hb)]
   exact ⟨aY,iR,hq⟩
 | _=>exact ⟨aY,iR,hq⟩
theorem bN.cond{o:Operand}{b:Bool}(hc:bV st o = some (.v (.bool b)))(ht:b = true -> bN P l N x st Q)(hf:b = false -> bN P l N y st Q):bN P l N (.cond o x y) st Q:=by
 intro G hn a w hh
 obtain ⟨E,RR,rfl,hi⟩:=hh
 have hv:=hi.val hc
 cases b with
 | true=>exact wpIn_cond (t:=true) hv (by simpa using ht rfl G hn a E.w ⟨E,RR,rfl,hi⟩)
 | false=>exact wpIn_cond (t:=false) hv (by simpa using hf rfl G hn a E.w ⟨E,RR,rfl,hi⟩)
theorem bN.aA{o:Operand}{p:Prop}{inst:Decidable p}(hc:bV st o = some (.v (.bool (decide p))))(ht:p -> bN P l N x st Q)(hf:¬ p -> bN P l N y st Q):bN P l N (.cond o x y) st Q :=
 bN.cond hc (fun h=>ht (of_decide_eq_true h)) (fun h=>hf (of_decide_eq_false h))
theorem bN.aO{o:Operand}(hc:bV st o = some (.v (.bool true)))(h:bN P l N x st Q):bN P l N (.cond o x y) st Q:=bN.cond hc (fun _=>h) (fun h=>by cases h)
theorem bN.cZ{o:Operand}(hc:bV st o = some (.v (.bool false)))(h:bN P l N y st Q):bN P l N (.cond o x y) st Q:=bN.cond hc (fun h=>by cases h) (fun _=>h)
theorem bN.ux{x y:Code}(J:St)(I:Prop)(hx:bN P l N x st (j5 (fun aY=>I /\ Le aY J) Q))(hy:I -> bN P l N y J Q):bN P l N (.seq x y) st Q :=
 bN.seq (hx.mono fun e Ej h=>by cases e with
  | normal=>exact (hy h.1).le h.2
  | _=>exact h)
theorem bN.region{ops:List Oper}(h:aQ P N ops.toArray ops st (Dk (fun aY=>Q .normal aY)))(hd:ops.all lr = true:=by rfl):bN P l N (.region id ops.toArray false) st Q:=by
 intro G hn a w hh
 refine wpIn_mono (Dj (Q:=oB G (Dk (fun aY=>Q .normal aY))) (fun ⟨_,_,_,_,h⟩=>h) hd (h G hn a w hh)) ?_
 rintro e a' w' ⟨aY,iR,hq⟩
 cases e <;> first | exact ⟨aY,iR,hq⟩ | exact hq.elim
theorem bN.sr{ops:List Oper}(h:aQ P N ops.toArray ops st (Dk (fun aY=>bN P l N y aY Q)))(hd:ops.all lr = true:=by rfl):bN P l N (.seq (.region id ops.toArray false) y) st Q :=
 bN.seq (bN.region (Q:=j5 (fun aY=>bN P l N y aY Q) Q) h hd)
theorem bN.g7(L F':List Nat){ops:Array Oper}(hm:P.follows .mixedOrders = true)(h:cg P N L F' ops ops.size (Array.replicate ops.size false) st (fun aY=>Q .normal aY))(hd:ops.toList.all lr = true:=by rfl):bN P l N (.region id ops true) st Q:=by
 intro G hn a w hh
 obtain ⟨E,RR,hw,hi⟩:=hh.drew
 have h1:=hw ▸ h G hn E RR a _ (fun _ _=>rfl) hi
 refine wpIn_mono (mc (Q:=fun e a w=>e = .normal /\ ∃ aY,Q .normal aY /\ cK G aY a w) hm (fun ⟨_,_,h,_⟩=>by cases h) hd (wpAny_of_held _ _ _ _ h1)) ?_
 rintro e a w ⟨rfl,aY,hk,iR⟩
 exact ⟨aY,iR,hk⟩
theorem bN.gr{ops:Array Oper}(hm:P.follows .mixedOrders = true)(h:cg P N [] N.F ops ops.size (Array.replicate ops.size false) st (fun aY=>Q .normal aY))(hd:ops.toList.all lr = true:=by rfl):bN P l N (.region id ops true) st Q:=bN.g7 [] N.F hm h hd
theorem bN.dZ{ops:Array Oper}(hm:P.follows .mixedOrders = true)(h:fE P N ops ops.size (Array.replicate ops.size false) st (fun aY=>Q .normal aY))(hd:ops.toList.all lr = true:=by rfl):bN P l N (.region id ops true) st Q:=by
 intro G hn a w hh
 have h1:=h G hn a _ hh.drew
 refine wpIn_mono (mc (Q:=fun e a w=>e = .normal /\ ∃ aY,Q .normal aY /\ cK G aY a w) hm (fun ⟨_,_,h,_⟩=>by cases h) hd h1) ?_
 rintro e a w ⟨rfl,aY,hk,iR⟩
 exact ⟨aY,iR,hk⟩
end
end Go.AW
namespace Go.AW
open Go
structure Ext(G G':Ctx):Prop where
 fn:G'.fn = G.fn
 K:∀ b,G.K b -> G'.K b
 aj:∀ b,G.K b -> G'.w0.heap[b]? = G.w0.heap[b]?
 size:G.w0.heap.size <= G'.w0.heap.size
 os:G'.w0.os = G.w0.os
 tape:G'.w0.tape = G.w0.tape
 output:G'.w0.output = G.w0.output
 φ0:∀ b i v,G.φ0 b i = some v -> G'.φ0 b i = some v
 grow:∀ b i v,G'.φ0 b i = some v -> G.φ0 b i = some v \/ ¬ G.K b
 fixed:∀ o,G.fn.F.elem o = true -> G'.β0 o = G.β0 o
 marks:∃ ms:List Nat,G'.ds = ms.map (fun D=>{ target:=.collected D,args:=#[] }) ++ G.ds /\ ms.Nodup /\ ∀ D ∈ ms,G'.K D /\ ¬ G.K D /\ G'.w0.heap[D]? = some (.deferred (some []))
theorem Ext.refl(G:Ctx):Ext G G:=⟨rfl,fun _ h=>h,fun _ _=>rfl,Nat.le_refl _,rfl,rfl,rfl,fun _ _ _ h=>h,fun _ _ _ h=>.inl h,fun _ _=>rfl,[],rfl,List.nodup_nil,fun _ h=>by cases h⟩
theorem Ext.trans{A B C:Ctx}(h:Ext A B)(k:Ext B C):Ext A C:=by
 obtain ⟨ms,h1,h2,h3⟩:=h.marks
 obtain ⟨ns,k1,k2,k3⟩:=k.marks
 refine ⟨k.fn.trans h.fn, fun b hb => k.K b (h.K b hb), fun b hb => (k.aj b (h.K b hb)).trans (h.aj b hb), Nat.le_trans h.size k.size, k.os.trans h.os, k.tape.trans h.tape, k.output.trans h.output, fun b i v hv => k.φ0 b i v (h.φ0 b i v hv), fun b i v hv => ?_,
  fun o ho=>(k.fixed o (by rw [h.fn]; exact ho)).trans (h.fixed o ho),ns ++ ms,?_,?_,?_⟩
 ·rcases k.grow b i v hv with h4 | h4
  ·exact h.grow b i v h4
  ·exact .inr (fun hb=>h4 (h.K b hb))
 ·rw [k1,h1,List.map_append,List.append_assoc]
 ·refine List.nodup_append.2 ⟨k2,h2,fun a ha b hb e=>?_⟩
  subst e
  exact (k3 a ha).2.1 (h3 a hb).1
 ·intro D hD
  rcases List.mem_append.1 hD with hD | hD
  ·obtain ⟨a,b,c⟩:=k3 D hD
   exact ⟨a,fun hk=>b (h.K D hk),c⟩
  ·obtain ⟨a,b,c⟩:=h3 D hD
   exact ⟨k.K D a,b,(k.aj D a).trans c⟩
def Qk(G:Ctx)(Q:Exit -> St -> Prop)(e:Exit)(a:Act)(w:World):Prop:=∃ G',Ext G G' /\ oB G' Q e a w
def qW(P:Program)(N:fo)(c:Code)(st:St)(Q:Exit -> St -> Prop):Prop :=
 ∀ G:Ctx,G.fn = N -> ∀ a w,cK G st a w -> c.wp P (Qk G Q) a w
section
variable {P:Program} {N:fo} {st aY:St} {Q Q':Exit -> St -> Prop} {id:Nat} {x y c:Code}
theorem qW.of(h:dx P N c st Q):qW P N c st Q:=fun G hn a w hh=>wp_mono (h G hn a w hh) fun _ _ _ hp=>⟨G,.refl G,hp⟩
theorem qW.le(hl:Le st aY)(h:qW P N c aY Q):qW P N c st Q:=fun G hn a w hh=>h G hn a w (hl.holds hh)
theorem qW.sh(h:Sh N st aY)(k:qW P N c aY Q):qW P N c st Q:=fun G hn a w hh=>k G hn a w (h G hn a w hh)
theorem qW.seq(h:qW P N x st (j5 (fun aY=>qW P N y aY Q) Q)):qW P N (.seq x y) st Q:=by
 intro G hn a w hh
 refine wp_seq (wp_mono (h G hn a w hh) ?_)
 rintro e a' w' ⟨G',hx,aY,iR,hq⟩
 cases e with
 | normal=>exact wp_mono (hq G' (hx.fn.trans hn) a' w' iR) fun _ _ _ ⟨Za,j8,hp⟩=>⟨Za,hx.trans j8,hp⟩
 | _=>exact ⟨G',hx,aY,iR,hq⟩
theorem qW.block(h:qW P N c st (p4 id Q)):qW P N (.block id c) st Q:=by
 intro G hn a w hh
 refine wp_block (wp_mono (h G hn a w hh) ?_)
 rintro e a' w' ⟨G',hx,aY,iR,hq⟩
 cases e with
 | exit id' =>
  simp only [p4] at hq
  simp only [Exit.inBlock]
  cases hb:Nat.beq id' id with
  | true =>
   rw [hb] at hq
   rw [if_pos (Nat.eq_of_beq_eq_true hb)]
   exact ⟨G',hx,aY,iR,hq⟩
  | false =>
   rw [hb] at hq
   rw [if_neg (Nat.ne_of_beq_eq_false hb)]
   exact ⟨G',hx,aY,iR,hq⟩
 | _=>exact ⟨G',hx,aY,iR,hq⟩
end
end Go.AW
namespace Go.AW
open Go Go.RowKit
structure IX(ν:List Nat)(ob:Obj):Prop where
 plain:ob.plain
 Zb:jW ob
 ng:ob ≠ .gone
 eO:∀ q,ob.cv q = true -> q ∈ ν
section
variable {P:Program} {N:fo} {st:St} {Q:Exit -> St -> Prop}
end
end Go.AW
namespace Go.AW
open Go
section
variable {P:Program} {Y:vk P} {N:fo} {s:qV} {Q:Exit -> qV -> Prop}
theorem bM.ux{x y:Code}(J:qV)(I:Prop)(hx:bM P Y N x s (o9 (fun aY=>I /\ xk aY J) Q))(hy:I -> bM P Y N y J Q):bM P Y N (.seq x y) s Q :=
 bM.join (fun _:Unit=>J) (fun _=>I) (hx.mono fun e _ h=>by cases e <;> first | exact ⟨(),h⟩ | exact h) (fun _ h=>hy h)
theorem bM.jt{α0 : Type}{c : Code}(S : α0 → qV)(I : α0 → Prop)(μ : α0 → Nat)(i0 : α0)(hi : I i0)(hs : xk s (S i0))
  (round:∀ a0,I a0 -> bM P Y N c (S a0) (o9 (fun aY=>∃ b0,I b0 /\ μ b0 < μ a0 /\ xk aY (S b0)) Q)):bM P Y N (.loop c) s Q :=
 bM.loop (ι:=α0) (fun u=>S u) (fun u=>I u) (fun u=>μ u) i0 hi hs (fun u h=>(round u h).mono fun e _ h=>by
  cases e <;> first | exact h | (obtain ⟨b0,h⟩:=h; exact ⟨b0,h⟩))
theorem bM.iC{α0:Type}{x y:Code}(J:α0 -> qV)(I:α0 -> Prop)(hx:bM P Y N x s (o9 (fun aY=>∃ b0,I b0 /\ xk aY (J b0)) Q))(hy:∀ a0,I a0 -> bM P Y N y (J a0) Q):bM P Y N (.seq x y) s Q :=
 bM.join (ι:=α0) (fun u=>J u) (fun u=>I u) (hx.mono fun e _ h=>by cases e <;> first | exact h | (obtain ⟨b0,h⟩:=h; exact ⟨b0,h⟩)) (fun u h=>hy u h)
theorem bM.iD{α0 α1 : Type}{c : Code}(S : α0 → α1 → qV)(I : α0 → α1 → Prop)(μ : α0 → α1 → Nat)(i0 : α0)(i1 : α1)(hi : I i0 i1)(hs : xk s (S i0 i1))
  (round:∀ a0 a1,I a0 a1 -> bM P Y N c (S a0 a1) (o9 (fun aY=>∃ b0 b1,I b0 b1 /\ μ b0 b1 < μ a0 a1 /\ xk aY (S b0 b1)) Q)):bM P Y N (.loop c) s Q :=
 bM.loop (ι:=α0 × α1) (fun u=>S u.1 u.2) (fun u=>I u.1 u.2) (fun u=>μ u.1 u.2) (i0,i1) hi hs (fun u h=>(round u.1 u.2 h).mono fun e _ h=>by
  cases e <;> first | exact h | (obtain ⟨b0,b1,h⟩:=h; exact ⟨(b0,b1),h⟩))
theorem bM.lk{α0 α1:Type}{x y:Code}(J:α0 -> α1 -> qV)(I:α0 -> α1 -> Prop)(hx:bM P Y N x s (o9 (fun aY=>∃ b0 b1,I b0 b1 /\ xk aY (J b0 b1)) Q))(hy:∀ a0 a1,I a0 a1 -> bM P Y N y (J a0 a1) Q):bM P Y N (.seq x y) s Q :=
 bM.join (ι:=α0 × α1) (fun u=>J u.1 u.2) (fun u=>I u.1 u.2) (hx.mono fun e _ h=>by cases e <;> first | exact h | (obtain ⟨b0,b1,h⟩:=h; exact ⟨(b0,b1),h⟩)) (fun u h=>hy u.1 u.2 h)
theorem bM.eh{α0 α1 α2 : Type}{c : Code}(S : α0 → α1 → α2 → qV)(I : α0 → α1 → α2 → Prop)(μ : α0 → α1 → α2 → Nat)(i0 : α0)(i1 : α1)(i2 : α2)(hi : I i0 i1 i2)(hs : xk s (S i0 i1 i2))
  (round:∀ a0 a1 a2,I a0 a1 a2 -> bM P Y N c (S a0 a1 a2) (o9 (fun aY=>∃ b0 b1 b2,I b0 b1 b2 /\ μ b0 b1 b2 < μ a0 a1 a2 /\ xk aY (S b0 b1 b2)) Q)):bM P Y N (.loop c) s Q :=
 bM.loop (ι:=α0 × α1 × α2) (fun u=>S u.1 u.2.1 u.2.2) (fun u=>I u.1 u.2.1 u.2.2) (fun u=>μ u.1 u.2.1 u.2.2) (i0,i1,i2) hi hs (fun u h=>(round u.1 u.2.1 u.2.2 h).mono fun e _ h=>by
  cases e <;> first | exact h | (obtain ⟨b0,b1,b2,h⟩:=h; exact ⟨(b0,b1,b2),h⟩))
theorem bM.Br{α0 α1 α2:Type}{x y:Code}(J:α0 -> α1 -> α2 -> qV)(I:α0 -> α1 -> α2 -> Prop)(hx:bM P Y N x s (o9 (fun aY=>∃ b0 b1 b2,I b0 b1 b2 /\ xk aY (J b0 b1 b2)) Q))(hy:∀ a0 a1 a2,I a0 a1 a2 -> bM P Y N y (J a0 a1 a2) Q):bM P Y N (.seq x y) s Q :=
 bM.join (ι:=α0 × α1 × α2) (fun u=>J u.1 u.2.1 u.2.2) (fun u=>I u.1 u.2.1 u.2.2) (hx.mono fun e _ h=>by cases e <;> first | exact h | (obtain ⟨b0,b1,b2,h⟩:=h; exact ⟨(b0,b1,b2),h⟩)) (fun u h=>hy u.1 u.2.1 u.2.2 h)
theorem bM.Bs{α0 α1 α2 α3 : Type}{c : Code}(S : α0 → α1 → α2 → α3 → qV)(I : α0 → α1 → α2 → α3 → Prop)(μ : α0 → α1 → α2 → α3 → Nat)(i0 : α0)(i1 : α1)(i2 : α2)(i3 : α3)(hi : I i0 i1 i2 i3)(hs : xk s (S i0 i1 i2 i3))
  (round:∀ a0 a1 a2 a3,I a0 a1 a2 a3 -> bM P Y N c (S a0 a1 a2 a3) (o9 (fun aY=>∃ b0 b1 b2 b3,I b0 b1 b2 b3 /\ μ b0 b1 b2 b3 < μ a0 a1 a2 a3 /\ xk aY (S b0 b1 b2 b3)) Q)):bM P Y N (.loop c) s Q :=
 bM.loop (ι:=α0 × α1 × α2 × α3) (fun u=>S u.1 u.2.1 u.2.2.1 u.2.2.2) (fun u=>I u.1 u.2.1 u.2.2.1 u.2.2.2) (fun u=>μ u.1 u.2.1 u.2.2.1 u.2.2.2) (i0,i1,i2,i3) hi hs (fun u h=>(round u.1 u.2.1 u.2.2.1 u.2.2.2 h).mono fun e _ h=>by
  cases e <;> first | exact h | (obtain ⟨b0,b1,b2,b3,h⟩:=h; exact ⟨(b0,b1,b2,b3),h⟩))
theorem bM.Bt{α0 α1 α2 α3:Type}{x y:Code}(J:α0 -> α1 -> α2 -> α3 -> qV)(I:α0 -> α1 -> α2 -> α3 -> Prop)(hx:bM P Y N x s (o9 (fun aY=>∃ b0 b1 b2 b3,I b0 b1 b2 b3 /\ xk aY (J b0 b1 b2 b3)) Q))(hy:∀ a0 a1 a2 a3,I a0 a1 a2 a3 -> bM P Y N y (J a0 a1 a2 a3) Q):bM P Y N (.seq x y) s Q :=
 bM.join (ι:=α0 × α1 × α2 × α3) (fun u=>J u.1 u.2.1 u.2.2.1 u.2.2.2) (fun u=>I u.1 u.2.1 u.2.2.1 u.2.2.2) (hx.mono fun e _ h=>by cases e <;> first | exact h | (obtain ⟨b0,b1,b2,b3,h⟩:=h; exact ⟨(b0,b1,b2,b3),h⟩)) (fun u h=>hy u.1 u.2.1 u.2.2.1 u.2.2.2 h)
end
mutual
theorem IY{q : Nat} : ∀ {x : X}, x.nr = true → x.eO q = false
 | .v _,_ | .no,_ | .fz ..,_ | .dH ..,_ | .fp ..,_=>rfl
 | .ptr ..,h=>by cases h
 | .aL ..,h=>by cases h
 | .mref _,h=>by cases h
 | .agg xs,h=>lD (xs:=xs) h
 | .tup xs,h=>lD (xs:=xs) h
 | .j7 _ a b,h=>by
  simp only [X.nr,Bool.and_eq_true] at h
  simp only [X.eO,lD h.1,lD h.2,Bool.or_self]
theorem lD{q : Nat} : ∀ {xs : List X}, X.iQ xs = true → X.cv q xs = false
 | [],_=>rfl
 | x :: r,h=>by
  simp only [X.iQ,Bool.and_eq_true] at h
  simp only [X.cv,IY h.1,lD h.2,Bool.or_self]
end
theorem IX.cells{ν:List Nat}{xs:List X}(hp:X.fw xs)(hn:X.iQ xs = true):IX ν (.cells xs) :=
 ⟨hp,trivial,by simp,fun q h=>by have h:X.cv q xs = true:=h; rw [lD hn] at h; cases h⟩
theorem IX.rows{ν:List Nat}{s:Nat}{rs:List (List X)}(hp:X.mT rs)(h0:∀ r ∈ rs,X.bu r = true):IX ν (.rows s rs):=⟨hp,h0,by simp,fun q h=>by cases h⟩
end Go.AW
namespace Go.AW
open Go
mutual
theorem RO.AZ{E E' : Env} : ∀ (xs : List X) (cs : Array Value) (off : Nat) (R : List Nat), E.Bp E' R → RO E xs cs off R → RO E' (X.jj xs) cs off []
 | [],cs,off,R,_,h=>by simp only [RO,X.jj]
 | x :: r,cs,off,R,hE,h=>by
  simp only [RO,X.jj] at h ⊢
  obtain ⟨u,R₁,R₂,hu,hs,h1,h2,hR⟩:=h
  subst hR
  exact ⟨u,[],[],hu,hs,RX.mC x u R₁ (hE.sub (fun _ h=>cH h)) h1,RO.AZ r cs (off + 1) R₂ (hE.sub (fun _ h=>ct h)) h2,rfl⟩
theorem cE.AZ{E E' : Env} : ∀ (rs : List (List X)) (cs : Array Value) (off : Nat) (R : List Nat), E.Bp E' R → cE E rs cs off R → cE E' (X.lK rs) cs off []
 | [],cs,off,R,_,h=>by simp only [cE,X.lK]
 | r :: rs,cs,off,R,hE,h=>by
  simp only [cE,X.lK] at h ⊢
  obtain ⟨R₁,R₂,hn,h1,h2,hR⟩:=h
  subst hR
  refine ⟨[],[],X.tS hn,RO.AZ r cs off R₁ (hE.sub (fun _ h=>cH h)) h1,?_,rfl⟩
  rw [X.mD]
  exact cE.AZ rs cs _ R₂ (hE.sub (fun _ h=>ct h)) h2
end
section
variable {N:fo} {st:St}
theorem Sh.AZ(o:Nat){s:Nat}{rs:List (List X)}(tf:List (List X))(ho:look st.aF o = some (.rows s rs))(he:X.lK rs = tf):Sh N st (st.cV o (.rows s tf)):=by
 intro G hn a w hh
 obtain ⟨E,RR,rfl,hi⟩:=hh
 subst he
 have aW:=hi.aF o _ ho
 have jB:=hi.nodup (.obj o)
 simp only [dK] at aW
 obtain ⟨hu,aW⟩:=aW
 rcases aW with ⟨h1,h2,h3⟩ | ⟨B,cs,ty,R',hB,hw,hφ,lx,hlen,jS,iI⟩
 ·subst h2
  exact ⟨E,_,rfl,hi.cV (R:=[]) (by simp only [dK]; exact ⟨fun _ h=>(by cases h),.inl ⟨h1,rfl,trivial⟩⟩) List.nodup_nil (fun _ h=>by cases h)⟩
 rw [iI] at jB
 obtain ⟨sy,nj⟩:=List.nodup_cons.1 jB
 have nK:∀ b ∈ R',b ∈ RR (.obj o):=fun b hb=>by rw [iI]; exact List.mem_cons.2 (.inr hb)
 have Mg:B.b ∈ RR (.obj o):=by rw [iI]; simp
 have mw:Inv G E (fI RR (.obj o) []) (st.cV o .gone) a:=hi.cV (R:=[]) (by simp only [dK]) List.nodup_nil (fun _ h=>by cases h)
 have Kz:∀ p,∀ b ∈ fI RR (.obj o) [] p,b ∉ R':=by
  intro p b hp hb
  unfold fI at hp
  split at hp
  ·cases hp
  ·rename_i h; exact hi.apart _ _ h b hp (nK b hb)
 have hle:∀ c i v,E.φ c i = some v -> (E.cB (fun b=>b ∈ R')).φ c i = some v:=by
  intro c i v h
  by_cases hc:c ∈ R'
  ·rw [je E (LB:=fun b=>b ∈ R') hc]; exact hi.nM c i v h
  ·rw [eg E (LB:=fun b=>b ∈ R') hc]; exact h
 have im:∀ p,E.On (E.cB (fun b=>b ∈ R')) (fI RR (.obj o) [] p):=by
  intro p
  refine ⟨hle,fun c hc=>⟨rfl,fun h i=>?_⟩⟩
  rw [eg E (LB:=fun b=>b ∈ R') (Kz p c hc)]; exact h i
 have hf:E.Bp (E.cB (fun b=>b ∈ R')) R':=⟨rfl,rfl,hle,fun b hb i v h=>by rw [je E (LB:=fun b=>b ∈ R') hb]; exact h⟩
 have NQ:Inv G (E.cB (fun b=>b ∈ R')) (fI RR (.obj o) []) (st.cV o .gone) a :=
  {mw with
   nM:=by
    intro c i v h
    by_cases hc:c ∈ R'
    ·rw [je E (LB:=fun b=>b ∈ R') hc] at h; exact h
    ·rw [eg E (LB:=fun b=>b ∈ R') hc] at h; exact hi.nM c i v h
   aE:=fun q x hx=>RX.mono x _ _ (im _) (fun _ _=>rfl) (mw.aE q x hx)
   aF:=fun o ob aW=>dK.mono (im _) rfl (fun _ _=>rfl) (mw.aF o ob aW)
   φ0:=fun c i v h=>hle c i v (hi.φ0 c i v h)
   grow:=by
    intro c i v h
    by_cases hc:c ∈ R'
    ·exact .inr (hi.own _ _ (nK c hc)).2
    ·rw [eg E (LB:=fun b=>b ∈ R') hc] at h; exact hi.grow c i v h }
 have h4 := NQ.cV (o := o) (ob := .rows s (X.lK rs)) (R := [B.b])
  (by
   simp only [dK]
   refine ⟨hu.lK,.inr ⟨B,cs,ty,[],hB,hw,fun i=>?_,by rw [X.mE]; exact lx,hlen,cE.AZ rs cs _ R' hf jS,rfl⟩⟩
   rw [eg E (LB:=fun b=>b ∈ R') sy]; exact hφ i)
  (by simp) (fun b hb=>by
   rw [List.mem_singleton.1 hb]
   refine ⟨(hi.own _ _ Mg).1,(hi.own _ _ Mg).2,fun p hp h=>?_⟩
   unfold fI at h
   split at h
   ·cases h
   ·exact hi.apart p (.obj o) hp _ h Mg)
 refine ⟨E.cB (fun b=>b ∈ R'),_,rfl,{ h4 with aE:=fun p y hy=>h4.aE p y hy,aF:=fun p y hy=>h4.aF p y ?_ }⟩
 simp only [St.cV,look] at hy ⊢
 cases hb:Nat.beq o p with
 | true=>rw [hb] at hy; simpa using hy
 | false=>rw [hb] at hy; simpa using hy
end
end Go.AW
namespace Go.AW
open Go
def vJ(z z':List X):Prop:=∀ (E:Env) (cs:Array Value) (off:Nat) (R:List Nat),RO E z cs off R -> RO E z' cs off R
theorem vJ.nil:vJ [] []:=fun _ _ _ _ h=>h
theorem vJ.same{x:X}{r r':List X}(h:vJ r r'):vJ (x :: r) (x :: r'):=fun E cs off R hh=>by
 simp only [RO] at hh ⊢
 obtain ⟨u,R₁,R₂,h1,h2,h3,h4,h5⟩:=hh
 exact ⟨u,R₁,R₂,h1,h2,h3,h E cs _ _ h4,h5⟩
theorem vJ.yR{s:Nat}{r r':List X}(h:vJ r r'):vJ (.v (.slice none 0 0) :: r) (.fz s [] :: r'):=fun E cs off R hh=>by
 simp only [RO] at hh ⊢
 obtain ⟨u,R₁,R₂,h1,h2,h3,h4,h5⟩:=hh
 refine ⟨u,R₁,R₂,h1,h2,?_,h E cs _ _ h4,h5⟩
 simp only [RX] at h3 ⊢
 exact ⟨h3.2,(fun r hr=>by cases hr),none,0,h3.1,Or.inl ⟨trivial,rfl⟩⟩
theorem cE.Q5{E : Env}{z z' : List X}(hl : z.length = z'.length)(hn : X.iQ z' = true)(h : vJ z z') : ∀ (n : Nat) (cs : Array Value) (off : Nat) (R : List Nat), cE E (List.replicate n z) cs off R → cE E (List.replicate n z') cs off R
 | 0,_,_,_,hh=>hh
 | n + 1,cs,off,R,hh=>by
  rw [List.replicate_succ] at hh ⊢
  simp only [cE] at hh ⊢
  obtain ⟨R₁,R₂,_,h2,h3,h4⟩:=hh
  exact ⟨R₁,R₂,hn,h E cs off R₁ h2,hl ▸ cE.Q5 hl hn h n cs _ R₂ h3,h4⟩
theorem Sh.Q6{N:fo}{st:St}{d s n:Nat}{z z':List X}(hx:look st.aE d = some (.dH s (List.replicate n z)))(hl:z.length = z'.length)(hn:X.iQ z' = true)(h:vJ z z'):Sh N st (st.put d (.dH s (List.replicate n z'))):=by
 intro G _ a w hh
 obtain ⟨E,RR,rfl,hi⟩:=hh
 refine ⟨E,RR,rfl,{ hi with aE:=?_ }⟩
 intro t x ht
 simp only [St.put,look] at ht
 cases hb:Nat.beq d t with
 | false=>rw [hb] at ht; exact hi.aE t x ht
 | true =>
  rw [hb] at ht
  have e:=Nat.eq_of_beq_eq_true hb
  subst e
  simp only [cond_true,Option.some.injEq] at ht
  subst ht
  have h0:=hi.aE d _ hx
  simp only [RX,List.length_replicate] at h0 ⊢
  obtain ⟨hu,base,cap,hc,h1⟩:=h0
  refine ⟨fun r hr=>?_,base,cap,hc,?_⟩
  ·rw [(List.mem_replicate.1 hr).2,<- hl]
   exact hu z (List.mem_replicate.2 ⟨(List.mem_replicate.1 hr).1,rfl⟩)
  ·rcases h1 with ⟨h1,h2⟩ | ⟨b,off,cs,ty,R',h1,h2,h3,h4,h5,h6,h7⟩
   ·exact .inl ⟨by simpa using h1,h2⟩
   ·exact .inr ⟨b,off,cs,ty,R',h1,h2,h3,h4,h5,cE.Q5 hl hn h n cs off R' h6,h7⟩
end Go.AW
namespace Go.AW
open Go
section
variable {P:Program} {l:Nat} {N:fo} {st:St} {Q:Exit -> St -> Prop}
theorem bN.loop{ι : Type}{c : Code}(S : ι → St)(I : ι → Prop)(μ : ι → Nat)(i : ι)(hi : I i)(hs : Le st (S i))
  (round:∀ i,I i -> bN P l N c (S i) (j5 (fun aY=>∃ j,I j /\ μ j < μ i /\ Le aY (S j)) Q)):bN P l N (.loop c) st Q:=by
 intro G hn a w hh
 refine wpIn_loop_ghost (fun n a w=>∃ i,μ i = n /\ I i /\ cK G (S i) a w) (μ i) ⟨i,rfl,hi,hs.holds hh⟩ ?_
 rintro n a w ⟨i,rfl,hI,hh⟩
 refine wpIn_mono (round i hI G hn a w hh) ?_
 rintro e a' w' ⟨aY,iR,hq⟩
 cases e with
 | normal=>obtain ⟨j,hj,gQ,hle⟩:=hq; exact ⟨μ j,gQ,j,rfl,hj,hle.holds iR⟩
 | _=>exact ⟨aY,iR,hq⟩
theorem bN.join{ι:Type}{x y:Code}(J:ι -> St)(I:ι -> Prop)(hx:bN P l N x st (j5 (fun aY=>∃ i,I i /\ Le aY (J i)) Q))(hy:∀ i,I i -> bN P l N y (J i) Q):bN P l N (.seq x y) st Q:=by
 refine bN.seq (hx.mono ?_)
 intro e Ej h
 cases e with
 | normal=>obtain ⟨i,hI,hle⟩:=h; exact (hy i hI).le hle
 | _=>exact h
theorem bN.bm{dj:Nat}{p:Prop}{inst:Decidable p}{x y:Code}(hc:look st.aE dj = some (.v (.bool (decide p))))(ht:p -> bN P l N x (st.put dj (.v (.bool true))) Q)(hf:¬ p -> bN P l N y (st.put dj (.v (.bool false))) Q):bN P l N (.cond (.tmp dj) x y) st Q:=by
 refine bN.aA (p:=p) (inst:=inst) hc (fun h=>?_) (fun h=>?_)
 ·exact (ht h).le (Le.test (by rw [hc,decide_eq_true h]))
 ·exact (hf h).le (Le.test (by rw [hc,decide_eq_false h]))
theorem bN.jt{α0 : Type}{c : Code}(S : α0 → St)(I : α0 → Prop)(μ : α0 → Nat)(i0 : α0)(hi : I i0)(hs : Le st (S i0))
  (round:∀ a0,I a0 -> bN P l N c (S a0) (j5 (fun aY=>∃ b0,I b0 /\ μ b0 < μ a0 /\ Le aY (S b0)) Q)):bN P l N (.loop c) st Q :=
 bN.loop (ι:=α0) (fun u=>S u) (fun u=>I u) (fun u=>μ u) i0 hi hs (fun u h=>(round u h).mono fun e _ h=>by
  cases e <;> first | exact h | (obtain ⟨b0,h⟩:=h; exact ⟨b0,h⟩))
theorem bN.iC{α0:Type}{x y:Code}(J:α0 -> St)(I:α0 -> Prop)(hx:bN P l N x st (j5 (fun aY=>∃ b0,I b0 /\ Le aY (J b0)) Q))(hy:∀ a0,I a0 -> bN P l N y (J a0) Q):bN P l N (.seq x y) st Q :=
 bN.join (ι:=α0) (fun u=>J u) (fun u=>I u) (hx.mono fun e _ h=>by cases e <;> first | exact h | (obtain ⟨b0,h⟩:=h; exact ⟨b0,h⟩)) (fun u h=>hy u h)
theorem bN.iD{α0 α1 : Type}{c : Code}(S : α0 → α1 → St)(I : α0 → α1 → Prop)(μ : α0 → α1 → Nat)(i0 : α0)(i1 : α1)(hi : I i0 i1)(hs : Le st (S i0 i1))
  (round:∀ a0 a1,I a0 a1 -> bN P l N c (S a0 a1) (j5 (fun aY=>∃ b0 b1,I b0 b1 /\ μ b0 b1 < μ a0 a1 /\ Le aY (S b0 b1)) Q)):bN P l N (.loop c) st Q :=
 bN.loop (ι:=α0 × α1) (fun u=>S u.1 u.2) (fun u=>I u.1 u.2) (fun u=>μ u.1 u.2) (i0,i1) hi hs (fun u h=>(round u.1 u.2 h).mono fun e _ h=>by
  cases e <;> first | exact h | (obtain ⟨b0,b1,h⟩:=h; exact ⟨(b0,b1),h⟩))
theorem bN.lk{α0 α1:Type}{x y:Code}(J:α0 -> α1 -> St)(I:α0 -> α1 -> Prop)(hx:bN P l N x st (j5 (fun aY=>∃ b0 b1,I b0 b1 /\ Le aY (J b0 b1)) Q))(hy:∀ a0 a1,I a0 a1 -> bN P l N y (J a0 a1) Q):bN P l N (.seq x y) st Q :=
 bN.join (ι:=α0 × α1) (fun u=>J u.1 u.2) (fun u=>I u.1 u.2) (hx.mono fun e _ h=>by cases e <;> first | exact h | (obtain ⟨b0,b1,h⟩:=h; exact ⟨(b0,b1),h⟩)) (fun u h=>hy u.1 u.2 h)
theorem bN.eh{α0 α1 α2 : Type}{c : Code}(S : α0 → α1 → α2 → St)(I : α0 → α1 → α2 → Prop)(μ : α0 → α1 → α2 → Nat)(i0 : α0)(i1 : α1)(i2 : α2)(hi : I i0 i1 i2)(hs : Le st (S i0 i1 i2))
  (round:∀ a0 a1 a2,I a0 a1 a2 -> bN P l N c (S a0 a1 a2) (j5 (fun aY=>∃ b0 b1 b2,I b0 b1 b2 /\ μ b0 b1 b2 < μ a0 a1 a2 /\ Le aY (S b0 b1 b2)) Q)):bN P l N (.loop c) st Q :=
 bN.loop (ι:=α0 × α1 × α2) (fun u=>S u.1 u.2.1 u.2.2) (fun u=>I u.1 u.2.1 u.2.2) (fun u=>μ u.1 u.2.1 u.2.2) (i0,i1,i2) hi hs (fun u h=>(round u.1 u.2.1 u.2.2 h).mono fun e _ h=>by
  cases e <;> first | exact h | (obtain ⟨b0,b1,b2,h⟩:=h; exact ⟨(b0,b1,b2),h⟩))
theorem bN.Br{α0 α1 α2:Type}{x y:Code}(J:α0 -> α1 -> α2 -> St)(I:α0 -> α1 -> α2 -> Prop)(hx:bN P l N x st (j5 (fun aY=>∃ b0 b1 b2,I b0 b1 b2 /\ Le aY (J b0 b1 b2)) Q))(hy:∀ a0 a1 a2,I a0 a1 a2 -> bN P l N y (J a0 a1 a2) Q):bN P l N (.seq x y) st Q :=
 bN.join (ι:=α0 × α1 × α2) (fun u=>J u.1 u.2.1 u.2.2) (fun u=>I u.1 u.2.1 u.2.2) (hx.mono fun e _ h=>by cases e <;> first | exact h | (obtain ⟨b0,b1,b2,h⟩:=h; exact ⟨(b0,b1,b2),h⟩)) (fun u h=>hy u.1 u.2.1 u.2.2 h)
theorem bN.Bs{α0 α1 α2 α3 : Type}{c : Code}(S : α0 → α1 → α2 → α3 → St)(I : α0 → α1 → α2 → α3 → Prop)(μ : α0 → α1 → α2 → α3 → Nat)(i0 : α0)(i1 : α1)(i2 : α2)(i3 : α3)(hi : I i0 i1 i2 i3)(hs : Le st (S i0 i1 i2 i3))
  (round:∀ a0 a1 a2 a3,I a0 a1 a2 a3 -> bN P l N c (S a0 a1 a2 a3) (j5 (fun aY=>∃ b0 b1 b2 b3,I b0 b1 b2 b3 /\ μ b0 b1 b2 b3 < μ a0 a1 a2 a3 /\ Le aY (S b0 b1 b2 b3)) Q)):bN P l N (.loop c) st Q :=
 bN.loop (ι:=α0 × α1 × α2 × α3) (fun u=>S u.1 u.2.1 u.2.2.1 u.2.2.2) (fun u=>I u.1 u.2.1 u.2.2.1 u.2.2.2) (fun u=>μ u.1 u.2.1 u.2.2.1 u.2.2.2) (i0,i1,i2,i3) hi hs (fun u h=>(round u.1 u.2.1 u.2.2.1 u.2.2.2 h).mono fun e _ h=>by
  cases e <;> first | exact h | (obtain ⟨b0,b1,b2,b3,h⟩:=h; exact ⟨(b0,b1,b2,b3),h⟩))
theorem bN.Bt{α0 α1 α2 α3:Type}{x y:Code}(J:α0 -> α1 -> α2 -> α3 -> St)(I:α0 -> α1 -> α2 -> α3 -> Prop)(hx:bN P l N x st (j5 (fun aY=>∃ b0 b1 b2 b3,I b0 b1 b2 b3 /\ Le aY (J b0 b1 b2 b3)) Q))(hy:∀ a0 a1 a2 a3,I a0 a1 a2 a3 -> bN P l N y (J a0 a1 a2 a3) Q):bN P l N (.seq x y) st Q :=
 bN.join (ι:=α0 × α1 × α2 × α3) (fun u=>J u.1 u.2.1 u.2.2.1 u.2.2.2) (fun u=>I u.1 u.2.1 u.2.2.1 u.2.2.2) (hx.mono fun e _ h=>by cases e <;> first | exact h | (obtain ⟨b0,b1,b2,b3,h⟩:=h; exact ⟨(b0,b1,b2,b3),h⟩)) (fun u h=>hy u.1 u.2.1 u.2.2.1 u.2.2.2 h)
theorem bN.kM{id:Nat}(L F':List Nat)(J:St){ops:Array Oper}(hm:P.follows .mixedOrders = true)(h:cg P N L F' ops ops.size (Array.replicate ops.size false) st (fun aY=>Le aY J))(k:Q .normal J)(hd:ops.toList.all lr = true:=by rfl):bN P l N (.region id ops true) st Q:=by
 intro G hn a w hh
 obtain ⟨E,RR,hw,hi⟩:=hh.drew
 have h1:=hw ▸ h G hn E RR a _ (fun _ _=>rfl) hi
 refine wpIn_mono (mc (Q:=fun e a w=>e = .normal /\ ∃ aY,Le aY J /\ cK G aY a w) hm (fun ⟨_,_,h,_⟩=>by cases h) hd (wpAny_of_held _ _ _ _ h1)) ?_
 rintro e a w ⟨rfl,aY,hk,iR⟩
 exact ⟨J,hk.holds iR,k⟩
theorem bN.dW{id:Nat}(J:St){ops:Array Oper}(hm:P.follows .mixedOrders = true)(h:cg P N [] N.F ops ops.size (Array.replicate ops.size false) st (fun aY=>Le aY J))(k:Q .normal J)(hd:ops.toList.all lr = true:=by rfl):bN P l N (.region id ops true) st Q:=bN.kM [] N.F J hm h k hd
theorem da.three{ops : Array Oper}{K : St → Prop}{n : Nat}{ag : Array Bool}(i i1 i2 : Nat){o o1 o2 : Oper}(ho : ops[i]? = some o)(Co : ops[i1]? = some o1)(oA : ops[i2]? = some o2)(hr : (Region.ready .any ops ag == [i, i1, i2]) = true)
  (k:aQ P N ops [o] st (fun e aY=>e = .normal /\ da P N ops n (ag.setIfInBounds i true) aY K))
  (k1:aQ P N ops [o1] st (fun e aY=>e = .normal /\ da P N ops n (ag.setIfInBounds i1 true) aY K))
  (k2:aQ P N ops [o2] st (fun e aY=>e = .normal /\ da P N ops n (ag.setIfInBounds i2 true) aY K)):da P N ops (n + 1) ag st K:=by
 intro G hn a w hh
 refine wpAnyH_all (rs:=[i,i1,i2]) (by simpa using hr) (by simp) ?_
 intro j hj
 simp only [List.mem_cons,List.not_mem_nil,or_false] at hj
 rcases hj with rfl | rfl | rfl
 ·exact da.step j ho k G hn a w hh
 ·exact da.step j Co k1 G hn a w hh
 ·exact da.step j oA k2 G hn a w hh
end
end Go.AW
