/- Part of the abstract walk: the rules that are used most, under short names. -/
import Derived.Test.YtlimckldnjmabaaAWx1
import Derived.KernelRfl
import Derived.DataShut
import Derived.Laws.StructEq
import Derived.OrdersHeld
import Derived.RangeFuncLeaves
import Derived.RangeFuncSeq
import Derived.RangeFuncCalls
import Derived.TacticsIn
import Derived.OrdersIn
import Derived.Sort.LoopGhostIn
set_option linter.unusedSimpArgs false
set_option linter.unusedVariables false
set_option linter.unusedSectionVars false
namespace Go.AW
open Go
section
variable {P:Program} {N:eZ} {st:St} {Q:Exit -> St -> Prop} {all:Array Oper} {rest:List Oper} {d dd j:Nat} {want:Bool} {op:Op} {ty:TypeId} {pos:String} {af:Array Edge} {x:X} {u:Value}
theorem aS.vl(hy:Yields P N st ⟨some d,op,ty,pos,af,none⟩ x)(k:aS P N all rest (st.put d x) Q)(hd:d < N.n:=by decide):aS P N all (⟨some d,op,ty,pos,af,none⟩ :: rest) st Q:=aS.val hy hd k
theorem aS.gs(d : Nat)(hj : (all[j]?).bind (·.dst) = some d)(hx : look st.aC d = some (.v u))(fb : ua want u = true)(k : aS P N all rest (st.put dd (.v undef)) Q)(hd : d < N.n := by decide)(HQ : dd < N.n := by decide) :
  aS P N all (⟨some dd,op,ty,pos,af,some (j,want)⟩ :: rest) st Q:=aS.aN hj hd HQ hx fb k
theorem dy.sr{id:Nat}{l:List Oper}{y:Code}(h:aS P N l.toArray l st (iW (fun aW=>dy P N y aW Q) Q)):dy P N (.seq (.region id l.toArray false) y) st Q:=dy.seq (dy.region h)
variable {ops:Array Oper} {l0 rs l:List Nat} {t i dj:Nat} {ah:Array Bool} {K:Array Bool -> St -> Prop}
theorem AQ.cn(i : Nat)(ho : ops[i]? = some ⟨some d, op, ty, pos, af, none⟩)(hy : Yields P N st ⟨some d, op, ty, pos, af, none⟩ x)(k : AQ P N ops l0 rs t l (ah.setIfInBounds i true) (st.put d x) K)
  (hB:(Region.noSelect ops && Region.free .any ops ah i && (Region.ready .any ops ah).contains i) = true:=by kernel_rfl) (hd:d < N.n:=by decide):AQ P N ops l0 rs t (i :: l) ah st K:=AQ.cons ho hB hy hd k
theorem AQ.sk(i : Nat)(ho : ops[i]? = some ⟨some d, op, ty, pos, af, some (j, want)⟩)(hj : (ops[j]?).bind (·.dst) = some dj)(hx : look st.aC dj = some (.v u))(fb : ua want u = true)(k : AQ P N ops l0 rs t l (ah.setIfInBounds i true) (st.put d (.v undef)) K)
  (hB:(Region.noSelect ops && Region.free .any ops ah i && (Region.ready .any ops ah).contains i) = true:=by kernel_rfl) (uf:dj < N.n:=by decide) (hd:d < N.n:=by decide):AQ P N ops l0 rs t (i :: l) ah st K:=AQ.skip ho hB hj uf hd hx fb k
theorem AQ.rn(i : Nat)(ho : ops[i]? = some ⟨some d, op, ty, pos, af, some (j, want)⟩)(hj : (ops[j]?).bind (·.dst) = some dj)(hx : look st.aC dj = some (.v (.bool want)))(hy : Yields P N st ⟨some d, op, ty, pos, af, some (j, want)⟩ x)(k : AQ P N ops l0 rs t l (ah.setIfInBounds i true) (st.put d x) K)
  (hB:(Region.noSelect ops && Region.free .any ops ah i && (Region.ready .any ops ah).contains i) = true:=by kernel_rfl) (uf:dj < N.n:=by decide) (hd:d < N.n:=by decide):AQ P N ops l0 rs t (i :: l) ah st K:=AQ.run ho hB hj uf hx hy hd k
end
section
variable {P:Program} {N:eZ} {st:St} {Q:Exit -> St -> Prop} {all:Array Oper} {rest:List Oper} {d:Nat} {ty:TypeId} {pos:String} {af:Array Edge} {y p:X}
theorem aS.mv{x:Operand}(k:aS P N all rest (st.put d y) Q)(hx:bW st x = some y:=by rfl)(hf:y.free = true:=by rfl)(hd:d < N.n:=by decide):aS P N all (⟨some d,.move x,ty,pos,af,none⟩ :: rest) st Q:=aS.val (Y.zh hx hf) hd k
theorem aS.an{x:Operand}(k:aS P N all rest (st.put d y) Q)(hx:bW st x = some y:=by rfl)(hf:y.free = true:=by rfl)(hd:d < N.n:=by decide):aS P N all (⟨some d,.assign x,ty,pos,af,none⟩ :: rest) st Q:=aS.val (Y.qf hx hf) hd k
theorem aS.ld{t : TypeId}{x : Operand}{row : List X}(ht : TY.shape P t = some none)(k : aS P N all rest (st.put d y) Q)(hx : bW st x = some p := by rfl)(hr : rowAt st p = some row := by rfl)(hy : row[lk p]? = some y := by rfl)(hf : y.free = true := by rfl)(hd : d < N.n := by decide) :
  aS P N all (⟨some d,.load t x,ty,pos,af,none⟩ :: rest) st Q:=aS.val (Y.zb ht hx hr hy hf) hd k
end
section
variable {P:Program} {N:eZ} {st:St} {Q:Exit -> St -> Prop} {all:Array Oper} {rest:List Oper} {d dd j:Nat} {want:Bool} {op:Op} {ty:TypeId} {pos:String} {af:Array Edge} {x y p q:X} {u:Value}
theorem aS.gw(d : Nat)(hy : Yields P N st ⟨some dd, op, ty, pos, af, some (j, want)⟩ x)(k : aS P N all rest (st.put dd x) Q)(hj : (all[j]?).bind (·.dst) = some d := by rfl)(hx : look st.aC d = some (.v (.bool want)) := by rfl)(hd : d < N.n := by decide)(HQ : dd < N.n := by decide) :
  aS P N all (⟨some dd,op,ty,pos,af,some (j,want)⟩ :: rest) st Q:=aS.aX hj hd hx (aS.val hy HQ k)
theorem aS.gz(d : Nat)(k : aS P N all rest (st.put dd (.v undef)) Q)(hj : (all[j]?).bind (·.dst) = some d := by rfl)(hx : look st.aC d = some (.v u) := by rfl)(fb : ua want u = true := by rfl)(hd : d < N.n := by decide)(HQ : dd < N.n := by decide) :
  aS P N all (⟨some dd,op,ty,pos,af,some (j,want)⟩ :: rest) st Q:=aS.aN hj hd HQ hx fb k
theorem aS.pk{c a b : Operand}{v : Bool}(k : aS P N all rest (st.put d y) Q)(hc : bW st c = some (.v (.bool v)) := by rfl)(hz : bW st (if v then a else b) = some y := by rfl)(hf : y.free = true := by rfl)(hd : d < N.n := by decide) :
  aS P N all (⟨some d,.pick c a b,ty,pos,af,none⟩ :: rest) st Q:=aS.val (Y.zo hc hz hf) hd k
theorem aS.fa{t : TypeId}{a : Operand}{f off : Nat}{ft : TypeId}(ht : TY.jH P t f = some (off, ft))(k : aS P N all rest (st.put d q) Q)(hx : bW st a = some p := by rfl)(hq : p.on off = some q := by rfl)(hd : d < N.n := by decide) :
  aS P N all (⟨some d,.fieldAddr t a f,ty,pos,af,none⟩ :: rest) st Q:=aS.val (Y.qp ht hx hq) hd k
end
theorem gd.c{α:Type}{l l':List (Nat × α)}{s:Nat}{x:α}(hr:gd l l')(h:look l s = some x:=by rfl):gd l ((s,x) :: l'):=gd.cons h hr
theorem gd.c2{α:Type}{l l':List (Nat × α)}{s t:Nat}{x y:α}(hr:gd l l')(h:look l s = some x:=by rfl)(h1:look l t = some y:=by rfl):gd l ((s,x) :: (t,y) :: l'):=gd.cons h (gd.cons h1 hr)
theorem gd.c4{α:Type}{l l':List (Nat × α)}{s t s1 t1:Nat}{x y x1 y1:α}(hr:gd l l')(h:look l s = some x:=by rfl)(h1:look l t = some y:=by rfl)(h2:look l s1 = some x1:=by rfl)(h3:look l t1 = some y1:=by rfl):gd l ((s,x) :: (t,y) :: (s1,x1) :: (t1,y1) :: l'):=gd.c2 (gd.c2 hr h2 h3) h h1
theorem gd.c8{α:Type}{l l':List (Nat × α)}{s t s1 t1 s2 t2 s3 t3:Nat}{x y x1 y1 x2 y2 x3 y3:α}(hr:gd l l')(h:look l s = some x:=by rfl)(h1:look l t = some y:=by rfl)(h2:look l s1 = some x1:=by rfl)(h3:look l t1 = some y1:=by rfl)(h4:look l s2 = some x2:=by rfl)(h5:look l t2 = some y2:=by rfl)(h6:look l s3 = some x3:=by rfl)(h7:look l t3 = some y3:=by rfl):gd l ((s,x) :: (t,y) :: (s1,x1) :: (t1,y1) :: (s2,x2) :: (t2,y2) :: (s3,x3) :: (t3,y3) :: l'):=gd.c4 (gd.c4 hr h4 h5 h6 h7) h h1 h2 h3
theorem fk{α β:Type}{f:α -> β}{l:List α}:some (l.map f).length = some l.length:=congrArg some (List.length_map ..)
theorem Ends.rb{P:Program}{oh:List ResultVar}{st:St}{b b':Bool}(h0:kF P st oh = some [.v (.bool b)])(h:b = b'):Ends P oh ([]:List Obj).length (fun r o=>r = .v (.bool b') /\ o = []) .ret st:=⟨_,_,h0,rfl,by rw [h]; exact ⟨rfl,rfl⟩⟩
theorem Ends.ri{P:Program}{oh:List ResultVar}{st:St}{k:IntKind}{b b':Int}(h0:kF P st oh = some [.v (.int k b)])(h:b = b'):Ends P oh ([]:List Obj).length (fun r o=>r = .v (.int k b') /\ o = []) .ret st:=⟨_,_,h0,rfl,by rw [h]; exact ⟨rfl,rfl⟩⟩
end Go.AW
namespace Go.AW
open Go
theorem Db{a:Int}(h:(Lit.int .u8 a).wf = true):∃ n:Nat,a = (n:Int) /\ n < 256:=by
 have h1:=(Lit.wf_int_iff .u8 a).1 h
 simp only [IntKind.min,IntKind.max,IntKind.signed,IntKind.bits] at h1
 exact ⟨a.toNat,by simp at h1; omega,by simp at h1; omega⟩
end Go.AW
namespace Go.AW
open Go
end Go.AW
namespace Go.AW
open Go
section
variable {P:Program} {N:eZ} {st:St} {dst:Option Nat} {ty:TypeId} {pos:String} {af:Array Edge} {g:Option (Nat × Bool)}
end
end Go.AW
namespace Go.AW
open Go
theorem b6.Fs{E E' : Env}{x y : X}{o : Nat}(hβ : ∀ q, q ≠ o → E'.β q = E.β q)(hf : x.free = true) : ∀ {xs : List X} {cs : List Value} {R : List Nat} {k : Nat}, b6 E xs cs R → xs[k]? = some x → E.On E' R → X.cw o (xs.set k .no) = false →
  ∃ c Ra Rb,R = Ra ++ Rb /\ RX E x c [] /\ ∀ R1,RX E' y c R1 -> b6 E' (xs.set k y) cs (Ra ++ (R1 ++ Rb))
 | [],_,_,_,_,h,_,_=>by simp at h
 | z :: r,cs,R,0,h,hy,hE,hm=>by
  simp only [b6] at h
  obtain ⟨c,dg,R₁,R₂,rfl,hs,h1,h2,rfl⟩:=h
  simp only [List.getElem?_cons_zero,Option.some.injEq] at hy
  subst hy
  have h0:=RX.free hf h1
  subst h0
  simp only [List.set,X.cw,Bool.or_eq_false_iff] at hm
  refine ⟨c,[],R₂,rfl,h1,fun R1 h3=>?_⟩
  simp only [List.set,b6,List.nil_append]
  exact ⟨c,dg,R1,R₂,rfl,hs,h3,b6.mono _ _ _ hE (fun q hq=>hβ q (fun e=>by rw [e,hm.2] at hq; cases hq)) h2,rfl⟩
 | z :: r,cs,R,k + 1,h,hy,hE,hm=>by
  simp only [b6] at h
  obtain ⟨c0,dg,R₁,R₂,rfl,hs,h1,h2,rfl⟩:=h
  simp only [List.getElem?_cons_succ] at hy
  simp only [List.set,X.cw,Bool.or_eq_false_iff] at hm
  obtain ⟨c,Ra,Rb,rfl,hc,hk⟩:=b6.Fs hβ hf h2 hy (hE.sub (fun _ h=>List.mem_append.2 (.inr h))) hm.2
  refine ⟨c,R₁ ++ Ra,Rb,by rw [List.append_assoc],hc,fun R1 h3=>?_⟩
  simp only [List.set,b6]
  exact ⟨c0,dg,R₁,Ra ++ (R1 ++ Rb),rfl,hs,RX.mono _ _ _ (hE.sub (fun _ h=>List.mem_append.2 (.inl h))) (fun q hq=>hβ q (fun e=>by rw [e,hm.1] at hq; cases hq)) h1,hk R1 h3,by rw [List.append_assoc]⟩
theorem b6.JR{E : Env}{x y : X}{o : Nat} : ∀ {xs : List X} {cs : List Value} {R : List Nat} {k : Nat}, b6 E xs cs R → xs[k]? = some x → X.cw o (xs.set k .no) = false →
  ∃ c Ra R0 Rb,R = Ra ++ (R0 ++ Rb) /\ RX E x c R0 /\ ∀ (E':Env),(∀ q,q ≠ o -> E'.β q = E.β q) -> E.On E' R -> ∀ R1,RX E' y c R1 -> b6 E' (xs.set k y) cs (Ra ++ (R1 ++ Rb))
 | [],_,_,_,_,h,_=>by simp at h
 | z :: r,cs,R,0,h,hy,hm=>by
  simp only [b6] at h
  obtain ⟨c,dg,R₁,R₂,rfl,hs,h1,h2,rfl⟩:=h
  simp only [List.getElem?_cons_zero,Option.some.injEq] at hy
  subst hy
  simp only [List.set,X.cw,Bool.or_eq_false_iff] at hm
  refine ⟨c,[],R₁,R₂,rfl,h1,fun E' hβ hE R1 h3=>?_⟩
  simp only [List.set,b6,List.nil_append]
  exact ⟨c,dg,R1,R₂,rfl,hs,h3,b6.mono _ _ _ (hE.sub (fun _ h=>List.mem_append.2 (.inr h))) (fun q hq=>hβ q (fun e=>by rw [e,hm.2] at hq; cases hq)) h2,rfl⟩
 | z :: r,cs,R,k + 1,h,hy,hm=>by
  simp only [b6] at h
  obtain ⟨c0,dg,R₁,R₂,rfl,hs,h1,h2,rfl⟩:=h
  simp only [List.getElem?_cons_succ] at hy
  simp only [List.set,X.cw,Bool.or_eq_false_iff] at hm
  obtain ⟨c,Ra,R0,Rb,rfl,hc,hk⟩:=b6.JR (y:=y) h2 hy hm.2
  refine ⟨c,R₁ ++ Ra,R0,Rb,by rw [List.append_assoc],hc,fun E' hβ hE R1 h3=>?_⟩
  simp only [List.set,b6]
  exact ⟨c0,dg,R₁,Ra ++ (R1 ++ Rb),rfl,hs,RX.mono _ _ _ (hE.sub (fun _ h=>List.mem_append.2 (.inl h))) (fun q hq=>hβ q (fun e=>by rw [e,hm.1] at hq; cases hq)) h1,hk E' hβ (hE.sub (fun _ h=>List.mem_append.2 (.inr h))) R1 h3,by rw [List.append_assoc]⟩
section
variable {N:eZ} {st:St} {d:Nat}
theorem Sh.P2(k o : Nat){s n : Nat}{xs : List X}{rows : List (List X)}(hx : look st.aC d = some (.agg xs))(hk : xs[k]? = some (.aR o s 0 n))(ho : look st.aD o = some (.rows s rows))(hl : n = rows.length)(hm : X.cw o (xs.set k .no) = false)(hF : N.F.elem o = false) :
  Sh N st (((st.kill o).de o (.rows 0 [])).put d (.agg (xs.set k (.dn s rows)))):=by
 intro G hn a w hh
 obtain ⟨E,RR,rfl,hi⟩:=hh
 subst hl
 have hv:=hi.aC d _ hx
 have aY:=hi.aD o _ ho
 have js:=hi.nodup (.obj o)
 have xE:=hi.nodup (.slot d)
 simp only [RX] at hv
 obtain ⟨cs,ve,gf⟩:=hv
 simp only [dh] at aY
 obtain ⟨hu,aY⟩:=aY
 have hβ:di G E { E with β:=fun q=>if q = o then none else E.β q } (fun _=>False) :=
  ⟨rfl,fun _ h=>h.elim,fun _ h=>h.elim,fun _ _ _=>rfl,Nat.le_refl _,rfl,rfl,rfl⟩
 have h4 := hi.ln hβ (o := o) (ob := .rows 0 []) (R := []) (fun _ h => h.elim) (fun q hq => by simp [hq]) (fun h => by rw [hn, hF] at h; cases h)
  (by simp only [dh]; exact ⟨fun _ h=>(by cases h),.inl ⟨by simp,trivial,trivial⟩⟩) List.nodup_nil (fun _ h=>by cases h)
 have g9:∀ R',E.On { E with β:=fun q=>if q = o then none else E.β q } R':=fun R'=>⟨fun _ _ _ h=>h,fun _ _=>⟨rfl,fun h=>h⟩⟩
 obtain ⟨c,Ra,Rb,yn,P3,wo⟩:=b6.Fs (E':={ E with β:=fun q=>if q = o then none else E.β q }) (y:=.dn s rows) (o:=o) (fun q hq=>by simp [hq]) rfl gf hk (g9 _) hm
 simp only [RX] at P3
 obtain ⟨_,base,cap,hc,cX⟩:=P3
 have NJ:∃ R,RX { E with β:=fun q=>if q = o then none else E.β q } (.dn s rows) c R /\ R.Nodup /\ ∀ b ∈ R,b ∈ RR (.obj o):=by
  simp only [RX]
  rcases aY with ⟨h1,h2,h3⟩ | ⟨B,cs,ty,R',hB,hw,hφ,kS,fB,jF,gK⟩
  ·rcases cX with ⟨_,_,_,h5⟩ | ⟨B,hB,_⟩
   ·exact ⟨[],⟨hu,base,cap,hc,.inl ⟨h2,h5,rfl⟩⟩,List.nodup_nil,fun _ h=>by cases h⟩
   ·rw [h1] at hB; cases hB
  ·rcases cX with ⟨h1,_⟩ | ⟨B',iI,zL,rY,hb⟩
   ·rw [hB] at h1; cases h1
   ·rw [hB] at iI
    obtain rfl:=Option.some.inj iI
    rcases hb with hb | hb
    ·refine ⟨[],⟨hu,base,cap,hc,.inl ⟨List.eq_nil_of_length_eq_zero om,hb,rfl⟩⟩,List.nodup_nil,fun _ h=>by cases h⟩
    ·refine ⟨RR (.obj o),⟨hu,base,cap,hc,.inr ⟨B.b,B.off,cs,ty,R',by simpa using hb,hw,om,by rw [show cap = B.cap by omega]; exact fB,hφ,cE.mono _ _ _ _ (g9 R') jF,gK⟩⟩,js,fun _ h=>h⟩
 obtain ⟨R,sf,xB,HD⟩:=NJ
 have ti:∀ b ∈ Ra ++ (R ++ Rb),b ∈ RR (.slot d) \/ b ∈ RR (.obj o):=by
  intro b hb
  rcases List.mem_append.1 hb with h | h
  ·exact .inl (by rw [yn]; exact List.mem_append.2 (.inl h))
  ·rcases List.mem_append.1 h with h | h
   ·exact .inr (HD b h)
   ·exact .inl (by rw [yn]; exact List.mem_append.2 (.inr h))
 have Ld:∀ b ∈ RR (.slot d),b ∉ RR (.obj o):=fun b hb=>hi.apart (.slot d) (.obj o) (by simp) b hb
 rw [yn] at xE Ld
 obtain ⟨m1,m2,m3⟩:=List.nodup_append.1 xE
 refine ⟨{ E with β:=fun q=>if q = o then none else E.β q },_,rfl,h4.relabel (d:=d) (R:=Ra ++ (R ++ Rb)) ?_ ?_ (fun c hc=>?_)⟩
 ·simp only [RX]
  exact ⟨cs,ve,wo R sf⟩
 ·rw [List.nodup_append,List.nodup_append]
  refine ⟨m1,⟨xB,m2,fun x hx y hy e=>Ld y (List.mem_append.2 (.inr hy)) (by rw [<- e]; exact HD x hx)⟩,fun x hx y hy e=>?_⟩
  rcases List.mem_append.1 hy with h | h
  ·exact Ld x (List.mem_append.2 (.inl hx)) (by rw [e]; exact HD y h)
  ·exact m3 x hx y h e
 ·have mH:c < E.w.heap.size /\ ¬ G.K c:=by rcases ti c hc with h | h <;> exact hi.own _ _ h
  refine ⟨mH.1,mH.2,fun p hp lN=>?_⟩
  have key:∀ q,q ≠ .slot d -> q ≠ .obj o -> c ∉ RR q:=by
   intro q h1 h2 h3
   rcases ti c hc with h | h
   ·exact hi.apart q (.slot d) h1 c h3 h
   ·exact hi.apart q (.obj o) h2 c h3 h
  cases p with
  | obj q =>
   by_cases hq:q = o
   ·subst hq; simp [fc] at lN
   ·have:c ∈ RR (.obj q):=by simpa [fc,hq] using lN
    exact key (.obj q) (by simp) (by simpa using hq) this
  | slot q =>
   rcases iY st RR o [] q with h | h
   ·rw [h] at lN; cases lN
   ·rw [h] at lN; exact key (.slot q) hp (by simp) lN
theorem Sh.P4(k o : Nat){s : Nat}{xs : List X}{rows : List (List X)}(hx : look st.aC d = some (.agg xs))(hk : xs[k]? = some (.dn s rows))(hm : X.cw o (xs.set k .no) = false)(hF : N.F.elem o = false) :
  Sh N st (((st.kill o).de o (.rows s rows)).put d (.agg (xs.set k (.aR o s 0 rows.length)))):=by
 intro G hn a w hh
 obtain ⟨E,RR,rfl,hi⟩:=hh
 have hv:=hi.aC d _ hx
 have js:=hi.nodup (.slot d)
 simp only [RX] at hv
 obtain ⟨R5,ve,gf⟩:=hv
 have lM:=hi.no d
 have MN:∀ b ∈ RR (.slot d),b < E.w.heap.size /\ ¬ G.K b /\ ∀ p,b ∉ fA RR (.slot d) [] p:=by
  intro b hb
  refine ⟨(hi.own _ _ hb).1,(hi.own _ _ hb).2,fun p hp=>?_⟩
  unfold fA at hp
  split at hp
  ·cases hp
  ·rename_i h; exact hi.apart _ _ h b hp hb
 have g9:∀ (bk:Option zI) R',E.On { E with β:=fun q=>if q = o then bk else E.β q } R':=fun _ R'=>⟨fun _ _ _ h=>h,fun _ _=>⟨rfl,fun h=>h⟩⟩
 have hβ:∀ (bk:Option zI),di G E { E with β:=fun q=>if q = o then bk else E.β q } (fun _=>False):=fun _ =>
  ⟨rfl,fun _ h=>h.elim,fun _ h=>h.elim,fun _ _ _=>rfl,Nat.le_refl _,rfl,rfl,rfl⟩
 have fin : ∀ (bk : Option zI) (Ra R0 Rb : List Nat), RR (.slot d) = Ra ++ (R0 ++ Rb) → dh { E with β := fun q => if q = o then bk else E.β q } o (.rows s rows) R0 → b6 { E with β := fun q => if q = o then bk else E.β q } (xs.set k (.aR o s 0 rows.length)) R5.toList (Ra ++ ([] ++ Rb)) →
   cF G (((st.kill o).de o (.rows s rows)).put d (.agg (xs.set k (.aR o s 0 rows.length)))) a E.w:=by
  intro bk Ra R0 Rb hR aY o8
  rw [hR] at js
  obtain ⟨m1,m2,m3⟩:=List.nodup_append.1 js
  obtain ⟨m4,m5,m6⟩:=List.nodup_append.1 m2
  have h4 := lM.ln (hβ bk) (o := o) (ob := .rows s rows) (R := R0) (fun _ h => h.elim) (fun q hq => by simp [hq]) (fun h => by rw [hn, hF] at h; cases h) aY m4
   (fun c hc=>by
    obtain ⟨a1,a2,a3⟩:=MN c (by rw [hR]; simp [hc])
    exact ⟨a1,a2,fun p _=>a3 p⟩)
  have h5 := h4.relabel (d := d) (x := .agg (xs.set k (.aR o s 0 rows.length))) (R := Ra ++ ([] ++ Rb)) (by simp only [RX]; exact ⟨R5, ve, o8⟩)
   (by
    rw [List.nil_append,List.nodup_append]
    exact ⟨m1,m5,fun x hx y hy=>m3 x hx y (List.mem_append.2 (.inr hy))⟩)
   (fun c hc=>by
    have Kt:c ∈ RR (.slot d):=by
     rw [hR]
     rcases List.mem_append.1 hc with h | h
     ·exact List.mem_append.2 (.inl h)
     ·exact List.mem_append.2 (.inr (List.mem_append.2 (.inr (by simpa using h))))
    have JS:c ∉ R0:=by
     intro h0
     rcases List.mem_append.1 hc with h | h
     ·exact m3 c h c (List.mem_append.2 (.inl h0)) rfl
     ·exact m6 c h0 c (by simpa using h) rfl
    obtain ⟨a1,a2,a3⟩:=MN c Kt
    refine ⟨a1,a2,fun p hp lN=>?_⟩
    cases p with
    | obj q =>
     by_cases hq:q = o
     ·subst hq; exact JS (by simpa [fc] using lN)
     ·exact a3 (.obj q) (by simpa [fc,hq] using lN)
    | slot q =>
     rcases iY (st.put d .no) (fA RR (.slot d) []) o R0 q with h | h
     ·rw [h] at lN; cases lN
     ·rw [h] at lN; exact a3 _ lN)
  refine ⟨{ E with β:=fun q=>if q = o then bk else E.β q },_,rfl,{ h5 with aC:=fun q y hy=>h5.aC q y ?_,aD:=fun q y hy=>h5.aD q y hy }⟩
  simp only [St.put,St.de,St.kill,tP,List.map_cons,look] at hy ⊢
  cases hb:Nat.beq d q with
  | true=>rw [hb] at hy; simpa using hy
  | false=>rw [hb] at hy; simpa using hy
 obtain ⟨c0,Ra,R0,Rb,hR,JS,wo⟩:=b6.JR (y:=.aR o s 0 rows.length) (o:=o) gf hk hm
 simp only [RX] at JS
 obtain ⟨hu,base,cap,hc,cX⟩:=JS
 rcases cX with ⟨h1,h2,h3⟩ | ⟨b,off,cs,ty,R',hb,hw,hl,ho,hφ,jF,gK⟩
 ·refine fin none Ra R0 Rb hR ?_ (wo _ (fun q hq=>by simp [hq]) (g9 none _) [] ?_)
  ·simp only [dh]; exact ⟨hu,.inl ⟨by simp,h1,h3⟩⟩
  ·simp only [RX]; exact ⟨trivial,base,cap,hc,.inl ⟨by simp,trivial,by simp [h1],h2⟩⟩
 ·refine fin (some ⟨b,off,cap⟩) Ra R0 Rb hR ?_ (wo _ (fun q hq=>by simp [hq]) (g9 _ _) [] ?_)
  ·simp only [dh]; exact ⟨hu,.inr ⟨⟨b,off,cap⟩,cs,ty,R',by simp,hw,hφ,hl,ho,cE.mono _ _ _ _ (g9 _ _) jF,gK⟩⟩
  ·simp only [RX]; exact ⟨trivial,base,cap,hc,.inr ⟨⟨b,off,cap⟩,by simp,by simp,hl,.inr (by simpa using hb)⟩⟩
end
end Go.AW
namespace Go.AW
open Go
section
variable {P:Program} {N:eZ} {st:St} {dst:Option Nat} {ty:TypeId} {pos:String} {af:Array Edge} {g:Option (Nat × Bool)}
theorem aw.bin{op : BinOp}{t t' : TypeId}{x y : Operand}{u v r : Value}(hx : bW st x = some (.v u))(hy : bW st y = some (.v v))
  (hr:∀ w,(do eqGuard op t x y u v; binOp op t u v:Sem Value).run P w = .ok r w):aw P N st ⟨dst,.binOp op t x y t',ty,pos,af,g⟩ (.v r):=by
 intro G E RR a _ hi
 refine ⟨r,fun w=>?_,by simp [RX]⟩
 show (do let x <- (do eqGuard op t x y (a.eval x) (a.eval y); binOp op t (a.eval x) (a.eval y):Sem Value); pure (Next.value x):Sem Next).run P w = _
 rw [hi.val hx,hi.val hy]
 exact dN (hr _)
section ints
variable {t t':TypeId} {x y:Operand} {k:IntKind} {a b r:Int}
theorem aw.add(hx:bW st x = some (.v (.int k a)))(hy:bW st y = some (.v (.int k b)))(hr:k.wrap (a + b) = r):aw P N st ⟨dst,.binOp .add t x y t',ty,pos,af,g⟩ (.v (.int k r)) :=
 aw.bin hx hy fun w=>by subst hr; simp [eqGuard,binOp,Op.intArith]
theorem aw.sub(hx:bW st x = some (.v (.int k a)))(hy:bW st y = some (.v (.int k b)))(hr:k.wrap (a - b) = r):aw P N st ⟨dst,.binOp .sub t x y t',ty,pos,af,g⟩ (.v (.int k r)) :=
 aw.bin hx hy fun w=>by subst hr; simp [eqGuard,binOp,Op.intArith]
theorem aw.mul(hx:bW st x = some (.v (.int k a)))(hy:bW st y = some (.v (.int k b)))(hr:k.wrap (a * b) = r):aw P N st ⟨dst,.binOp .mul t x y t',ty,pos,af,g⟩ (.v (.int k r)) :=
 aw.bin hx hy fun w=>by subst hr; simp [eqGuard,binOp,Op.intArith]
theorem aw.rem(hx:bW st x = some (.v (.int k a)))(hy:bW st y = some (.v (.int k b)))(h0:b ≠ 0)(hr:a.tmod b = r):aw P N st ⟨dst,.binOp .rem t x y t',ty,pos,af,g⟩ (.v (.int k r)) :=
 aw.bin hx hy fun w=>by subst hr; simp [eqGuard,binOp,Op.intDiv,h0]
theorem aw.lss(hx:bW st x = some (.v (.int k a)))(hy:bW st y = some (.v (.int k b))):aw P N st ⟨dst,.binOp .lss t x y t',ty,pos,af,g⟩ (.v (.bool (decide (a < b)))) :=
 aw.bin hx hy fun w=>by simp [eqGuard,binOp,Op.intCmp]
theorem aw.leq(hx:bW st x = some (.v (.int k a)))(hy:bW st y = some (.v (.int k b))):aw P N st ⟨dst,.binOp .leq t x y t',ty,pos,af,g⟩ (.v (.bool (decide (a <= b)))) :=
 aw.bin hx hy fun w=>by simp [eqGuard,binOp,Op.intCmp]
theorem aw.gtr(hx:bW st x = some (.v (.int k a)))(hy:bW st y = some (.v (.int k b))):aw P N st ⟨dst,.binOp .gtr t x y t',ty,pos,af,g⟩ (.v (.bool (decide (b < a)))) :=
 aw.bin hx hy fun w=>by simp [eqGuard,binOp,Op.intCmp]
theorem aw.geq(hx:bW st x = some (.v (.int k a)))(hy:bW st y = some (.v (.int k b))):aw P N st ⟨dst,.binOp .geq t x y t',ty,pos,af,g⟩ (.v (.bool (decide (b <= a)))) :=
 aw.bin hx hy fun w=>by simp [eqGuard,binOp,Op.intCmp]
theorem aw.eql(hx:bW st x = some (.v (.int k a)))(hy:bW st y = some (.v (.int k b))):aw P N st ⟨dst,.binOp .eql t x y t',ty,pos,af,g⟩ (.v (.bool (decide (a = b)))) :=
 aw.bin hx hy fun w=>by simp [eqGuard,binOp,Op.intCmp,BEq.beq]
theorem aw.neq(hx:bW st x = some (.v (.int k a)))(hy:bW st y = some (.v (.int k b))):aw P N st ⟨dst,.binOp .neq t x y t',ty,pos,af,g⟩ (.v (.bool (decide (a ≠ b)))) :=
 aw.bin hx hy fun w=>by simp [eqGuard,binOp,Op.intCmp,bne,BEq.beq]
end ints
theorem aw.un{op:UnOp}{t:TypeId}{x:Operand}{u r:Value}(hx:bW st x = some (.v u))(hr:∀ w,(Op.unary op u).run P w = .ok r w):aw P N st ⟨dst,.unOp op t x,ty,pos,af,g⟩ (.v r):=by
 intro G E RR a _ hi
 refine ⟨r,fun w=>?_,by simp [RX]⟩
 show (do let x <- Op.unary op (a.eval x); pure (Next.value x):Sem Next).run P w = _
 rw [hi.val hx]
 exact dN (hr _)
theorem aw.not{t:TypeId}{x:Operand}{b:Bool}(hx:bW st x = some (.v (.bool b))):aw P N st ⟨dst,.unOp .not t x,ty,pos,af,g⟩ (.v (.bool (!b))) :=
 aw.un hx fun _=>rfl
theorem aw.conv{s d : TypeId}{x : Operand}{k k' : IntKind}{n r : Int}(hs : TY.isInt P s = some k')(hd : TY.isInt P d = some k)(hx : bW st x = some (.v (.int k' n)))(hr : k.wrap n = r) :
  aw P N st ⟨dst,.convert s d x,ty,pos,af,g⟩ (.v (.int k r)):=by
 intro G E RR a _ hi
 refine ⟨.int k r,fun w=>?_,by simp [RX]⟩
 show (do let x <- convert s d (a.eval x); pure (Next.value x):Sem Next).run P w = _
 rw [hi.val hx]
 refine dN ?_
 have h1:P.underlying s = some (.int k'):=by unfold TY.isInt at hs; split at hs <;> simp_all
 have h2:P.underlying d = some (.int k):=by unfold TY.isInt at hd; split at hd <;> simp_all
 simp [convert,run_underlying h1,run_underlying h2,Conv.intToInt,hr]
section
variable {t t':TypeId} {x y:Operand} {a b:Int}
theorem aw.It(hx:bW st x = some (.v (.int .i64 a)))(hy:bW st y = some (.v (.int .i64 b)))(hr:-9223372036854775808 <= a + b /\ a + b <= 9223372036854775807):aw P N st ⟨dst,.binOp .add t x y t',ty,pos,af,g⟩ (.v (.int .i64 (a + b))) :=
 aw.add hx hy (IntWalk.i64_in _ hr)
theorem aw.P5(hx:bW st x = some (.v (.int .i64 a)))(hy:bW st y = some (.v (.int .i64 b)))(hr:-9223372036854775808 <= a - b /\ a - b <= 9223372036854775807):aw P N st ⟨dst,.binOp .sub t x y t',ty,pos,af,g⟩ (.v (.int .i64 (a - b))) :=
 aw.sub hx hy (IntWalk.i64_in _ hr)
theorem aw.Tn(hx:bW st x = some (.v (.int .i64 a)))(hy:bW st y = some (.v (.int .i64 b)))(hr:-9223372036854775808 <= a * b /\ a * b <= 9223372036854775807):aw P N st ⟨dst,.binOp .mul t x y t',ty,pos,af,g⟩ (.v (.int .i64 (a * b))) :=
 aw.mul hx hy (IntWalk.i64_in _ hr)
theorem aw.Ft{k:IntKind}(hx:bW st x = some (.v (.int k a)))(hy:bW st y = some (.v (.int k b)))(hr:0 <= a /\ 1 <= b):aw P N st ⟨dst,.binOp .rem t x y t',ty,pos,af,g⟩ (.v (.int k (a % b))) :=
 aw.rem hx hy om (IntWalk.rem_in a b hr.1)
end
theorem aw.vI{s d : TypeId}{x : Operand}{k k' : IntKind}{n : Int}(hs : TY.isInt P s = some k')(hd : TY.isInt P d = some k)(hx : bW st x = some (.v (.int k' n)))(hr : k.wrap n = n) :
  aw P N st ⟨dst,.convert s d x,ty,pos,af,g⟩ (.v (.int k n)):=aw.conv hs hd hx hr
theorem aw.len{t e s dJ : Nat}{x : Operand}{y : X}{n : Nat}(ht : TY.slice P t = some (e, s, dJ))(hx : bW st x = some y)(hn : y.len = some n) :
  aw P N st ⟨dst,.call ⟨.builtin .len,#[x],#[t]⟩,ty,pos,af,g⟩ (.v (.int .i64 (n:Int))):=by
 intro G E RR a _ hi
 obtain ⟨R,hp⟩:=hi.eval hx
 obtain ⟨base,cap,hc⟩:=hp.len hn
 refine ⟨.int .i64 (n:Int),fun w=>jg ?_,by simp [RX]⟩
 obtain ⟨hu,_⟩:=TY.dP ht
 simp [builtin,Builtin.len_,hc,run_underlying hu,goInt]
theorem aw.j6{t e s dJ : Nat}{x ix : Operand}{rows : List (List X)}{row : List X}{k : IntKind}{n : Int}{m : Nat}(ht : TY.slice P t = some (e, s, dJ))(hx : bW st x = some (.fz s rows))
  (x4:bW st ix = some (.v (.int k n))) (hn:n = (m:Int)) (hr:rows[m]? = some row):aw P N st ⟨dst,.indexAddr t x ix,ty,pos,af,g⟩ (.fp row 0):=by
 intro G E RR a _ hi
 obtain ⟨R,hp⟩:=hi.eval hx
 have hm:m < rows.length:=by
  rcases Nat.lt_or_ge m rows.length with h' | h'
  ·exact h'
  ·simp [List.getElem?_eq_none h'] at hr
 simp only [RX] at hp
 obtain ⟨_,hu,base,cap,hc,h⟩:=hp
 rcases h with ⟨h,_⟩ | ⟨b,off,rfl,hl,hf⟩
 ·subst h; simp at hr
 ·refine ⟨.pointer (some ⟨b,off + m * s,none⟩),fun w=>?_,?_⟩
  ·show (do let z <- Instr.indexAt t (a.eval x) (a.eval ix); pure (Next.value z):Sem Next).run P w = _
   rw [hc,hi.val x4]
   exact dN (lP ht hn hm w)
  ·simp only [RX]
   exact ⟨trivial,b,off + m * s,rfl,kD.get hu hf hr⟩
theorem aw.uy{t e s dJ : Nat}{x ix : Operand}{o lo len : Nat}{k : IntKind}{n : Int}{m : Nat}(ht : TY.slice P t = some (e, s, dJ))(hx : bW st x = some (.aR o s lo len))
  (x4:bW st ix = some (.v (.int k n))) (hn:n = (m:Int)) (hm:m < len):aw P N st ⟨dst,.indexAddr t x ix,ty,pos,af,g⟩ (.ptr o s (lo + m) 0):=by
 intro G E RR a _ hi
 obtain ⟨R,hp⟩:=hi.eval hx
 simp only [RX] at hp
 obtain ⟨_,base,cap,hc,h⟩:=hp
 rcases h with ⟨_,_,h,_⟩ | ⟨B,hB,_,hl,hb⟩
 ·omega
 ·have gY:base = some ⟨B.b,B.off + lo * s,none⟩:=hb.resolve_left om
  subst gY
  refine ⟨.pointer (some ⟨B.b,B.off + lo * s + m * s,none⟩),fun w=>?_,?_⟩
  ·show (do let z <- Instr.indexAt t (a.eval x) (a.eval ix); pure (Next.value z):Sem Next).run P w = _
   rw [hc,hi.val x4]
   exact dN (lP ht hn hm w)
  ·simp only [RX]
   exact ⟨trivial,B,hB,by rw [Nat.add_mul]; simp [Nat.add_assoc]⟩
theorem aw.l9{t len e s : Nat}{x ix : Operand}{p q : X}{k : IntKind}{n : Int}{m : Nat}(ht : TY.array P t = some (len, e, s))(hx : bW st x = some p)
  (x4:bW st ix = some (.v (.int k n))) (hn:n = (m:Int)) (hm:m < len) (hq:p.on (m * s) = some q):aw P N st ⟨dst,.indexAddr t x ix,ty,pos,af,g⟩ q:=by
 intro G E RR a _ hi
 obtain ⟨R,hp⟩:=hi.eval hx
 obtain ⟨b,o,hc,h⟩:=hp.on hq
 refine ⟨_,fun w=>?_,h⟩
 show (do let z <- Instr.indexAt t (a.eval x) (a.eval ix); pure (Next.value z):Sem Next).run P w = _
 rw [hc,hi.val x4]
 refine dN ?_
 obtain ⟨hu,i,ia,hs⟩:=TY.nv ht
 subst hn
 simp [Instr.indexAt,Instr.sureAddr,asIntOf,run_underlying hu,hm,run_sizeOf ia,hs,iu]
end
end Go.AW
namespace Go.AW
open Go
section
variable {P:Program} {N:eZ} {st:St} {ops:Array Oper} {d:Nat} {ty:TypeId} {pos:String} {af:Array Edge} {K:St -> Prop}
def SG(G:Ctx)(w:World):Prop:=(∀ b,G.K b -> w.heap[b]? = G.w0.heap[b]?) /\ ∀ b i v,G.φ0 b i = some v -> w.cell? ⟨b,i,none⟩ = some v
theorem cF.sg{G:Ctx}{a:Act}{w:World}(h:cF G st a w):SG G w:=by
  obtain ⟨E,RR,rfl,hi⟩:=h
  exact ⟨hi.ai,fun b i v hv=>hi.lh b i v (hi.φ0 b i v hv)⟩
def mx(G:Ctx)(E:Env)(L:List Nat)(T:Nat -> List Nat)(F':List Nat):Ctx:=⟨fun b=>G.K b \/ ∃ o,o ∈ L /\ b ∈ T o,E.w,E.φ,E.β,⟨G.fn.n,F'⟩,G.ds⟩
def da(P:Program)(N:eZ)(ops:Array Oper)(n:Nat)(ah:Array Bool)(st:St)(K:St -> Prop):Prop :=
  ∀ G:Ctx,G.fn = N -> ∀ a w,cF G st a w -> wpAnyH P .any ops (fun e a w=>e = .normal /\ ∃ aW,K aW /\ cF G aW a w) (SG G) n ah a w
def cf(P:Program)(N:eZ)(L F':List Nat)(ops:Array Oper)(n:Nat)(ah:Array Bool)(st:St)(K:St -> Prop):Prop :=
  ∀ G : Ctx, G.fn = N → ∀ E RR a (T : Nat → List Nat), (∀ o ∈ L, RR (.obj o) = T o) → Inv G E RR st a →
    wpAnyH P .any ops (fun e a w=>e = .normal /\ ∃ aW,K aW /\ cF G aW a w) (SG (mx G E L T F')) n ah a E.w
theorem Inv.Iu{G:Ctx}{E:Env}{RR:Own -> List Nat}{a:Act}(hi:Inv G E RR st a)(L:List Nat)(T:Nat -> List Nat)(F':List Nat):SG (mx G E L T F') E.w:=⟨fun _ _=>rfl,hi.lh⟩
theorem cf.blind{L F' : List Nat}{n : Nat}{ah : Array Bool}(i : Nat){op : Op}{x : X}(ho : ops[i]? = some ⟨some d, op, ty, pos, af, none⟩)
    (hB:(Region.noSelect ops && Region.free .any ops ah i && (Region.ready .any ops ah).contains i) = true) (hy:aw P N st ⟨some d,op,ty,pos,af,none⟩ x) (hd:d < N.n)
    (k:cf P N L F' ops n (ah.setIfInBounds i true) (st.put d x) K):cf P N L F' ops (n + 1) ah st K:=by
  intro G hn E RR a T hT hi
  obtain ⟨u,hr,hx⟩:=hy G E RR a hn hi
  simp only [Bool.and_eq_true] at hB
  refine wpAnyH_take (v:=u) ho hB.1.1 hB.1.2 hB.2 ?_ (.inl ⟨by simp [Region.wanted],fun w _=>hr w⟩) (hi.Iu L T F') (k G hn E _ _ T ?_ (hi.gZ (hn ▸ hd) hx))
  · intro c a w h
    cases h.1
  · intro o ho
    have:=hT o ho
    simpa [fA] using this
def vJ(L : List Nat) : X → Bool
  | .fp ..=>true
  | .ptr o ..=>L.elem o
  | _=>false
theorem Inv.held{G : Ctx}{E : Env}{RR : Own → List Nat}{a : Act}{L F' : List Nat}{T : Nat → List Nat}(hi : Inv G E RR st a)(hT : ∀ o ∈ L, RR (.obj o) = T o){p : X}{c : Value}{R : List Nat}{row : List X}
    (hp:RX E p c R) (hr:rowAt st p = some row) (hL:vJ L p = true) :
    ∃ b off,c = .pointer (some ⟨b,off + lk p,none⟩) /\ ∀ w,SG (mx G E L T F') w -> ∀ j,j < row.length -> w.cell? ⟨b,off + j,none⟩ = E.w.cell? ⟨b,off + j,none⟩:=by
  cases p with
  | fp row' k' =>
    simp only [rowAt,Option.some.injEq] at hr
    subst hr
    simp only [RX] at hp
    obtain ⟨_,b,off,hc,hf⟩:=hp
    refine ⟨b,off,hc,fun w hw j hj=>?_⟩
    obtain ⟨vs,hl,hv,hx⟩:=RF.cells hf
    obtain ⟨v,YP⟩:∃ v,vs[j]? = some v:=⟨vs[j]'om,List.getElem?_eq_getElem om⟩
    have h1:=hv j v YP
    rw [hi.lh _ _ _ h1]
    exact hw.2 _ _ _ h1
  | ptr o s i k' =>
    simp only [RX] at hp
    obtain ⟨_,B,hB,hc⟩:=hp
    have MK:o ∈ L:=List.elem_iff.1 hL
    have To:=hT o MK
    have hb:B.b ∈ T o:=by
      simp only [rowAt] at hr
      split at hr
      · rename_i xs ho
        have h0:=hi.aD o _ ho
        simp only [dh] at h0
        obtain ⟨_,B',cs,ty,iI,hw,_,_,jF,hR⟩:=h0
        rw [hB] at iI
        obtain rfl:=Option.some.inj iI
        rw [<- To,hR]; simp
      · rename_i s' rs ho
        have h0:=hi.aD o _ ho
        simp only [dh] at h0
        obtain ⟨hu,h0⟩:=h0
        rcases h0 with ⟨h0,_⟩ | ⟨B',cs,ty,R',iI,hw,_,_,_,_,hR⟩
        · rw [hB] at h0; cases h0
        · rw [hB] at iI
          obtain rfl:=Option.some.inj iI
          rw [<- To,hR]; simp
      · rename_i ho
        have h0:=hi.aD o _ ho
        simp only [dh] at h0
        obtain ⟨_,B',cs,ty,R',u,iI,hw,_,_,_,_,hR,_⟩:=h0
        rw [hB] at iI
        obtain rfl:=Option.some.inj iI
        rw [<- To,hR]; simp
      · cases hr
    refine ⟨B.b,B.off + i * s,by rw [hc]; simp [lk,Nat.add_assoc],fun w hw j _=>?_⟩
    have:=hw.1 B.b (.inr ⟨o,MK,hb⟩)
    unfold World.cell?
    simp only [mx] at this
    rw [this]
  | _=>cases hL
theorem r5{b b' o o' k:Nat}(h:Value.pointer (some ⟨b,o + k,none⟩) = Value.pointer (some ⟨b',o' + k,none⟩)):b = b' /\ o = o':=by
  simp only [Value.pointer.injEq,Option.some.injEq,Addr.mk.injEq] at h
  omega
theorem cf.load{L F' : List Nat}{n : Nat}{ah : Array Bool}(i : Nat){t : TypeId}{x : Operand}{p y : X}{row : List X}(ho : ops[i]? = some ⟨some d, .load t x, ty, pos, af, none⟩)
    (hB:(Region.noSelect ops && Region.free .any ops ah i && (Region.ready .any ops ah).contains i) = true) (ht:TY.shape P t = some none) (hx:bW st x = some p) (hL:vJ L p = true) (hr:rowAt st p = some row)
    (hy:row[lk p]? = some y) (hf:y.free = true) (hd:d < N.n)
    (k:cf P N L F' ops n (ah.setIfInBounds i true) (st.put d y) K):cf P N L F' ops (n + 1) ah st K:=by
  intro G hn E RR a T hT hi
  obtain ⟨R,hp⟩:=hi.eval hx
  obtain ⟨b,off,hc,iv⟩:=hi.behind hp hr
  obtain ⟨b',tg,q6,nV⟩:=hi.held (F':=F') hT hp hr hL
  obtain ⟨rfl,rfl⟩:=r5 (hc.symm.trans q6)
  have hk:lk p < row.length:=by
    rcases Nat.lt_or_ge (lk p) row.length with h' | h'
    · exact h'
    · simp [List.getElem?_eq_none h'] at hy
  obtain ⟨vs,R',hl,hv,gf⟩:=iv (lk p) 1 om
  rw [getElem?_drop_take_one hy] at gf
  simp only [b6] at gf
  obtain ⟨c,dg,R₁,R₂,HA,_,h1,⟨rfl,rfl⟩,rfl⟩:=gf
  subst HA
  have h0:=RX.free hf h1
  subst h0
  simp only [Bool.and_eq_true] at hB
  refine wpAnyH_take (v:=c) ho hB.1.1 hB.1.2 hB.2 ?_ (.inl ⟨by simp [Region.wanted],fun w hw=>?_⟩) (hi.Iu L T F') (k G hn E _ _ T ?_ (hi.gZ (hn ▸ hd) h1))
  · intro c a w h
    cases h.1
  · show (do let z <- Instr.loadAt t (a.eval x); pure (Next.value z):Sem Next).run P w = _
    rw [hc]
    refine dN ?_
    have gJ:=hv 0 c rfl
    simp only [Instr.loadAt,Instr.sureAddr,loadVar,Sem.run_bind,Sem.run_pure,Result.andThen_ok,(TY.iX ht w).1]
    simp only [Nat.add_zero] at gJ
    rw [<- nV w hw _ hk] at gJ
    simp [gJ]
  · intro o ho
    have:=hT o ho
    simpa [fA] using this
theorem cf.fu{L F' : List Nat}{n : Nat}{ah : Array Bool}(i : Nat){t : TypeId}{x : Operand}{p : X}{row : List X}{m : Nat}{ys : List X}(ho : ops[i]? = some ⟨some d, .load t x, ty, pos, af, none⟩)
    (hB:(Region.noSelect ops && Region.free .any ops ah i && (Region.ready .any ops ah).contains i) = true) (ht:TY.shape P t = some (some m)) (hx:bW st x = some p) (hL:vJ L p = true) (hr:rowAt st p = some row)
    (hm:lk p + m <= row.length) (zK:(row.drop (lk p)).take m = ys) (hf:X.b5 ys = true) (hd:d < N.n)
    (k:cf P N L F' ops n (ah.setIfInBounds i true) (st.put d (.agg ys)) K):cf P N L F' ops (n + 1) ah st K:=by
  intro G hn E RR a T hT hi
  obtain ⟨R,hp⟩:=hi.eval hx
  obtain ⟨b,off,hc,iv⟩:=hi.behind hp hr
  obtain ⟨b',tg,q6,nV⟩:=hi.held (F':=F') hT hp hr hL
  obtain ⟨rfl,rfl⟩:=r5 (hc.symm.trans q6)
  obtain ⟨vs,R',hl,hv,gf⟩:=iv (lk p) m hm
  rw [zK] at gf
  have h0:=b6.free hf gf
  subst h0
  simp only [Bool.and_eq_true] at hB
  refine wpAnyH_take (v:=.agg vs.toArray) ho hB.1.1 hB.1.2 hB.2 ?_ (.inl ⟨by simp [Region.wanted],fun w hw=>?_⟩) (hi.Iu L T F') (k G hn E _ _ T ?_ (hi.gZ (hn ▸ hd) (by simp only [RX]; exact ⟨_,rfl,gf⟩)))
  · intro c a w h
    cases h.1
  · show (do let z <- Instr.loadAt t (a.eval x); pure (Next.value z):Sem Next).run P w = _
    rw [hc]
    refine dN ?_
    obtain ⟨h1,h2⟩:=TY.nu ht w
    have h3:(loadCells ⟨b,off + lk p,none⟩ m).run P w = .ok vs.toArray w:=by
      rw [<- hl]
      refine run_loadCells_list (w:=w) _ vs fun j v hj=>?_
      have o5:j < vs.length:=(List.getElem?_eq_some_iff.1 hj).1
      rw [iu,Nat.add_assoc,nV w hw _ om]; exact hv j v hj
    simp only [Instr.loadAt,Instr.sureAddr,loadVar,Sem.run_bind,Sem.run_pure,Result.andThen_ok,h1,if_true,h2,h3]
  · intro o ho
    have:=hT o ho
    simpa [fA] using this
def St.back(st : St) : List Nat → List (Nat × Obj) → List (Nat × Obj)
  | [],r=>r
  | o :: L,r=>match look st.aD o with
    | some ob=>(o,ob) :: st.back L r
    | none=>st.back L r
theorem vK(st : St){r : List (Nat × Obj)}{q : Nat}{x : Obj} : ∀ {L : List Nat}, (∀ o ∈ L, ∃ ob, look st.aD o = some ob) → look (st.back L r) q = some x → (q ∈ L ∧ look st.aD q = some x) ∨ (q ∉ L ∧ look r q = some x)
  | [],_,h=>.inr ⟨by simp,h⟩
  | o :: L,hL,h=>by
    obtain ⟨ob,aY⟩:=hL o (by simp)
    simp only [St.back,aY,look] at h
    cases hb:Nat.beq o q with
    | true =>
      have:=Nat.eq_of_beq_eq_true hb
      subst this
      simp only [hb,cond_true,Option.some.injEq] at h
      exact .inl ⟨by simp,by rw [aY,h]⟩
    | false =>
      simp only [hb,cond_false] at h
      have fb:q ≠ o:=Ne.symm (Nat.ne_of_beq_eq_false hb)
      rcases vK st (fun o ho=>hL o (List.mem_cons_of_mem _ ho)) h with ⟨h1,h2⟩ | ⟨h1,h2⟩
      · exact .inl ⟨List.mem_cons_of_mem _ h1,h2⟩
      · exact .inr ⟨by simp [fb,h1],h2⟩
def bJ(st:St)(L F':List Nat):Prop:=∀ o ∈ L,∃ ob,look st.aD o = some ob /\ ∀ q,ob.cw q = true -> F'.elem q = true
theorem mx.down{G : Ctx}{E : Env}{RR : Own → List Nat}{a : Act}{L F' : List Nat}{T : Nat → List Nat}(hi : Inv G E RR st a)(hT : ∀ o ∈ L, RR (.obj o) = T o){CQ : St}(hle : Le st CQ)(P6 : ∀ o ∈ L, look CQ.aD o = none) :
    cF (mx G E L T F') CQ a E.w:=by
  refine ⟨E,fun p=>match p with | .obj o=>if o ∈ L then [] else RR (.obj o) | p=>RR p,rfl,?_⟩
  have sub:∀ p b,b ∈ (match p with | .obj o=>if o ∈ L then [] else RR (.obj o) | p=>RR p:List Nat) -> b ∈ RR p /\ ∀ o,p = .obj o -> o ∉ L:=by
    intro p b h
    cases p with
    | obj o =>
      by_cases hL:o ∈ L
      · simp [hL] at h
      · simp only [hL,if_false] at h
        exact ⟨h,fun q hq=>by cases hq; exact hL⟩
    | slot s=>exact ⟨h,fun q hq=>by cases hq⟩
  exact {
    lh:=hi.lh
    aC:=fun s x hx=>hi.aC s x (hle.1 s x hx)
    aD:=fun o ob ho=>by
      by_cases hL:o ∈ L
      · rw [P6 o hL] at ho; cases ho
      · simp only [hL,if_false]; exact hi.aD o ob (hle.2 o ob ho)
    nodup:=fun p=>by
      cases p with
      | obj o =>
        by_cases hL:o ∈ L
        · simp [hL]
        · simp only [hL,if_false]; exact hi.nodup _
      | slot s=>exact hi.nodup _
    apart:=fun p q mE b hb gY=>hi.apart p q mE b (sub p b hb).1 (sub q b gY).1
    own:=fun p b hb=>by
      obtain ⟨h1,h2⟩:=sub p b hb
      refine ⟨(hi.own p b h1).1,fun wu=>?_⟩
      rcases (wu:G.K b \/ ∃ o,o ∈ L /\ b ∈ T o) with h | ⟨o,ho,vL⟩
      · exact (hi.own p b h1).2 h
      · rw [<- hT o ho] at vL
        have fb:p ≠ .obj o:=fun e=>h2 o e ho
        exact hi.apart p (.obj o) fb b h1 vL
    ai:=fun _ _=>rfl
    size:=Nat.le_refl _
    small:=fun b wu=>by
      rcases (wu:G.K b \/ ∃ o,o ∈ L /\ b ∈ T o) with h | ⟨o,ho,vL⟩
      · exact Nat.lt_of_lt_of_le (hi.small b h) hi.size
      · rw [<- hT o ho] at vL
        exact (hi.own _ b vL).1
    os:=rfl
    tape:=rfl
    output:=rfl
    φ0:=fun _ _ _ h=>h
    grow:=fun _ _ _ h=>.inl h
    fixed:=fun _ _=>rfl
    tmps:=hi.tmps
    defers:=hi.defers }
theorem mx.up{G : Ctx}{E : Env}{RR : Own → List Nat}{a : Act}{L F' : List Nat}{T : Nat → List Nat}(hi : Inv G E RR st a)(hT : ∀ o ∈ L, RR (.obj o) = T o)(hF : ∀ o, G.fn.F.elem o = true → F'.elem o = true)(Lf : ∀ o ∈ L, F'.elem o = true)
    (aY:bJ st L F') {aW:St} {a':Act} {w':World} (h:cF (mx G E L T F') aW a' w'):cF G ⟨aW.aC,st.back L aW.aD⟩ a' w':=by
  obtain ⟨E',fO,rfl,hj⟩:=h
  have Jt:∀ {o b},o ∈ L -> b ∈ RR (.obj o) -> (mx G E L T F').K b:=fun ho hb=>.inr ⟨_,ho,by rw [<- hT _ ho]; exact hb⟩
  have sub:∀ p b,b ∈ (match p with | .obj o=>if o ∈ L then RR (.obj o) else fO (.obj o) | p=>fO p:List Nat) -> (∃ o,o ∈ L /\ p = .obj o /\ b ∈ RR p) \/ ((∀ o,p = .obj o -> o ∉ L) /\ b ∈ fO p):=by
    intro p b h
    cases p with
    | obj o =>
      by_cases hL:o ∈ L
      · simp only [hL,if_true] at h
        exact .inl ⟨o,hL,rfl,h⟩
      · simp only [hL,if_false] at h
        exact .inr ⟨fun q hq=>by cases hq; exact hL,h⟩
    | slot s=>exact .inr ⟨fun q hq=>(by cases hq),h⟩
  refine ⟨E',fun p=>match p with | .obj o=>if o ∈ L then RR (.obj o) else fO (.obj o) | p=>fO p,rfl,?_⟩
  exact {
    lh:=hj.lh
    aC:=fun s x hx=>hj.aC s x hx
    aD:=fun o ob ho=>by
      rcases vK st (fun o ho=>(aY o ho).imp fun _ h=>h.1) ho with ⟨h1,h2⟩ | ⟨h1,h2⟩
      · simp only [h1,if_true]
        obtain ⟨z6,P7,HV⟩:=aY o h1
        rw [h2] at P7
        obtain rfl:=Option.some.inj P7
        refine dh.mono ⟨hj.φ0,fun b hb=>⟨hj.ai b (Jt h1 hb),fun hn i=>?_⟩⟩ (hj.fixed o (Lf o h1)) (fun q hq=>hj.fixed q (HV q hq)) (hi.aD o ob h2)
        cases hφ:E'.φ b i with
        | none=>rfl
        | some v =>
          rcases hj.grow b i v hφ with h3 | h3
          · have h4:=hn i
            change E.φ b i = some v at h3
            rw [h4] at h3; cases h3
          · exact absurd (Jt h1 hb) h3
      · simp only [h1,if_false]; exact hj.aD o ob h2
    nodup:=fun p=>by
      cases p with
      | obj o =>
        by_cases hL:o ∈ L
        · simp only [hL,if_true]; exact hi.nodup _
        · simp only [hL,if_false]; exact hj.nodup _
      | slot s=>exact hj.nodup _
    apart:=fun p q mE b hb gY=>by
      rcases sub p b hb with ⟨o,ho,rfl,h1⟩ | ⟨_,h1⟩ <;> rcases sub q b gY with ⟨o',lS,rfl,h2⟩ | ⟨_,h2⟩
      · exact hi.apart _ _ mE b h1 h2
      · exact (hj.own _ b h2).2 (Jt ho h1)
      · exact (hj.own _ b h1).2 (Jt lS h2)
      · exact hj.apart _ _ mE b h1 h2
    own:=fun p b hb=>by
      rcases sub p b hb with ⟨o,ho,rfl,h1⟩ | ⟨_,h1⟩
      · exact ⟨Nat.lt_of_lt_of_le (hi.own _ b h1).1 hj.size,(hi.own _ b h1).2⟩
      · exact ⟨(hj.own _ b h1).1,fun hk=>(hj.own _ b h1).2 (.inl hk)⟩
    ai:=fun b hb=>(hj.ai b (.inl hb)).trans (hi.ai b hb)
    size:=Nat.le_trans hi.size hj.size
    small:=hi.small
    os:=hj.os.trans hi.os
    tape:=hj.tape.trans hi.tape
    output:=hj.output.trans hi.output
    φ0:=fun b i v h=>hj.φ0 b i v (hi.φ0 b i v h)
    grow:=fun b i v h=>by
      rcases hj.grow b i v h with h1 | h1
      · exact hi.grow b i v h1
      · exact .inr fun hk=>h1 (.inl hk)
    fixed:=fun o ho=>(hj.fixed o (hF o ho)).trans (hi.fixed o ho)
    tmps:=hj.tmps
    defers:=hj.defers }
theorem qJ{Q1 Q2:Exit -> Act -> World -> Prop}{K1 K2:Act -> World -> Prop}{j:Nat}{a:Act}{w:World}(hQ:∀ e a w,e ≠ .normal -> Q1 e a w -> False)(hK:∀ a w,K1 a w -> K2 a w)(h:wpOp P ops Q1 j K1 a w):wpOp P ops Q2 j K2 a w:=by
  unfold wpOp at *
  cases ho:ops[j]? with
  | none=>simp only [ho] at h ⊢; first | exact hK _ _ h | exact h
  | some o =>
    simp only [ho] at *
    split
    · rename_i hw
      simp only [hw,if_true] at h
      rcases h with h | ⟨_,hl⟩
      · refine .inl ?_
        unfold Oper.wp at *
        generalize (execOp a.eval o).run P w = r at *
        cases r with
        | ok nx w' =>
          cases nx <;> simp only [Oper.upon] at h ⊢ <;> first
            | exact hK _ _ h
            | exact Calls.mono h (fun e WT he=>by
                cases e with
                | returned u=>exact hK _ _ he
                | panicked c=>exact (hQ _ _ _ (by simp) he).elim
                | outgrown=>exact (let ⟨_,_,h'⟩:=he; hQ _ _ _ (by simp) h').elim)
            | exact Rows.mono h (fun _ _ he=>hK _ _ he)
        | halt x w'=>cases x <;> simp only [Oper.upon] at h ⊢ <;> first | exact (hQ _ _ _ (by simp) h).elim | exact (let ⟨_,_,h'⟩:=h; hQ _ _ _ (by simp) h').elim | exact h
      · obtain ⟨_,_,h'⟩:=hl
        exact (hQ _ _ _ (by simp) h').elim
    · rename_i hw
      simp only [hw] at h
      exact hK _ _ h
theorem sU{md : Region.Mode}{S : World → Prop}{Q1 Q2 : Exit → Act → World → Prop}(hQ : ∀ e a w, e ≠ .normal → Q1 e a w → False)(hN : ∀ a w, Q1 .normal a w → Q2 .normal a w) :
    ∀ (n:Nat) (ah:Array Bool) (a:Act) (w:World),wpAnyH P md ops Q1 S n ah a w -> wpAnyH P md ops Q2 S n ah a w
  | 0,_,_,_,h=>⟨h.1,hN _ _ h.2⟩
  | n + 1,_,_,_,h=>⟨fun h0=>hN _ _ (h.1 h0),fun i hi=>qJ hQ (fun a w h'=>⟨h'.1,sU hQ hN n _ a w h'.2⟩) (h.2 i hi)⟩
theorem cf.go{L F' : List Nat}{n : Nat}{ah : Array Bool}(CQ : St)(hle : Le st CQ)(P6 : ∀ o ∈ L, look CQ.aD o = none)(hF : ∀ o, N.F.elem o = true → F'.elem o = true)(Lf : ∀ o ∈ L, F'.elem o = true)
    (aY:bJ st L F') (k:da P ⟨N.n,F'⟩ ops n ah CQ (fun aW=>K ⟨aW.aC,st.back L aW.aD⟩)):cf P N L F' ops n ah st K:=by
  intro G hn E RR a T hT hi
  refine sU (fun e a w he h=>he h.1) ?_ n ah a E.w (k (mx G E L T F') (by simp [mx,hn]) a E.w (mx.down hi hT hle P6))
  rintro a' w' ⟨_,aW,hk,hh⟩
  exact ⟨rfl,_,hk,mx.up hi hT (by rw [hn]; exact hF) Lf aY hh⟩
theorem da.step{n : Nat}{ah : Array Bool}(j : Nat){o : Oper}(ho : ops[j]? = some o)
    (k:aS P N ops [o] st (fun e aW=>e = .normal /\ da P N ops n (ah.setIfInBounds j true) aW K)) (G:Ctx) (hn:G.fn = N) (a:Act) (w:World) (hh:cF G st a w) :
    wpOp P ops (fun e a w=>e = .normal /\ ∃ aW,K aW /\ cF G aW a w) j (fun a' w'=>SG G w' /\ wpAnyH P .any ops (fun e a w=>e = .normal /\ ∃ aW,K aW /\ cF G aW a w) (SG G) n (ah.setIfInBounds j true) a' w') a w:=by
  have hk:=k G hn a w hh
  have key : wpOp P ops (fun e a w => oe G (fun e aW => e = .normal ∧ da P N ops n (ah.setIfInBounds j true) aW K) e a w) j
      (fun a w=>oe G (fun e aW=>e = .normal /\ da P N ops n (ah.setIfInBounds j true) aW K) .normal a w) a w:=by
    unfold wpOp; simp only [ho]; exact hk
  refine qJ ?_ ?_ key
  · rintro e a w he ⟨aW,_,h,_⟩
    exact he h
  · rintro a w ⟨aW,iH,_,zB⟩
    exact ⟨iH.sg,zB G hn a w iH⟩
theorem da.one{n : Nat}{ah : Array Bool}(i : Nat){o : Oper}(ho : ops[i]? = some o)(hr : (Region.ready .any ops ah == [i]) = true)
    (k:aS P N ops [o] st (fun e aW=>e = .normal /\ da P N ops n (ah.setIfInBounds i true) aW K)):da P N ops (n + 1) ah st K:=by
  intro G hn a w hh
  refine wpAnyH_all (rs:=[i]) (by simpa using hr) (by simp) ?_
  intro j hj
  have:j = i:=by simpa using hj
  subst this
  exact da.step j ho k G hn a w hh
theorem da.two{n : Nat}{ah : Array Bool}(i i' : Nat){o o' : Oper}(ho : ops[i]? = some o)(lS : ops[i']? = some o')(hr : (Region.ready .any ops ah == [i, i']) = true)
    (k:aS P N ops [o] st (fun e aW=>e = .normal /\ da P N ops n (ah.setIfInBounds i true) aW K))
    (k':aS P N ops [o'] st (fun e aW=>e = .normal /\ da P N ops n (ah.setIfInBounds i' true) aW K)):da P N ops (n + 1) ah st K:=by
  intro G hn a w hh
  refine wpAnyH_all (rs:=[i,i']) (by simpa using hr) (by simp) ?_
  intro j hj
  simp only [List.mem_cons,List.not_mem_nil,or_false] at hj
  rcases hj with rfl | rfl
  · exact da.step j ho k G hn a w hh
  · exact da.step j lS k' G hn a w hh
theorem da.blind{n : Nat}{ah : Array Bool}(i : Nat){op : Op}{x : X}(ho : ops[i]? = some ⟨some d, op, ty, pos, af, none⟩)
    (hB:(Region.noSelect ops && Region.free .any ops ah i && (Region.ready .any ops ah).contains i) = true) (hy:aw P N st ⟨some d,op,ty,pos,af,none⟩ x) (hd:d < N.n)
    (k:da P N ops n (ah.setIfInBounds i true) (st.put d x) K):da P N ops (n + 1) ah st K:=by
  intro G hn a w hh
  have hS:=hh.sg
  obtain ⟨E,RR,rfl,hi⟩:=hh
  obtain ⟨u,hr,hx⟩:=hy G E RR a hn hi
  simp only [Bool.and_eq_true] at hB
  refine wpAnyH_take (v:=u) ho hB.1.1 hB.1.2 hB.2 ?_ (.inl ⟨by simp [Region.wanted],fun w _=>hr w⟩) hS (k G hn _ _ ⟨E,_,rfl,hi.gZ (hn ▸ hd) hx⟩)
  intro c a w h
  cases h.1
theorem da.done{n:Nat}{ah:Array Bool}(hr:(Region.ready .any ops ah).isEmpty = true)(h:K st):da P N ops n ah st K :=
  fun _ _ _ _ hh=>wpAnyH_done (by simpa using hr) ⟨rfl,st,h,hh⟩ n
theorem dy.gm(L F':List Nat){Q:Exit -> St -> Prop}{id:Nat}(hm:P.follows .mixedOrders = true)(h:cf P N L F' ops ops.size (Array.replicate ops.size false) st (fun aW=>Q .normal aW)):dy P N (.region id ops true) st Q:=by
  intro G hn a w hh
  obtain ⟨E,RR,hw,hi⟩:=hh.drew
  refine wp_mono (wp_region_held (S:=SG (mx G E L (fun o=>RR (.obj o)) F')) hm (hw ▸ h G hn E RR a _ (fun _ _=>rfl) hi)) ?_
  rintro e a w ⟨rfl,aW,hk,iH⟩
  exact ⟨aW,iH,hk⟩
theorem jk{L : List Nat}{q : Nat}{x : Obj} : ∀ {l : List (Nat × Obj)}, look (l.filter fun p => !L.elem p.1) q = some x → look l q = some x ∧ q ∉ L
  | [],h=>by simp [look] at h
  | (o,ob) :: r,h=>by
    rw [List.filter_cons] at h
    cases hL:L.elem o with
    | true =>
      simp only [hL,Bool.not_true,Bool.false_eq_true,if_false] at h
      obtain ⟨h1,h2⟩:=jk h
      refine ⟨?_,h2⟩
      have fb:Nat.beq o q = false:=by
        cases hb:Nat.beq o q with
        | false=>rfl
        | true =>
          have:=Nat.eq_of_beq_eq_true hb
          subst this
          exact absurd (List.elem_iff.1 hL) h2
      simp only [look,fb,cond_false]; exact h1
    | false =>
      simp only [hL,Bool.not_false,if_true,look] at h ⊢
      cases hb:Nat.beq o q with
      | true =>
        have:=Nat.eq_of_beq_eq_true hb
        subst this
        simp only [hb,cond_true] at h ⊢
        exact ⟨h,fun hm=>by rw [List.elem_iff.2 hm] at hL; cases hL⟩
      | false =>
        simp only [hb,cond_false] at h ⊢
        exact jk h
theorem dy.gh{Q:Exit -> St -> Prop}{id:Nat}(hm:P.follows .mixedOrders = true)(h:cf P N [] N.F ops ops.size (Array.replicate ops.size false) st (fun aW=>Q .normal aW)):dy P N (.region id ops true) st Q:=dy.gm [] N.F hm h
theorem Le.aD{st:St}{l:List (Nat × Obj)}(h:gd st.aD l):Le st ⟨st.aC,l⟩:=⟨fun _ _ h=>h,h⟩
theorem bJ.nil{F':List Nat}:bJ st [] F':=fun _ h=>by cases h
def ownNames : List X → List Nat
  | []=>[]
  | .ptr o .. :: r | .aR o .. :: r | .mref o :: r=>o :: ownNames r
  | .v _ :: r | .fz .. :: r | .no :: r | .fp .. :: r | .dn .. :: r=>ownNames r
  | _ :: r=>ownNames r
def Cb : List X → Bool
  | []=>true
  | .agg _ :: _ | .tup _ :: _ | .jv .. :: _=>false
  | _ :: r=>Cb r
theorem my{q : Nat} : ∀ {xs : List X}, Cb xs = true → X.cw q xs = true → q ∈ ownNames xs
  | [],_,h=>by simp [X.cw] at h
  | x :: r,hf,h=>by
    simp only [X.cw,Bool.or_eq_true] at h
    cases x <;> simp only [Cb, Bool.false_eq_true] at hf <;> simp only [ownNames, X.e6, Bool.false_eq_true, false_or, beq_iff_eq, List.mem_cons] at h ⊢ <;>
      first
        | exact my hf h
        | (rcases h with h | h
           · first | exact .inl h.symm | exact .inl h | exact .inl (Nat.eq_of_beq_eq_true h).symm | exact .inl (Nat.eq_of_beq_eq_true h)
           · exact .inr (my hf h))
theorem bJ.cells{F' L:List Nat}{o:Nat}{xs:List X}(ho:look st.aD o = some (.cells xs))(hf:Cb xs = true)(hn:(ownNames xs).all (fun q=>F'.elem q) = true)(hL:bJ st L F'):bJ st (o :: L) F':=by
  intro p hp
  rcases List.mem_cons.1 hp with rfl | hp
  · exact ⟨_,ho,fun q hq=>List.all_eq_true.1 hn q (my hf hq)⟩
  · exact hL p hp
theorem bJ.hole{F' L:List Nat}{o i q s n:Nat}{rs:List (List X)}(ho:look st.aD o = some (.hole rs i q s n))(hq:F'.elem q = true)(hL:bJ st L F'):bJ st (o :: L) F':=by
  intro p hp
  rcases List.mem_cons.1 hp with rfl | hp
  · exact ⟨_,ho,fun x hx=>by have h1:=Nat.eq_of_beq_eq_true (show Nat.beq q x = true from hx); subst h1; exact hq⟩
  · exact hL p hp
theorem bJ.rows{F' L:List Nat}{o s:Nat}{rs:List (List X)}(ho:look st.aD o = some (.rows s rs))(hL:bJ st L F'):bJ st (o :: L) F':=by
  intro p hp
  rcases List.mem_cons.1 hp with rfl | hp
  · exact ⟨_,ho,fun x hx=>by cases hx⟩
  · exact hL p hp
theorem cf.DZ{L F' : List Nat}{n : Nat}{ah : Array Bool}(hF : N.F.all (fun o => F'.elem o) = true)(Lf : L.all (fun o => F'.elem o) = true)
    (aY:bJ st L F') (k:da P ⟨N.n,F'⟩ ops n ah ⟨st.aC,st.aD.filter fun p=>!L.elem p.1⟩ (fun aW=>K ⟨aW.aC,st.back L aW.aD⟩)):cf P N L F' ops n ah st K :=
  cf.go ⟨st.aC,st.aD.filter fun p=>!L.elem p.1⟩ ⟨fun _ _ h=>h,fun _ _ h=>(jk h).1⟩ (fun o ho=>by
    have key:∀ x,look (st.aD.filter fun p=>!L.elem p.1) o ≠ some x:=fun x h=>absurd ho (jk h).2
    show look (st.aD.filter fun p=>!L.elem p.1) o = none
    generalize look (st.aD.filter fun p=>!L.elem p.1) o = z at key
    cases z with
    | none=>rfl
    | some x=>exact absurd rfl (key x)) (fun o ho=>List.all_eq_true.1 hF o (List.elem_iff.1 ho)) (fun o ho=>List.all_eq_true.1 Lf o ho) aY k
theorem cf.yo{n:Nat}{ah:Array Bool}(k:da P N ops n ah st K):cf P N [] N.F ops n ah st K :=
  cf.go st (Le.refl st) (fun _ h=>by cases h) (fun _ h=>h) (fun _ h=>by cases h) bJ.nil k
end
end Go.AW
namespace Go.AW
open Go
section
variable {P:Program}
def P8(P : Program)(oh : List ResultVar)(F : List Nat)(k : Nat)(Q : X → List Obj → Prop) : Exit → St → Prop
 | .normal,st | .ret,st=>∃ xs,kF P st oh = some xs /\ ∃ Iv r aJ,Sh ⟨1,F⟩ ⟨[(0,qB xs)],st.aD⟩ Iv /\ look Iv.aC 0 = some r /\ ka Iv.aD 0 k = some aJ /\ Q r aJ
 | _,_=>False
theorem ay.R6{f : FuncId}{fn : Func}{c : Code}{args : List X}{aD : List Obj}{F : List Nat}{Q : X → List Obj → Prop}{n : Nat}{oh : List ResultVar}(hf : P.funcs[f]? = some fn)(hb : fn.body = some c)(hn : fn.ntmps = n)(hr : fn.results.toList = oh)
  (js:(iJ oh).Nodup) (hle:args.length <= n) (h:dy P ⟨n,F⟩ c ⟨dE 0 args,dE 0 aD⟩ (P8 P oh F aD.length Q)):ay P f args aD F Q:=by
 intro K E RR cS hi
 refine calls_of_wp hf hb ?_
 have ve:cS.size = args.length:=hi.tmps
 have im:Inv (oF K E ⟨n,F⟩) E RR ⟨dE 0 args,dE 0 aD⟩ ⟨cS ++ Array.replicate (fn.ntmps - cS.size) undef,[]⟩:=by
  refine { hi with aC:=?_,tmps:=?_,defers:=rfl }
  ·intro s x hx
   have h0:=hi.aC s x hx
   have hs:s < cS.size:=by
    rw [ve]
    have jw:look (dE 0 args) s = some x:=hx
    rw [ib] at jw
    rcases Nat.lt_or_ge s args.length with h' | h'
    ·exact h'
    ·simp [List.getElem?_eq_none h'] at jw
   have:(cS ++ Array.replicate (fn.ntmps - cS.size) undef).getD s undef = cS.getD s undef:=by
    simp only [Array.getD_eq_getD_getElem?,Array.getElem?_append_left hs]
   show RX E x ((cS ++ Array.replicate (fn.ntmps - cS.size) undef).getD s undef) (RR (.slot s))
   rw [this]; exact h0
  ·show (cS ++ Array.replicate (fn.ntmps - cS.size) undef).size = n
   simp; omega
 refine wp_mono (h (oF K E ⟨n,F⟩) rfl _ _ ⟨E,RR,rfl,im⟩) ?_
 rintro e a w ⟨st,⟨E',fO,rfl,h1⟩,hq⟩
 have key : (∃ xs, kF P st oh = some xs ∧ ∃ Iv r aJ, Sh ⟨1, F⟩ ⟨[(0, qB xs)], st.aD⟩ Iv ∧ look Iv.aC 0 = some r ∧ ka Iv.aD 0 aD.length = some aJ ∧ Q r aJ) → a.defers = [] ∧ ∃ v, (results fn a.tmps).run P E'.w = .ok v E'.w ∧
   ∃ v' r aJ,Ending.returned v = .returned v' /\ Q r aJ /\ aJ.length = aD.length /\ ∃ lQ tY,lQ.w = E'.w /\ Inv (oF K E ⟨1,F⟩) lQ tY ⟨[(0,r)],dE 0 aJ⟩ ⟨#[v'],[]⟩:=by
  rintro ⟨xs,zY,Iv,r2,aJ,Fu,MI,lq,hQ⟩
  obtain ⟨hlen,Ev⟩:=nw lq
  have kl:∀ j,j < aD.length -> look Iv.aD j = aJ[j]?:=fun j hj=>by have:=Ev j hj; rwa [Nat.zero_add] at this
  refine ⟨h1.defers,?_⟩
  obtain ⟨cs,R,iZ,hx,K9,Rr⟩:=wy h1 zY js
  have tZ:(results fn a.tmps).run P E'.w = .ok (if h:cs.toArray.size = 1 then cs.toArray[0] else .tuple cs.toArray) E'.w:=by
   have e:results fn a.tmps = (do let vs <- fn.results.mapM (qC a.tmps); Pure.pure (if h:vs.size = 1 then vs[0] else .tuple vs):Sem Value):=rfl
   rw [e,show fn.results = oh.toArray by rw [<- hr]]
   refine kj (u:=cs.toArray) ?_ rfl
   rw [List.mapM_toArray]
   simp only [Sem.run_map,iZ]
   rfl
  refine ⟨_,tZ,_,r2,aJ,rfl,hQ,hlen,?_⟩
  have S6:RX E' (qB xs) (if h:cs.toArray.size = 1 then cs.toArray[0] else .tuple cs.toArray) R:=by
   cases xs with
   | nil =>
    simp only [eC] at hx
    obtain ⟨rfl,rfl⟩:=hx
    simp only [qB,RX]
    exact ⟨#[],by simp,by simp [eC]⟩
   | cons x xs =>
    cases xs with
    | nil =>
     simp only [eC] at hx
     obtain ⟨c,dg,R₁,R₂,rfl,h1,⟨rfl,rfl⟩,rfl⟩:=hx
     simpa [qB] using h1
    | cons y ys =>
     have jw:=hx
     simp only [eC] at hx
     obtain ⟨c,dg,R₁,R₂,rfl,_,⟨c',KA,R₃,R₄,rfl,_⟩,_⟩:=hx
     simp only [qB,RX]
     exact ⟨(c :: c' :: KA).toArray,by simp,by simpa using jw⟩
  let pM:Own -> List Nat:=fun p=>match p with
   | .slot s=>if s = 0 then R else []
   | .obj o=>fO (.obj o)
  have og:∀ p b,b ∈ pM p -> ∃ q,b ∈ fO q /\ ((∃ o,p = .obj o /\ q = .obj o) \/ (p = .slot 0 /\ ∃ t,q = .slot t)):=by
   intro p b hb
   cases p with
   | slot s =>
    by_cases hs:s = 0
    ·subst hs
     simp only [pM,if_true] at hb
     obtain ⟨t,_,ht⟩:=Rr b hb
     exact ⟨.slot t,ht,.inr ⟨rfl,t,rfl⟩⟩
    ·simp [pM,hs] at hb
   | obj o=>exact ⟨.obj o,hb,.inl ⟨o,rfl,rfl⟩⟩
  have h3:cF (oF K E ⟨1,F⟩) ⟨[(0,qB xs)],st.aD⟩ ⟨#[if h:cs.toArray.size = 1 then cs.toArray[0] else .tuple cs.toArray],[]⟩ E'.w:=by
   refine ⟨E',pM,rfl,{ h1 with aC:=?_,aD:=?_,nodup:=?_,apart:=?_,own:=?_,tmps:=?_,defers:=rfl }⟩
   ·intro s x jw
    simp only [look] at jw
    cases wu:Nat.beq 0 s with
    | false=>simp [wu] at jw
    | true =>
     have:=Nat.eq_of_beq_eq_true wu
     subst this
     simp only [wu,cond_true,Option.some.injEq] at jw
     subst jw
     simpa [pM] using S6
   ·intro o ob ho
    exact h1.aD o ob ho
   ·intro p
    cases p with
    | slot s=>by_cases hs:s = 0 <;> simp [pM,hs,K9]
    | obj o=>exact h1.nodup _
   ·intro p q mE b hb gY
    obtain ⟨p',J0,S7⟩:=og p b hb
    obtain ⟨q',CJ,NW⟩:=og q b gY
    have fb:p' ≠ q':=by
     rcases S7 with ⟨o,rfl,rfl⟩ | ⟨rfl,t,rfl⟩
     ·rcases NW with ⟨o',rfl,rfl⟩ | ⟨rfl,t',rfl⟩
      ·exact mE
      ·simp
     ·rcases NW with ⟨o',rfl,rfl⟩ | ⟨rfl,t',rfl⟩
      ·simp
      ·exact absurd rfl mE
    exact h1.apart p' q' fb b J0 CJ
   ·intro p b hb
    obtain ⟨q,CJ,_⟩:=og p b hb
    exact h1.own q b CJ
   ·rfl
  obtain ⟨E2,Xi,wG,h2⟩:=Fu _ rfl _ _ h3
  refine ⟨E2,Xi,wG,{ h2 with aC:=?_,aD:=?_ }⟩
  ·intro s x jw
   simp only [look] at jw
   cases wu:Nat.beq 0 s with
   | false=>simp [wu] at jw
   | true =>
    have:=Nat.eq_of_beq_eq_true wu
    subst this
    simp only [wu,cond_true,Option.some.injEq] at jw
    subst jw
    exact h2.aC 0 _ MI
  ·intro o ob ho
   have lS:look (dE 0 aJ) o = some ob:=ho
   rw [ib] at lS
   have gG:o < aD.length:=by
    rcases Nat.lt_or_ge o aD.length with h' | h'
    ·exact h'
    ·rw [List.getElem?_eq_none om] at lS; cases lS
   exact h2.aD o ob (by rw [kl o gG]; exact lS)
 cases e with
 | normal=>exact key hq
 | ret=>exact key hq
 | _=>exact hq.elim
theorem Sh.then{N:eZ}{a b c:St}(h1:Sh N a b)(h2:Sh N b c):Sh N a c:=fun G hn x w hh=>h2 G hn x w (h1 G hn x w hh)
end
end Go.AW
namespace Go.AW
open Go
section
variable {N:eZ} {st:St} {d:Nat}
theorem Sh.ks(k o : Nat){s n : Nat}{xs zs : List X}{rows : List (List X)}(hx : look st.aC d = some (.tup (.agg xs :: zs)))(hz : X.cw o zs = false)(hk : xs[k]? = some (.aR o s 0 n))(ho : look st.aD o = some (.rows s rows))(hl : n = rows.length)(hm : X.cw o (xs.set k .no) = false)(hF : N.F.elem o = false) :
  Sh N st (((st.kill o).de o (.rows 0 [])).put d (.tup (.agg (xs.set k (.dn s rows)) :: zs))):=by
 intro G hn a w hh
 obtain ⟨E,RR,rfl,hi⟩:=hh
 subst hl
 have hv:=hi.aC d _ hx
 have aY:=hi.aD o _ ho
 have js:=hi.nodup (.obj o)
 have xE:=hi.nodup (.slot d)
 simp only [RX,eC] at hv
 obtain ⟨ts,KG,c1,WN,R1,R2,YQ,⟨cs,rfl,gf⟩,Rp,hR12⟩:=hv
 simp only [dh] at aY
 obtain ⟨hu,aY⟩:=aY
 have hβ:di G E { E with β:=fun q=>if q = o then none else E.β q } (fun _=>False) :=
  ⟨rfl,fun _ h=>h.elim,fun _ h=>h.elim,fun _ _ _=>rfl,Nat.le_refl _,rfl,rfl,rfl⟩
 have h4 := hi.ln hβ (o := o) (ob := .rows 0 []) (R := []) (fun _ h => h.elim) (fun q hq => by simp [hq]) (fun h => by rw [hn, hF] at h; cases h)
  (by simp only [dh]; exact ⟨fun _ h=>(by cases h),.inl ⟨by simp,trivial,trivial⟩⟩) List.nodup_nil (fun _ h=>by cases h)
 have g9:∀ R',E.On { E with β:=fun q=>if q = o then none else E.β q } R':=fun R'=>⟨fun _ _ _ h=>h,fun _ _=>⟨rfl,fun h=>h⟩⟩
 obtain ⟨c,Ra,R7,P9,P3,PA⟩:=b6.Fs (E':={ E with β:=fun q=>if q = o then none else E.β q }) (y:=.dn s rows) (o:=o) (fun q hq=>by simp [hq]) rfl gf hk (g9 _) hm
 have yn:RR (.slot d) = Ra ++ (R7 ++ R2):=by rw [hR12,P9,List.append_assoc]
 have wo:∀ R',RX { E with β:=fun q=>if q = o then none else E.β q } (.dn s rows) c R' -> RX { E with β:=fun q=>if q = o then none else E.β q } (.tup (.agg (xs.set k (.dn s rows)) :: zs)) (a.tmps.getD d undef) (Ra ++ (R' ++ (R7 ++ R2))):=by
  intro R' h'
  rw [KG]
  simp only [RX,eC]
  exact ⟨ts,rfl,.agg cs,WN,Ra ++ (R' ++ R7),R2,YQ,⟨cs,rfl,PA R' h'⟩,eC.mono _ _ _ (g9 _) (fun q hq=>by
   have fb:q ≠ o:=fun e=>by rw [e,hz] at hq; cases hq
   simp [fb]) Rp,by simp only [List.append_assoc]⟩
 generalize R7 ++ R2 = Rb at yn wo
 simp only [RX] at P3
 obtain ⟨_,base,cap,hc,cX⟩:=P3
 have NJ:∃ R,RX { E with β:=fun q=>if q = o then none else E.β q } (.dn s rows) c R /\ R.Nodup /\ ∀ b ∈ R,b ∈ RR (.obj o):=by
  simp only [RX]
  rcases aY with ⟨h1,h2,h3⟩ | ⟨B,cs,ty,R',hB,hw,hφ,kS,fB,jF,gK⟩
  ·rcases cX with ⟨_,_,_,h5⟩ | ⟨B,hB,_⟩
   ·exact ⟨[],⟨hu,base,cap,hc,.inl ⟨h2,h5,rfl⟩⟩,List.nodup_nil,fun _ h=>by cases h⟩
   ·rw [h1] at hB; cases hB
  ·rcases cX with ⟨h1,_⟩ | ⟨B',iI,zL,rY,hb⟩
   ·rw [hB] at h1; cases h1
   ·rw [hB] at iI
    obtain rfl:=Option.some.inj iI
    rcases hb with hb | hb
    ·refine ⟨[],⟨hu,base,cap,hc,.inl ⟨List.eq_nil_of_length_eq_zero om,hb,rfl⟩⟩,List.nodup_nil,fun _ h=>by cases h⟩
    ·refine ⟨RR (.obj o),⟨hu,base,cap,hc,.inr ⟨B.b,B.off,cs,ty,R',by simpa using hb,hw,om,by rw [show cap = B.cap by omega]; exact fB,hφ,cE.mono _ _ _ _ (g9 R') jF,gK⟩⟩,js,fun _ h=>h⟩
 obtain ⟨R,sf,xB,HD⟩:=NJ
 have ti:∀ b ∈ Ra ++ (R ++ Rb),b ∈ RR (.slot d) \/ b ∈ RR (.obj o):=by
  intro b hb
  rcases List.mem_append.1 hb with h | h
  ·exact .inl (by rw [yn]; exact List.mem_append.2 (.inl h))
  ·rcases List.mem_append.1 h with h | h
   ·exact .inr (HD b h)
   ·exact .inl (by rw [yn]; exact List.mem_append.2 (.inr h))
 have Ld:∀ b ∈ RR (.slot d),b ∉ RR (.obj o):=fun b hb=>hi.apart (.slot d) (.obj o) (by simp) b hb
 rw [yn] at xE Ld
 obtain ⟨m1,m2,m3⟩:=List.nodup_append.1 xE
 refine ⟨{ E with β:=fun q=>if q = o then none else E.β q },_,rfl,h4.relabel (d:=d) (R:=Ra ++ (R ++ Rb)) ?_ ?_ (fun c hc=>?_)⟩
 ·exact wo R sf
 ·rw [List.nodup_append,List.nodup_append]
  refine ⟨m1,⟨xB,m2,fun x hx y hy e=>Ld y (List.mem_append.2 (.inr hy)) (by rw [<- e]; exact HD x hx)⟩,fun x hx y hy e=>?_⟩
  rcases List.mem_append.1 hy with h | h
  ·exact Ld x (List.mem_append.2 (.inl hx)) (by rw [e]; exact HD y h)
  ·exact m3 x hx y h e
 ·have mH:c < E.w.heap.size /\ ¬ G.K c:=by rcases ti c hc with h | h <;> exact hi.own _ _ h
  refine ⟨mH.1,mH.2,fun p hp lN=>?_⟩
  have key:∀ q,q ≠ .slot d -> q ≠ .obj o -> c ∉ RR q:=by
   intro q h1 h2 h3
   rcases ti c hc with h | h
   ·exact hi.apart q (.slot d) h1 c h3 h
   ·exact hi.apart q (.obj o) h2 c h3 h
  cases p with
  | obj q =>
   by_cases hq:q = o
   ·subst hq; simp [fc] at lN
   ·have:c ∈ RR (.obj q):=by simpa [fc,hq] using lN
    exact key (.obj q) (by simp) (by simpa using hq) this
  | slot q =>
   rcases iY st RR o [] q with h | h
   ·rw [h] at lN; cases lN
   ·rw [h] at lN; exact key (.slot q) hp (by simp) lN
end
theorem Sh.Cc{N : eZ}{st : St}{d : Nat}(k o n : Nat){s : Nat}{xs : List X}{rows : List (List X)}(hx : look st.aC d = some (.agg xs))(hk : xs[k]? = some (.dn s rows))(hm : X.cw o (xs.set k .no) = false)(hF : N.F.elem o = false)(hn : n = rows.length) :
  Sh N st (((st.kill o).de o (.rows s rows)).put d (.agg (xs.set k (.aR o s 0 n)))):=by subst hn; exact Sh.P4 k o hx hk hm hF
theorem dy.jm{P:Program}{N:eZ}{st:St}{ops:Array Oper}(L F':List Nat)(J:St){Q:Exit -> St -> Prop}{id:Nat}(hm:P.follows .mixedOrders = true)(h:cf P N L F' ops ops.size (Array.replicate ops.size false) st (fun aW=>Le aW J))(k:Q .normal J):dy P N (.region id ops true) st Q:=by
 intro G hn a w hh
 obtain ⟨E,RR,hw,hi⟩:=hh.drew
 refine wp_mono (wp_region_held (S:=SG (mx G E L (fun o=>RR (.obj o)) F')) hm (hw ▸ h G hn E RR a _ (fun _ _=>rfl) hi)) ?_
 rintro e a w ⟨rfl,aW,hk,iH⟩
 exact ⟨J,hk.holds iH,k⟩
theorem dy.dQ{P:Program}{N:eZ}{st:St}{ops:Array Oper}(J:St){Q:Exit -> St -> Prop}{id:Nat}(hm:P.follows .mixedOrders = true)(h:cf P N [] N.F ops ops.size (Array.replicate ops.size false) st (fun aW=>Le aW J))(k:Q .normal J):dy P N (.region id ops true) st Q:=dy.jm [] N.F J hm h k
theorem yp(x:Nat):IntKind.u8.wrap (x:Int) = ((x % 256:Nat):Int):=by
 unfold IntKind.wrap
 simp only [IntKind.signed,IntKind.bits]
 simp
end Go.AW
namespace Go.AW
open Go
section
variable {P:Program} {ops:Array Oper} {Q:Exit -> Act -> World -> Prop} {md:Region.Mode} {S:World -> Prop}
def wpAnyL(P : Program)(md : Region.Mode)(ops : Array Oper)(Q : Exit → Act → World → Prop)(S : World → Prop)(LT : List Nat) : Nat → Array Bool → Act → World → Prop
 | 0,ah,a,w=>Region.ready md ops ah = [] /\ Q .normal a w
 | n + 1, ah, a, w => (Region.ready md ops ah = [] → Q .normal a w) ∧
   ∀ i ∈ Region.ready md ops ah,wpOp P ops Q i (fun a' w'=>(i ∈ LT \/ S w') /\ wpAnyL P md ops Q S LT n (ah.setIfInBounds i true) a' w') a w
theorem pV{LT : List Nat} : ∀ (n : Nat) (ah : Array Bool) (a : Act) (w : World), wpAnyL P md ops Q S LT n ah a w → wpAny P md ops Q n ah a w
 | 0,_,_,_,h=>h
 | n + 1,_,_,_,h=>⟨h.1,fun i hi=>wpOp_mono (fun a' w' h'=>pV n _ a' w' h'.2) (h.2 i hi)⟩
theorem vM{LT : List Nat} : ∀ (n : Nat) (ah : Array Bool) (a : Act) (w : World), (∀ j, ah.getD j true = false → j ∈ LT) → wpAny P md ops Q n ah a w → wpAnyL P md ops Q S LT n ah a w
 | 0,_,_,_,_,h=>h
 | n + 1,ah,_,_,hl,h=>⟨h.1,fun i hi=>wpOp_mono (fun a' w' h'=>⟨.inl (hl i (mem_ready.1 hi).1),vM n _ a' w' (fun j hj=>by
   refine hl j ?_
   by_cases R8:i = j
   ·subst R8; exact (mem_ready.1 hi).1
   ·rw [getD_set_ne true R8] at hj; exact hj) h'⟩) (h.2 i hi)⟩
theorem wpAnyL_first{LT : List Nat}{i : Nat}{oi : Oper}{v : Value}(hi : ops[i]? = some oi)(EG : ∀ (j : Nat) (o : Oper) cs b, ops[j]? = some o → o.op ≠ .select cs b)
  (hQ:∀ c a w,Q (.panic c) (a.put oi.dst v) w -> Q (.panic c) a w) (gG:∀ j ∈ LT,∀ oj,ops[j]? = some oj -> ∃ e ∈ oj.after,Region.binds md e = true /\ e.on = i) :
  ∀ (n : Nat) (ah : Array Bool) (a : Act) (w : World), (∀ j oj, ops[j]? = some oj → j ≠ i → ah.getD j true = false → (∀ e ∈ oj.after, Region.binds md e = true → e.on ≠ i) → oi.apart ops oj = true) →
   i ∈ Region.ready md ops ah -> YieldsIf P ops S oi v a -> S w -> wpAnyL P md ops Q S LT n (ah.setIfInBounds i true) (a.put oi.dst v) w -> wpAnyL P md ops Q S LT (n + 1) ah a w:=by
 intro n
 induction n with
 | zero =>
  intro ah a w _ hr hy hS H
  refine ⟨fun h=>(by rw [h] at hr; cases hr),fun j hj=>?_⟩
  by_cases zC:j = i
  ·subst zC; exact hy.wpOp hi hS ⟨.inr hS,H⟩
  ·have:=ready_mono hj zC
   rw [H.1] at this
   cases this
 | succ n ih =>
  intro ah a w mG hr hy hS H
  refine ⟨fun h=>(by rw [h] at hr; cases hr),fun j hj=>?_⟩
  by_cases zC:j = i
  ·subst zC; exact hy.wpOp hi hS ⟨.inr hS,H⟩
  ·have h1:=H.2 j (ready_mono hj zC)
   obtain ⟨PC,oj,DV,vf⟩:=mem_ready.1 hj
   have HT:∀ e ∈ oj.after,Region.binds md e = true -> e.on ≠ i:=by
    intro e he hb heq
    have h3:=vf e he hb
    have h4:=(mem_ready.1 hr).1
    rw [heq] at h3
    rcases Nat.lt_or_ge i ah.size with h' | h'
    ·simp [h'] at h3 h4; rw [h3] at h4; cases h4
    ·simp [Array.getElem?_eq_none h'] at h3
   have o5:j ∉ LT:=fun hm=>by
    obtain ⟨e,he,hb,ho⟩:=gG j hm oj DV
    exact HT e he hb ho
   have h2:=wpOp_putIf DV (mG j oj DV zC PC HT) (fun cs b=>EG i oi cs b hi) (fun cs b=>EG j oj cs b DV) hQ hy h1
   refine wpOp_mono (fun a' w' h3=>⟨h3.2.1,ih (ah.setIfInBounds j true) a' w' ?_ (ready_mono hr (Ne.symm zC)) h3.1 (h3.2.1.resolve_left o5) ?_⟩) h2
   ·intro k ok hk vd Oh HO
    refine mG k ok hk vd ?_ HO
    by_cases vw:j = k
    ·subst vw; exact PC
    ·rw [getD_set_ne true vw] at Oh; exact Oh
   ·rw [Array.setIfInBounds_comm _ _ zC]; exact h3.2.2
end
end Go.AW
namespace Go.AW
open Go
section
variable {P:Program} {N:eZ} {st:St} {ops:Array Oper} {d:Nat} {ty:TypeId} {pos:String} {af:Array Edge} {K:St -> Prop}
def yq(ops:Array Oper)(LT:List Nat)(i:Nat):Bool:=LT.all fun j=>match ops[j]? with
 | some oj=>oj.after.toList.any fun e=>Region.binds .any e && e.on == i
 | none=>true
theorem lX{Q : Exit → Act → World → Prop}{S : World → Prop}{LT : List Nat}{i : Nat}{oi : Oper}{v : Value}{n : Nat}{ah : Array Bool}{a : Act}{w : World}(hi : ops[i]? = some oi)
  (hs:Region.noSelect ops = true) (hf:Region.free .any ops ah i = true) (hr:(Region.ready .any ops ah).contains i = true) (gG:yq ops LT i = true)
  (hQ:∀ c a w,Q (.panic c) (a.put oi.dst v) w -> Q (.panic c) a w) (hy:YieldsIf P ops S oi v a) (hS:S w)
  (h:wpAnyL P .any ops Q S LT n (ah.setIfInBounds i true) (a.put oi.dst v) w):wpAnyL P .any ops Q S LT (n + 1) ah a w :=
 wpAnyL_first hi (Region.noSelect_spec hs) hQ (fun j hj oj DV=>by
  have h1:=List.all_eq_true.1 gG j hj
  simp only [DV,List.any_eq_true,Bool.and_eq_true,beq_iff_eq,Array.mem_toList_iff] at h1
  exact h1) n ah a w (Region.free_spec hi hf) (by simpa using hr) hy hS h
theorem AB{Q : Exit → Act → World → Prop}{S : World → Prop}{LT rs : List Nat}{n : Nat}{ah : Array Bool}{a : Act}{w : World}(hr : Region.ready .any ops ah = rs)(fb : rs ≠ [])
  (h:∀ i ∈ rs,wpOp P ops Q i (fun a' w'=>S w' /\ wpAnyL P .any ops Q S LT n (ah.setIfInBounds i true) a' w') a w):wpAnyL P .any ops Q S LT (n + 1) ah a w :=
 ⟨fun h0=>absurd (hr ▸ h0) fb,fun i hi=>wpOp_mono (fun _ _ h'=>⟨.inr h'.1,h'.2⟩) (h i (hr ▸ hi))⟩
def gC(P:Program)(N:eZ)(LT:List Nat)(ops:Array Oper)(R:Nat -> Array Bool -> St -> Prop)(n:Nat)(ah:Array Bool)(st:St):Prop :=
 ∀ G : Ctx, G.fn = N → ∀ Q : Exit → Act → World → Prop, (∀ c a w, Q (.panic c) a w → False) →
  (∀ n' l' aW a' w',R n' l' aW -> cF G aW a' w' -> wpAnyL P .any ops Q (SG G) LT n' l' a' w') -> ∀ a w,cF G st a w -> wpAnyL P .any ops Q (SG G) LT n ah a w
def dB(P:Program)(N:eZ)(LT L F':List Nat)(ops:Array Oper)(n:Nat)(ah:Array Bool)(st:St)(K:St -> Prop):Prop :=
 ∀ G : Ctx, G.fn = N → ∀ E RR a (T : Nat → List Nat), (∀ o ∈ L, RR (.obj o) = T o) → Inv G E RR st a →
  wpAnyL P .any ops (fun e a w=>e = .normal /\ ∃ aW,K aW /\ cF G aW a w) (SG (mx G E L T F')) LT n ah a E.w
theorem dB.blind{LT L F' : List Nat}{n : Nat}{ah : Array Bool}(i : Nat){op : Op}{x : X}(ho : ops[i]? = some ⟨some d, op, ty, pos, af, none⟩)
  (hB:(Region.noSelect ops && Region.free .any ops ah i && (Region.ready .any ops ah).contains i) = true) (gG:yq ops LT i = true) (hy:aw P N st ⟨some d,op,ty,pos,af,none⟩ x) (hd:d < N.n)
  (k:dB P N LT L F' ops n (ah.setIfInBounds i true) (st.put d x) K):dB P N LT L F' ops (n + 1) ah st K:=by
 intro G hn E RR a T hT hi
 obtain ⟨u,hr,hx⟩:=hy G E RR a hn hi
 simp only [Bool.and_eq_true] at hB
 refine lX (v:=u) ho hB.1.1 hB.1.2 hB.2 gG ?_ (.inl ⟨by simp [Region.wanted],fun w _=>hr w⟩) (hi.Iu L T F') (k G hn E _ _ T ?_ (hi.gZ (hn ▸ hd) hx))
 ·intro c a w h
  cases h.1
 ·intro o ho
  have:=hT o ho
  simpa [fA] using this
theorem dB.load{LT L F' : List Nat}{n : Nat}{ah : Array Bool}(i : Nat){t : TypeId}{x : Operand}{p y : X}{row : List X}(ho : ops[i]? = some ⟨some d, .load t x, ty, pos, af, none⟩)
  (hB:(Region.noSelect ops && Region.free .any ops ah i && (Region.ready .any ops ah).contains i) = true) (gG:yq ops LT i = true) (ht:TY.shape P t = some none) (hx:bW st x = some p) (hL:vJ L p = true) (hr:rowAt st p = some row)
  (hy:row[lk p]? = some y) (hf:y.free = true) (hd:d < N.n)
  (k:dB P N LT L F' ops n (ah.setIfInBounds i true) (st.put d y) K):dB P N LT L F' ops (n + 1) ah st K:=by
 intro G hn E RR a T hT hi
 obtain ⟨R,hp⟩:=hi.eval hx
 obtain ⟨b,off,hc,iv⟩:=hi.behind hp hr
 obtain ⟨b',tg,q6,nV⟩:=hi.held (F':=F') hT hp hr hL
 obtain ⟨rfl,rfl⟩:=r5 (hc.symm.trans q6)
 have hk:lk p < row.length:=by
  rcases Nat.lt_or_ge (lk p) row.length with h' | h'
  ·exact h'
  ·simp [List.getElem?_eq_none h'] at hy
 obtain ⟨vs,R',hl,hv,gf⟩:=iv (lk p) 1 om
 rw [getElem?_drop_take_one hy] at gf
 simp only [b6] at gf
 obtain ⟨c,dg,R₁,R₂,HA,_,h1,⟨rfl,rfl⟩,rfl⟩:=gf
 subst HA
 have h0:=RX.free hf h1
 subst h0
 simp only [Bool.and_eq_true] at hB
 refine lX (v:=c) ho hB.1.1 hB.1.2 hB.2 gG ?_ (.inl ⟨by simp [Region.wanted],fun w hw=>?_⟩) (hi.Iu L T F') (k G hn E _ _ T ?_ (hi.gZ (hn ▸ hd) h1))
 ·intro c a w h
  cases h.1
 ·show (do let z <- Instr.loadAt t (a.eval x); pure (Next.value z):Sem Next).run P w = _
  rw [hc]
  refine dN ?_
  have gJ:=hv 0 c rfl
  simp only [Instr.loadAt,Instr.sureAddr,loadVar,Sem.run_bind,Sem.run_pure,Result.andThen_ok,(TY.iX ht w).1]
  simp only [Nat.add_zero] at gJ
  rw [<- nV w hw _ hk] at gJ
  simp [gJ]
 ·intro o ho
  have:=hT o ho
  simpa [fA] using this
theorem dB.fu{LT L F' : List Nat}{n : Nat}{ah : Array Bool}(i : Nat){t : TypeId}{x : Operand}{p : X}{row : List X}{m : Nat}{ys : List X}(ho : ops[i]? = some ⟨some d, .load t x, ty, pos, af, none⟩)
  (hB:(Region.noSelect ops && Region.free .any ops ah i && (Region.ready .any ops ah).contains i) = true) (gG:yq ops LT i = true) (ht:TY.shape P t = some (some m)) (hx:bW st x = some p) (hL:vJ L p = true) (hr:rowAt st p = some row)
  (hm:lk p + m <= row.length) (zK:(row.drop (lk p)).take m = ys) (hf:X.b5 ys = true) (hd:d < N.n)
  (k:dB P N LT L F' ops n (ah.setIfInBounds i true) (st.put d (.agg ys)) K):dB P N LT L F' ops (n + 1) ah st K:=by
 intro G hn E RR a T hT hi
 obtain ⟨R,hp⟩:=hi.eval hx
 obtain ⟨b,off,hc,iv⟩:=hi.behind hp hr
 obtain ⟨b',tg,q6,nV⟩:=hi.held (F':=F') hT hp hr hL
 obtain ⟨rfl,rfl⟩:=r5 (hc.symm.trans q6)
 obtain ⟨vs,R',hl,hv,gf⟩:=iv (lk p) m hm
 rw [zK] at gf
 have h0:=b6.free hf gf
 subst h0
 simp only [Bool.and_eq_true] at hB
 refine lX (v:=.agg vs.toArray) ho hB.1.1 hB.1.2 hB.2 gG ?_ (.inl ⟨by simp [Region.wanted],fun w hw=>?_⟩) (hi.Iu L T F') (k G hn E _ _ T ?_ (hi.gZ (hn ▸ hd) (by simp only [RX]; exact ⟨_,rfl,gf⟩)))
 ·intro c a w h
  cases h.1
 ·show (do let z <- Instr.loadAt t (a.eval x); pure (Next.value z):Sem Next).run P w = _
  rw [hc]
  refine dN ?_
  obtain ⟨h1,h2⟩:=TY.nu ht w
  have h3:(loadCells ⟨b,off + lk p,none⟩ m).run P w = .ok vs.toArray w:=by
   rw [<- hl]
   refine run_loadCells_list (w:=w) _ vs fun j v hj=>?_
   have o5:j < vs.length:=(List.getElem?_eq_some_iff.1 hj).1
   rw [iu,Nat.add_assoc,nV w hw _ om]; exact hv j v hj
  simp only [Instr.loadAt,Instr.sureAddr,loadVar,Sem.run_bind,Sem.run_pure,Result.andThen_ok,h1,if_true,h2,h3]
 ·intro o ho
  have:=hT o ho
  simpa [fA] using this
def JT(P:Program)(N:eZ)(LT L:List Nat)(ops:Array Oper)(st:St)(K:St -> Prop)(n':Nat)(l':Array Bool)(aW:St):Prop :=
 ((List.range l'.size).all fun j=>l'.getD j true || LT.elem j) = true /\ fo P N ops n' l' ⟨aW.aC,st.back L aW.aD⟩ K
theorem dB.DZ{LT L F' : List Nat}{n : Nat}{ah : Array Bool}(hF : N.F.all (fun o => F'.elem o) = true)(Lf : L.all (fun o => F'.elem o) = true)
  (aY:bJ st L F') (k:gC P ⟨N.n,F'⟩ LT ops (JT P N LT L ops st K) n ah ⟨st.aC,st.aD.filter fun p=>!L.elem p.1⟩):dB P N LT L F' ops n ah st K:=by
 intro G hn E RR a T hT hi
 refine k (mx G E L T F') (by simp [mx,hn]) _ (fun c a w h=>by cases h.1) ?_ a E.w (mx.down hi hT ⟨fun _ _ h=>h,fun _ _ h=>(jk h).1⟩ ?_)
 ·rintro n' l' aW a' w' ⟨hl,hk⟩ hh
  refine vM n' l' a' w' (fun j hj=>?_) (hk G hn a' w' (mx.up hi hT (fun o ho=>List.all_eq_true.1 hF o (List.elem_iff.1 (hn ▸ ho))) (fun o ho=>List.all_eq_true.1 Lf o ho) aY hh))
  rcases Nat.lt_or_ge j l'.size with h' | h'
  ·have h1:=List.all_eq_true.1 hl j (List.mem_range.2 h')
   rw [hj,Bool.false_or] at h1
   exact List.elem_iff.1 h1
  ·simp [Array.getD,Nat.not_lt.2 h'] at hj
 ·intro o ho
  have key:∀ x,look (st.aD.filter fun p=>!L.elem p.1) o ≠ some x:=fun x h=>absurd ho (jk h).2
  show look (st.aD.filter fun p=>!L.elem p.1) o = none
  generalize look (st.aD.filter fun p=>!L.elem p.1) o = z at key
  cases z with
  | none=>rfl
  | some x=>exact absurd rfl (key x)
section
variable {LT:List Nat} {R:Nat -> Array Bool -> St -> Prop}
theorem gC.back{n:Nat}{ah:Array Bool}(h:R n ah st):gC P N LT ops R n ah st:=fun _ _ _ _ hR _ _ hh=>hR _ _ _ _ _ h hh
theorem gC.late{N0 : eZ}{L : List Nat}{Xj : St}{n : Nat}{ah : Array Bool}(h : ((List.range ah.size).all fun j => ah.getD j true || LT.elem j) = true)
  (k:fo P N0 ops n ah ⟨st.aC,Xj.back L st.aD⟩ K):gC P N LT ops (JT P N0 LT L ops Xj K) n ah st:=gC.back ⟨h,k⟩
theorem gC.step{n : Nat}{ah : Array Bool}(j : Nat){o : Oper}(ho : ops[j]? = some o)
  (k:aS P N ops [o] st (fun e aW=>e = .normal /\ gC P N LT ops R n (ah.setIfInBounds j true) aW)) (G:Ctx) (hn:G.fn = N) (Q:Exit -> Act -> World -> Prop) (hQ:∀ c a w,Q (.panic c) a w -> False)
  (hR:∀ n' l' aW a' w',R n' l' aW -> cF G aW a' w' -> wpAnyL P .any ops Q (SG G) LT n' l' a' w') (a:Act) (w:World) (hh:cF G st a w) :
  wpOp P ops Q j (fun a' w'=>SG G w' /\ wpAnyL P .any ops Q (SG G) LT n (ah.setIfInBounds j true) a' w') a w:=by
 have hk:=k G hn a w hh
 have key : wpOp P ops (fun e a w => oe G (fun e aW => e = .normal ∧ gC P N LT ops R n (ah.setIfInBounds j true) aW) e a w) j
   (fun a w=>oe G (fun e aW=>e = .normal /\ gC P N LT ops R n (ah.setIfInBounds j true) aW) .normal a w) a w:=by
  unfold wpOp; simp only [ho]; exact hk
 refine qJ ?_ ?_ key
 ·rintro e a w he ⟨aW,_,h,_⟩
  exact he h
 ·rintro a w ⟨aW,iH,_,zB⟩
  exact ⟨iH.sg,zB G hn Q hQ hR a w iH⟩
theorem gC.one{n : Nat}{ah : Array Bool}(i : Nat){o : Oper}(ho : ops[i]? = some o)(hr : (Region.ready .any ops ah == [i]) = true)
  (k:aS P N ops [o] st (fun e aW=>e = .normal /\ gC P N LT ops R n (ah.setIfInBounds i true) aW)):gC P N LT ops R (n + 1) ah st:=by
 intro G hn Q hQ hR a w hh
 refine AB (rs:=[i]) (by simpa using hr) (by simp) ?_
 intro j hj
 have:j = i:=by simpa using hj
 subst this
 exact gC.step j ho k G hn Q hQ hR a w hh
theorem gC.blind{n : Nat}{ah : Array Bool}(i : Nat){op : Op}{x : X}(ho : ops[i]? = some ⟨some d, op, ty, pos, af, none⟩)
  (hB:(Region.noSelect ops && Region.free .any ops ah i && (Region.ready .any ops ah).contains i) = true) (gG:yq ops LT i = true) (hy:aw P N st ⟨some d,op,ty,pos,af,none⟩ x) (hd:d < N.n)
  (k:gC P N LT ops R n (ah.setIfInBounds i true) (st.put d x)):gC P N LT ops R (n + 1) ah st:=by
 intro G hn Q hQ hR a w hh
 have hS:=hh.sg
 obtain ⟨E,RR,rfl,hi⟩:=hh
 obtain ⟨u,hr,hx⟩:=hy G E RR a hn hi
 simp only [Bool.and_eq_true] at hB
 refine lX (v:=u) ho hB.1.1 hB.1.2 hB.2 gG ?_ (.inl ⟨by simp [Region.wanted],fun w _=>hr w⟩) hS (k G hn Q hQ hR _ _ ⟨E,_,rfl,hi.gZ (hn ▸ hd) hx⟩)
 intro c a w h
 exact (hQ _ _ _ h).elim
end
theorem dy.AD(LT L F':List Nat){Q:Exit -> St -> Prop}{id:Nat}(hm:P.follows .mixedOrders = true)(h:dB P N LT L F' ops ops.size (Array.replicate ops.size false) st (fun aW=>Q .normal aW)):dy P N (.region id ops true) st Q:=by
 intro G hn a w hh
 obtain ⟨E,RR,hw,hi⟩:=hh.drew
 refine wp_mono (wp_region_any hm (pV (S:=SG (mx G E L (fun o=>RR (.obj o)) F')) (LT:=LT) _ _ _ _ (hw ▸ h G hn E RR a _ (fun _ _=>rfl) hi))) ?_
 rintro e a w ⟨rfl,aW,hk,iH⟩
 exact ⟨aW,iH,hk⟩
end
end Go.AW
namespace Go.AW
open Go
section
variable {P:Program} {N:eZ} {st:St} {Q:Exit -> St -> Prop} {all:Array Oper} {rest:List Oper} {d:Nat} {ty:TypeId} {pos:String} {af:Array Edge}
theorem Sh.PE(o q i : Nat){s n : Nat}{rows : List (List X)}{rs : List (List X)}(sO : List (List X))(ho : look st.aD o = some (.rows 1 rs))(hr : rs[i]? = some [.dn s rows])(he : rs.set i [.no] = sO)(hl : n = rows.length)(fb : Nat.beq q o = false)(hF : N.F.elem q = false) :
  Sh N st (((st.kill q).de q (.rows s rows)).de o (.hole sO i q s n)):=by
 intro G hn a w hh
 obtain ⟨E,RR,rfl,hi⟩:=hh
 subst he hl
 have aY:=hi.aD o _ ho
 have js:=hi.nodup (.obj o)
 simp only [dh] at aY
 obtain ⟨hu,aY⟩:=aY
 rcases aY with ⟨_,h,_⟩ | ⟨B,cs,tb,R',hB,hw,hφ,kS,hlen,jF,gK⟩
 ·subst h; simp at hr
 have zT:i < rs.length:=by
  rcases Nat.lt_or_ge i rs.length with h' | h'
  ·exact h'
  ·simp [List.getElem?_eq_none h'] at hr
 obtain ⟨u,Ry,R1,z3,hs,CT,z9,KM,dG⟩:=cE.pick (k:=0) (y:=.dn s rows) hu jF hr rfl
 rw [gK] at js
 obtain ⟨sj,mF⟩:=List.nodup_cons.1 js
 have NF:=KM mF
 obtain ⟨m1,m2,m3⟩:=List.nodup_append.1 NF
 have xQ:∀ b ∈ Ry ++ R1,b ∈ RR (.obj o):=fun b hb=>by rw [gK]; exact List.mem_cons.2 (.inr (dG b hb))
 have CN:(B.b :: R1).Nodup:=List.nodup_cons.2 ⟨fun h=>sj (dG _ (List.mem_append.2 (.inr h))),m2⟩
 have yr:∀ b ∈ B.b :: R1,b ∈ RR (.obj o):=fun b hb=>by
  rcases List.mem_cons.1 hb with h | h
  ·rw [gK,h]; simp
  ·exact xQ b (List.mem_append.2 (.inr h))
 have lM:Inv G E (fA RR (.obj o) (B.b :: R1)) (st.de o (.rows 1 (rs.set i [.no]))) a:=by
  refine hi.de ?_ CN fun b hb=>?_
  ·simp only [dh]
   refine ⟨hu.set rfl,.inr ⟨B,cs,tb,R1,hB,hw,hφ,by simpa using kS,hlen,z9,rfl⟩⟩
  ·exact ⟨(hi.own _ _ (yr b hb)).1,(hi.own _ _ (yr b hb)).2,fun p hp h=>hi.apart _ _ hp b h (yr b hb)⟩
 have Nw:q ≠ o:=Nat.ne_of_beq_eq_false fb
 have g9:∀ (bk:Option zI) R',E.On { E with β:=fun p=>if p = q then bk else E.β p } R':=fun _ R'=>⟨fun _ _ _ h=>h,fun _ _=>⟨rfl,fun h=>h⟩⟩
 have hβ:∀ (bk:Option zI),di G E { E with β:=fun p=>if p = q then bk else E.β p } (fun _=>False):=fun _ =>
  ⟨rfl,fun _ h=>h.elim,fun _ h=>h.elim,fun _ _ _=>rfl,Nat.le_refl _,rfl,rfl,rfl⟩
 have fin : ∀ (bk : Option zI), dh { E with β := fun p => if p = q then bk else E.β p } q (.rows s rows) Ry → RX { E with β := fun p => if p = q then bk else E.β p } (.aR q s 0 rows.length) u [] →
   cF G (((st.kill q).de q (.rows s rows)).de o (.hole (rs.set i [.no]) i q s rows.length)) a E.w:=by
  intro bk Tp hx
  have h4 := lM.ln (hβ bk) (o := q) (ob := .rows s rows) (R := Ry) (fun _ h => h.elim) (fun p hp => by simp [hp]) (fun h => by rw [hn, hF] at h; cases h) Tp m1
   (fun c hc=>by
    have R9:=xQ c (List.mem_append.2 (.inl hc))
    refine ⟨(hi.own _ _ R9).1,(hi.own _ _ R9).2,fun p hp lN=>?_⟩
    unfold fA at lN
    split at lN
    ·rcases List.mem_cons.1 lN with h | h
     ·exact sj (h ▸ dG c (List.mem_append.2 (.inl hc)))
     ·exact m3 c hc c h rfl
    ·rename_i Rv
     exact hi.apart p (.obj o) Rv c lN R9)
  have Tq:fc (st.de o (.rows 1 (rs.set i [.no]))) (fA RR (.obj o) (B.b :: R1)) q Ry (.obj o) = B.b :: R1:=by simp [fc,Ne.symm Nw,fA]
  have h5 := h4.de (o := o) (ob := .hole (rs.set i [.no]) i q s rows.length) (R := B.b :: R1)
   (by
    simp only [dh]
    exact ⟨hu.set rfl,B,cs,tb,R1,u,by simp [Ne.symm Nw,hB],hw,hφ,by simpa using kS,by simpa using hlen,cE.mono _ _ _ _ (g9 bk R1) z9,rfl,by simpa using zT,by simpa using z3,hs,hx⟩)
   CN (fun b hb=>⟨(hi.own _ _ (yr b hb)).1,(hi.own _ _ (yr b hb)).2,fun p hp h=>h4.apart p (.obj o) hp b h (by rw [Tq]; exact hb)⟩)
  refine ⟨{ E with β:=fun p=>if p = q then bk else E.β p },_,rfl,{ h5 with aC:=fun p y hy=>h5.aC p y hy,aD:=fun p y hy=>h5.aD p y ?_ }⟩
  simp only [St.de,St.kill,wj,List.map_cons,look] at hy ⊢
  cases hb:Nat.beq o p with
  | true=>rw [hb] at hy; simpa using hy
  | false=>rw [hb] at hy; simpa using hy
 simp only [RX] at CT
 obtain ⟨Xk,base,cap,hc,cX⟩:=CT
 rcases cX with ⟨h1,h2,h3⟩ | ⟨b,off,dg,Ru,CK,hb,rZ,x5,lS,Tr,zS,Ts⟩
 ·refine fin none ?_ ?_
  ·simp only [dh]; exact ⟨Xk,.inl ⟨by simp,h1,h3⟩⟩
  ·simp only [RX]; exact ⟨trivial,base,cap,hc,.inl ⟨by simp,trivial,by simp [h1],h2⟩⟩
 ·refine fin (some ⟨b,off,cap⟩) ?_ ?_
  ·simp only [dh]; exact ⟨Xk,.inr ⟨⟨b,off,cap⟩,dg,Ru,CK,by simp,rZ,Tr,x5,lS,cE.mono _ _ _ _ (g9 _ _) zS,Ts⟩⟩
  ·simp only [RX]; exact ⟨trivial,base,cap,hc,.inr ⟨⟨b,off,cap⟩,by simp,by simp,x5,.inr (by simpa using hb)⟩⟩
theorem Inv.uz{G:Ctx}{E:Env}{RR:Own -> List Nat}{a:Act}(hi:Inv G E RR st a){o i q s n:Nat}{rs:List (List X)}(ho:look st.aD o = some (.hole rs i q s n)):Inv G E RR (st.de o (.rows 1 rs)) a :=
 {hi with
  aD:=fun p ob hp=>by
   simp only [St.de,look] at hp
   cases hb:Nat.beq o p with
   | true =>
    rw [hb] at hp
    simp only [cond_true,Option.some.injEq] at hp
    obtain rfl:=Nat.eq_of_beq_eq_true hb
    subst hp
    exact (hi.aD o _ ho).wm
   | false =>
    rw [hb] at hp
    exact hi.aD p ob hp }
theorem dB.uz{LT L F' : List Nat}{ops : Array Oper}{m : Nat}{ah : Array Bool}{K : St → Prop}(o : Nat){i q s n : Nat}{rs : List (List X)}(ho : look st.aD o = some (.hole rs i q s n))
  (k:dB P N LT L F' ops m ah (st.de o (.rows 1 rs)) K):dB P N LT L F' ops m ah st K:=fun G hn E RR a T hT hi=>k G hn E RR a T hT (hi.uz ho)
theorem cf.uz{L F' : List Nat}{ops : Array Oper}{m : Nat}{ah : Array Bool}{K : St → Prop}(o : Nat){i q s n : Nat}{rs : List (List X)}(ho : look st.aD o = some (.hole rs i q s n))
  (k:cf P N L F' ops m ah (st.de o (.rows 1 rs)) K):cf P N L F' ops m ah st K:=fun G hn E RR a T hT hi=>k G hn E RR a T hT (hi.uz ho)
end
end Go.AW
namespace Go.AW
open Go
section
variable {P:Program} {N:eZ} {st:St} {dst:Option Nat} {ty:TypeId} {pos:String} {af:Array Edge} {g:Option (Nat × Bool)}
theorem Sh.Tt{N:eZ}{d s:Nat}{rows:List (List X)}(kL:List (List X))(hx:look st.aC d = some (.dn s rows))(he:rows = kL):Sh N st (st.put d (.dn s kL)):=by
 subst he
 intro G _ a w hh
 obtain ⟨E,RR,rfl,hi⟩:=hh
 refine ⟨E,RR,rfl,{ hi with aC:=?_ }⟩
 intro t x ht
 simp only [St.put,look] at ht
 cases hb:Nat.beq d t with
 | false=>rw [hb] at ht; exact hi.aC t x ht
 | true =>
  rw [hb] at ht
  have e:=Nat.eq_of_beq_eq_true hb
  subst e
  simp only [cond_true,Option.some.injEq] at ht
  subst ht
  exact hi.aC d _ hx
end
end Go.AW
namespace Go.AW
open Go
section
variable {P:Program} {N:eZ} {st:St} {dst:Option Nat} {ty:TypeId} {pos:String} {af:Array Edge} {g:Option (Nat × Bool)}
end
end Go.AW
namespace Go.AW
open Go
theorem RO.setAt{E : Env}{cs : Array Value}{x y : X}{u : Value}(hf : x.free = true) : ∀ {xs : List X} {off k : Nat} {R : List Nat}, RO E xs cs off R → xs[k]? = some x → cs[off + k]? = some u → RX E y u [] → RO E (xs.set k y) cs off R
 | [],_,_,_,_,h,_,_=>by simp at h
 | z :: r,off,0,R,h,hy,hu,Ae=>by
  simp only [RO] at h
  obtain ⟨u',R₁,R₂,CG,hs,h1,h2,rfl⟩:=h
  simp only [List.getElem?_cons_zero,Option.some.injEq] at hy
  subst hy
  have h0:=RX.free hf h1
  subst h0
  rw [Nat.add_zero,CG] at hu
  obtain rfl:=Option.some.inj hu
  simp only [List.set,RO]
  exact ⟨u',[],R₂,CG,hs,Ae,h2,rfl⟩
 | z :: r,off,k + 1,R,h,hy,hu,Ae=>by
  simp only [RO] at h
  obtain ⟨u',R₁,R₂,CG,hs,h1,h2,rfl⟩:=h
  simp only [List.getElem?_cons_succ] at hy
  simp only [List.set,RO]
  exact ⟨u',R₁,R₂,CG,hs,h1,RO.setAt hf h2 hy (by rw [show off + 1 + k = off + (k + 1) by omega]; exact hu) Ae,rfl⟩
section
variable {N:eZ} {G:Ctx} {E:Env} {RR:Own -> List Nat} {st:St} {a:Act}
theorem Inv.LA(hi : Inv G E RR st a){o s : Nat}{rs : List (List X)}(ho : look st.aD o = some (.rows s rs))(hf : bN rs)(hF : G.fn.F.elem o = false) :
  ∃ E' fO,E'.w = E.w /\ E'.β = E.β /\ Inv G E' fO ((st.kill o).de o .gone) a /\ ∀ u n,n = rs.length -> RX E (.aR o s 0 n) u [] -> RX E' (.fz s rs) u []:=by
 have aY:=hi.aD o _ ho
 simp only [dh] at aY
 obtain ⟨hu,aY⟩:=aY
 have hβ:di G E E (fun _=>False):=⟨rfl,fun _ h=>h.elim,fun _ h=>h.elim,fun _ _ _=>rfl,Nat.le_refl _,rfl,rfl,rfl⟩
 have lM:=hi.ln hβ (o:=o) (ob:=.gone) (R:=[]) (fun _ h=>h.elim) (fun q _=>rfl) (fun h=>rfl) (by simp only [dh]) List.nodup_nil (fun _ h=>by cases h)
 rcases aY with ⟨h1,h2,h3⟩ | ⟨B,cs,ty,R',hB,hw,hφ,kS,fB,jF,gK⟩
 ·refine ⟨E,_,rfl,rfl,lM,fun u n hn hx=>?_⟩
  simp only [RX] at hx ⊢
  obtain ⟨_,base,cap,hc,cX⟩:=hx
  rcases cX with ⟨_,_,_,h5⟩ | ⟨B,hB,_⟩
  ·subst hn
   exact ⟨trivial,hu,base,cap,hc,.inl ⟨h2,h5⟩⟩
  ·rw [h1] at hB; cases hB
 ·have Ex:=cE.free hf jF
  subst Ex
  have oD:B.b ∈ RR (.obj o):=by rw [gK]; simp
  have hle:∀ c i v,E.φ c i = some v -> (if c = B.b then cs[i]? else E.φ c i) = some v:=by
   intro c i v h
   by_cases tz:c = B.b
   ·subst tz; rw [hφ i] at h; cases h
   ·rw [if_neg tz]; exact h
  have g9:∀ R:List Nat,B.b ∉ R -> E.On { E with φ:=fun c i=>if c = B.b then cs[i]? else E.φ c i } R:=by
   intro R Ks
   refine ⟨hle,fun c q6=>⟨rfl,fun h i=>?_⟩⟩
   have:c ≠ B.b:=fun e=>Ks (e ▸ q6)
   show (if c = B.b then cs[i]? else E.φ c i) = none
   rw [if_neg this]; exact h i
  have KC:∀ p,B.b ∉ fc st RR o [] p:=by
   intro p hp
   cases p with
   | obj q =>
    by_cases hq:q = o
    ·subst hq; simp [fc] at hp
    ·exact hi.apart (.obj q) (.obj o) (by simpa using hq) _ (by simpa [fc,hq] using hp) oD
   | slot q =>
    rcases iY st RR o [] q with h | h
    ·rw [h] at hp; cases hp
    ·rw [h] at hp; exact hi.apart (.slot q) (.obj o) (by simp) _ hp oD
  refine ⟨{ E with φ := fun c i => if c = B.b then cs[i]? else E.φ c i }, _, rfl, rfl,
   {lM with
    lh:=by
     intro c i v h
     change (if c = B.b then cs[i]? else E.φ c i) = some v at h
     by_cases tz:c = B.b
     ·subst tz; rw [if_pos rfl] at h
      show E.w.cell? _ = _
      rw [dq hw]; exact h
     ·rw [if_neg tz] at h; exact hi.lh c i v h
    aC:=fun q x hx=>RX.mono x _ _ (g9 _ (KC _)) (fun _ _=>rfl) (lM.aC q x hx)
    aD:=fun o ob aY=>dh.mono (g9 _ (KC _)) rfl (fun _ _=>rfl) (lM.aD o ob aY)
    φ0:=fun c i v h=>hle c i v (hi.φ0 c i v h)
    grow:=by
     intro c i v h
     change (if c = B.b then cs[i]? else E.φ c i) = some v at h
     by_cases tz:c = B.b
     ·subst tz; exact .inr (hi.own _ _ oD).2
     ·rw [if_neg tz] at h; exact hi.grow c i v h },fun u n hn hx=>?_⟩
  simp only [RX] at hx ⊢
  obtain ⟨_,base,cap,hc,cX⟩:=hx
  subst hn
  rcases cX with ⟨h1,_⟩ | ⟨B',iI,zL,rY,hb⟩
  ·rw [hB] at h1; cases h1
  ·rw [hB] at iI
   obtain rfl:=Option.some.inj iI
   rcases hb with hb | hb
   ·exact ⟨trivial,hu,base,cap,hc,.inl ⟨List.eq_nil_of_length_eq_zero om,hb⟩⟩
   ·refine ⟨trivial,hu,base,cap,hc,.inr ⟨B.b,B.off,by simpa using hb,rY,?_⟩⟩
    refine cE.freeze (E:=E) (fun i v h=>?_) hle jF
    show (if B.b = B.b then cs[i]? else E.φ B.b i) = some v
    rw [if_pos rfl]; exact h
theorem Sh.j7(p o k : Nat){s n : Nat}{xs ys : List X}{rs : List (List X)}(hp : look st.aD p = some (.cells xs))(hk : xs[k]? = some (.aR o s 0 n))(ho : look st.aD o = some (.rows s rs))(hl : n = rs.length)(hf : bN rs)(hF : N.F.elem o = false)
  (J0:look ((st.kill o).de o .gone).aD p = some (.cells ys)) (zB:ys[k]? = some .no) (tw:X.b5 (ys.set k (.fz s rs)) = true) :
  Sh N st (((st.kill o).de o .gone).de p (.cells (ys.set k (.fz s rs)))):=by
 intro G hn a w hh
 obtain ⟨E,RR,rfl,hi⟩:=hh
 have KT:=hi.aD p _ hp
 simp only [dh] at KT
 obtain ⟨_,B,cs,ty,hB,hw,hφ,fB,z9,hR⟩:=KT
 obtain ⟨u,Ry,R1,z3,hs,CT,_,_,_⟩:=RO.pick z9 hk
 have h0:=RX.free (x:=.aR o s 0 n) rfl CT
 subst h0
 obtain ⟨E',fO,rZ,Xq,im,MW⟩:=hi.LA ho hf (by rw [hn]; exact hF)
 have T9:=im.aD p _ J0
 have Qd:=T9
 simp only [dh] at Qd
 obtain ⟨_,B',dg,Ru,iI,wG,Tr,NR,TA,Kw⟩:=Qd
 rw [Xq,hB] at iI
 obtain rfl:=Option.some.inj iI
 rw [rZ,hw] at wG
 simp only [Option.some.injEq,Go.Obj.cells.injEq] at wG
 obtain ⟨rfl,rfl,_⟩:=wG
 refine ⟨E',_,rZ,im.de (R:=fO (.obj p)) ?_ (im.nodup _) (fun b hb=>⟨(im.own _ _ hb).1,(im.own _ _ hb).2,fun q hq h=>im.apart _ _ hq b h hb⟩)⟩
 simp only [dh]
 exact ⟨tw,B,cs,ty,by rw [Xq]; exact hB,by rw [rZ]; exact hw,Tr,by rw [List.length_set]; exact NR,RO.setAt (x:=.no) rfl TA zB z3 (MW u n hl CT),Kw⟩
end
end Go.AW
namespace Go.AW
open Go
section
variable {P:Program} {N:eZ} {st:St} {ops:Array Oper} {d:Nat} {ty:TypeId} {pos:String} {af:Array Edge} {K:St -> Prop} {L F':List Nat} {n:Nat} {ah:Array Bool}
theorem Inv.le{G:Ctx}{E:Env}{RR:Own -> List Nat}{a:Act}{aW:St}(hi:Inv G E RR st a)(h:Le st aW):Inv G E RR aW a :=
 {hi with aC:=fun s x hx=>hi.aC s x (h.1 s x hx),aD:=fun o x hx=>hi.aD o x (h.2 o x hx) }
theorem cf.le{aW:St}(hl:Le st aW)(h:cf P N L F' ops n ah aW K):cf P N L F' ops n ah st K:=fun G hn E RR a T hT hi=>h G hn E RR a T hT (hi.le hl)
theorem cf.split{b:Bool}(hx:look st.aC d = some (.v (.bool b)))(ht:b = true -> cf P N L F' ops n ah (st.put d (.v (.bool true))) K)(hf:b = false -> cf P N L F' ops n ah (st.put d (.v (.bool false))) K):cf P N L F' ops n ah st K:=by
 have:Le st (st.put d (.v (.bool b))):=⟨gd.cons hx (fun _ _ h=>h),fun _ _ h=>h⟩
 cases b
 ·exact (hf rfl).le this
 ·exact (ht rfl).le this
theorem cf.aG{p:Prop}{inst:Decidable p}(hx:look st.aC d = some (.v (.bool (decide p))))(ht:p -> cf P N L F' ops n ah (st.put d (.v (.bool true))) K)(hf:¬ p -> cf P N L F' ops n ah (st.put d (.v (.bool false))) K):cf P N L F' ops n ah st K :=
 cf.split hx (fun h=>ht (of_decide_eq_true h)) (fun h=>hf (of_decide_eq_false h))
theorem Inv.wanted{G : Ctx}{E : Env}{RR : Own → List Nat}{a : Act}{j dj : Nat}{want : Bool}{dst : Option Nat}{op : Op}(hi : Inv G E RR st a)(hj : (ops[j]?).bind (·.dst) = some dj)(uf : dj < G.fn.n)(hx : look st.aC dj = some (.v (.bool want))) :
  Region.wanted ⟨dst,op,ty,pos,af,some (j,want)⟩ (yielded ops a.tmps) = true:=by
 have hs:=hi.aC dj _ hx
 simp only [RX] at hs
 have fB:dj < a.tmps.size:=by rw [hi.tmps]; exact uf
 have hv:a.tmps[dj]? = some (.bool want):=by
  have:=hs.1
  simp only [Array.getD,fB,dif_pos] at this
  rw [Array.getElem?_eq_getElem fB]
  exact congrArg some this
 simp [Region.wanted,yielded,hj,hv]
theorem cf.ck(i : Nat){op : Op}{j dj : Nat}{want : Bool}{u : Value}(ho : ops[i]? = some ⟨some d, op, ty, pos, af, some (j, want)⟩)
  (hB:(Region.noSelect ops && Region.free .any ops ah i && (Region.ready .any ops ah).contains i) = true)
  (hj:(ops[j]?).bind (·.dst) = some dj) (uf:dj < N.n) (hd:d < N.n) (hx:look st.aC dj = some (.v u)) (fb:ua want u = true)
  (k:cf P N L F' ops n (ah.setIfInBounds i true) (st.put d (.v undef)) K):cf P N L F' ops (n + 1) ah st K:=by
 intro G hn E RR a T hT hi
 simp only [Bool.and_eq_true] at hB
 have hw:=mI (all:=ops) (dst:=some d) (op:=op) (ty:=ty) (pos:=pos) (af:=af) hi hj (hn ▸ uf) hx fb
 refine wpAnyH_take (v:=undef) ho hB.1.1 hB.1.2 hB.2 ?_ (.inr ⟨hw,rfl⟩) (hi.Iu L T F') (k G hn E _ _ T ?_ (hi.gZ (hn ▸ hd) (by simp [RX])))
 ·intro c a w h
  cases h.1
 ·intro o ho
  have:=hT o ho
  simpa [fA] using this
theorem cf.fT(i : Nat){op : Op}{x : X}{j dj : Nat}{want : Bool}(ho : ops[i]? = some ⟨some d, op, ty, pos, af, some (j, want)⟩)
  (hB:(Region.noSelect ops && Region.free .any ops ah i && (Region.ready .any ops ah).contains i) = true)
  (hj:(ops[j]?).bind (·.dst) = some dj) (uf:dj < N.n) (hx:look st.aC dj = some (.v (.bool want))) (hy:aw P N st ⟨some d,op,ty,pos,af,some (j,want)⟩ x) (hd:d < N.n)
  (k:cf P N L F' ops n (ah.setIfInBounds i true) (st.put d x) K):cf P N L F' ops (n + 1) ah st K:=by
 intro G hn E RR a T hT hi
 obtain ⟨u,hr,jw⟩:=hy G E RR a hn hi
 simp only [Bool.and_eq_true] at hB
 refine wpAnyH_take (v:=u) ho hB.1.1 hB.1.2 hB.2 ?_ (.inl ⟨hi.wanted hj (hn ▸ uf) hx,fun w _=>hr w⟩) (hi.Iu L T F') (k G hn E _ _ T ?_ (hi.gZ (hn ▸ hd) jw))
 ·intro c a w h
  cases h.1
 ·intro o ho
  have:=hT o ho
  simpa [fA] using this
theorem cf.wV(i : Nat){t : TypeId}{x : Operand}{p y : X}{row : List X}{j dj : Nat}{want : Bool}(ho : ops[i]? = some ⟨some d, .load t x, ty, pos, af, some (j, want)⟩)
  (hB:(Region.noSelect ops && Region.free .any ops ah i && (Region.ready .any ops ah).contains i) = true)
  (hj:(ops[j]?).bind (·.dst) = some dj) (uf:dj < N.n) (hg:look st.aC dj = some (.v (.bool want))) (ht:TY.shape P t = some none) (hx:bW st x = some p) (hL:vJ L p = true) (hr:rowAt st p = some row)
  (hy:row[lk p]? = some y) (hf:y.free = true) (hd:d < N.n)
  (k:cf P N L F' ops n (ah.setIfInBounds i true) (st.put d y) K):cf P N L F' ops (n + 1) ah st K:=by
 intro G hn E RR a T hT hi
 have Qe:=hi.wanted (ops:=ops) (dst:=some d) (op:=.load t x) (ty:=ty) (pos:=pos) (af:=af) hj (hn ▸ uf) hg
 obtain ⟨R,hp⟩:=hi.eval hx
 obtain ⟨b,off,hc,iv⟩:=hi.behind hp hr
 obtain ⟨b',tg,q6,nV⟩:=hi.held (F':=F') hT hp hr hL
 obtain ⟨rfl,rfl⟩:=r5 (hc.symm.trans q6)
 have hk:lk p < row.length:=by
  rcases Nat.lt_or_ge (lk p) row.length with h' | h'
  ·exact h'
  ·simp [List.getElem?_eq_none h'] at hy
 obtain ⟨vs,R',hl,hv,gf⟩:=iv (lk p) 1 om
 rw [getElem?_drop_take_one hy] at gf
 simp only [b6] at gf
 obtain ⟨c,dg,R₁,R₂,HA,_,h1,⟨rfl,rfl⟩,rfl⟩:=gf
 subst HA
 have h0:=RX.free hf h1
 subst h0
 simp only [Bool.and_eq_true] at hB
 refine wpAnyH_take (v:=c) ho hB.1.1 hB.1.2 hB.2 ?_ (.inl ⟨Qe,fun w hw=>?_⟩) (hi.Iu L T F') (k G hn E _ _ T ?_ (hi.gZ (hn ▸ hd) h1))
 ·intro c a w h
  cases h.1
 ·show (do let z <- Instr.loadAt t (a.eval x); pure (Next.value z):Sem Next).run P w = _
  rw [hc]
  refine dN ?_
  have gJ:=hv 0 c rfl
  simp only [Instr.loadAt,Instr.sureAddr,loadVar,Sem.run_bind,Sem.run_pure,Result.andThen_ok,(TY.iX ht w).1]
  simp only [Nat.add_zero] at gJ
  rw [<- nV w hw _ hk] at gJ
  simp [gJ]
 ·intro o ho
  have:=hT o ho
  simpa [fA] using this
theorem aw.pick{c x y:Operand}{b:Bool}{z:X}{dst:Option Nat}{g:Option (Nat × Bool)}(hc:bW st c = some (.v (.bool b)))(hz:bW st (if b then x else y) = some z)(hf:z.free = true):aw P N st ⟨dst,.pick c x y,ty,pos,af,g⟩ z:=by
 intro G E RR a _ hi
 obtain ⟨R,h⟩:=hi.eval hz
 have:=RX.free hf h
 subst this
 refine ⟨a.eval (if b then x else y),fun w=>?_,h⟩
 have q6:=hi.val hc
 simp only [execOp,q6]
 cases b <;> rfl
theorem da.le{aW:St}(hl:Le st aW)(h:da P N ops n ah aW K):da P N ops n ah st K:=fun G hn a w hh=>h G hn a w (hl.holds hh)
theorem da.split{b:Bool}(hx:look st.aC d = some (.v (.bool b)))(ht:b = true -> da P N ops n ah (st.put d (.v (.bool true))) K)(hf:b = false -> da P N ops n ah (st.put d (.v (.bool false))) K):da P N ops n ah st K:=by
 have:Le st (st.put d (.v (.bool b))):=⟨gd.cons hx (fun _ _ h=>h),fun _ _ h=>h⟩
 cases b
 ·exact (hf rfl).le this
 ·exact (ht rfl).le this
theorem da.aG{p:Prop}{inst:Decidable p}(hx:look st.aC d = some (.v (.bool (decide p))))(ht:p -> da P N ops n ah (st.put d (.v (.bool true))) K)(hf:¬ p -> da P N ops n ah (st.put d (.v (.bool false))) K):da P N ops n ah st K :=
 da.split hx (fun h=>ht (of_decide_eq_true h)) (fun h=>hf (of_decide_eq_false h))
theorem da.ck(i : Nat){op : Op}{j dj : Nat}{want : Bool}{u : Value}(ho : ops[i]? = some ⟨some d, op, ty, pos, af, some (j, want)⟩)
  (hB:(Region.noSelect ops && Region.free .any ops ah i && (Region.ready .any ops ah).contains i) = true)
  (hj:(ops[j]?).bind (·.dst) = some dj) (uf:dj < N.n) (hd:d < N.n) (hx:look st.aC dj = some (.v u)) (fb:ua want u = true)
  (k:da P N ops n (ah.setIfInBounds i true) (st.put d (.v undef)) K):da P N ops (n + 1) ah st K:=by
 intro G hn a w hh
 have hS:=hh.sg
 obtain ⟨E,RR,rfl,hi⟩:=hh
 simp only [Bool.and_eq_true] at hB
 have hw:=mI (all:=ops) (dst:=some d) (op:=op) (ty:=ty) (pos:=pos) (af:=af) hi hj (hn ▸ uf) hx fb
 refine wpAnyH_take (v:=undef) ho hB.1.1 hB.1.2 hB.2 ?_ (.inr ⟨hw,rfl⟩) hS (k G hn _ _ ⟨E,_,rfl,hi.gZ (hn ▸ hd) (by simp [RX])⟩)
 intro c a w h
 cases h.1
theorem da.fT(i : Nat){op : Op}{x : X}{j dj : Nat}{want : Bool}(ho : ops[i]? = some ⟨some d, op, ty, pos, af, some (j, want)⟩)
  (hB:(Region.noSelect ops && Region.free .any ops ah i && (Region.ready .any ops ah).contains i) = true)
  (hj:(ops[j]?).bind (·.dst) = some dj) (uf:dj < N.n) (hx:look st.aC dj = some (.v (.bool want))) (hy:aw P N st ⟨some d,op,ty,pos,af,some (j,want)⟩ x) (hd:d < N.n)
  (k:da P N ops n (ah.setIfInBounds i true) (st.put d x) K):da P N ops (n + 1) ah st K:=by
 intro G hn a w hh
 have hS:=hh.sg
 obtain ⟨E,RR,rfl,hi⟩:=hh
 obtain ⟨u,hr,jw⟩:=hy G E RR a hn hi
 simp only [Bool.and_eq_true] at hB
 refine wpAnyH_take (v:=u) ho hB.1.1 hB.1.2 hB.2 ?_ (.inl ⟨hi.wanted hj (hn ▸ uf) hx,fun w _=>hr w⟩) hS (k G hn _ _ ⟨E,_,rfl,hi.gZ (hn ▸ hd) jw⟩)
 intro c a w h
 cases h.1
end
end Go.AW
namespace Go.AW
open Go
def FR(ro:Option Nat):Fence:={ Fence.wide with round:=ro }
def kR(o:Oper):Bool:=match o.op with | .defer _=>false | _=>true
theorem Bc{o:Oper}(h:kR o = true):∀ c,o.op ≠ .defer c:=fun c e=>by simp [kR,e] at h
section
variable {P:Program} {Q:Exit -> Act -> World -> Prop} {a:Act} {w:World} {ro:Option Nat} {o:Oper} {next:Act -> World -> Prop}
theorem uU{f:FuncId}{args:Array Value}{R:Ending -> World -> Prop}{n:Nat}(h:Calls P f args w R):CallsIn (FR ro) n P f args w R:=(callsIn_wide (n:=n)).2 h
theorem Jl{row:String}{args:Array Value}{R:Value -> World -> Prop}{n:Nat}(h:Rows P row args w R):RowsIn (FR ro) n P row args w R :=
 fun c cs _=>let ⟨v,w',r,s⟩:=h c cs; ⟨v,w',r,stepsIn_wide.2 s⟩
theorem Jm{r:Result Next}(h:o.upon P a next Q r):o.uponIn (FR ro) 0 P a next Q r:=by
 cases r with
 | ok x w' =>
  cases x
  case value v=>exact h
  case skip=>exact h
  case defer d=>exact h
  case enter f args=>exact ⟨fun h=>by simp [FR,Fence.wide] at h,uU h⟩
  case row row args=>exact ⟨fun h=>by simp [FR,Fence.wide] at h,Jl h⟩
  all_goals exact (show False from h).elim
 | halt x w' =>
  cases x
  case panic v=>exact h
  all_goals exact (show False from h).elim
theorem GM(hd:kR o = true)(h:o.wp P a w next Q):o.wpIn (FR ro) 0 P a w next Q:=by
 refine ⟨fun _ _=>trivial,?_⟩
 rw [Oper.semAt_eq _ _ _ (Bc hd)]
 exact Jm h
theorem sE{ops : Array Oper}(hQ : ¬ LetsOut Q) : ∀ {l : List Oper} {a : Act} {w : World}, l.all kR = true → wpList P ops Q l a w → wpListIn (FR ro) 0 P ops Q l a w
 | [],_,_,_,h=>h
 | o :: rest,a,w,hd,h=>by
  simp only [List.all_cons,Bool.and_eq_true] at hd
  unfold wpList at h
  unfold wpListIn
  split at h
  ·rename_i hw
   rw [if_pos hw]
   rcases h with h | h
   ·exact Oper.wpIn_mono (fun _ _ h=>sE hQ hd.2 h) (GM hd.1 h)
   ·exact absurd h.2 hQ
  ·rename_i hw
   rw [if_neg hw]
   exact ⟨fun _ _=>trivial,sE hQ hd.2 h⟩
theorem rQ{ops : Array Oper}(hQ : ¬ LetsOut Q)(hd : ops.toList.all kR = true) : ∀ {l : List Nat} {a : Act} {w : World}, wpOps P ops Q l a w → wpOpsIn (FR ro) 0 P ops Q l a w
 | [],_,_,h=>h
 | i :: rest,a,w,h=>by
  unfold wpOps at h
  unfold wpOpsIn
  cases ho:ops[i]? with
  | none=>rw [ho] at h; exact rQ hQ hd h
  | some o =>
   rw [ho] at h
   simp only at h ⊢
   have Qo:kR o = true:=List.all_eq_true.1 hd o (Array.mem_toList_iff.2 (Array.mem_of_getElem? ho))
   split at h
   ·rename_i hw
    rw [if_pos hw]
    rcases h with h | h
    ·exact Oper.wpIn_mono (fun _ _ h=>rQ hQ hd h) (GM Qo h)
    ·exact absurd h.2 hQ
   ·rename_i hw
    rw [if_neg hw]
    exact ⟨fun _ _=>trivial,rQ hQ hd h⟩
theorem DJ{id:Nat}{l:List Oper}(hQ:¬ LetsOut Q)(hd:l.all kR = true)(h:wpList P l.toArray Q l a w):(Code.region id l.toArray false).wpIn (FR ro) 0 P Q a w :=
 wpIn_region_lit (sE hQ hd h)
theorem lG{id : Nat}{ops : Array Oper}(hm : P.follows .mixedOrders = true)(hQ : ¬ LetsOut Q)(hd : ops.toList.all kR = true)(h : wpAny P .any ops Q ops.size (Array.replicate ops.size false) a { w with drawn := w.drawn + 1 }) :
  (Code.region id ops true).wpIn (FR ro) 0 P Q a w :=
 wpIn_region_draw fun t=>by
  simp only [Region.schedule,hm,Bool.true_or,if_true]
  exact rQ hQ hd (wpAny_sound ops.size t _ a _ h)
theorem xh{c:Code}:c.wpIn (FR none) 0 P Q a w ↔ c.wp P Q a w:=wpIn_wide
end
def DK(K : St → Prop) : Exit → St → Prop
 | .normal,st=>K st
 | _,_=>False
def Ctx.to(G:Ctx)(w:World):Ctx:={ G with w0:=w }
theorem cF.Be{G : Ctx}{st : St}{a : Act}{w w' : World}{S : Nat → Prop}(h : cF G st a w)(hS : ∀ b, S b → G.K b ∧ ∀ i, G.φ0 b i = none)(fB : w.heap.size ≤ w'.heap.size)
  (hw:∀ b,b < w.heap.size -> ¬ S b -> w'.heap[b]? = w.heap[b]?):cF (G.to w') st a w':=by
 obtain ⟨E,RR,rfl,hi⟩:=h
 have Nh:∀ b i,S b -> E.φ b i = none:=fun b i hb=>by
  cases he:E.φ b i with
  | none=>rfl
  | some v =>
   rcases hi.grow b i v he with h1 | h1
   ·rw [(hS b hb).2 i] at h1; cases h1
   ·exact absurd (hS b hb).1 h1
 have gJ:∀ b i v,E.φ b i = some v -> w'.cell? ⟨b,i,none⟩ = some v:=fun b i v hv=>by
  have h1:=hi.lh b i v hv
  have hb:b < E.w.heap.size:=by
   rcases Nat.lt_or_ge b E.w.heap.size with h2 | h2
   ·exact h2
   ·unfold World.cell? at h1
    rw [Array.getElem?_eq_none h2] at h1; cases h1
  unfold World.cell? at h1 ⊢
  rw [hw b hb (fun h2=>by rw [Nh b i h2] at hv; cases hv)]; exact h1
 have mH:∀ p b,b ∈ RR p -> w'.heap[b]? = E.w.heap[b]?:=fun p b hb=>hw b (hi.own p b hb).1 (fun h2=>(hi.own p b hb).2 (hS b h2).1)
 have g9:∀ p,E.On { E with w:=w' } (RR p):=fun p=>⟨fun _ _ _ h=>h,fun c hc=>⟨mH p c hc,fun h i=>h i⟩⟩
 refine ⟨{ E with w:=w' },RR,rfl,?_⟩
 constructor
 case lh=>exact gJ
 case aC=>exact fun s x hx=>RX.mono x _ _ (g9 _) (fun _ _=>rfl) (hi.aC s x hx)
 case aD=>exact fun o ob aY=>dh.mono (g9 _) rfl (fun _ _=>rfl) (hi.aD o ob aY)
 case nodup=>exact hi.nodup
 case apart=>exact hi.apart
 case own=>exact fun p b hb=>⟨Nat.lt_of_lt_of_le (hi.own p b hb).1 fB,(hi.own p b hb).2⟩
 case ai=>exact fun _ _=>rfl
 case size=>exact Nat.le_refl _
 case small=>exact fun b hb=>Nat.lt_of_lt_of_le (Nat.lt_of_lt_of_le (hi.small b hb) hi.size) fB
 case os=>rfl
 case tape=>rfl
 case output=>rfl
 case φ0=>exact hi.φ0
 case grow=>exact hi.grow
 case fixed=>exact hi.fixed
 case tmps=>exact hi.tmps
 case defers=>exact hi.defers
end Go.AW
namespace Go.AW
open Go
abbrev DL:=List (Int × Int)
abbrev qS:=DL × St
structure Kp(S:Nat -> Prop)(W W':World):Prop where
 size:W.heap.size <= W'.heap.size
 same:∀ b,b < W.heap.size -> ¬ S b -> W'.heap[b]? = W.heap[b]?
 os:W'.os = W.os
 tape:W'.tape = W.tape
 output:W'.output = W.output
theorem Kp.refl(S:Nat -> Prop)(W:World):Kp S W W:=⟨Nat.le_refl _,fun _ _ _=>rfl,rfl,rfl,rfl⟩
theorem Kp.trans{S:Nat -> Prop}{A B C:World}(h:Kp S A B)(k:Kp S B C):Kp S A C :=
 ⟨Nat.le_trans h.size k.size,fun b hb hs=>(k.same b (Nat.lt_of_lt_of_le hb h.size) hs).trans (h.same b hb hs),k.os.trans h.os,k.tape.trans h.tape,k.output.trans h.output⟩
structure tt(P:Program) where
 l:Nat
 n1:Nat
 S:Nat -> Prop
 J:DL -> World -> Prop
 Good:Int × Int -> Prop
 Mf:∀ i W W',J i W -> W.heap.size <= W'.heap.size -> (∀ b,b < n1 -> W'.heap[b]? = W.heap[b]?) -> J i W'
 yield:∀ i x W,J i W -> Good x -> n1 <= W.heap.size -> YieldAt (FR none) 0 P l #[.int .i64 x.1,.int .i64 x.2] W (fun e W'=>e = .returned (.bool true) /\ J (i ++ [x]) W' /\ Kp S W W')
 lt:∀ b,S b -> b < n1
abbrev tt.v{P:Program}(Y:tt P):X:=.v (.func (.yield Y.l) #[] #[])
def mc(P:Program)(f:FuncId)(args:List X)(g:DL):Prop :=
 ∀ (Y : tt P) (i : DL) (E : Env) (cS : List Value), Y.J i E.w → Y.n1 ≤ E.w.heap.size → (∀ x ∈ g, Y.Good x) → eC E args cS [] → (∀ b k v, E.φ b k = some v → E.w.cell? ⟨b, k, none⟩ = some v) → (∀ b k, Y.S b → E.φ b k = none) →
  Calls P f (#[.func (.yield Y.l) #[] #[]] ++ cS.toArray) E.w (fun e W'=>∃ v,e = .returned v /\ Y.J (i ++ g) W' /\ Kp Y.S E.w W')
structure Ni{P:Program}(Y:tt P)(G:Ctx):Prop where
 Rq:∀ b,b < G.w0.heap.size -> G.K b
 n1:Y.n1 <= G.w0.heap.size
 φ:∀ b i,Y.S b -> G.φ0 b i = none
structure HI{P:Program}(Y:tt P)(G:Ctx)(s:qS)(a:Act)(w:World):Prop where
 j:Y.J s.1 w
 h:cF (G.to w) s.2 a w
 kp:Kp Y.S G.w0 w
def aO(P:Program)(Y:tt P)(N:eZ)(c:Code)(s:qS)(Q:Exit -> qS -> Prop):Prop :=
 ∀ G:Ctx,G.fn = N -> Ni Y G -> ∀ a w,HI Y G s a w -> c.wp P (fun e a w=>∃ s',HI Y G s' a w /\ Q e s') a w
def bh(P:Program)(Y:tt P)(N:eZ)(all:Array Oper)(rest:List Oper)(s:qS)(Q:Exit -> qS -> Prop):Prop :=
 ∀ G:Ctx,G.fn = N -> Ni Y G -> ∀ a w,HI Y G s a w -> wpListIn (FR none) 0 P all (fun e a w=>∃ s',HI Y G s' a w /\ Q e s') rest a w
def od(K : qS → Prop)(Q : Exit → qS → Prop) : Exit → qS → Prop
 | .normal,st=>K st
 | e,st=>Q e st
def yO(id : Nat)(Q : Exit → qS → Prop) : Exit → qS → Prop
 | .exit id',st=>bif Nat.beq id' id then Q .normal st else Q (.exit id') st
 | e,st=>Q e st
def xi(s s':qS):Prop:=s.1 = s'.1 /\ Le s.2 s'.2
section
variable {P:Program} {Y:tt P} {N:eZ} {s:qS} {Q Q':Exit -> qS -> Prop} {i:DL} {st aW:St} {id:Nat} {x y c:Code}
theorem HI.le{G:Ctx}{s s':qS}{a:Act}{w:World}(hl:xi s s')(h:HI Y G s a w):HI Y G s' a w:=⟨hl.1 ▸ h.j,hl.2.holds h.h,h.kp⟩
theorem HI.step{G:Ctx}(hG:Ni Y G){a a':Act}{w w':World}(h:HI Y G (i,st) a w)(h':cF (G.to w) aW a' w'):HI Y G (i,aW) a' w':=by
 have hr:cF (G.to w') aW a' w':=cF.Be (G:=G.to w) (S:=fun _=>False) h' (fun _ h=>h.elim) (Nat.le_refl _) (fun _ _ _=>rfl)
 obtain ⟨E,RR,rfl,hi⟩:=h'
 have fB:w.heap.size <= E.w.heap.size:=hi.size
 have hold:∀ b,b < G.w0.heap.size -> E.w.heap[b]? = w.heap[b]?:=fun b hb=>hi.ai b (hG.Rq b hb)
 exact ⟨Y.Mf i w E.w h.j fB (fun b hb=>hold b (Nat.lt_of_lt_of_le hb hG.n1)),hr,Nat.le_trans h.kp.size fB,fun b hb hs=>(hold b hb).trans (h.kp.same b hb hs),hi.os.trans h.kp.os,hi.tape.trans h.kp.tape,hi.output.trans h.kp.output⟩
theorem HI.Q5{G:Ctx}(hG:Ni Y G){a:Act}{w w':World}{i':DL}(h:HI Y G (i,st) a w)(hj:Y.J i' w')(hk:Kp Y.S w w'):HI Y G (i',st) a w' :=
 ⟨hj, cF.Be (G := G.to w) (S := Y.S) h.h (fun b hb => ⟨hG.Rq b (Nat.lt_of_lt_of_le (Y.lt b hb) hG.n1), fun k => hG.φ b k hb⟩) hk.size hk.same,
  Nat.le_trans h.kp.size hk.size,fun b hb hs=>(hk.same b (Nat.lt_of_lt_of_le hb h.kp.size) hs).trans (h.kp.same b hb hs),hk.os.trans h.kp.os,hk.tape.trans h.kp.tape,hk.output.trans h.kp.output⟩
theorem HI.n1{G:Ctx}(hG:Ni Y G){a:Act}{w:World}(h:HI Y G s a w):Y.n1 <= w.heap.size:=Nat.le_trans hG.n1 h.kp.size
theorem aO.of(h:dy P N c st (fun e aW=>Q e (i,aW))):aO P Y N c (i,st) Q:=by
 intro G hn hG a w hh
 refine wp_mono (h (G.to w) hn a w hh.h) ?_
 rintro e a' w' ⟨aW,h',hq⟩
 exact ⟨_,hh.step hG h',hq⟩
theorem aO.le{s':qS}(hl:xi s s')(h:aO P Y N c s' Q):aO P Y N c s Q:=fun G hn hG a w hh=>h G hn hG a w (hh.le hl)
theorem aO.sh(h:Sh N st aW)(k:aO P Y N c (i,aW) Q):aO P Y N c (i,st) Q:=fun G hn hG a w hh=>k G hn hG a w ⟨hh.j,h (G.to w) hn a w hh.h,hh.kp⟩
theorem aO.mono(h:aO P Y N c s Q)(hq:∀ e s,Q e s -> Q' e s):aO P Y N c s Q':=fun G hn hG a w hh=>wp_mono (h G hn hG a w hh) fun _ _ _ ⟨s',h',CJ⟩=>⟨s',h',hq _ _ CJ⟩
theorem aO.skip(h:Q .normal s):aO P Y N .skip s Q:=fun _ _ _ _ _ hh=>wp_skip ⟨s,hh,h⟩
theorem aO.exit(h:Q (.exit id) s):aO P Y N (.exit id) s Q:=fun _ _ _ _ _ hh=>wp_exit ⟨s,hh,h⟩
theorem aO.ret(h:Q .ret s):aO P Y N .ret s Q:=fun _ _ _ _ _ hh=>wp_ret ⟨s,hh,h⟩
theorem aO.seq(h:aO P Y N x s (od (fun s'=>aO P Y N y s' Q) Q)):aO P Y N (.seq x y) s Q:=by
 intro G hn hG a w hh
 refine wp_seq (wp_mono (h G hn hG a w hh) ?_)
 rintro e a' w' ⟨s',iH,hq⟩
 cases e <;> first | exact hq G hn hG a' w' iH | exact ⟨s',iH,hq⟩
theorem aO.block(h:aO P Y N c s (yO id Q)):aO P Y N (.block id c) s Q:=by
 intro G hn hG a w hh
 refine wp_block (wp_mono (h G hn hG a w hh) ?_)
 rintro e a' w' ⟨s',iH,hq⟩
 cases e with
 | exit id' =>
  simp only [yO] at hq
  simp only [Exit.inBlock]
  cases hb:Nat.beq id' id with
  | true =>
   rw [hb] at hq
   rw [if_pos (Nat.eq_of_beq_eq_true hb)]
   exact ⟨s',iH,hq⟩
  | false =>
   rw [hb] at hq
   rw [if_neg (Nat.ne_of_beq_eq_false hb)]
   exact ⟨s',iH,hq⟩
 | _=>exact ⟨s',iH,hq⟩
theorem aO.cond{o:Operand}{b:Bool}(hc:bW s.2 o = some (.v (.bool b)))(ht:b = true -> aO P Y N x s Q)(hf:b = false -> aO P Y N y s Q):aO P Y N (.cond o x y) s Q:=by
 intro G hn hG a w hh
 obtain ⟨E,RR,rfl,hi⟩:=hh.h
 exact wp_cond_split (hi.val hc) (fun h=>ht h G hn hG a E.w hh) (fun h=>hf h G hn hG a E.w hh)
theorem aO.a8{o:Operand}{p:Prop}{inst:Decidable p}(hc:bW s.2 o = some (.v (.bool (decide p))))(ht:p -> aO P Y N x s Q)(hf:¬ p -> aO P Y N y s Q):aO P Y N (.cond o x y) s Q :=
 aO.cond hc (fun h=>ht (of_decide_eq_true h)) (fun h=>hf (of_decide_eq_false h))
theorem aO.bf{o:Operand}(hc:bW s.2 o = some (.v (.bool true)))(h:aO P Y N x s Q):aO P Y N (.cond o x y) s Q:=aO.cond hc (fun _=>h) (fun h=>by cases h)
theorem aO.dA{o:Operand}(hc:bW s.2 o = some (.v (.bool false)))(h:aO P Y N y s Q):aO P Y N (.cond o x y) s Q:=aO.cond hc (fun h=>by cases h) (fun _=>h)
theorem aO.E8{d:Nat}{b:Bool}(hc:look st.aC d = some (.v (.bool b)))(ht:b = true -> aO P Y N x (i,st.put d (.v (.bool true))) Q)(hf:b = false -> aO P Y N y (i,st.put d (.v (.bool false))) Q):aO P Y N (.cond (.tmp d) x y) (i,st) Q:=by
 refine aO.cond (s:=(i,st)) (b:=b) hc (fun h=>?_) (fun h=>?_)
 ·subst h; exact aO.le (s:=(i,st)) (s':=(i,st.put d (.v (.bool true)))) ⟨rfl,Le.test hc⟩ (ht rfl)
 ·subst h; exact aO.le (s:=(i,st)) (s':=(i,st.put d (.v (.bool false)))) ⟨rfl,Le.test hc⟩ (hf rfl)
theorem aO.bT{d:Nat}{p:Prop}{inst:Decidable p}(hc:look st.aC d = some (.v (.bool (decide p))))(ht:p -> aO P Y N x (i,st.put d (.v (.bool true))) Q)(hf:¬ p -> aO P Y N y (i,st.put d (.v (.bool false))) Q):aO P Y N (.cond (.tmp d) x y) (i,st) Q :=
 aO.E8 hc (fun h=>ht (of_decide_eq_true h)) (fun h=>hf (of_decide_eq_false h))
theorem aO.loop{ι:Type}(S:ι -> qS)(I:ι -> Prop)(μ:ι -> Nat)(i0:ι)(hi:I i0)(hs:xi s (S i0))(round:∀ i,I i -> aO P Y N c (S i) (od (fun s'=>∃ j,I j /\ μ j < μ i /\ xi s' (S j)) Q)):aO P Y N (.loop c) s Q:=by
 intro G hn hG a w hh
 refine tN (fun i a w=>I i /\ HI Y G (S i) a w) μ ?_ ⟨hi,hh.le hs⟩
 rintro i a w ⟨hI,hh⟩
 refine wp_mono (round i hI G hn hG a w hh) ?_
 rintro e a' w' ⟨s',iH,hq⟩
 cases e with
 | normal=>obtain ⟨j,hj,gG,hle⟩:=hq; exact ⟨j,⟨hj,iH.le hle⟩,gG⟩
 | _=>exact ⟨s',iH,hq⟩
theorem aO.join{ι:Type}(J:ι -> qS)(I:ι -> Prop)(hx:aO P Y N x s (od (fun aW=>∃ i,I i /\ xi aW (J i)) Q))(hy:∀ i,I i -> aO P Y N y (J i) Q):aO P Y N (.seq x y) s Q:=by
 refine aO.seq (hx.mono ?_)
 intro e CQ h
 cases e with
 | normal=>obtain ⟨i,hI,hle⟩:=h; exact (hy i hI).le hle
 | _=>exact h
theorem aO.region{l:List Oper}(h:aS P N l.toArray l st (iW (fun aW=>Q .normal (i,aW)) (fun e aW=>Q e (i,aW)))):aO P Y N (.region id l.toArray false) (i,st) Q :=
 aO.of ((dy.region h).mono fun e st h=>by cases e <;> exact h)
theorem aO.sr{l:List Oper}(h:aS P N l.toArray l st (iW (fun aW=>aO P Y N y (i,aW) Q) (fun e aW=>Q e (i,aW)))):aO P Y N (.seq (.region id l.toArray false) y) (i,st) Q :=
 aO.seq (aO.of ((dy.region h).mono fun e st h=>by cases e <;> exact h))
theorem aO.pF{l:List Oper}(h:bh P Y N l.toArray l s Q):aO P Y N (.region id l.toArray false) s Q:=fun G hn hG a w hh=>xh.1 (wpIn_region_lit (h G hn hG a w hh))
end
end Go.AW
namespace Go.AW
open Go
theorem GN{P:Program}{o:Oper}{Q1 Q2:Exit -> Act -> World -> Prop}{K1 K2:Act -> World -> Prop}{a:Act}{w:World}(hQ:∀ e a w,e ≠ .normal -> Q1 e a w -> False)(hK:∀ a w,K1 a w -> K2 a w)(h:o.wp P a w K1 Q1):o.wp P a w K2 Q2:=by
 unfold Oper.wp at *
 generalize (execOp a.eval o).run P w = r at *
 cases r with
 | ok nx w' =>
  cases nx <;> simp only [Oper.upon] at h ⊢ <;> first
   | exact hK _ _ h
   | exact Calls.mono h (fun e WT he=>by
     cases e with
     | returned u=>exact hK _ _ he
     | panicked c=>exact (hQ _ _ _ (by simp) he).elim
     | outgrown=>exact (let ⟨_,_,h'⟩:=he; hQ _ _ _ (by simp) h').elim)
   | exact Rows.mono h (fun _ _ he=>hK _ _ he)
 | halt x w'=>cases x <;> simp only [Oper.upon] at h ⊢ <;> first | exact (hQ _ _ _ (by simp) h).elim | exact (let ⟨_,_,h'⟩:=h; hQ _ _ _ (by simp) h').elim | exact h
theorem X.vW : ∀ {xs : List X} {k : Nat} {x : X}, X.b5 xs = true → xs[k]? = some x → x.free = true
 | [],_,_,_,h=>by simp at h
 | y :: r,0,x,hf,h=>by
  simp only [X.b5,Bool.and_eq_true] at hf
  simp only [List.getElem?_cons_zero,Option.some.injEq] at h
  subst h; exact hf.1
 | y :: r,k + 1,x,hf,h=>by
  simp only [X.b5,Bool.and_eq_true] at hf
  simp only [List.getElem?_cons_succ] at h
  exact X.vW hf.2 h
section
variable {P:Program} {Y:tt P} {N:eZ} {s:qS} {Q:Exit -> qS -> Prop} {i:DL} {st:St} {all:Array Oper} {rest:List Oper} {o:Oper} {d:Nat} {ty:TypeId} {pos:String} {af:Array Edge}
theorem bh.nil(h:Q .normal s):bh P Y N all [] s Q:=fun _ _ _ _ _ hh=>⟨s,hh,h⟩
theorem bh.op(h:aS P N all [o] st (DK (fun aW=>bh P Y N all rest (i,aW) Q)))(hd:kR o = true:=by rfl):bh P Y N all (o :: rest) (i,st) Q:=by
 intro G hn hG a w hh
 have h1:=h (G.to w) hn a w hh.h
 have hk:∀ a' w',oe (G.to w) (DK (fun aW=>bh P Y N all rest (i,aW) Q)) .normal a' w' -> wpListIn (FR none) 0 P all (fun e a w=>∃ s',HI Y G s' a w /\ Q e s') rest a' w':=by
  rintro a' w' ⟨aW,h',hq⟩
  exact hq G hn hG a' w' (hh.step hG h')
 have X5:∀ e a' w',e ≠ .normal -> oe (G.to w) (DK (fun aW=>bh P Y N all rest (i,aW) Q)) e a' w' -> False:=by
  rintro e a' w' he ⟨aW,_,hq⟩
  cases e <;> first | exact he rfl | exact hq
 unfold wpList at h1
 unfold wpListIn
 split at h1
 ·rename_i hw
  rw [if_pos hw]
  rcases h1 with h1 | ⟨_,_,_,h2⟩
  ·exact GM hd (GN X5 hk h1)
  ·exact (X5 _ _ _ (by simp) h2).elim
 ·rename_i hw
  rw [if_neg hw]
  exact ⟨fun _ _=>trivial,hk _ _ h1⟩
theorem bh.le{s':qS}(hl:xi s s')(h:bh P Y N all rest s' Q):bh P Y N all rest s Q:=fun G hn hG a w hh=>h G hn hG a w (hh.le hl)
theorem bh.split{b:Bool}(hx:look st.aC d = some (.v (.bool b)))(ht:b = true -> bh P Y N all rest (i,st.put d (.v (.bool true))) Q)(hf:b = false -> bh P Y N all rest (i,st.put d (.v (.bool false))) Q):bh P Y N all rest (i,st) Q:=by
 cases b
 ·exact bh.le (s:=(i,st)) (s':=(i,st.put d (.v (.bool false)))) ⟨rfl,Le.test hx⟩ (hf rfl)
 ·exact bh.le (s:=(i,st)) (s':=(i,st.put d (.v (.bool true)))) ⟨rfl,Le.test hx⟩ (ht rfl)
theorem bh.aG{p:Prop}{inst:Decidable p}(hx:look st.aC d = some (.v (.bool (decide p))))(ht:p -> bh P Y N all rest (i,st.put d (.v (.bool true))) Q)(hf:¬ p -> bh P Y N all rest (i,st.put d (.v (.bool false))) Q):bh P Y N all rest (i,st) Q :=
 bh.split hx (fun h=>ht (of_decide_eq_true h)) (fun h=>hf (of_decide_eq_false h))
theorem bh.aX{dst : Option Nat}{op : Op}{j : Nat}{want : Bool}(hj : (all[j]?).bind (·.dst) = some d)(hd : d < N.n)(hx : look st.aC d = some (.v (.bool want)))
  (k:bh P Y N all (⟨dst,op,ty,pos,af,none⟩ :: rest) (i,st) Q):bh P Y N all (⟨dst,op,ty,pos,af,some (j,want)⟩ :: rest) (i,st) Q:=by
 intro G hn hG a w hh
 have hk:=k G hn hG a w hh
 obtain ⟨E,RR,rfl,hi⟩:=hh.h
 have hw:=hi.wanted (ops:=all) (dst:=dst) (op:=op) (ty:=ty) (pos:=pos) (af:=af) hj (by show d < (G.to E.w).fn.n; rw [show (G.to E.w).fn = N from hn]; exact hd) hx
 unfold wpListIn at hk ⊢
 rw [if_pos hw]
 rw [if_pos (by simp [Region.wanted])] at hk
 exact hk
theorem vX{x : Operand}{cN : Array Operand}{o6 : Array TypeId}{a : Act}{w : World}{f : Fn}{cc : Array Value}{dst : Option Nat}{g : Option (Nat × Bool)}(hx : a.eval x = .func f #[] cc) :
  (execOp a.eval ⟨dst,.call ⟨.value x,cN,o6⟩,ty,pos,af,g⟩).run P w = (invoke (.fn f cc) (#[] ++ cN.map a.eval)).run P w:=by
 have e:(execOp a.eval ⟨dst,.call ⟨.value x,cN,o6⟩,ty,pos,af,g⟩).run P w = (do let d <- Deferred.ofValue (a.eval x) (cN.map a.eval); invoke d.target d.args:Sem Next).run P w:=rfl
 rw [e,hx]; rfl
theorem bh.yield{x : Operand}{cN : Array Operand}{o6 : Array TypeId}{p q : Int}(hx : bW st x = some Y.v)(gf : lr st cN.toList = some [.v (.int .i64 p), .v (.int .i64 q)])(hg : Y.Good (p, q))(hd : d < N.n)
  (k:bh P Y N all rest (i ++ [(p,q)],st.put d (.v (.bool true))) Q):bh P Y N all (⟨some d,.call ⟨.value x,cN,o6⟩,ty,pos,af,none⟩ :: rest) (i,st) Q:=by
 intro G hn hG a w hh
 have K3:=hh.n1 hG
 obtain ⟨E,RR,rfl,hi⟩:=hh.h
 have hv:=hi.val hx
 obtain ⟨xJ,J2⟩:=qZ hi gf
 have fe:cN.map a.eval = #[.int .i64 p,.int .i64 q]:=by
  obtain ⟨o1,CC,R1,sf⟩:=J2 0 _ rfl
  obtain ⟨o2,Ee,R2,xB⟩:=J2 1 _ rfl
  simp only [RX] at sf xB
  have hl:cN.toList.length = 2:=xJ.symm
  apply Array.ext'
  rw [Array.toList_map]
  match hm:cN.toList,hl with
  | [u1,u2],_ =>
   rw [hm] at CC Ee
   simp only [List.getElem?_cons_zero,List.getElem?_cons_succ,Option.some.injEq] at CC Ee
   subst CC; subst Ee
   simp [sf.1,xB.1]
 obtain ⟨fn,tmps,assign,body,hy,hR⟩:=Y.yield i (p,q) E.w hh.j hg K3
 have iZ:(execOp a.eval ⟨some d,.call ⟨.value x,cN,o6⟩,ty,pos,af,none⟩).run P E.w = .ok (.round Y.l fn tmps assign body) E.w:=by
  rw [vX hv,fe]; exact hy
 refine wpListIn_plain rfl fun K hK=>?_
 refine ⟨fun _ _=>trivial,?_⟩
 rw [show (FR none).round = none from rfl,Oper.semAt_none,iZ]
 refine ⟨fun h=>by simp [FR,Fence.wide] at h,hR.mono ?_⟩
 rintro e W' ⟨rfl,hj,hk⟩
 refine hK _ _ (k G hn hG _ _ ?_)
 have ht:=HI.Q5 hG hh hj hk
 obtain ⟨E',fO,rfl,im⟩:=ht.h
 exact ⟨ht.j,⟨E',_,rfl,im.gZ (by show d < (G.to E'.w).fn.n; rw [show (G.to E'.w).fn = N from hn]; exact hd) (by simp [RX])⟩,ht.kp⟩
theorem bh.Mg{f : FuncId}{g : DL}{x y : Operand}{o6 : Array TypeId}{mj : List X}(hx : bW st x = some (.jv (.func f) [] mj))(kC : aU P f = true)(fR : mc P f mj g)(hy : bW st y = some Y.v)(hg : ∀ e ∈ g, Y.Good e)(hd : d < N.n)
  (k:bh P Y N all rest (i ++ g,st.put d .no) Q):bh P Y N all (⟨some d,.call ⟨.value x,#[y],o6⟩,ty,pos,af,none⟩ :: rest) (i,st) Q:=by
 intro G hn hG a w hh
 have K3:=hh.n1 hG
 obtain ⟨E,RR,rfl,hi⟩:=hh.h
 have hv:=hi.val hy
 obtain ⟨Rx,HB⟩:=hi.eval hx
 simp only [RX] at HB
 obtain ⟨_,ff,cc,SQ,J6,ML⟩:=HB
 simp only [eC] at J6
 have EK:ff = #[]:=by
  have:=J6.1
  cases ff; simp_all
 subst EK
 have hφ:∀ b k,Y.S b -> E.φ b k = none:=fun b k hb=>by
  cases he:E.φ b k with
  | none=>rfl
  | some v =>
   rcases hi.grow b k v he with h1 | h1
   ·rw [show (G.to E.w).φ0 b k = G.φ0 b k from rfl,hG.φ b k hb] at h1; cases h1
   ·exact absurd (hG.Rq b (Nat.lt_of_lt_of_le (Y.lt b hb) hG.n1)) h1
 have hc:=fR Y i E cc.toList hh.j K3 hg ML hi.lh hφ
 have iZ:(execOp a.eval ⟨some d,.call ⟨.value x,#[y],o6⟩,ty,pos,af,none⟩).run P E.w = .ok (.enter f (#[.func (.yield Y.l) #[] #[]] ++ cc.toList.toArray)) E.w:=by
  rw [vX SQ]
  show (callFunc f ((#[] ++ #[y].map a.eval) ++ cc)).run P E.w = _
  rw [ny kC]
  congr 2
  apply Array.ext'
  simp [hv]
 refine wpListIn_plain rfl fun K hK=>?_
 refine ⟨fun _ _=>trivial,?_⟩
 rw [show (FR none).round = none from rfl,Oper.semAt_none,iZ]
 refine ⟨fun h=>by simp [FR,Fence.wide] at h,uU (hc.mono ?_)⟩
 rintro e W' ⟨v,rfl,hj,hk⟩
 refine hK _ _ (k G hn hG _ _ ?_)
 have ht:=HI.Q5 hG hh hj hk
 obtain ⟨E',fO,rfl,im⟩:=ht.h
 exact ⟨ht.j,⟨E',_,rfl,im.gZ (by show d < (G.to E'.w).fn.n; rw [show (G.to E'.w).fn = N from hn]; exact hd) (by simp [RX])⟩,ht.kp⟩
theorem mc.of{f : FuncId}{fn : Func}{c : Code}{args : List X}{g : DL}{n : Nat}(hf : P.funcs[f]? = some fn)(hb : fn.body = some c)(hn : fn.ntmps = n)(hr : fn.results = #[])(hle : args.length + 1 ≤ n)
  (h:∀ (Y:tt P) (i:DL),(∀ x ∈ g,Y.Good x) -> aO P Y ⟨n,[]⟩ c (i,⟨dE 0 (Y.v :: args),[]⟩) (fun e s=>(e = .normal \/ e = .ret) /\ s.1 = i ++ g)) (tw:X.b5 args = true):mc P f args g:=by
 intro Y i E cS hJ K3 hg fe MW hφ
 refine calls_of_wp hf hb ?_
 let G:Ctx:=⟨fun b=>b < E.w.heap.size,E.w,E.φ,E.β,⟨n,[]⟩,[]⟩
 have hG:Ni Y G:=⟨fun _ h=>h,K3,hφ⟩
 have hlen:∀ {l:List X} {c:List Value} {R:List Nat},eC E l c R -> l.length = c.length:=by
  intro l
  induction l with
  | nil=>intro c R h; simp only [eC] at h; rw [h.1]; rfl
  | cons y r ih =>
   intro c R h
   simp only [eC] at h
   obtain ⟨_,c',_,_,rfl,_,h2,_⟩:=h
   simp [ih h2]
 have hl:=hlen fe
 have hH:HI Y G (i,⟨dE 0 (Y.v :: args),[]⟩) ⟨(#[.func (.yield Y.l) #[] #[]] ++ cS.toArray) ++ Array.replicate (fn.ntmps - (#[Value.func (.yield Y.l) #[] #[]] ++ cS.toArray).size) undef,[]⟩ E.w:=by
  refine ⟨hJ,⟨E,fun _=>[],rfl,?_⟩,Kp.refl _ _⟩
  constructor
  case lh=>exact MW
  case aC =>
   intro s x hx
   have jw:look (dE 0 (Y.v :: args)) s = some x:=hx
   rw [ib] at jw
   have hs:s < args.length + 1:=by
    rcases Nat.lt_or_ge s (args.length + 1) with h' | h'
    ·exact h'
    ·rw [List.getElem?_eq_none (by simpa using h')] at jw; cases jw
   have e1:((#[Value.func (.yield Y.l) #[] #[]] ++ cS.toArray) ++ Array.replicate (fn.ntmps - (#[Value.func (.yield Y.l) #[] #[]] ++ cS.toArray).size) undef).getD s undef = (Value.func (.yield Y.l) #[] #[] :: cS).getD s undef:=by
    rw [Array.getD_eq_getD_getElem?,Array.getElem?_append_left (by simp; omega)]
    simp [List.getD_eq_getElem?_getD]
   show RX E x _ []
   rw [e1]
   cases s with
   | zero =>
    simp only [List.getElem?_cons_zero,Option.some.injEq] at jw
    subst jw
    simp [RX]
   | succ s =>
    simp only [List.getElem?_cons_succ] at jw
    obtain ⟨u,R,hu,hR⟩:=eC.get fe jw
    have h0:=RX.free (X.vW tw jw) hR
    subst h0
    rw [List.getD_cons_succ,List.getD_eq_getElem?_getD,hu]; exact hR
  case aD=>intro o ob h; cases h
  case nodup=>exact fun _=>List.nodup_nil
  case apart=>exact fun _ _ _ _ h=>by cases h
  case own=>exact fun _ _ h=>by cases h
  case ai=>exact fun _ _=>rfl
  case size=>exact Nat.le_refl _
  case small=>exact fun _ h=>h
  case os=>rfl
  case tape=>rfl
  case output=>rfl
  case φ0=>exact fun _ _ _ h=>h
  case grow=>exact fun _ _ _ h=>.inl h
  case fixed=>exact fun _ _=>rfl
  case tmps=>show Array.size _ = n; simp; omega
  case defers=>rfl
 refine wp_mono (h Y i hg G rfl hG _ _ hH) ?_
 rintro e a w ⟨s,hs,he,hi⟩
 have hd:a.defers = []:=by obtain ⟨_,_,_,h⟩:=hs.h; exact h.defers
 have zY:(results fn a.tmps).run P w = .ok (.tuple #[]) w:=by
  have e:results fn a.tmps = (do let vs <- fn.results.mapM (qC a.tmps); Pure.pure (if h:vs.size = 1 then vs[0] else .tuple vs):Sem Value):=rfl
  rw [e,hr]
  refine kj (u:=#[]) (by simp [Sem.run_pure]) rfl
 have hk:a.defers = [] /\ ∃ v,(results fn a.tmps).run P w = .ok v w /\ ∃ v',Ending.returned v = .returned v' /\ Y.J (i ++ g) w /\ Kp Y.S E.w w:=⟨hd,_,zY,_,rfl,hi ▸ hs.j,hs.kp⟩
 rcases he with rfl | rfl
 ·exact hk
 ·exact hk
end
end Go.AW
namespace Go.AW
open Go
def b9(P:Program)(l:Nat)(N:eZ)(c:Code)(st:St)(Q:Exit -> St -> Prop):Prop :=
 ∀ G:Ctx,G.fn = N -> ∀ a w,cF G st a w -> c.wpIn (FR (some l)) 0 P (oe G Q) a w
section
variable {P:Program} {l:Nat} {N:eZ} {st aW:St} {Q Q':Exit -> St -> Prop} {id:Nat} {x y c:Code}
theorem b9.le(hl:Le st aW)(h:b9 P l N c aW Q):b9 P l N c st Q:=fun G hn a w hh=>h G hn a w (hl.holds hh)
theorem b9.mono(h:b9 P l N c st Q)(hq:∀ e st,Q e st -> Q' e st):b9 P l N c st Q':=fun G hn a w hh=>wpIn_mono (h G hn a w hh) fun e _ _ hp=>oe.mono (hq e) hp
theorem b9.sh(h:Sh N st aW)(k:b9 P l N c aW Q):b9 P l N c st Q:=fun G hn a w hh=>k G hn a w (h G hn a w hh)
theorem b9.skip(h:Q .normal st):b9 P l N .skip st Q:=fun _ _ _ _ hh=>wpIn_skip ⟨st,hh,h⟩
theorem b9.exit(h:Q (.exit id) st):b9 P l N (.exit id) st Q:=fun _ _ _ _ hh=>wpIn_exit ⟨st,hh,h⟩
theorem b9.seq(h:b9 P l N x st (iW (fun aW=>b9 P l N y aW Q) Q)):b9 P l N (.seq x y) st Q:=by
 intro G hn a w hh
 refine wpIn_seq (wpIn_mono (h G hn a w hh) ?_)
 rintro e a' w' ⟨aW,iH,hq⟩
 cases e <;> first | exact hq G hn a' w' iH | exact ⟨aW,iH,hq⟩
theorem b9.block(h:b9 P l N c st (po id Q)):b9 P l N (.block id c) st Q:=by
 intro G hn a w hh
 refine wpIn_block (wpIn_mono (h G hn a w hh) ?_)
 rintro e a' w' ⟨aW,iH,hq⟩
 cases e with
 | exit id' =>
  simp only [po] at hq
  simp only [Exit.inBlock]
  cases hb:Nat.beq id' id with
  | true =>
   rw [hb] at hq
   rw [if_pos (Nat.eq_of_beq_eq_true hb)]
   exact ⟨aW,iH,hq⟩
  | false =>
   rw [hb] at hq
   rw [if_neg (Nat.ne_of_beq_eq_false hb)]
   exact ⟨aW,iH,hq⟩
 | _=>exact ⟨aW,iH,hq⟩
theorem b9.cond{o:Operand}{b:Bool}(hc:bW st o = some (.v (.bool b)))(ht:b = true -> b9 P l N x st Q)(hf:b = false -> b9 P l N y st Q):b9 P l N (.cond o x y) st Q:=by
 intro G hn a w hh
 obtain ⟨E,RR,rfl,hi⟩:=hh
 have hv:=hi.val hc
 cases b with
 | true=>exact wpIn_cond (t:=true) hv (by simpa using ht rfl G hn a E.w ⟨E,RR,rfl,hi⟩)
 | false=>exact wpIn_cond (t:=false) hv (by simpa using hf rfl G hn a E.w ⟨E,RR,rfl,hi⟩)
theorem b9.a8{o:Operand}{p:Prop}{inst:Decidable p}(hc:bW st o = some (.v (.bool (decide p))))(ht:p -> b9 P l N x st Q)(hf:¬ p -> b9 P l N y st Q):b9 P l N (.cond o x y) st Q :=
 b9.cond hc (fun h=>ht (of_decide_eq_true h)) (fun h=>hf (of_decide_eq_false h))
theorem b9.bf{o:Operand}(hc:bW st o = some (.v (.bool true)))(h:b9 P l N x st Q):b9 P l N (.cond o x y) st Q:=b9.cond hc (fun _=>h) (fun h=>by cases h)
theorem b9.dA{o:Operand}(hc:bW st o = some (.v (.bool false)))(h:b9 P l N y st Q):b9 P l N (.cond o x y) st Q:=b9.cond hc (fun h=>by cases h) (fun _=>h)
theorem b9.ub{x y:Code}(J:St)(I:Prop)(hx:b9 P l N x st (iW (fun aW=>I /\ Le aW J) Q))(hy:I -> b9 P l N y J Q):b9 P l N (.seq x y) st Q :=
 b9.seq (hx.mono fun e CQ h=>by cases e with
  | normal=>exact (hy h.1).le h.2
  | _=>exact h)
theorem b9.region{ops:List Oper}(h:aS P N ops.toArray ops st (DK (fun aW=>Q .normal aW)))(hd:ops.all kR = true:=by rfl):b9 P l N (.region id ops.toArray false) st Q:=by
 intro G hn a w hh
 refine wpIn_mono (DJ (Q:=oe G (DK (fun aW=>Q .normal aW))) (fun ⟨_,_,_,_,h⟩=>h) hd (h G hn a w hh)) ?_
 rintro e a' w' ⟨aW,iH,hq⟩
 cases e <;> first | exact ⟨aW,iH,hq⟩ | exact hq.elim
theorem b9.sr{ops:List Oper}(h:aS P N ops.toArray ops st (DK (fun aW=>b9 P l N y aW Q)))(hd:ops.all kR = true:=by rfl):b9 P l N (.seq (.region id ops.toArray false) y) st Q :=
 b9.seq (b9.region (Q:=iW (fun aW=>b9 P l N y aW Q) Q) h hd)
theorem b9.gm(L F':List Nat){ops:Array Oper}(hm:P.follows .mixedOrders = true)(h:cf P N L F' ops ops.size (Array.replicate ops.size false) st (fun aW=>Q .normal aW))(hd:ops.toList.all kR = true:=by rfl):b9 P l N (.region id ops true) st Q:=by
 intro G hn a w hh
 obtain ⟨E,RR,hw,hi⟩:=hh.drew
 have h1:=hw ▸ h G hn E RR a _ (fun _ _=>rfl) hi
 refine wpIn_mono (lG (Q:=fun e a w=>e = .normal /\ ∃ aW,Q .normal aW /\ cF G aW a w) hm (fun ⟨_,_,h,_⟩=>by cases h) hd (wpAny_of_held _ _ _ _ h1)) ?_
 rintro e a w ⟨rfl,aW,hk,iH⟩
 exact ⟨aW,iH,hk⟩
theorem b9.gh{ops:Array Oper}(hm:P.follows .mixedOrders = true)(h:cf P N [] N.F ops ops.size (Array.replicate ops.size false) st (fun aW=>Q .normal aW))(hd:ops.toList.all kR = true:=by rfl):b9 P l N (.region id ops true) st Q:=b9.gm [] N.F hm h hd
theorem b9.dS{ops:Array Oper}(hm:P.follows .mixedOrders = true)(h:fo P N ops ops.size (Array.replicate ops.size false) st (fun aW=>Q .normal aW))(hd:ops.toList.all kR = true:=by rfl):b9 P l N (.region id ops true) st Q:=by
 intro G hn a w hh
 have h1:=h G hn a _ hh.drew
 refine wpIn_mono (lG (Q:=fun e a w=>e = .normal /\ ∃ aW,Q .normal aW /\ cF G aW a w) hm (fun ⟨_,_,h,_⟩=>by cases h) hd h1) ?_
 rintro e a w ⟨rfl,aW,hk,iH⟩
 exact ⟨aW,iH,hk⟩
end
end Go.AW
namespace Go.AW
open Go
structure Ext(G G':Ctx):Prop where
 fn:G'.fn = G.fn
 K:∀ b,G.K b -> G'.K b
 ai:∀ b,G.K b -> G'.w0.heap[b]? = G.w0.heap[b]?
 size:G.w0.heap.size <= G'.w0.heap.size
 os:G'.w0.os = G.w0.os
 tape:G'.w0.tape = G.w0.tape
 output:G'.w0.output = G.w0.output
 φ0:∀ b i v,G.φ0 b i = some v -> G'.φ0 b i = some v
 grow:∀ b i v,G'.φ0 b i = some v -> G.φ0 b i = some v \/ ¬ G.K b
 fixed:∀ o,G.fn.F.elem o = true -> G'.β0 o = G.β0 o
 marks:∃ ms:List Nat,G'.ds = ms.map (fun D=>{ target:=.collected D,args:=#[] }) ++ G.ds /\ ms.Nodup /\ ∀ D ∈ ms,G'.K D /\ ¬ G.K D /\ G'.w0.heap[D]? = some (.deferred (some []))
theorem Ext.refl(G:Ctx):Ext G G:=⟨rfl,fun _ h=>h,fun _ _=>rfl,Nat.le_refl _,rfl,rfl,rfl,fun _ _ _ h=>h,fun _ _ _ h=>.inl h,fun _ _=>rfl,[],rfl,List.nodup_nil,fun _ h=>by cases h⟩
theorem Ext.trans{A B C:Ctx}(h:Ext A B)(k:Ext B C):Ext A C:=by
 obtain ⟨ms,h1,h2,h3⟩:=h.marks
 obtain ⟨ns,k1,k2,k3⟩:=k.marks
 refine ⟨k.fn.trans h.fn, fun b hb => k.K b (h.K b hb), fun b hb => (k.ai b (h.K b hb)).trans (h.ai b hb), Nat.le_trans h.size k.size, k.os.trans h.os, k.tape.trans h.tape, k.output.trans h.output, fun b i v hv => k.φ0 b i v (h.φ0 b i v hv), fun b i v hv => ?_,
  fun o ho=>(k.fixed o (by rw [h.fn]; exact ho)).trans (h.fixed o ho),ns ++ ms,?_,?_,?_⟩
 ·rcases k.grow b i v hv with h4 | h4
  ·exact h.grow b i v h4
  ·exact .inr (fun hb=>h4 (h.K b hb))
 ·rw [k1,h1,List.map_append,List.append_assoc]
 ·refine List.nodup_append.2 ⟨k2,h2,fun a ha b hb e=>?_⟩
  subst e
  exact (k3 a ha).2.1 (h3 a hb).1
 ·intro D hD
  rcases List.mem_append.1 hD with hD | hD
  ·obtain ⟨a,b,c⟩:=k3 D hD
   exact ⟨a,fun hk=>b (h.K D hk),c⟩
  ·obtain ⟨a,b,c⟩:=h3 D hD
   exact ⟨k.K D a,b,(k.ai D a).trans c⟩
def Kj(G:Ctx)(Q:Exit -> St -> Prop)(e:Exit)(a:Act)(w:World):Prop:=∃ G',Ext G G' /\ oe G' Q e a w
def gW(P:Program)(N:eZ)(c:Code)(st:St)(Q:Exit -> St -> Prop):Prop :=
 ∀ G:Ctx,G.fn = N -> ∀ a w,cF G st a w -> c.wp P (Kj G Q) a w
section
variable {P:Program} {N:eZ} {st aW:St} {Q Q':Exit -> St -> Prop} {id:Nat} {x y c:Code}
theorem gW.of(h:dy P N c st Q):gW P N c st Q:=fun G hn a w hh=>wp_mono (h G hn a w hh) fun _ _ _ hp=>⟨G,.refl G,hp⟩
theorem gW.le(hl:Le st aW)(h:gW P N c aW Q):gW P N c st Q:=fun G hn a w hh=>h G hn a w (hl.holds hh)
theorem gW.sh(h:Sh N st aW)(k:gW P N c aW Q):gW P N c st Q:=fun G hn a w hh=>k G hn a w (h G hn a w hh)
theorem gW.seq(h:gW P N x st (iW (fun aW=>gW P N y aW Q) Q)):gW P N (.seq x y) st Q:=by
 intro G hn a w hh
 refine wp_seq (wp_mono (h G hn a w hh) ?_)
 rintro e a' w' ⟨G',hx,aW,iH,hq⟩
 cases e with
 | normal=>exact wp_mono (hq G' (hx.fn.trans hn) a' w' iH) fun _ _ _ ⟨Zv,jw,hp⟩=>⟨Zv,hx.trans jw,hp⟩
 | _=>exact ⟨G',hx,aW,iH,hq⟩
theorem gW.yP(h:dy P N x st (iW (fun aW=>gW P N y aW Q) Q)):gW P N (.seq x y) st Q:=gW.seq (gW.of h)
theorem gW.block(h:gW P N c st (po id Q)):gW P N (.block id c) st Q:=by
 intro G hn a w hh
 refine wp_block (wp_mono (h G hn a w hh) ?_)
 rintro e a' w' ⟨G',hx,aW,iH,hq⟩
 cases e with
 | exit id' =>
  simp only [po] at hq
  simp only [Exit.inBlock]
  cases hb:Nat.beq id' id with
  | true =>
   rw [hb] at hq
   rw [if_pos (Nat.eq_of_beq_eq_true hb)]
   exact ⟨G',hx,aW,iH,hq⟩
  | false =>
   rw [hb] at hq
   rw [if_neg (Nat.ne_of_beq_eq_false hb)]
   exact ⟨G',hx,aW,iH,hq⟩
 | _=>exact ⟨G',hx,aW,iH,hq⟩
theorem rR{fn : Func}{tmps : Array Value}{R : Ending → World → Prop} : ∀ (ms : List Nat) (w : World), ms.Nodup → (∀ D ∈ ms, w.heap[D]? = some (.deferred (some []))) →
  (∀ w':World,w'.heap.size = w.heap.size -> w'.os = w.os -> w'.tape = w.tape -> w'.output = w.output -> (∀ b,b ∉ ms -> w'.heap[b]? = w.heap[b]?) -> ∃ v,(results fn tmps).run P w' = .ok v w' /\ R (.returned v) w') ->
  LeavesInM (FR none) 0 P fn tmps R (ms.map (fun D=>{ target:=.collected D,args:=#[] })) .returning w
 | [],w,_,_,h=>h w rfl rfl rfl rfl (fun _ _=>rfl)
 | D :: ms,w,hn,hD,h=>by
  refine ⟨by simp,.inl ⟨D,w.putObj D (.deferred none),rfl,run_takeDeferred (hD D (List.mem_cons_self ..)),?_⟩⟩
  have rY:=List.nodup_cons.1 hn
  refine rR ms _ rY.2 (fun D' X6=>?_) (fun w' h1 h2 h3 h4 h5=>?_)
  ·rw [World.putObj_heap_other (show D' ≠ D from fun e=>rY.1 (by rw [<- e]; exact X6))]; exact hD D' (List.mem_cons_of_mem _ X6)
  ·refine h w' (by rw [h1]; simp) (h2.trans rfl) (h3.trans rfl) (h4.trans rfl) (fun b hb=>?_)
   rw [h5 b (fun e=>hb (List.mem_cons_of_mem _ e)),World.putObj_heap_other (show b ≠ D from fun e=>hb (by rw [e]; exact List.mem_cons_self ..))]
theorem ay.ofM{f : FuncId}{fn : Func}{c : Code}{args : List X}{aD : List Obj}{F : List Nat}{Q : X → List Obj → Prop}{n : Nat}{oh : List ResultVar}(hf : P.funcs[f]? = some fn)(hb : fn.body = some c)(hn : fn.ntmps = n)(hr : fn.results.toList = oh)
  (js:(iJ oh).Nodup) (hle:args.length <= n) (h:gW P ⟨n,F⟩ c ⟨dE 0 args,dE 0 aD⟩ (Ends P oh aD.length Q)):ay P f args aD F Q:=by
 intro K E RR cS hi
 refine (callsIn_wide (n:=0)).1 (callsIn_of_wp_marks (F:=FR none) hf hb trivial (xh.2 ?_))
 refine wp_mono (h (oF K E ⟨n,F⟩) rfl _ _ ⟨E,RR,rfl,hi.enter hn hle⟩) ?_
 rintro e a w ⟨G',hx,st,⟨E',fO,rfl,h1⟩,hq⟩
 obtain ⟨ms,SL,NL,Sa⟩:=hx.marks
 have Zw:a.defers = ms.map (fun D=>{ target:=.collected D,args:=#[] }):=by rw [h1.defers,SL]; exact List.append_nil _
 have hD:∀ D ∈ ms,E'.w.heap[D]? = some (.deferred (some [])):=fun D hD=>(h1.ai D (Sa D hD).1).trans (Sa D hD).2.2
 have fin : (∃ xs aJ, kF P st oh = some xs ∧ ka st.aD 0 aD.length = some aJ ∧ Q (qB xs) aJ) → LeavesInM (FR none) 0 P fn a.tmps
   (fun e w'=>∃ v r aJ,e = .returned v /\ Q r aJ /\ aJ.length = aD.length /\ ∃ E' fO,E'.w = w' /\ Inv (oF K E ⟨1,F⟩) E' fO ⟨[(0,r)],dE 0 aJ⟩ ⟨#[v],[]⟩) a.defers .returning E'.w:=by
  intro hq
  rw [Zw]
  refine rR ms E'.w NL hD fun w' fB Zx Zy X7 hw=>?_
  have Zz:∀ D ∈ ms,∀ i v,E'.φ D i = some v -> False:=fun D UI i v hv=>by
   have h2:=h1.lh D i v hv
   unfold World.cell? at h2
   rw [hD D UI] at h2; cases h2
  have Z0:∀ p,∀ D ∈ ms,D ∉ fO p:=fun p D UI hb=>(h1.own p D hb).2 (Sa D UI).1
  have g9:∀ p,E'.On { E' with w:=w' } (fO p):=fun p=>⟨fun _ _ _ h=>h,fun b hb=>⟨hw b (fun hm=>Z0 p b hm hb),fun h i=>h i⟩⟩
  have h2:Inv (oF K E ⟨n,F⟩) { E' with w:=w' } fO st ⟨a.tmps,[]⟩:=by
   constructor
   case lh =>
    intro b i v hv
    have h2:=h1.lh b i v hv
    unfold World.cell? at h2 ⊢
    rw [hw b (fun hm=>Zz b hm i v hv)]; exact h2
   case aC=>exact fun s x hx=>RX.mono x _ _ (g9 _) (fun _ _=>rfl) (h1.aC s x hx)
   case aD=>exact fun o ob aY=>dh.mono (g9 _) rfl (fun _ _=>rfl) (h1.aD o ob aY)
   case nodup=>exact h1.nodup
   case apart=>exact h1.apart
   case own=>exact fun p b hb=>⟨by have:=(h1.own p b hb).1; show b < w'.heap.size; omega,fun hk=>(h1.own p b hb).2 (hx.K b hk)⟩
   case ai=>exact fun b hb=>(hw b (fun hm=>(Sa b hm).2.1 hb)).trans ((h1.ai b (hx.K b hb)).trans (hx.ai b hb))
   case size=>show E.w.heap.size <= w'.heap.size; rw [fB]; exact Nat.le_trans hx.size h1.size
   case small=>exact hi.small
   case os=>exact Zx.trans (h1.os.trans hx.os)
   case tape=>exact Zy.trans (h1.tape.trans hx.tape)
   case output=>exact X7.trans (h1.output.trans hx.output)
   case φ0=>exact fun b i v hv=>h1.φ0 b i v (hx.φ0 b i v hv)
   case grow =>
    intro b i v hv
    rcases h1.grow b i v hv with h3 | h3
    ·exact hx.grow b i v h3
    ·exact .inr (fun hb=>h3 (hx.K b hb))
   case fixed=>exact fun o ho=>(h1.fixed o (by rw [hx.fn]; exact ho)).trans (hx.fixed o ho)
   case tmps=>exact h1.tmps.trans (by rw [hx.fn])
   case defers=>rfl
  obtain ⟨_,v,zY,v',r,aJ,he,hQ,hl,hE⟩:=xF (P:=P) (aD:=aD) (Q:=Q) hr js h2 hq
  exact ⟨v,zY,v',r,aJ,he,hQ,hl,hE⟩
 cases e with
 | normal=>exact fin hq
 | ret=>exact fin hq
 | _=>exact hq.elim
end
end Go.AW
namespace Go.AW
open Go Go.RowKit
def uV(β:Nat -> Option zI)(o:Nat):List Nat:=match β o with
 | some B=>[B.b]
 | none=>[]
structure yQ(ν:List Nat)(ob:Obj):Prop where
 plain:ob.plain
 Q6:jy ob
 ng:ob ≠ .gone
 e6:∀ q,ob.cw q = true -> q ∈ ν
theorem dh.uV{E:Env}{o:Nat}{ob:Obj}{R:List Nat}(h:dh E o ob R)(h0:jy ob)(hg:ob ≠ .gone):R = uV E.β o /\ ∀ b ∈ uV E.β o,∀ i,E.φ b i = none:=by
 cases ob with
 | cells xs =>
  simp only [dh] at h
  obtain ⟨_,B,cs,ty,hB,_,hφ,_,_,rfl⟩:=h
  unfold AW.uV
  rw [hB]
  exact ⟨rfl,fun b hb=>by rw [List.mem_singleton.1 hb]; exact hφ⟩
 | rows s rs =>
  simp only [dh] at h
  obtain ⟨_,⟨hB,_,rfl⟩ | ⟨B,cs,ty,R',hB,_,hφ,_,_,hR,rfl⟩⟩:=h
  ·unfold AW.uV
   rw [hB]
   exact ⟨rfl,fun b hb=>by cases hb⟩
  ·have h1:=cE.free h0 hR
   subst h1
   unfold AW.uV
   rw [hB]
   exact ⟨rfl,fun b hb=>by rw [List.mem_singleton.1 hb]; exact hφ⟩
 | xy es =>
  simp only [dh] at h
  obtain ⟨B,sd,clock,hB,_,hφ,_,rfl⟩:=h
  unfold AW.uV
  rw [hB]
  exact ⟨rfl,fun b hb=>by rw [List.mem_singleton.1 hb]; exact hφ⟩
 | gone=>exact absurd rfl hg
 | hole rs i q s n=>exact h0.elim
theorem yR{α : Type} : ∀ {l : List (Nat × α)} {o : Nat}, o ∈ l.map Prod.fst → ∃ x, look l o = some x
 | (t,x) :: r,o,h=>by
  simp only [look]
  cases hb:Nat.beq t o with
  | true=>exact ⟨x,rfl⟩
  | false =>
   rcases List.mem_cons.1 h with h1 | h1
   ·subst h1; simp at hb
   ·exact yR h1
theorem na{α : Type} : ∀ {l : List (Nat × α)} {o : Nat} {x : α}, look l o = some x → o ∈ l.map Prod.fst
 | (t,y) :: r,o,x,h=>by
  simp only [look] at h
  cases hb:Nat.beq t o with
  | true=>rw [Nat.eq_of_beq_eq_true hb]; exact List.mem_cons_self ..
  | false=>rw [hb] at h; exact List.mem_cons_of_mem _ (na h)
theorem yS{α : Type} : ∀ {l m : List (Nat × α)} {o : Nat} {x : α}, look (l ++ m) o = some x → look l o = some x ∨ (o ∉ l.map Prod.fst ∧ look m o = some x)
 | [],_,_,_,h=>.inr ⟨by simp,h⟩
 | (t,y) :: r,m,o,x,h=>by
  simp only [List.cons_append,look] at h ⊢
  cases hb:Nat.beq t o with
  | true=>rw [hb] at h; exact .inl h
  | false =>
   rw [hb] at h
   rcases yS (l:=r) h with h1 | ⟨h1,h2⟩
   ·exact .inl h1
   ·refine .inr ⟨?_,h2⟩
    rw [List.map_cons,List.mem_cons]
    rintro (h3 | h3)
    ·have h3:o = t:=h3
     subst h3; simp at hb
    ·exact h1 h3
theorem vY : ∀ {l : List (Nat × X)} {s : Nat} {x : X}, l.all (fun q => q.2.free) = true → look l s = some x → x.free = true
 | (t,y) :: r,s,x,h,hx=>by
  simp only [List.all_cons,Bool.and_eq_true] at h
  simp only [look] at hx
  cases hb:Nat.beq t s with
  | true=>rw [hb] at hx; simp only [cond_true,Option.some.injEq] at hx; subst hx; exact h.1
  | false=>rw [hb] at hx; exact vY h.2 hx
section
variable {P:Program} {N:eZ} {st:St} {Q:Exit -> St -> Prop}
set_option maxHeartbeats 1000000 in
theorem gW.rangeFunc{g : Operand}{ps : Array Tmp}{p1 p2 : Nat}{assign body : Code}{f : FuncId}{mj : List X}{gen : DL}(ν : List Nat)(O : DL → List (Nat × Obj))(Good : Int × Int → Prop)(xj : List (Nat × X))
  (hg:bW st g = some (.jv (.func f) [] mj)) (kC:aU P f = true) (fR:mc P f mj gen) (X8:ps = #[p1,p2]) (UJ:p1 < N.n) (Q7:p2 < N.n) (hp:p1 ≠ p2)
  (hs:gd st.aC xj) (tw:xj.all (fun q=>q.2.free) = true) (X9:gd st.aD (O [])) (Mh:∀ i,(O i).map Prod.fst = ν) (UK:∀ i o ob,look (O i) o = some ob -> yQ ν ob)
  (Q8:∀ l i x,(∀ y ∈ i,Good y) -> Good x -> b9 P l ⟨N.n,ν⟩ assign ⟨(p1,.v (.int .i64 x.1)) :: (p2,.v (.int .i64 x.2)) :: xj,O i⟩ (iW (fun aW=>b9 P l ⟨N.n,ν⟩ body aW (fun e aW=>e = .normal /\ gd aW.aD (O (i ++ [x])))) (fun _ _=>False)))
  (q2:∀ y ∈ gen,Good y) (k:Q .normal ⟨st.aC,O gen ++ st.aD⟩):gW P N (.rangeFunc g ps assign body) st Q:=by
 intro G hn a w hh
 obtain ⟨E0,Nj,rfl,hi⟩:=hh
 obtain ⟨Rg,Sb⟩:=hi.eval hg
 simp only [RX] at Sb
 obtain ⟨_,ff,cc,Z1,J6,ML⟩:=Sb
 simp only [eC] at J6
 have EK:ff = #[]:=by
  have:=J6.1
  cases ff; simp_all
 subst EK
 obtain ⟨n0,zA⟩:∃ n0,n0 = E0.w.heap.size:=⟨_,rfl⟩
 -- the objects
 have hν:∀ o ∈ ν,∃ ob,look (O []) o = some ob /\ dh E0 o ob (Nj (.obj o)):=fun o ho=>by
  obtain ⟨ob,aY⟩:=yR (l:=O []) (o:=o) (by rw [Mh]; exact ho)
  exact ⟨ob,aY,hi.aD o ob (X9 o ob aY)⟩
 have Bf:∀ o ∈ ν,Nj (.obj o) = uV E0.β o /\ ∀ b ∈ uV E0.β o,∀ i,E0.φ b i = none:=fun o ho=>by
  obtain ⟨ob,aY,hr⟩:=hν o ho
  exact hr.uV (UK _ _ _ aY).Q6 (UK _ _ _ aY).ng
 have yA:∀ o ∈ ν,∀ b ∈ uV E0.β o,b < n0 /\ ¬ G.K b:=fun o ho b hb=>by
  have:=hi.own (.obj o) b (by rw [(Bf o ho).1]; exact hb)
  rw [zA]; exact this
 let S:Nat -> Prop:=fun b=>b = n0 + 1 \/ ∃ o ∈ ν,b ∈ uV E0.β o
 have Sc:∀ b i v,E0.φ b i = some v -> b < n0:=fun b i v hv=>by
  have h1:=hi.lh b i v hv
  rcases Nat.lt_or_ge b n0 with h2 | h2
  ·exact h2
  ·unfold World.cell? at h1
   rw [Array.getElem?_eq_none (show E0.w.heap.size <= b by omega)] at h1; cases h1
 have Nh:∀ b i,S b -> E0.φ b i = none:=fun b i hb=>by
  rcases hb with rfl | ⟨o,ho,hb⟩
  ·cases he:E0.φ (n0 + 1) i with
   | none=>rfl
   | some v=>have:=Sc _ _ _ he; omega
  ·exact (Bf o ho).2 b hb i
 have UL:∀ b,S b -> b < n0 + 2:=fun b hb=>by
  rcases hb with rfl | ⟨o,ho,hb⟩
  ·omega
  ·have:=(yA o ho b hb).1; omega
 refine xh.1 (wpIn_rangeFunc fun fn _=>?_)
 obtain ⟨rec,Bg⟩:∃ rec:LoopState -> Option Code -> Loop,rec = fun st pe=>{ state:=st,pending:=pe,fn,tmps:=a.tmps,params:=ps,assign,body,defers:=n0 }:=⟨_,rfl⟩
 obtain ⟨W1,Nk⟩:∃ W1,(E0.w.alloc (.deferred (some []))).alloc (.loop (rec .ready none)) = W1:=⟨_,rfl⟩
 have Z2:W1.heap.size = n0 + 2:=by rw [<- Nk,zA]; simp
 have P6:W1.heap[n0 + 1]? = some (.loop (rec .ready none)):=by
  rw [<- Nk,zA]; have:=World.alloc_heap_new (E0.w.alloc (.deferred (some []))) (.loop (rec .ready none)); rwa [World.size_alloc] at this
 have Z3:W1.heap[n0]? = some (.deferred (some [])):=by
  rw [<- Nk,zA]; exact (Below.heap_alloc _ _ _ (by simp)).trans (World.alloc_heap_new E0.w _)
 have GO:∀ b,b < n0 -> W1.heap[b]? = E0.w.heap[b]?:=fun b hb=>by
  rw [<- Nk]; exact (Below.heap_alloc _ _ _ (by simp; omega)).trans (Below.heap_alloc _ _ _ om)
 have Bh:∀ b i v,E0.φ b i = some v -> W1.cell? ⟨b,i,none⟩ = some v:=fun b i v hv=>by
  have h1:=hi.lh b i v hv
  unfold World.cell? at h1 ⊢
  rw [GO b (Sc b i v hv)]; exact h1
 have Mi:W1.os = E0.w.os /\ W1.tape = E0.w.tape /\ W1.output = E0.w.output:=by rw [<- Nk]; exact ⟨rfl,rfl,rfl⟩
 let J : DL → World → Prop := fun i W => n0 + 2 ≤ W.heap.size ∧ (∀ y ∈ i, Good y) ∧ (∀ b, b < n0 + 2 → ¬ S b → W.heap[b]? = W1.heap[b]?) ∧ W.heap[n0 + 1]? = some (.loop (rec .ready none)) ∧
  ∀ o ob,look (O i) o = some ob -> dh ⟨E0.φ,E0.β,W⟩ o ob (uV E0.β o)
 have Mj:∀ i W,J i W -> ∀ b k v,E0.φ b k = some v -> W.cell? ⟨b,k,none⟩ = some v:=fun i W hJ b k v hv=>by
  have h1:=Bh b k v hv
  have h2:=Sc b k v hv
  unfold World.cell? at h1 ⊢
  rw [hJ.2.2.1 b om (fun hb=>by rw [Nh b k hb] at hv; cases hv)]; exact h1
 have Jn:∀ i W W',J i W -> W.heap.size <= W'.heap.size -> (∀ b,b < n0 + 2 -> W'.heap[b]? = W.heap[b]?) -> J i W':=fun i W W' hJ fB hw=>by
  obtain ⟨h1,h2,h3,h4,h5⟩:=hJ
  refine ⟨om,h2,fun b hb hs=>(hw b hb).trans (h3 b hb hs),(hw _ om).trans h4,fun o ob aY=>?_⟩
  have ho:o ∈ ν:=by rw [<- Mh i]; exact na aY
  exact dh.mono (E:=⟨E0.φ,E0.β,W⟩) ⟨fun _ _ _ h=>h,fun b hb=>⟨hw b (by have:=(yA o ho b hb).1; omega),fun h i=>h i⟩⟩ rfl (fun _ _=>rfl) (h5 o ob aY)
 have Mk:∀ i x W,J i W -> Good x -> n0 + 2 <= W.heap.size -> YieldAt (FR none) 0 P (n0 + 1) #[.int .i64 x.1,.int .i64 x.2] W (fun e W'=>e = .returned (.bool true) /\ J (i ++ [x]) W' /\ Kp S W W'):=fun i x W hJ hx fB=>by
  obtain ⟨Z4,Kx,XA,UM,XB⟩:=hJ
  have hJ:J i W:=⟨Z4,Kx,XA,UM,XB⟩
  have hy:=run_yield (P:=P) (args:=#[.int .i64 x.1,.int .i64 x.2]) UM (by rw [Bg]; simp [X8])
  refine ⟨fn,_,assign,body,by rw [hy,Bg],roundIn_of_wpIn (F:=FR none) trivial ?_⟩
  let Gr:Ctx:=⟨fun b=>b < W.heap.size /\ (¬ S b \/ b = n0 + 1),W,E0.φ,E0.β,⟨N.n,ν⟩,[]⟩
  let Er:Env:=⟨E0.φ,E0.β,W⟩
  let Sd:Own -> List Nat:=fun p=>match p with
   | .slot _=>[]
   | .obj o=>if o ∈ ν then uV E0.β o else []
  have gK:∀ p b,b ∈ Sd p -> ∃ o ∈ ν,p = .obj o /\ b ∈ uV E0.β o:=fun p b hb=>by
   cases p with
   | slot s=>cases hb
   | obj o =>
    by_cases ho:o ∈ ν
    ·simp only [Sd,ho,if_true] at hb; exact ⟨o,ho,rfl,hb⟩
    ·simp [Sd,ho] at hb
  have hH:cF Gr ⟨(p1,.v (.int .i64 x.1)) :: (p2,.v (.int .i64 x.2)) :: xj,O i⟩ ⟨(a.tmps.setIfInBounds p1 (.int .i64 x.1)).setIfInBounds p2 (.int .i64 x.2),[]⟩ W:=by
   have KG:a.tmps.size = N.n:=hi.tmps.trans (by rw [hn])
   refine ⟨Er,Sd,rfl,?_⟩
   constructor
   case lh=>exact Mj i W hJ
   case aC =>
    intro s y hy
    simp only [look] at hy
    show RX Er y (((a.tmps.setIfInBounds p1 (.int .i64 x.1)).setIfInBounds p2 (.int .i64 x.2)).getD s undef) []
    cases Q9:Nat.beq p1 s with
    | true =>
     rw [Q9] at hy
     have e:=Nat.eq_of_beq_eq_true Q9
     subst e
     simp only [cond_true,Option.some.injEq] at hy
     subst hy
     simp only [RX,and_true]
     simp [Array.getD_eq_getD_getElem?,Array.getElem?_setIfInBounds,KG,UJ,Ne.symm hp]
    | false =>
     rw [Q9] at hy
     have UN:=Nat.ne_of_beq_eq_false Q9
     simp only [cond_false] at hy
     cases xD:Nat.beq p2 s with
     | true =>
      rw [xD] at hy
      have e:=Nat.eq_of_beq_eq_true xD
      subst e
      simp only [cond_true,Option.some.injEq] at hy
      subst hy
      simp only [RX,and_true]
      simp [Array.getD_eq_getD_getElem?,Array.getElem?_setIfInBounds,KG,Q7]
     | false =>
      rw [xD] at hy
      have UO:=Nat.ne_of_beq_eq_false xD
      simp only [cond_false] at hy
      have h0:=hi.aC s y (hs s y hy)
      have hf:=RX.free (vY tw hy) h0
      rw [hf] at h0
      have e:((a.tmps.setIfInBounds p1 (.int .i64 x.1)).setIfInBounds p2 (.int .i64 x.2)).getD s undef = a.tmps.getD s undef:=by
       simp [Array.getD_eq_getD_getElem?,Array.getElem?_setIfInBounds,UN,UO]
      rw [e]
      exact RX.mono (E:=E0) (E':=Er) y _ _ ⟨fun _ _ _ h=>h,fun _ h=>by cases h⟩ (fun _ _=>rfl) h0
   case aD =>
    intro o ob aY
    have ho:o ∈ ν:=by rw [<- Mh i]; exact na aY
    show dh Er o ob (if o ∈ ν then uV E0.β o else [])
    rw [if_pos ho]
    exact XB o ob aY
   case nodup =>
    intro p
    cases p with
    | slot s=>exact List.nodup_nil
    | obj o =>
     show (if o ∈ ν then uV E0.β o else []).Nodup
     split
     ·unfold AW.uV; split <;> simp
     ·exact List.nodup_nil
   case apart =>
    intro p q mE b hb gY
    obtain ⟨o,ho,rfl,vL⟩:=gK p b hb
    obtain ⟨o',lS,rfl,QA⟩:=gK q b gY
    rw [<- (Bf o ho).1] at vL
    rw [<- (Bf o' lS).1] at QA
    exact hi.apart _ _ mE b vL QA
   case own =>
    intro p b hb
    obtain ⟨o,ho,rfl,vL⟩:=gK p b hb
    have h1:=(yA o ho b vL).1
    refine ⟨by show b < W.heap.size; omega,fun hk=>?_⟩
    rcases hk.2 with h2 | h2
    ·exact h2 (.inr ⟨o,ho,vL⟩)
    ·omega
   case ai=>exact fun _ _=>rfl
   case size=>exact Nat.le_refl _
   case small=>exact fun _ h=>h.1
   case os=>rfl
   case tape=>rfl
   case output=>rfl
   case φ0=>exact fun _ _ _ h=>h
   case grow=>exact fun _ _ _ h=>.inl h
   case fixed=>exact fun _ _=>rfl
   case tmps=>show Array.size _ = N.n; simp [KG]
   case defers=>rfl
  refine (fun (h:∀ T:Array Value,T = (a.tmps.setIfInBounds p1 (.int .i64 x.1)).setIfInBounds p2 (.int .i64 x.2) -> Code.wpIn ((FR none).inRound (n0 + 1)) 0 P assign _ { tmps:=T,defers:=[] } W)=>h _ (by simp [X8])) ?_
  rintro T rfl
  have Se:Gr.K (n0 + 1):=⟨om,.inr rfl⟩
  refine wpIn_mono (Q8 (n0 + 1) i x Kx hx Gr rfl _ W hH) ?_
  rintro e a1 w1 ⟨CQ,Om,hq⟩
  cases e with
  | normal =>
   have Ml:∀ b,Gr.K b -> w1.heap[b]? = W.heap[b]?:=by obtain ⟨E,RR,rfl,h⟩:=Om; exact h.ai
   have TF:W.heap.size <= w1.heap.size:=by obtain ⟨E,RR,rfl,h⟩:=Om; exact h.size
   have CC:w1.os = W.os /\ w1.tape = W.tape /\ w1.output = W.output:=by obtain ⟨E,RR,rfl,h⟩:=Om; exact ⟨h.os,h.tape,h.output⟩
   have XC:w1.heap[n0 + 1]? = some (.loop (rec .ready none)):=(Ml _ Se).trans UM
   refine ⟨_,run_beginRound XC (by rw [Bg]),?_⟩
   obtain ⟨w2,wG⟩:∃ w2,w1.putObj (n0 + 1) (.loop { rec .ready none with state:=.busy }) = w2:=⟨_,rfl⟩
   rw [wG]
   have Z5:cF (Gr.to w2) CQ a1 w2:=cF.Be (S:=fun b=>b = n0 + 1) Om (fun b hb=>by
    subst hb; exact ⟨Se,fun k=>Nh _ k (.inl rfl)⟩) (by rw [<- wG]; simp) (fun b _ hb=>by rw [<- wG]; exact World.putObj_heap_other hb)
   refine wpIn_mono (hq (Gr.to w2) rfl a1 w2 Z5) ?_
   rintro e a2 w3 ⟨st3,⟨E3,Xi,rfl,h3⟩,rfl,dG⟩
   have UP:∀ b,Gr.K b -> E3.w.heap[b]? = w2.heap[b]?:=h3.ai
   have K4:w2.heap[n0 + 1]? = some (.loop { rec .ready none with state:=.busy }):=by rw [<- wG]; exact World.putObj_heap_same (Array.getElem?_eq_some_iff.1 XC).1
   have UQ:E3.w.heap[n0 + 1]? = some (.loop { rec .ready none with state:=.busy }):=(UP _ Se).trans K4
   refine ⟨_,_,run_endRound none UQ,rfl,?_,?_⟩
   ·have Z6:W.heap.size <= E3.w.heap.size:=by
     have h4:w2.heap.size <= E3.w.heap.size:=h3.size
     rw [<- wG] at h4; simp at h4; omega
    refine ⟨by simp; omega,fun y hy=>?_,fun b hb CD=>?_,?_,fun o ob aY=>?_⟩
    ·rcases List.mem_append.1 hy with h4 | h4
     ·exact Kx y h4
     ·rw [List.mem_singleton.1 h4]; exact hx
    ·have fb:b ≠ n0 + 1:=fun e=>CD (.inl e)
     have Nl:Gr.K b:=⟨om,.inl CD⟩
     rw [World.putObj_heap_other fb,UP b Nl,<- wG,World.putObj_heap_other fb,Ml b Nl]
     exact XA b hb CD
    ·rw [World.putObj_heap_same (Array.getElem?_eq_some_iff.1 UQ).1,Bg]; rfl
    ·have ho:o ∈ ν:=by rw [<- Mh (i ++ [x])]; exact na aY
     have kC:=UK _ _ _ aY
     have hr:=h3.aD o ob (dG o ob aY)
     have hβ:∀ q ∈ ν,E3.β q = E0.β q:=fun q hq=>h3.fixed q (show ν.elem q = true from List.elem_iff.2 hq)
     have hR:=(hr.uV kC.Q6 kC.ng).1
     have Z7:uV E3.β o = uV E0.β o:=by unfold AW.uV; rw [hβ o ho]
     rw [hR,Z7] at hr
     have MI:dh ⟨E0.φ,E3.β,E3.w.putObj (n0 + 1) (.loop { ({ rec .ready none with state:=.busy }:Loop) with state:=if (none:Option Code).isNone then .ready else .done,pending:=none })⟩ o ob (uV E0.β o):=by
      refine dh.off kC.plain (fun b hb=>⟨World.putObj_heap_other (by have:=(yA o ho b hb).1; omega),fun h i=>?_⟩) (fun _=>rfl) hr
      cases he:E0.φ b i with
      | none=>rfl
      | some v=>have h5:=h3.φ0 b i v he; rw [h i] at h5; cases h5
     exact dh.mono (E:=⟨E0.φ,E3.β,_⟩) ⟨fun _ _ _ h=>h,fun _ _=>⟨rfl,fun h i=>h i⟩⟩ (hβ o ho).symm (fun q hq=>(hβ q (kC.e6 q hq)).symm) MI
   ·have h4:w2.heap.size <= E3.w.heap.size:=h3.size
    have h5:w2.heap.size = w1.heap.size:=by rw [<- wG]; simp
    refine ⟨by simp; omega,fun b hb CD=>?_,?_,?_,?_⟩
    ·have fb:b ≠ n0 + 1:=fun e=>CD (.inl e)
     have Nl:Gr.K b:=⟨hb,.inl CD⟩
     rw [World.putObj_heap_other fb,UP b Nl,<- wG,World.putObj_heap_other fb,Ml b Nl]
    ·exact (show E3.w.os = _ from h3.os.trans (by rw [<- wG]; exact CC.1))
    ·exact (show E3.w.tape = _ from h3.tape.trans (by rw [<- wG]; exact CC.2.1))
    ·exact (show E3.w.output = _ from h3.output.trans (by rw [<- wG]; exact CC.2.2))
  | _=>exact hq.elim
 let Y:tt P:=⟨n0 + 1,n0 + 2,S,J,Good,Jn,Mk,UL⟩
 have UR:eC ⟨E0.φ,E0.β,W1⟩ mj cc.toList []:=eC.mono (E:=E0) (E':=⟨E0.φ,E0.β,W1⟩) mj _ _ ⟨fun _ _ _ h=>h,fun _ h=>by cases h⟩ (fun _ _=>rfl) ML
 have Z8:J [] W1:=by
  refine ⟨om,fun _ h=>(by cases h),fun _ _ _=>rfl,P6,fun o ob aY=>?_⟩
  have ho:o ∈ ν:=by rw [<- Mh []]; exact na aY
  have hr:=hi.aD o ob (X9 o ob aY)
  rw [(Bf o ho).1] at hr
  exact dh.mono (E:=E0) ⟨fun _ _ _ h=>h,fun b hb=>⟨GO b (yA o ho b hb).1,fun h i=>h i⟩⟩ rfl (fun _ _=>rfl) hr
 obtain ⟨cS,GP⟩:∃ cS,(#[.func (.yield (n0 + 1)) #[] #[]] ++ cc.toList.toArray:Array Value) = cS:=⟨_,rfl⟩
 have Mm:=fR Y [] ⟨E0.φ,E0.β,W1⟩ cc.toList Z8 (by show n0 + 2 <= W1.heap.size; omega) q2 UR Bh (fun b i hb=>Nh b i hb)
 have QB:Calls P f cS W1 (fun e W'=>∃ v,e = .returned v /\ J ([] ++ gen) W' /\ Kp S W1 W'):=by rw [<- GP]; exact Mm
 refine ⟨n0 + 1,[{ target:=.collected n0,args:=#[] }],W1,{ target:=.fn (.func f) cc,args:=#[.func (.yield (n0 + 1)) #[] #[]] },W1,f,cS,W1,?_,?_,fun _ _=>trivial,?_,?_,?_⟩
 ·rw [<- Nk,Bg,zA]; exact run_enterLoop_outer _ _ _ _ _
 ·simp only [resolve,Z1]
  simp [go_sem]
 ·rw [<- GP]; simp [invoke,go_sem,ny kC]
 ·intro h; simp [FR,Fence.wide] at h
 ·refine uU (QB.mono ?_)
  rintro e W3 ⟨v,rfl,⟨j1,j2,j3,j4,j5⟩,hk⟩
  simp only [List.nil_append] at j2 j5
  refine ⟨none,_,(by have:=run_endLoop (P:=P) j4 (by rw [Bg]; simp); rw [Bg] at this; exact this),?_⟩
  obtain ⟨W4,Mn⟩:∃ W4,W3.putObj (n0 + 1) (.loop { ({ state:=.ready,pending:=none,fn,tmps:=a.tmps,params:=ps,assign,body,defers:=n0 }:Loop) with state:=.exhausted }) = W4:=⟨_,rfl⟩
  show Kj G Q .normal { a with defers:=[{ target:=.collected n0,args:=#[] }] ++ a.defers } _
  rw [Mn]
  have UT:∀ b,b < n0 + 2 -> ¬ S b -> W4.heap[b]? = W1.heap[b]?:=fun b hb CD=>by rw [<- Mn,World.putObj_heap_other (fun e=>CD (.inl e))]; exact j3 b hb CD
  have Z9:n0 + 2 <= W4.heap.size:=by rw [<- Mn]; simp; exact j1
  have ZA:∀ b,b < n0 -> (∀ o ∈ ν,b ∉ Nj (.obj o)) -> ¬ S b:=fun b hb HO CD=>by
   rcases CD with rfl | ⟨o,ho,vL⟩
   ·omega
   ·exact HO o ho (by rw [(Bf o ho).1]; exact vL)
  have Kk:∀ b,b < n0 -> (∀ o ∈ ν,b ∉ Nj (.obj o)) -> W4.heap[b]? = E0.w.heap[b]?:=fun b hb HO=>(UT b om (ZA b hb HO)).trans (GO b hb)
  have ZB:W4.heap[n0]? = some (.deferred (some [])):=(UT n0 om (fun CD=>by
   rcases CD with h | ⟨o,ho,vL⟩
   ·omega
   ·have:=(yA o ho n0 vL).1; omega)).trans Z3
  have UU:¬ G.K n0:=fun hk=>by have h1:=hi.small n0 hk; have h2:=hi.size; omega
  have Kl:∀ b,G.K b -> b < n0:=fun b hb=>by have h1:=hi.small b hb; have h2:=hi.size; omega
  let G2:Ctx:=⟨fun b=>G.K b \/ b = n0,W4,E0.φ,G.β0,G.fn,[{ target:=.collected n0,args:=#[] }] ++ G.ds⟩
  refine ⟨G2,?_,⟨st.aC,O gen ++ st.aD⟩,⟨⟨E0.φ,E0.β,W4⟩,Nj,rfl,?_⟩,k⟩
  ·refine ⟨rfl,fun b hb=>.inl hb,fun b hb=>?_,?_,?_,?_,?_,hi.φ0,hi.grow,fun _ _=>rfl,[n0],rfl,by simp,fun D hD=>?_⟩
   ·exact (Kk b (Kl b hb) (fun o ho vL=>(hi.own _ b vL).2 hb)).trans (hi.ai b hb)
   ·have:=hi.size; show G.w0.heap.size <= W4.heap.size; omega
   ·exact (show W4.os = _ by rw [<- Mn]; exact (hk.os.trans Mi.1).trans hi.os)
   ·exact (show W4.tape = _ by rw [<- Mn]; exact (hk.tape.trans Mi.2.1).trans hi.tape)
   ·exact (show W4.output = _ by rw [<- Mn]; exact (hk.output.trans Mi.2.2).trans hi.output)
   ·rw [List.mem_singleton.1 hD]; exact ⟨.inr rfl,UU,ZB⟩
  ·have g9:∀ p,(∀ o ∈ ν,p ≠ .obj o) -> E0.On ⟨E0.φ,E0.β,W4⟩ (Nj p):=fun p hp=>⟨fun _ _ _ h=>h,fun b hb=>⟨Kk b (by rw [zA]; exact (hi.own p b hb).1) (fun o ho vL=>hi.apart p (.obj o) (hp o ho) b hb vL),fun h i=>h i⟩⟩
   constructor
   case lh =>
    intro b i v hv
    have h1:=Bh b i v hv
    have h2:=Sc b i v hv
    unfold World.cell? at h1 ⊢
    show (match W4.heap[b]? with | some (.cells cs _ _)=>cs[i]? | _=>none) = _
    rw [UT b om (fun hb=>by rw [Nh b i hb] at hv; cases hv)]; exact h1
   case aC=>exact fun s x hx=>RX.mono x _ _ (g9 _ (fun o _=>by simp)) (fun _ _=>rfl) (hi.aC s x hx)
   case aD =>
    intro o ob aY
    rcases yS aY with h1 | ⟨h1,h2⟩
    ·have ho:o ∈ ν:=by rw [<- Mh gen]; exact na h1
     rw [(Bf o ho).1]
     exact dh.mono (E:=⟨E0.φ,E0.β,W3⟩) ⟨fun _ _ _ h=>h,fun b hb=>⟨by rw [<- Mn]; exact World.putObj_heap_other (by have:=(yA o ho b hb).1; omega),fun h i=>h i⟩⟩ rfl (fun _ _=>rfl) (j5 o ob h1)
    ·rw [Mh gen] at h1
     exact dh.mono (g9 _ (fun o' lS e=>by cases e; exact h1 lS)) rfl (fun _ _=>rfl) (hi.aD o ob h2)
   case nodup=>exact hi.nodup
   case apart=>exact hi.apart
   case own =>
    intro p b hb
    have h1:=hi.own p b hb
    refine ⟨by show b < W4.heap.size; omega,fun hk=>?_⟩
    rcases hk with h2 | h2
    ·exact h1.2 h2
    ·omega
   case ai=>exact fun _ _=>rfl
   case size=>exact Nat.le_refl _
   case small =>
    rintro b (hb | hb)
    ·have:=Kl b hb; show b < W4.heap.size; omega
    ·show b < W4.heap.size; omega
   case os=>rfl
   case tape=>rfl
   case output=>rfl
   case φ0=>exact fun _ _ _ h=>h
   case grow=>exact fun _ _ _ h=>.inl h
   case fixed=>exact hi.fixed
   case tmps=>exact hi.tmps
   case defers=>show _ ++ a.defers = _ ++ G.ds; rw [hi.defers]
end
end Go.AW
namespace Go.AW
open Go
section
variable {P:Program} {Y:tt P} {N:eZ} {s:qS} {Q:Exit -> qS -> Prop}
theorem aO.ub{x y:Code}(J:qS)(I:Prop)(hx:aO P Y N x s (od (fun aW=>I /\ xi aW J) Q))(hy:I -> aO P Y N y J Q):aO P Y N (.seq x y) s Q :=
 aO.join (fun _:Unit=>J) (fun _=>I) (hx.mono fun e _ h=>by cases e <;> first | exact ⟨(),h⟩ | exact h) (fun _ h=>hy h)
theorem aO.kO{α0 : Type}{c : Code}(S : α0 → qS)(I : α0 → Prop)(μ : α0 → Nat)(i0 : α0)(hi : I i0)(hs : xi s (S i0))
  (round:∀ a0,I a0 -> aO P Y N c (S a0) (od (fun aW=>∃ b0,I b0 /\ μ b0 < μ a0 /\ xi aW (S b0)) Q)):aO P Y N (.loop c) s Q :=
 aO.loop (ι:=α0) (fun u=>S u) (fun u=>I u) (fun u=>μ u) i0 hi hs (fun u h=>(round u h).mono fun e _ h=>by
  cases e <;> first | exact h | (obtain ⟨b0,h⟩:=h; exact ⟨b0,h⟩))
theorem aO.fS{α0:Type}{x y:Code}(J:α0 -> qS)(I:α0 -> Prop)(hx:aO P Y N x s (od (fun aW=>∃ b0,I b0 /\ xi aW (J b0)) Q))(hy:∀ a0,I a0 -> aO P Y N y (J a0) Q):aO P Y N (.seq x y) s Q :=
 aO.join (ι:=α0) (fun u=>J u) (fun u=>I u) (hx.mono fun e _ h=>by cases e <;> first | exact h | (obtain ⟨b0,h⟩:=h; exact ⟨b0,h⟩)) (fun u h=>hy u h)
theorem aO.fH{α0 α1 : Type}{c : Code}(S : α0 → α1 → qS)(I : α0 → α1 → Prop)(μ : α0 → α1 → Nat)(i0 : α0)(i1 : α1)(hi : I i0 i1)(hs : xi s (S i0 i1))
  (round:∀ a0 a1,I a0 a1 -> aO P Y N c (S a0 a1) (od (fun aW=>∃ b0 b1,I b0 b1 /\ μ b0 b1 < μ a0 a1 /\ xi aW (S b0 b1)) Q)):aO P Y N (.loop c) s Q :=
 aO.loop (ι:=α0 × α1) (fun u=>S u.1 u.2) (fun u=>I u.1 u.2) (fun u=>μ u.1 u.2) (i0,i1) hi hs (fun u h=>(round u.1 u.2 h).mono fun e _ h=>by
  cases e <;> first | exact h | (obtain ⟨b0,b1,h⟩:=h; exact ⟨(b0,b1),h⟩))
theorem aO.kP{α0 α1:Type}{x y:Code}(J:α0 -> α1 -> qS)(I:α0 -> α1 -> Prop)(hx:aO P Y N x s (od (fun aW=>∃ b0 b1,I b0 b1 /\ xi aW (J b0 b1)) Q))(hy:∀ a0 a1,I a0 a1 -> aO P Y N y (J a0 a1) Q):aO P Y N (.seq x y) s Q :=
 aO.join (ι:=α0 × α1) (fun u=>J u.1 u.2) (fun u=>I u.1 u.2) (hx.mono fun e _ h=>by cases e <;> first | exact h | (obtain ⟨b0,b1,h⟩:=h; exact ⟨(b0,b1),h⟩)) (fun u h=>hy u.1 u.2 h)
theorem aO.eg{α0 α1 α2 : Type}{c : Code}(S : α0 → α1 → α2 → qS)(I : α0 → α1 → α2 → Prop)(μ : α0 → α1 → α2 → Nat)(i0 : α0)(i1 : α1)(i2 : α2)(hi : I i0 i1 i2)(hs : xi s (S i0 i1 i2))
  (round:∀ a0 a1 a2,I a0 a1 a2 -> aO P Y N c (S a0 a1 a2) (od (fun aW=>∃ b0 b1 b2,I b0 b1 b2 /\ μ b0 b1 b2 < μ a0 a1 a2 /\ xi aW (S b0 b1 b2)) Q)):aO P Y N (.loop c) s Q :=
 aO.loop (ι:=α0 × α1 × α2) (fun u=>S u.1 u.2.1 u.2.2) (fun u=>I u.1 u.2.1 u.2.2) (fun u=>μ u.1 u.2.1 u.2.2) (i0,i1,i2) hi hs (fun u h=>(round u.1 u.2.1 u.2.2 h).mono fun e _ h=>by
  cases e <;> first | exact h | (obtain ⟨b0,b1,b2,h⟩:=h; exact ⟨(b0,b1,b2),h⟩))
theorem aO.EB{α0 α1 α2:Type}{x y:Code}(J:α0 -> α1 -> α2 -> qS)(I:α0 -> α1 -> α2 -> Prop)(hx:aO P Y N x s (od (fun aW=>∃ b0 b1 b2,I b0 b1 b2 /\ xi aW (J b0 b1 b2)) Q))(hy:∀ a0 a1 a2,I a0 a1 a2 -> aO P Y N y (J a0 a1 a2) Q):aO P Y N (.seq x y) s Q :=
 aO.join (ι:=α0 × α1 × α2) (fun u=>J u.1 u.2.1 u.2.2) (fun u=>I u.1 u.2.1 u.2.2) (hx.mono fun e _ h=>by cases e <;> first | exact h | (obtain ⟨b0,b1,b2,h⟩:=h; exact ⟨(b0,b1,b2),h⟩)) (fun u h=>hy u.1 u.2.1 u.2.2 h)
theorem aO.EC{α0 α1 α2 α3 : Type}{c : Code}(S : α0 → α1 → α2 → α3 → qS)(I : α0 → α1 → α2 → α3 → Prop)(μ : α0 → α1 → α2 → α3 → Nat)(i0 : α0)(i1 : α1)(i2 : α2)(i3 : α3)(hi : I i0 i1 i2 i3)(hs : xi s (S i0 i1 i2 i3))
  (round:∀ a0 a1 a2 a3,I a0 a1 a2 a3 -> aO P Y N c (S a0 a1 a2 a3) (od (fun aW=>∃ b0 b1 b2 b3,I b0 b1 b2 b3 /\ μ b0 b1 b2 b3 < μ a0 a1 a2 a3 /\ xi aW (S b0 b1 b2 b3)) Q)):aO P Y N (.loop c) s Q :=
 aO.loop (ι:=α0 × α1 × α2 × α3) (fun u=>S u.1 u.2.1 u.2.2.1 u.2.2.2) (fun u=>I u.1 u.2.1 u.2.2.1 u.2.2.2) (fun u=>μ u.1 u.2.1 u.2.2.1 u.2.2.2) (i0,i1,i2,i3) hi hs (fun u h=>(round u.1 u.2.1 u.2.2.1 u.2.2.2 h).mono fun e _ h=>by
  cases e <;> first | exact h | (obtain ⟨b0,b1,b2,b3,h⟩:=h; exact ⟨(b0,b1,b2,b3),h⟩))
theorem aO.ED{α0 α1 α2 α3:Type}{x y:Code}(J:α0 -> α1 -> α2 -> α3 -> qS)(I:α0 -> α1 -> α2 -> α3 -> Prop)(hx:aO P Y N x s (od (fun aW=>∃ b0 b1 b2 b3,I b0 b1 b2 b3 /\ xi aW (J b0 b1 b2 b3)) Q))(hy:∀ a0 a1 a2 a3,I a0 a1 a2 a3 -> aO P Y N y (J a0 a1 a2 a3) Q):aO P Y N (.seq x y) s Q :=
 aO.join (ι:=α0 × α1 × α2 × α3) (fun u=>J u.1 u.2.1 u.2.2.1 u.2.2.2) (fun u=>I u.1 u.2.1 u.2.2.1 u.2.2.2) (hx.mono fun e _ h=>by cases e <;> first | exact h | (obtain ⟨b0,b1,b2,b3,h⟩:=h; exact ⟨(b0,b1,b2,b3),h⟩)) (fun u h=>hy u.1 u.2.1 u.2.2.1 u.2.2.2 h)
end
mutual
theorem Jo{q : Nat} : ∀ {x : X}, x.nr = true → x.e6 q = false
 | .v _,_ | .no,_ | .fz ..,_ | .dn ..,_ | .fp ..,_=>rfl
 | .ptr ..,h=>by cases h
 | .aR ..,h=>by cases h
 | .mref _,h=>by cases h
 | .agg xs,h=>lf (xs:=xs) h
 | .tup xs,h=>lf (xs:=xs) h
 | .jv _ a b,h=>by
  simp only [X.nr,Bool.and_eq_true] at h
  simp only [X.e6,lf h.1,lf h.2,Bool.or_self]
theorem lf{q : Nat} : ∀ {xs : List X}, X.iG xs = true → X.cw q xs = false
 | [],_=>rfl
 | x :: r,h=>by
  simp only [X.iG,Bool.and_eq_true] at h
  simp only [X.cw,Jo h.1,lf h.2,Bool.or_self]
end
theorem yQ.cells{ν:List Nat}{xs:List X}(hp:X.fj xs)(hn:X.iG xs = true):yQ ν (.cells xs) :=
 ⟨hp,trivial,by simp,fun q h=>by have h:X.cw q xs = true:=h; rw [lf hn] at h; cases h⟩
theorem yQ.rows{ν:List Nat}{s:Nat}{rs:List (List X)}(hp:X.mo rs)(h0:∀ r ∈ rs,X.b5 r = true):yQ ν (.rows s rs):=⟨hp,h0,by simp,fun q h=>by cases h⟩
theorem DM{p:Obj -> Prop}{m:Nat}{a:Obj}(h:p a):∀ {o:Nat} {ob:Obj},look [(m,a)] o = some ob -> p ob:=fun {o ob} e=>by
 simp only [look] at e
 cases hb:Nat.beq m o <;> rw [hb] at e <;> simp only [cond_true,cond_false,Option.some.injEq,reduceCtorEq] at e
 subst e; exact h
theorem DN{p:Obj -> Prop}{m n:Nat}{a b:Obj}(h:p a)(h':p b):∀ {o:Nat} {ob:Obj},look [(m,a),(n,b)] o = some ob -> p ob:=fun {o ob} e=>by
 rw [look] at e
 cases hb:Nat.beq m o with
 | true=>rw [hb] at e; simp only [cond_true,Option.some.injEq] at e; subst e; exact h
 | false=>rw [hb] at e; exact DM h' e
end Go.AW
namespace Go.AW
open Go
mutual
theorem RO.Bl{E E' : Env} : ∀ (xs : List X) (cs : Array Value) (off : Nat) (R : List Nat), E.BF E' R → RO E xs cs off R → RO E' (X.jt xs) cs off []
 | [],cs,off,R,_,h=>by simp only [RO,X.jt]
 | x :: r,cs,off,R,hE,h=>by
  simp only [RO,X.jt] at h ⊢
  obtain ⟨u,R₁,R₂,hu,hs,h1,h2,hR⟩:=h
  subst hR
  exact ⟨u,[],[],hu,hs,RX.mD x u R₁ (hE.sub (fun _ h=>cM h)) h1,RO.Bl r cs (off + 1) R₂ (hE.sub (fun _ h=>cu h)) h2,rfl⟩
theorem cE.Bl{E E' : Env} : ∀ (rs : List (List X)) (cs : Array Value) (off : Nat) (R : List Nat), E.BF E' R → cE E rs cs off R → cE E' (X.lv rs) cs off []
 | [],cs,off,R,_,h=>by simp only [cE,X.lv]
 | r :: rs,cs,off,R,hE,h=>by
  simp only [cE,X.lv] at h ⊢
  obtain ⟨R₁,R₂,hn,h1,h2,hR⟩:=h
  subst hR
  refine ⟨[],[],X.tA hn,RO.Bl r cs off R₁ (hE.sub (fun _ h=>cM h)) h1,?_,rfl⟩
  rw [X.lT]
  exact cE.Bl rs cs _ R₂ (hE.sub (fun _ h=>cu h)) h2
end
section
variable {N:eZ} {st:St}
theorem Sh.Bl(o:Nat){s:Nat}{rs:List (List X)}(sO:List (List X))(ho:look st.aD o = some (.rows s rs))(he:X.lv rs = sO):Sh N st (st.de o (.rows s sO)):=by
 intro G hn a w hh
 obtain ⟨E,RR,rfl,hi⟩:=hh
 subst he
 have aY:=hi.aD o _ ho
 have js:=hi.nodup (.obj o)
 simp only [dh] at aY
 obtain ⟨hu,aY⟩:=aY
 rcases aY with ⟨h1,h2,h3⟩ | ⟨B,cs,ty,R',hB,hw,hφ,kS,hlen,jF,gK⟩
 ·subst h2
  exact ⟨E,_,rfl,hi.de (R:=[]) (by simp only [dh]; exact ⟨fun _ h=>(by cases h),.inl ⟨h1,rfl,trivial⟩⟩) List.nodup_nil (fun _ h=>by cases h)⟩
 rw [gK] at js
 obtain ⟨sj,mF⟩:=List.nodup_cons.1 js
 have og:∀ b ∈ R',b ∈ RR (.obj o):=fun b hb=>by rw [gK]; exact List.mem_cons.2 (.inr hb)
 have Ms:B.b ∈ RR (.obj o):=by rw [gK]; simp
 have lM:Inv G E (fA RR (.obj o) []) (st.de o .gone) a:=hi.de (R:=[]) (by simp only [dh]) List.nodup_nil (fun _ h=>by cases h)
 have K9:∀ p,∀ b ∈ fA RR (.obj o) [] p,b ∉ R':=by
  intro p b hp hb
  unfold fA at hp
  split at hp
  ·cases hp
  ·rename_i h; exact hi.apart _ _ h b hp (og b hb)
 have hle:∀ c i v,E.φ c i = some v -> (E.cI (fun b=>b ∈ R')).φ c i = some v:=by
  intro c i v h
  by_cases hc:c ∈ R'
  ·rw [iU E (LB:=fun b=>b ∈ R') hc]; exact hi.lh c i v h
  ·rw [dY E (LB:=fun b=>b ∈ R') hc]; exact h
 have g9:∀ p,E.On (E.cI (fun b=>b ∈ R')) (fA RR (.obj o) [] p):=by
  intro p
  refine ⟨hle,fun c hc=>⟨rfl,fun h i=>?_⟩⟩
  rw [dY E (LB:=fun b=>b ∈ R') (K9 p c hc)]; exact h i
 have hf:E.BF (E.cI (fun b=>b ∈ R')) R':=⟨rfl,rfl,hle,fun b hb i v h=>by rw [iU E (LB:=fun b=>b ∈ R') hb]; exact h⟩
 have Oe:Inv G (E.cI (fun b=>b ∈ R')) (fA RR (.obj o) []) (st.de o .gone) a :=
  {lM with
   lh:=by
    intro c i v h
    by_cases hc:c ∈ R'
    ·rw [iU E (LB:=fun b=>b ∈ R') hc] at h; exact h
    ·rw [dY E (LB:=fun b=>b ∈ R') hc] at h; exact hi.lh c i v h
   aC:=fun q x hx=>RX.mono x _ _ (g9 _) (fun _ _=>rfl) (lM.aC q x hx)
   aD:=fun o ob aY=>dh.mono (g9 _) rfl (fun _ _=>rfl) (lM.aD o ob aY)
   φ0:=fun c i v h=>hle c i v (hi.φ0 c i v h)
   grow:=by
    intro c i v h
    by_cases hc:c ∈ R'
    ·exact .inr (hi.own _ _ (og c hc)).2
    ·rw [dY E (LB:=fun b=>b ∈ R') hc] at h; exact hi.grow c i v h }
 have h4 := Oe.de (o := o) (ob := .rows s (X.lv rs)) (R := [B.b])
  (by
   simp only [dh]
   refine ⟨hu.lv,.inr ⟨B,cs,ty,[],hB,hw,fun i=>?_,by rw [X.lU]; exact kS,hlen,cE.Bl rs cs _ R' hf jF,rfl⟩⟩
   rw [dY E (LB:=fun b=>b ∈ R') sj]; exact hφ i)
  (by simp) (fun b hb=>by
   rw [List.mem_singleton.1 hb]
   refine ⟨(hi.own _ _ Ms).1,(hi.own _ _ Ms).2,fun p hp h=>?_⟩
   unfold fA at h
   split at h
   ·cases h
   ·exact hi.apart p (.obj o) hp _ h Ms)
 refine ⟨E.cI (fun b=>b ∈ R'),_,rfl,{ h4 with aC:=fun p y hy=>h4.aC p y hy,aD:=fun p y hy=>h4.aD p y ?_ }⟩
 simp only [St.de,look] at hy ⊢
 cases hb:Nat.beq o p with
 | true=>rw [hb] at hy; simpa using hy
 | false=>rw [hb] at hy; simpa using hy
end
end Go.AW
namespace Go.AW
open Go
def vr(z z':List X):Prop:=∀ (E:Env) (cs:Array Value) (off:Nat) (R:List Nat),RO E z cs off R -> RO E z' cs off R
theorem vr.nil:vr [] []:=fun _ _ _ _ h=>h
theorem vr.same{x:X}{r r':List X}(h:vr r r'):vr (x :: r) (x :: r'):=fun E cs off R hh=>by
 simp only [RO] at hh ⊢
 obtain ⟨u,R₁,R₂,h1,h2,h3,h4,h5⟩:=hh
 exact ⟨u,R₁,R₂,h1,h2,h3,h E cs _ _ h4,h5⟩
theorem vr.td{s:Nat}{r r':List X}(h:vr r r'):vr (.v (.slice none 0 0) :: r) (.fz s [] :: r'):=fun E cs off R hh=>by
 simp only [RO] at hh ⊢
 obtain ⟨u,R₁,R₂,h1,h2,h3,h4,h5⟩:=hh
 refine ⟨u,R₁,R₂,h1,h2,?_,h E cs _ _ h4,h5⟩
 simp only [RX] at h3 ⊢
 exact ⟨h3.2,(fun r hr=>by cases hr),none,0,h3.1,Or.inl ⟨trivial,rfl⟩⟩
theorem cE.QN{E : Env}{z z' : List X}(hl : z.length = z'.length)(hn : X.iG z' = true)(h : vr z z') : ∀ (n : Nat) (cs : Array Value) (off : Nat) (R : List Nat), cE E (List.replicate n z) cs off R → cE E (List.replicate n z') cs off R
 | 0,_,_,_,hh=>hh
 | n + 1,cs,off,R,hh=>by
  rw [List.replicate_succ] at hh ⊢
  simp only [cE] at hh ⊢
  obtain ⟨R₁,R₂,_,h2,h3,h4⟩:=hh
  exact ⟨R₁,R₂,hn,h E cs off R₁ h2,hl ▸ cE.QN hl hn h n cs _ R₂ h3,h4⟩
theorem Sh.Ko{N:eZ}{st:St}{d s n:Nat}{z z':List X}(hx:look st.aC d = some (.dn s (List.replicate n z)))(hl:z.length = z'.length)(hn:X.iG z' = true)(h:vr z z'):Sh N st (st.put d (.dn s (List.replicate n z'))):=by
 intro G _ a w hh
 obtain ⟨E,RR,rfl,hi⟩:=hh
 refine ⟨E,RR,rfl,{ hi with aC:=?_ }⟩
 intro t x ht
 simp only [St.put,look] at ht
 cases hb:Nat.beq d t with
 | false=>rw [hb] at ht; exact hi.aC t x ht
 | true =>
  rw [hb] at ht
  have e:=Nat.eq_of_beq_eq_true hb
  subst e
  simp only [cond_true,Option.some.injEq] at ht
  subst ht
  have h0:=hi.aC d _ hx
  simp only [RX,List.length_replicate] at h0 ⊢
  obtain ⟨hu,base,cap,hc,h1⟩:=h0
  refine ⟨fun r hr=>?_,base,cap,hc,?_⟩
  ·rw [(List.mem_replicate.1 hr).2,<- hl]
   exact hu z (List.mem_replicate.2 ⟨(List.mem_replicate.1 hr).1,rfl⟩)
  ·rcases h1 with ⟨h1,h2⟩ | ⟨b,off,cs,ty,R',h1,h2,h3,h4,h5,h6,h7⟩
   ·exact .inl ⟨by simpa using h1,h2⟩
   ·exact .inr ⟨b,off,cs,ty,R',h1,h2,h3,h4,h5,cE.QN hl hn h n cs off R' h6,h7⟩
end Go.AW
namespace Go.AW
open Go
section
variable {P:Program} {l:Nat} {N:eZ} {st:St} {Q:Exit -> St -> Prop}
theorem b9.loop{ι : Type}{c : Code}(S : ι → St)(I : ι → Prop)(μ : ι → Nat)(i : ι)(hi : I i)(hs : Le st (S i))
  (round:∀ i,I i -> b9 P l N c (S i) (iW (fun aW=>∃ j,I j /\ μ j < μ i /\ Le aW (S j)) Q)):b9 P l N (.loop c) st Q:=by
 intro G hn a w hh
 refine wpIn_loop_ghost (fun n a w=>∃ i,μ i = n /\ I i /\ cF G (S i) a w) (μ i) ⟨i,rfl,hi,hs.holds hh⟩ ?_
 rintro n a w ⟨i,rfl,hI,hh⟩
 refine wpIn_mono (round i hI G hn a w hh) ?_
 rintro e a' w' ⟨aW,iH,hq⟩
 cases e with
 | normal=>obtain ⟨j,hj,gG,hle⟩:=hq; exact ⟨μ j,gG,j,rfl,hj,hle.holds iH⟩
 | _=>exact ⟨aW,iH,hq⟩
theorem b9.join{ι:Type}{x y:Code}(J:ι -> St)(I:ι -> Prop)(hx:b9 P l N x st (iW (fun aW=>∃ i,I i /\ Le aW (J i)) Q))(hy:∀ i,I i -> b9 P l N y (J i) Q):b9 P l N (.seq x y) st Q:=by
 refine b9.seq (hx.mono ?_)
 intro e CQ h
 cases e with
 | normal=>obtain ⟨i,hI,hle⟩:=h; exact (hy i hI).le hle
 | _=>exact h
theorem b9.bT{dj:Nat}{p:Prop}{inst:Decidable p}{x y:Code}(hc:look st.aC dj = some (.v (.bool (decide p))))(ht:p -> b9 P l N x (st.put dj (.v (.bool true))) Q)(hf:¬ p -> b9 P l N y (st.put dj (.v (.bool false))) Q):b9 P l N (.cond (.tmp dj) x y) st Q:=by
 refine b9.a8 (p:=p) (inst:=inst) hc (fun h=>?_) (fun h=>?_)
 ·exact (ht h).le (Le.test (by rw [hc,decide_eq_true h]))
 ·exact (hf h).le (Le.test (by rw [hc,decide_eq_false h]))
theorem b9.kO{α0 : Type}{c : Code}(S : α0 → St)(I : α0 → Prop)(μ : α0 → Nat)(i0 : α0)(hi : I i0)(hs : Le st (S i0))
  (round:∀ a0,I a0 -> b9 P l N c (S a0) (iW (fun aW=>∃ b0,I b0 /\ μ b0 < μ a0 /\ Le aW (S b0)) Q)):b9 P l N (.loop c) st Q :=
 b9.loop (ι:=α0) (fun u=>S u) (fun u=>I u) (fun u=>μ u) i0 hi hs (fun u h=>(round u h).mono fun e _ h=>by
  cases e <;> first | exact h | (obtain ⟨b0,h⟩:=h; exact ⟨b0,h⟩))
theorem b9.fS{α0:Type}{x y:Code}(J:α0 -> St)(I:α0 -> Prop)(hx:b9 P l N x st (iW (fun aW=>∃ b0,I b0 /\ Le aW (J b0)) Q))(hy:∀ a0,I a0 -> b9 P l N y (J a0) Q):b9 P l N (.seq x y) st Q :=
 b9.join (ι:=α0) (fun u=>J u) (fun u=>I u) (hx.mono fun e _ h=>by cases e <;> first | exact h | (obtain ⟨b0,h⟩:=h; exact ⟨b0,h⟩)) (fun u h=>hy u h)
theorem b9.fH{α0 α1 : Type}{c : Code}(S : α0 → α1 → St)(I : α0 → α1 → Prop)(μ : α0 → α1 → Nat)(i0 : α0)(i1 : α1)(hi : I i0 i1)(hs : Le st (S i0 i1))
  (round:∀ a0 a1,I a0 a1 -> b9 P l N c (S a0 a1) (iW (fun aW=>∃ b0 b1,I b0 b1 /\ μ b0 b1 < μ a0 a1 /\ Le aW (S b0 b1)) Q)):b9 P l N (.loop c) st Q :=
 b9.loop (ι:=α0 × α1) (fun u=>S u.1 u.2) (fun u=>I u.1 u.2) (fun u=>μ u.1 u.2) (i0,i1) hi hs (fun u h=>(round u.1 u.2 h).mono fun e _ h=>by
  cases e <;> first | exact h | (obtain ⟨b0,b1,h⟩:=h; exact ⟨(b0,b1),h⟩))
theorem b9.kP{α0 α1:Type}{x y:Code}(J:α0 -> α1 -> St)(I:α0 -> α1 -> Prop)(hx:b9 P l N x st (iW (fun aW=>∃ b0 b1,I b0 b1 /\ Le aW (J b0 b1)) Q))(hy:∀ a0 a1,I a0 a1 -> b9 P l N y (J a0 a1) Q):b9 P l N (.seq x y) st Q :=
 b9.join (ι:=α0 × α1) (fun u=>J u.1 u.2) (fun u=>I u.1 u.2) (hx.mono fun e _ h=>by cases e <;> first | exact h | (obtain ⟨b0,b1,h⟩:=h; exact ⟨(b0,b1),h⟩)) (fun u h=>hy u.1 u.2 h)
theorem b9.eg{α0 α1 α2 : Type}{c : Code}(S : α0 → α1 → α2 → St)(I : α0 → α1 → α2 → Prop)(μ : α0 → α1 → α2 → Nat)(i0 : α0)(i1 : α1)(i2 : α2)(hi : I i0 i1 i2)(hs : Le st (S i0 i1 i2))
  (round:∀ a0 a1 a2,I a0 a1 a2 -> b9 P l N c (S a0 a1 a2) (iW (fun aW=>∃ b0 b1 b2,I b0 b1 b2 /\ μ b0 b1 b2 < μ a0 a1 a2 /\ Le aW (S b0 b1 b2)) Q)):b9 P l N (.loop c) st Q :=
 b9.loop (ι:=α0 × α1 × α2) (fun u=>S u.1 u.2.1 u.2.2) (fun u=>I u.1 u.2.1 u.2.2) (fun u=>μ u.1 u.2.1 u.2.2) (i0,i1,i2) hi hs (fun u h=>(round u.1 u.2.1 u.2.2 h).mono fun e _ h=>by
  cases e <;> first | exact h | (obtain ⟨b0,b1,b2,h⟩:=h; exact ⟨(b0,b1,b2),h⟩))
theorem b9.EB{α0 α1 α2:Type}{x y:Code}(J:α0 -> α1 -> α2 -> St)(I:α0 -> α1 -> α2 -> Prop)(hx:b9 P l N x st (iW (fun aW=>∃ b0 b1 b2,I b0 b1 b2 /\ Le aW (J b0 b1 b2)) Q))(hy:∀ a0 a1 a2,I a0 a1 a2 -> b9 P l N y (J a0 a1 a2) Q):b9 P l N (.seq x y) st Q :=
 b9.join (ι:=α0 × α1 × α2) (fun u=>J u.1 u.2.1 u.2.2) (fun u=>I u.1 u.2.1 u.2.2) (hx.mono fun e _ h=>by cases e <;> first | exact h | (obtain ⟨b0,b1,b2,h⟩:=h; exact ⟨(b0,b1,b2),h⟩)) (fun u h=>hy u.1 u.2.1 u.2.2 h)
theorem b9.EC{α0 α1 α2 α3 : Type}{c : Code}(S : α0 → α1 → α2 → α3 → St)(I : α0 → α1 → α2 → α3 → Prop)(μ : α0 → α1 → α2 → α3 → Nat)(i0 : α0)(i1 : α1)(i2 : α2)(i3 : α3)(hi : I i0 i1 i2 i3)(hs : Le st (S i0 i1 i2 i3))
  (round:∀ a0 a1 a2 a3,I a0 a1 a2 a3 -> b9 P l N c (S a0 a1 a2 a3) (iW (fun aW=>∃ b0 b1 b2 b3,I b0 b1 b2 b3 /\ μ b0 b1 b2 b3 < μ a0 a1 a2 a3 /\ Le aW (S b0 b1 b2 b3)) Q)):b9 P l N (.loop c) st Q :=
 b9.loop (ι:=α0 × α1 × α2 × α3) (fun u=>S u.1 u.2.1 u.2.2.1 u.2.2.2) (fun u=>I u.1 u.2.1 u.2.2.1 u.2.2.2) (fun u=>μ u.1 u.2.1 u.2.2.1 u.2.2.2) (i0,i1,i2,i3) hi hs (fun u h=>(round u.1 u.2.1 u.2.2.1 u.2.2.2 h).mono fun e _ h=>by
  cases e <;> first | exact h | (obtain ⟨b0,b1,b2,b3,h⟩:=h; exact ⟨(b0,b1,b2,b3),h⟩))
theorem b9.ED{α0 α1 α2 α3:Type}{x y:Code}(J:α0 -> α1 -> α2 -> α3 -> St)(I:α0 -> α1 -> α2 -> α3 -> Prop)(hx:b9 P l N x st (iW (fun aW=>∃ b0 b1 b2 b3,I b0 b1 b2 b3 /\ Le aW (J b0 b1 b2 b3)) Q))(hy:∀ a0 a1 a2 a3,I a0 a1 a2 a3 -> b9 P l N y (J a0 a1 a2 a3) Q):b9 P l N (.seq x y) st Q :=
 b9.join (ι:=α0 × α1 × α2 × α3) (fun u=>J u.1 u.2.1 u.2.2.1 u.2.2.2) (fun u=>I u.1 u.2.1 u.2.2.1 u.2.2.2) (hx.mono fun e _ h=>by cases e <;> first | exact h | (obtain ⟨b0,b1,b2,b3,h⟩:=h; exact ⟨(b0,b1,b2,b3),h⟩)) (fun u h=>hy u.1 u.2.1 u.2.2.1 u.2.2.2 h)
theorem b9.jm{id:Nat}(L F':List Nat)(J:St){ops:Array Oper}(hm:P.follows .mixedOrders = true)(h:cf P N L F' ops ops.size (Array.replicate ops.size false) st (fun aW=>Le aW J))(k:Q .normal J)(hd:ops.toList.all kR = true:=by rfl):b9 P l N (.region id ops true) st Q:=by
 intro G hn a w hh
 obtain ⟨E,RR,hw,hi⟩:=hh.drew
 have h1:=hw ▸ h G hn E RR a _ (fun _ _=>rfl) hi
 refine wpIn_mono (lG (Q:=fun e a w=>e = .normal /\ ∃ aW,Le aW J /\ cF G aW a w) hm (fun ⟨_,_,h,_⟩=>by cases h) hd (wpAny_of_held _ _ _ _ h1)) ?_
 rintro e a w ⟨rfl,aW,hk,iH⟩
 exact ⟨J,hk.holds iH,k⟩
theorem b9.dQ{id:Nat}(J:St){ops:Array Oper}(hm:P.follows .mixedOrders = true)(h:cf P N [] N.F ops ops.size (Array.replicate ops.size false) st (fun aW=>Le aW J))(k:Q .normal J)(hd:ops.toList.all kR = true:=by rfl):b9 P l N (.region id ops true) st Q:=b9.jm [] N.F J hm h k hd
theorem da.three{ops : Array Oper}{K : St → Prop}{n : Nat}{ah : Array Bool}(i i1 i2 : Nat){o o1 o2 : Oper}(ho : ops[i]? = some o)(CC : ops[i1]? = some o1)(Ee : ops[i2]? = some o2)(hr : (Region.ready .any ops ah == [i, i1, i2]) = true)
  (k:aS P N ops [o] st (fun e aW=>e = .normal /\ da P N ops n (ah.setIfInBounds i true) aW K))
  (k1:aS P N ops [o1] st (fun e aW=>e = .normal /\ da P N ops n (ah.setIfInBounds i1 true) aW K))
  (k2:aS P N ops [o2] st (fun e aW=>e = .normal /\ da P N ops n (ah.setIfInBounds i2 true) aW K)):da P N ops (n + 1) ah st K:=by
 intro G hn a w hh
 refine wpAnyH_all (rs:=[i,i1,i2]) (by simpa using hr) (by simp) ?_
 intro j hj
 simp only [List.mem_cons,List.not_mem_nil,or_false] at hj
 rcases hj with rfl | rfl | rfl
 ·exact da.step j ho k G hn a w hh
 ·exact da.step j CC k1 G hn a w hh
 ·exact da.step j Ee k2 G hn a w hh
end
end Go.AW
