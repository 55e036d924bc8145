/- Sums, differences and comparisons of words of bc, in plain Lean. -/
import Derived.Test.YtlimckldnjmabaaSynx0
set_option linter.unusedSimpArgs false
set_option linter.unusedVariables false
set_option linter.unusedSectionVars false
set_option maxRecDepth 4000
set_option maxHeartbeats 8000000
namespace Go.Proofs.Ytlimckldnjmabaa
open Go Go.AW
section
variable {c:Int} {g0 g1 gl:List Gate} {ps out next:List bn} {G P:Nat -> List Bool -> Bool} {a b r:List Int} {A B:Nat -> List Bool -> Bool} {t u:Int} {i j n d:Nat}
def AG(F0:List Bool -> Bool)(G P:Nat -> List Bool -> Bool)(k:Nat)(ins:List Bool):Bool:=if k = 0 then F0 ins else (P k ins ^^ ca (fun k=>G k ins) (fun k=>P k ins) 0 k false)
structure AH(c:Int)(g0 gl:List Gate)(F0:List Bool -> Bool)(G P:Nat -> List Bool -> Bool)(u:Int)(r:List Int)(i:Nat):Prop where
 ext:Ext g0 gl
 lo:1 <= i
 len:gl.length + 1 = g0.length + i
 ol:r.length = i
 ws:Ws c gl r (AG F0 G P) u
theorem AH.init{x:Int}{F0:List Bool -> Bool}(hg:Good g0)(h:Wr c g0 x F0 u):AH c g0 g0 F0 G P u [x] 1 :=
 ⟨.refl hg,om,rfl,rfl,Ws.snoc (a:=[]) .nil (by exact h.as fun ins=>rfl)⟩
theorem AH.step{x y : Int}{F0 : List Bool → Bool}(h : AH c g0 gl F0 G P u r i)(hx : Wr c g0 x (P i) t)(hy : Wr c g0 y (fun ins => ca (fun k => G k ins) (fun k => P k ins) 0 i false) t)(hu : t + 20 ≤ u) :
  AH c g0 (gl ++ [⟨7,x,y⟩]) F0 G P u (r ++ [(gl.length:Int)]) (i + 1):=by
 have h1:=hx.ext h.ext
 have h2:=hy.ext h.ext
 have e:=Ext.two (k:=7) h.ext.dw ae h1 h2
 have hl:=h.len; have zL:=h.lo
 refine ⟨h.ext.trans e,om,by simp only [List.length_append,List.length_singleton]; omega,by rw [List.length_append,h.ol]; rfl,(h.ws.ext e).snoc ?_⟩
 refine (h1.xor h2 hu hu).as fun ins=>?_
 rw [h.ol]; unfold AG; rw [if_neg om]
structure wL(c:Int)(g0 gl:List Gate)(A B:Nat -> List Bool -> Bool)(u:Int)(ps:List bn)(i:Nat):Prop where
 ext:Ext g0 gl
 len:gl.length = g0.length + 2 * i
 pl:ps.length = i
 wp:Wp c gl ps (fun k ins=>A k ins && B k ins) (fun k ins=>A k ins ^^ B k ins) u
theorem wL.init(hg:Good g0):wL c g0 g0 A B u [] 0:=⟨.refl hg,rfl,rfl,.nil⟩
theorem wL.step{x y : Int}{s : Int}(h : wL c g0 gl A B u ps i)(hx : Wr c g0 x (A i) s)(hy : Wr c g0 y (B i) t)(h1 : s + 20 ≤ u)(h2 : t + 20 ≤ u) :
  wL c g0 ((gl ++ [⟨5,x,y⟩]) ++ [⟨7,x,y⟩]) A B u (ps ++ [⟨(gl.length:Int),((gl ++ [(⟨5,x,y⟩:Gate)]).length:Int)⟩]) (i + 1):=by
 have w1:=hx.ext h.ext
 have w2:=hy.ext h.ext
 have e1:=Ext.two (k:=5) h.ext.dw ae w1 w2
 have e2:=Ext.two (k:=7) e1.dw ae (w1.ext e1) (w2.ext e1)
 have hl:=h.len
 refine ⟨h.ext.trans (e1.trans e2),by simp only [List.length_append,List.length_singleton]; omega,by rw [List.length_append,h.pl]; rfl,(h.wp.ext (e1.trans e2)).snoc ?_ ?_⟩
 ·rw [h.pl]; exact (w1.and w2 h1 h2).ext e2
 ·rw [h.pl]; exact (w1.ext e1).xor (w2.ext e1) h1 h2
theorem Wp.T0{y : Int}(h : Wp c gl ps (fun k ins => A k ins && B k ins) P u)(hn : 0 < ps.length)(hy : Wr c gl y (fun ins => A 0 ins || B 0 ins) u) :
  Wp c gl (ps.set 0 ⟨y,(ps.getD 0 default).p⟩) (fun k ins=>if k = 0 then A 0 ins || B 0 ins else A k ins && B k ins) P u:=⟨fun k hk=>by
 rw [List.length_set] at hk
 rcases Nat.eq_zero_or_pos k with h1 | h1
 ·subst h1; rw [ku hn]; exact ⟨hy.as fun ins=>by simp,(h.bit 0 hn).2⟩
 ·rw [getD_set_ne om]; exact ⟨(h.bit k hk).1.as fun ins=>by rw [if_neg om],(h.bit k hk).2⟩⟩
structure vk(c:Int)(g0 gl:List Gate)(A B:Nat -> List Bool -> Bool)(s:Bool)(n:Nat)(u:Int)(ps:List bn)(i:Nat):Prop where
 ext:Ext g0 gl
 len:gl.length = g0.length + 4 * i
 pl:ps.length = i
 wp:Wp c gl ps (fun k ins=>if s = true /\ k + 1 = n then !B k ins && A k ins else !A k ins && B k ins) (fun k ins=>!(A k ins ^^ B k ins)) u
theorem vk.init{s:Bool}(hg:Good g0):vk c g0 g0 A B s n u [] 0:=⟨.refl hg,rfl,rfl,.nil⟩
def T1(gl:List Gate)(x:Int):List Gate:=gl ++ [⟨4,x,0⟩]
def T2(gl:List Gate)(x y:Int):List Gate:=T1 gl x ++ [⟨5,(gl.length:Int),y⟩]
def T3(gl:List Gate)(x y:Int):List Gate:=T2 gl x y ++ [⟨7,x,y⟩]
def PN(gl:List Gate)(x y:Int):List Gate:=T3 gl x y ++ [⟨4,((T2 gl x y).length:Int),0⟩]
theorem vk.step{x y : Int}{s : Bool}{f h : List Bool → Bool}(k : vk c g0 gl A B s n u ps i)(hx : Wr c g0 x f t)(hy : Wr c g0 y h t)(hu : t + 30 ≤ u)
  (hf:∀ ins,(f ins = if s = true /\ i + 1 = n then B i ins else A i ins) /\ (h ins = if s = true /\ i + 1 = n then A i ins else B i ins)) :
  vk c g0 (PN gl x y) A B s n u (ps ++ [⟨((T1 gl x).length:Int),((T3 gl x y).length:Int)⟩]) (i + 1):=by
 have w1:=hx.ext k.ext
 have w2:=hy.ext k.ext
 have e1:=Ext.not k.ext.dw w1
 have n1:=w1.not (u:=t + 10) (Int.le_refl _)
 have e2:=Ext.two (k:=5) e1.dw ae n1 (w2.ext e1)
 have n2:=n1.and (u:=u) (w2.ext e1) om om
 have FN:=e1.trans e2
 have e3:=Ext.two (k:=7) e2.dw ae (w1.ext FN) (w2.ext FN)
 have n3:=(w1.ext FN).xor (u:=t + 20) (w2.ext FN) om om
 have e4:=Ext.not e3.dw n3
 have n4:=n3.not (u:=u) om
 have hl:=k.len
 have ex:=FN.trans (e3.trans e4)
 refine ⟨k.ext.trans ex,by unfold PN T3 T2 T1; simp only [List.length_append,List.length_singleton]; omega,by rw [List.length_append,k.pl]; rfl,(k.wp.ext ex).snoc ?_ ?_⟩
 ·rw [k.pl]
  refine (n2.ext (e3.trans e4)).as fun ins=>?_
  rw [(hf ins).1,(hf ins).2]
  by_cases q:s = true /\ i + 1 = n
  ·rw [if_pos q,if_pos q,if_pos q]
  ·rw [if_neg q,if_neg q,if_neg q]
 ·rw [k.pl]
  refine n4.as fun ins=>?_
  rw [(hf ins).1,(hf ins).2]
  by_cases q:s = true /\ i + 1 = n
  ·rw [if_pos q,if_pos q,Bool.xor_comm]
  ·rw [if_neg q,if_neg q]
structure Cj(c:Int)(g0:List Gate)(F:List Bool -> Bool)(n:Nat)(t:Int)(gl:List Gate)(ps:List bn):Prop where
 ext:Ext g0 gl
 len:gl.length + 3 * ps.length <= g0.length + 3 * n
 lo:1 <= ps.length
 ex:∃ (G P:Nat -> List Bool -> Bool) (t':Int),Wp c gl ps G P t' /\ (∀ ins,ca (fun k=>G k ins) (fun k=>P k ins) 0 ps.length false = F ins) /\ t' + 40 * (dF ps.length:Int) <= t + 40 * (dF n:Int)
theorem Cj.init(hg:Good g0)(h:Wp c g0 ps G P t)(h1:1 <= ps.length):Cj c g0 (fun ins=>ca (fun k=>G k ins) (fun k=>P k ins) 0 ps.length false) ps.length t g0 ps :=
 ⟨.refl hg,Nat.le_refl _,h1,G,P,t,h,fun _=>rfl,Int.le_refl _⟩
theorem Cj.done{F:List Bool -> Bool}(h:Cj c g0 F n t gl ps)(h1:ps.length <= 1):Wr c gl (ps.getD 0 default).g F (t + 40 * (dF n:Int)):=by
 obtain ⟨G,P,t',hw,he,ht⟩:=h.ex
 have hl:ps.length = 1:=by have:=h.lo; omega
 rw [Cg h1] at ht
 refine ((hw.bit 0 om).1.late om).as fun ins=>?_
 rw [<- he ins,hl]; simp [ca]
structure IA(c:Int)(g1:List Gate)(ps:List bn)(gl:List Gate)(next:List bn)(i:Nat):Prop where
 ext:Ext g1 gl
 even:i % 2 = 0
 hi:i <= ps.length
 nl:next.length = i / 2
 len:gl.length = g1.length + 3 * (i / 2)
 wp:∀ G P t,Wp c g1 ps G P t -> Wp c gl next (fun k ins=>u7 (fun k=>G k ins) (fun k=>P k ins) ps.length k) (fun k ins=>u9 (fun k=>P k ins) ps.length k) (t + 40)
theorem IA.init(hg:Good g1):IA c g1 ps g1 [] 0:=⟨.refl hg,rfl,om,rfl,rfl,fun _ _ _ _=>.nil⟩
def RB(gl:List Gate)(l h:bn):List Gate:=gl ++ [⟨5,h.p,l.g⟩]
def RC(gl:List Gate)(l h:bn):List Gate:=RB gl l h ++ [⟨6,h.g,(gl.length:Int)⟩]
def PO(gl:List Gate)(l h:bn):List Gate:=RC gl l h ++ [⟨5,h.p,l.p⟩]
theorem IA.step(h : IA c g1 ps gl next i)(hl : i + 1 < ps.length)(hw : ∃ G P t, Wp c g1 ps G P t) :
  IA c g1 ps (PO gl (ps.getD i default) (ps.getD (i + 1) default)) (next ++ [⟨((RB gl (ps.getD i default) (ps.getD (i + 1) default)).length:Int),((RC gl (ps.getD i default) (ps.getD (i + 1) default)).length:Int)⟩]) (i + 2):=by
 have he:=h.even; have qA:=h.len
 have key : ∀ G P t, Wp c g1 ps G P t → Ext gl (PO gl (ps.getD i default) (ps.getD (i + 1) default)) ∧
   Wr c (PO gl (ps.getD i default) (ps.getD (i + 1) default)) ((RB gl (ps.getD i default) (ps.getD (i + 1) default)).length:Int) (fun ins=>G (i + 1) ins || (P (i + 1) ins && G i ins)) (t + 40) /\
   Wr c (PO gl (ps.getD i default) (ps.getD (i + 1) default)) ((RC gl (ps.getD i default) (ps.getD (i + 1) default)).length:Int) (fun ins=>P (i + 1) ins && P i ins) (t + 40):=by
  intro G P t hf
  have l1:=(hf.bit i om).1.ext h.ext
  have l2:=(hf.bit i om).2.ext h.ext
  have h1:=(hf.bit (i + 1) hl).1.ext h.ext
  have h2:=(hf.bit (i + 1) hl).2.ext h.ext
  have e1:=Ext.two (k:=5) h.ext.dw ae h2 l1
  have n1:=h2.and (u:=t + 20) l1 om om
  have e2:=Ext.two (k:=6) e1.dw ae (h1.ext e1) n1
  have n2:=(h1.ext e1).or (u:=t + 40) n1 om om
  have FN:=e1.trans e2
  have e3:=Ext.two (k:=5) e2.dw ae (h2.ext FN) (l2.ext FN)
  have n3:=(h2.ext FN).and (u:=t + 40) (l2.ext FN) om om
  exact ⟨FN.trans e3,n2.ext e3,n3⟩
 obtain ⟨G0,P0,t0,h0⟩:=hw
 have hx:=(key G0 P0 t0 h0).1
 refine ⟨h.ext.trans hx,om,om,by rw [List.length_append,h.nl,List.length_singleton]; omega,by unfold PO RC RB; simp only [List.length_append,List.length_singleton]; omega,fun G P t hf=>?_⟩
 obtain ⟨_,k1,k2⟩:=key G P t hf
 refine ((h.wp G P t hf).ext hx).snoc (k1.as fun ins=>?_) (k2.as fun ins=>?_)
 ·rw [h.nl]; unfold u7
  rw [show 2 * (i / 2) = i by omega,if_pos hl]
 ·rw [h.nl]; unfold u9
  rw [show 2 * (i / 2) = i by omega,if_pos hl]
theorem Cj.pass{F:List Bool -> Bool}(h:Cj c g0 F n t g1 ps)(hj:IA c g1 ps gl next i)(hl:¬ i + 1 < ps.length)(h2:1 < ps.length)(ho:¬ ps.length % 2 = 1):Cj c g0 F n t gl next:=by
 have he:=hj.even; have hh:=hj.hi; have hn:=hj.nl; have hg:=hj.len; have Ty:=h.len
 obtain ⟨G,P,t',hw,hv,ht⟩:=h.ex
 have AF:next.length = (ps.length + 1) / 2:=by omega
 have BB:=rA (m:=ps.length) om
 refine ⟨h.ext.trans hj.ext,om,om,_,_,_,hj.wp G P t' hw,fun ins=>?_,?_⟩
 ·rw [AF,Ch]; exact hv ins
 ·rw [AF]; omega
theorem Cj.PQ{F:List Bool -> Bool}(h:Cj c g0 F n t g1 ps)(hj:IA c g1 ps gl next i)(hl:¬ i + 1 < ps.length)(h2:1 < ps.length)(ho:ps.length % 2 = 1):Cj c g0 F n t gl (next ++ [ps.getD (ps.length - 1) default]):=by
 have he:=hj.even; have hh:=hj.hi; have hn:=hj.nl; have hg:=hj.len; have Ty:=h.len
 obtain ⟨G,P,t',hw,hv,ht⟩:=h.ex
 have AF:(next ++ [ps.getD (ps.length - 1) default]).length = (ps.length + 1) / 2:=by rw [List.length_append,hn]; simp; omega
 have BB:=rA (m:=ps.length) om
 have hb:=hw.bit (ps.length - 1) om
 refine ⟨h.ext.trans hj.ext,by rw [AF]; omega,by rw [AF]; omega,_,_,_,(hj.wp G P t' hw).snoc (((hb.1.ext hj.ext).late om).as fun ins=>?_) (((hb.2.ext hj.ext).late om).as fun ins=>?_),fun ins=>?_,?_⟩
 ·rw [hn]; unfold u7
  rw [show 2 * (i / 2) = ps.length - 1 by omega,if_neg om]
 ·rw [hn]; unfold u9
  rw [show 2 * (i / 2) = ps.length - 1 by omega,if_neg om]
 ·rw [AF,Ch]; exact hv ins
 ·rw [AF]; omega
end
open Go Go.AW
section
variable {c:Int} {g0 g1 gl:List Gate} {a b r x next:List Int} {A B:Nat -> List Bool -> Bool} {t u:Int} {i k w:Nat}
structure Hs(c:Int)(g0 gl:List Gate)(out:List Int)(h:Nat -> List Bool -> Bool)(u:Int)(i:Nat):Prop where
 ext:Ext g0 gl
 len:gl.length = g0.length + 3 * i
 ol:out.length = i
 ws:Ws c gl out h u
theorem Hs.init{h:Nat -> List Bool -> Bool}{u:Int}(hg:Good g0):Hs c g0 g0 [] h u 0:=⟨.refl hg,rfl,rfl,.nil⟩
theorem Hs.step{h : Nat → List Bool → Bool}{s v y n : Int}{fs fy fn : List Bool → Bool}{ts tv ty tn : Int}(k : Hs c g0 gl r h u i)(hs : Wr c g0 s fs ts)(hv : Wr c g0 v (fun ins => !fs ins) tv)(hy : Wr c g0 y fy ty)(hn : Wr c g0 n fn tn)
  (h1:ts + 40 <= u) (h2:tv + 40 <= u) (h3:ty + 40 <= u) (h4:tn + 40 <= u) (hh:∀ ins,h i ins = if fs ins then fy ins else fn ins):Hs c g0 (yx gl s v y n) (r ++ [(gl.length:Int) + 2]) h u (i + 1):=by
 obtain ⟨e,wv⟩:=FM k.ext.dw (hs.ext k.ext) (hv.ext k.ext) (hy.ext k.ext) (hn.ext k.ext) h1 h2 h3 h4
 have hl:=k.len
 exact ⟨k.ext.trans e,by rw [Ci]; omega,by rw [List.length_append,k.ol]; rfl,(k.ws.ext e).snoc (by rw [k.ol]; exact wv.as fun ins=>(hh ins).symm)⟩
structure IB(c:Int)(g0:List Gate)(left:Bool)(w:Nat)(A:List Bool -> BitVec w)(B:List Bool -> BitVec w)(fl:List Bool -> Bool)(t:Int)(gl:List Gate)(x:List Int)(k:Nat):Prop where
 ext:Ext g0 gl
 len:gl.length = g0.length + (3 * w + 1) * k
 xl:x.length = w
 ws:Ws c gl x (fun i ins=>tJ left w (A ins).getLsbD (fl ins) ((B ins).toNat % 2 ^ k) i) (t + 10 + 40 * (k:Int))
theorem IB.init{left:Bool}{A B:List Bool -> BitVec w}{fl:List Bool -> Bool}(hg:Good g0)(ha:Wd c g0 a w A t):IB c g0 left w A B fl t g0 a 0 :=
 ⟨.refl hg,rfl,ha.len,⟨fun k hk=>((ha.bit k (by rw [<- ha.len]; exact hk)).late om).as fun ins=>by rw [Nat.pow_zero,Nat.mod_one,FJ (by rw [<- ha.len]; exact hk)]⟩⟩
theorem IB.pick{left : Bool}{A B : List Bool → BitVec w}{fl : List Bool → Bool}{f y : Int}{k : Nat}(h : IB c g0 left w A B fl t g1 x k)(hf : Wr c g0 f fl t){i : Nat}(_ : i < w)(fr : Int)(tw : fr = PL left k i)
  (hy:y = if 0 <= fr /\ fr < (w:Int) then x.getD fr.toNat 0 else f) :
  Wr c g1 y (fun ins=>if left then (if 2 ^ k <= i then tJ left w (A ins).getLsbD (fl ins) ((B ins).toNat % 2 ^ k) (i - 2 ^ k) else fl ins) else (if i + 2 ^ k < w then tJ left w (A ins).getLsbD (fl ins) ((B ins).toNat % 2 ^ k) (i + 2 ^ k) else fl ins)) (t + 10 + 40 * (k:Int)):=by
 subst hy tw
 have xJ:=h.xl
 have hp:((2 ^ k:Nat):Int) = (2:Int) ^ k:=by simp
 have HM:=Nat.two_pow_pos k
 unfold PL
 cases left
 ·simp only [Bool.false_eq_true,if_false]
  by_cases h1:i + 2 ^ k < w
  ·rw [if_pos om]
   have:=h.ws.bit (i + 2 ^ k) om
   rw [show ((i:Int) + 2 ^ k).toNat = i + 2 ^ k by omega]
   exact this.as fun ins=>by rw [if_pos h1]
  ·rw [if_neg om]
   exact ((hf.ext h.ext).late om).as fun ins=>by rw [if_neg h1]
 ·simp only [if_true]
  by_cases h1:2 ^ k <= i
  ·rw [if_pos om]
   have:=h.ws.bit (i - 2 ^ k) om
   rw [show ((i:Int) - 2 ^ k).toNat = i - 2 ^ k by omega]
   exact this.as fun ins=>by rw [if_pos h1]
  ·rw [if_neg om]
   exact ((hf.ext h.ext).late om).as fun ins=>by rw [if_neg h1]
def RD(left:Bool)(w:Nat)(A B:List Bool -> BitVec w)(fl:List Bool -> Bool)(k i:Nat)(ins:List Bool):Bool:=tJ left w (A ins).getLsbD (fl ins) ((B ins).toNat % 2 ^ (k + 1)) i
theorem Lr{left : Bool}{A B : List Bool → BitVec w}{fl : List Bool → Bool}{k i : Nat}(hi : i < w)(ins : List Bool) :
  RD left w A B fl k i ins = if (B ins).getLsbD k then (if left then (if 2 ^ k <= i then tJ left w (A ins).getLsbD (fl ins) ((B ins).toNat % 2 ^ k) (i - 2 ^ k) else fl ins) else (if i + 2 ^ k < w then tJ left w (A ins).getLsbD (fl ins) ((B ins).toNat % 2 ^ k) (i + 2 ^ k) else fl ins)) else tJ left w (A ins).getLsbD (fl ins) ((B ins).toNat % 2 ^ k) i:=by
 unfold RD
 rw [FL]
 cases (B ins).getLsbD k
 ·simp
 ·simp only [if_true]
  exact FK hi
theorem IB.pass{left:Bool}{A B:List Bool -> BitVec w}{fl:List Bool -> Bool}{q:Gate}(h:IB c g0 left w A B fl t g1 x k)(he:Ext g1 (g1 ++ [q]))(hj:Hs c (g1 ++ [q]) gl next (RD left w A B fl k) (t + 10 + 40 * ((k:Int) + 1)) i)(hi:i = w):IB c g0 left w A B fl t gl next (k + 1):=by
 subst hi
 have h1:=h.len; have h2:=hj.len
 rw [List.length_append,List.length_singleton] at h2
 refine ⟨h.ext.trans (he.trans hj.ext),by rw [h2,h1,Nat.mul_add]; omega,hj.ol,?_⟩
 have:=hj.ws
 rw [Int.natCast_add,Int.natCast_one]
 exact this
theorem Ls{B:List Bool -> BitVec w}(hb:Wd c gl b w B t)(st:Nat)(hs:st <= w):Ws c gl (b.drop st) (fun k ins=>(B ins).getLsbD (st + k)) t:=⟨fun k hk=>by
 have hl:=hb.len
 rw [List.length_drop] at hk
 rw [List.getD_eq_getElem?_getD,List.getElem?_drop,<- List.getD_eq_getElem?_getD]
 exact hb.bit (st + k) om⟩
end
open Go Go.AW
section
variable {c:Int} {g0 g1 gl:List Gate} {a b r:List Int} {w:Nat} {A B:List Bool -> BitVec w} {t u:Int}
theorem sum_add(hl : r.length = w)(h : Ws c gl r (AG (fun ins => (A ins).getLsbD 0 ^^ (B ins).getLsbD 0) (fun k ins => (A ins).getLsbD k && (B ins).getLsbD k) (fun k ins => (A ins).getLsbD k ^^ (B ins).getLsbD k)) u) :
  Wd c gl r w (fun ins=>A ins + B ins) u:=h.wd hl fun k hk ins=>by
 unfold AG
 rw [Ix hk]
 by_cases h0:k = 0
 ·subst h0; simp [ca]
 ·rw [if_neg h0]
theorem IC(hl : r.length = w)(h : Ws c gl r (AG (fun ins => (A ins).getLsbD 0 ^^ (B ins).getLsbD 0) (fun k ins => if k = 0 then (A ins).getLsbD 0 || !(B ins).getLsbD 0 else (A ins).getLsbD k && !(B ins).getLsbD k) (fun k ins => (A ins).getLsbD k ^^ !(B ins).getLsbD k)) u) :
  Wd c gl r w (fun ins=>A ins - B ins) u:=h.wd hl fun k hk ins=>by
 unfold AG
 by_cases h0:k = 0
 ·subst h0; rw [if_pos rfl,FC hk]
 ·rw [if_neg h0,Iz hk om]; rfl
theorem ID{s : Bool}(hw : 0 < w)(ins : List Bool) :
  ca (fun k=>if s = true /\ k + 1 = w then !(B ins).getLsbD k && (A ins).getLsbD k else !(A ins).getLsbD k && (B ins).getLsbD k) (fun k=>!((A ins).getLsbD k ^^ (B ins).getLsbD k)) 0 w false = if s then (A ins).slt (B ins) else (A ins).ult (B ins):=by
 cases s
 ·rw [if_neg ae,<- FH]
  exact r7 (fun i _=>by simp [JW]) (fun _ _=>rfl)
 ·rw [if_pos rfl,<- Ln hw]
  exact r7 (fun i _=>by unfold FI JW; simp) (fun _ _=>rfl)
theorem FO{s : Bool}{i : Nat}(ha : Wd c gl a w A t)(hb : Wd c gl b w B t)(hi : i < w){x y : Int}(hx : x = if s = true ∧ i + 1 = w then b.getD i 0 else a.getD i 0)(hy : y = if s = true ∧ i + 1 = w then a.getD i 0 else b.getD i 0) :
  Wr c gl x (fun ins=>if s = true /\ i + 1 = w then (B ins).getLsbD i else (A ins).getLsbD i) t /\ Wr c gl y (fun ins=>if s = true /\ i + 1 = w then (A ins).getLsbD i else (B ins).getLsbD i) t:=by
 subst hx hy
 by_cases q:s = true /\ i + 1 = w
 ·simp only [if_pos q]; exact ⟨hb.bit i hi,ha.bit i hi⟩
 ·simp only [if_neg q]; exact ⟨ha.bit i hi,hb.bit i hi⟩
theorem vk.tree{s : Bool}{ps : List bn}(hw : 0 < w)(h : vk c g0 gl (fun k ins => (A ins).getLsbD k) (fun k ins => (B ins).getLsbD k) s w u ps w) :
  Cj c gl (fun ins=>if s then (A ins).slt (B ins) else (A ins).ult (B ins)) w u gl ps:=by
 have h1:=Cj.init h.ext.dw h.wp (by rw [h.pl]; omega)
 rw [h.pl] at h1
 have h2:(fun ins=>ca (fun k=>if s = true /\ k + 1 = w then !(B ins).getLsbD k && (A ins).getLsbD k else !(A ins).getLsbD k && (B ins).getLsbD k) (fun k=>!((A ins).getLsbD k ^^ (B ins).getLsbD k)) 0 w false) = (fun ins=>if s then (A ins).slt (B ins) else (A ins).ult (B ins)):=funext fun ins=>ID hw ins
 rw [h2] at h1
 exact h1
theorem Lt(hr:r.length = w)(h:Ws c gl r (fun i ins=>!jU (fun j=>(B ins).getLsbD (dF w + j)) (w - dF w) && tJ true w (A ins).getLsbD false ((B ins).toNat % 2 ^ dF w) i) u):Wd c gl r w (fun ins=>A ins <<< (B ins).toNat) u :=
 h.wd hr fun k hk ins=>(I6 (s0 w) hk).symm
theorem Lu(hr:r.length = w)(h:Ws c gl r (fun i ins=>!jU (fun j=>(B ins).getLsbD (dF w + j)) (w - dF w) && tJ false w (A ins).getLsbD false ((B ins).toNat % 2 ^ dF w) i) u):Wd c gl r w (fun ins=>A ins >>> (B ins).toNat) u :=
 h.wd hr fun k hk ins=>(I7 (s0 w) hk).symm
theorem Lv(hr:r.length = w)(h:Ws c gl r (fun i ins=>if jU (fun j=>(B ins).getLsbD (dF w + j)) (w - dF w) then (A ins).msb else tJ false w (A ins).getLsbD (A ins).msb ((B ins).toNat % 2 ^ dF w) i) u):Wd c gl r w (fun ins=>(A ins).sshiftRight (B ins).toNat) u :=
 h.wd hr fun k hk ins=>(I8 (s0 w) hk).symm
theorem Wd.msb(h:Wd c gl a w A t)(hw:0 < w):Wr c gl (a.getD (w - 1) 0) (fun ins=>(A ins).msb) t:=(h.bit (w - 1) om).as fun ins=>by rw [BitVec.msb_eq_getLsbD_last]
end
structure Wk(c:Int)(l:List Gate)(a:List Int)(w:Nat)(N:List Bool -> Nat)(t:Int):Prop where
 len:a.length = w
 lt:∀ ins,N ins < 2 ^ w
 bit:∀ k,k < w -> Wr c l (a.getD k 0) (fun ins=>(N ins).testBit k) t
theorem Wd.wk{c:Int}{l:List Gate}{a:List Int}{w:Nat}{A:List Bool -> BitVec w}{t:Int}(h:Wd c l a w A t):Wk c l a w (fun ins=>(A ins).toNat) t:=⟨h.len,fun ins=>(A ins).isLt,h.bit⟩
theorem Wk.wd{c:Int}{l:List Gate}{a:List Int}{w:Nat}{N:List Bool -> Nat}{t:Int}(h:Wk c l a w N t):Wd c l a w (fun ins=>BitVec.ofNat w (N ins)) t :=
 ⟨h.len,fun k hk=>(h.bit k hk).as fun ins=>by rw [BitVec.getLsbD_ofNat]; simp [hk]⟩
theorem Wk.as{c:Int}{l:List Gate}{a:List Int}{w:Nat}{N M:List Bool -> Nat}{t:Int}(h:Wk c l a w N t)(he:∀ ins,N ins = M ins):Wk c l a w M t:=by
 obtain rfl:N = M:=funext he
 exact h
theorem Wk.ext{c:Int}{l l':List Gate}{a:List Int}{w:Nat}{N:List Bool -> Nat}{t:Int}(h:Wk c l a w N t)(he:Ext l l'):Wk c l' a w N t:=⟨h.len,h.lt,fun k hk=>(h.bit k hk).ext he⟩
theorem Wk.late{c:Int}{l:List Gate}{a:List Int}{w:Nat}{N:List Bool -> Nat}{t t':Int}(h:Wk c l a w N t)(ht:t <= t'):Wk c l a w N t':=⟨h.len,h.lt,fun k hk=>(h.bit k hk).late ht⟩
theorem Wr.MS{c:Int}{l:List Gate}{x:Int}{f:List Bool -> Bool}{t:Int}(h:Wr c l x f t):Wk c l [x] 1 (fun ins=>(f ins).toNat) t :=
 ⟨rfl,fun ins=>by cases f ins <;> decide,fun k hk=>by
  obtain rfl:k = 0:=by omega
  exact h.as fun ins=>by cases f ins <;> rfl⟩
def sc(op:Int)(w width x y z:Nat):Nat :=
 if op = 2 then (BitVec.ofNat w x + BitVec.ofNat w y).toNat else if op = 3 then (BitVec.ofNat w x - BitVec.ofNat w y).toNat
 else if op = 9 then x &&& y else if op = 10 then x ||| y else if op = 11 then x ^^^ y
 else if op = 12 then (BitVec.ofNat w x <<< y).toNat else if op = 13 then (BitVec.ofNat w x >>> y).toNat else if op = 14 then ((BitVec.ofNat w x).sshiftRight y).toNat
 else if op = 15 then (decide (x = y)).toNat else if op = 16 then (decide (x ≠ y)).toNat
 else if op = 17 then (decide (x < y)).toNat else if op = 18 then (decide (x <= y)).toNat
 else if op = 19 then ((BitVec.ofNat w x).slt (BitVec.ofNat w y)).toNat else if op = 20 then ((BitVec.ofNat w x).sle (BitVec.ofNat w y)).toNat
 else if op = 21 then (if x = 1 then y else z) else if op = 22 then x else if op = 23 then ((BitVec.ofNat w x).signExtend width).toNat else x % 2 ^ width
open Go Go.AW
section
variable {c:Int} {g0 gl:List Gate} {r:List Int} {t u:Int} {i w:Nat} {A B:List Bool -> BitVec w}
structure xw(c:Int)(g0 gl:List Gate)(out:List Int)(h:Nat -> List Bool -> Bool)(u:Int)(i:Nat):Prop where
 ext:Ext g0 gl
 len:gl.length <= g0.length + 3 * i
 ol:out.length = i
 ws:Ws c gl out h u
theorem xw.init{h:Nat -> List Bool -> Bool}{u:Int}(hg:Good g0):xw c g0 g0 [] h u 0:=⟨.refl hg,om,rfl,.nil⟩
theorem xw.choose{h : Nat → List Bool → Bool}{s v y n : Int}{fs fy fn : List Bool → Bool}{ts tv ty tn : Int}(k : xw c g0 gl r h u i)(hs : Wr c g0 s fs ts)(hv : Wr c g0 v (fun ins => !fs ins) tv)(hy : Wr c g0 y fy ty)(hn : Wr c g0 n fn tn)
  (h1:ts + 40 <= u) (h2:tv + 40 <= u) (h3:ty + 40 <= u) (h4:tn + 40 <= u) (hh:∀ ins,h i ins = if fs ins then fy ins else fn ins):xw c g0 (yx gl s v y n) (r ++ [(gl.length:Int) + 2]) h u (i + 1):=by
 obtain ⟨e,wv⟩:=FM k.ext.dw (hs.ext k.ext) (hv.ext k.ext) (hy.ext k.ext) (hn.ext k.ext) h1 h2 h3 h4
 have hl:=k.len
 exact ⟨k.ext.trans e,by rw [Ci]; omega,by rw [List.length_append,k.ol]; rfl,(k.ws.ext e).snoc (by rw [k.ol]; exact wv.as fun ins=>(hh ins).symm)⟩
theorem xw.and{h : Nat → List Bool → Bool}{x y : Int}{fx fy : List Bool → Bool}{tx ty : Int}(k : xw c g0 gl r h u i)(hx : Wr c g0 x fx tx)(hy : Wr c g0 y fy ty)(h1 : tx + 20 ≤ u)(h2 : ty + 20 ≤ u)(hh : ∀ ins, h i ins = (fx ins && fy ins)) :
  xw c g0 (gl ++ [⟨5,x,y⟩]) (r ++ [(gl.length:Int)]) h u (i + 1):=by
 have e:=Ext.two (k:=5) k.ext.dw ae (hx.ext k.ext) (hy.ext k.ext)
 have wv:=(hx.ext k.ext).and (u:=u) (hy.ext k.ext) h1 h2
 have hl:=k.len
 exact ⟨k.ext.trans e,by rw [List.length_append,List.length_singleton]; omega,by rw [List.length_append,k.ol]; rfl,(k.ws.ext e).snoc (by rw [k.ol]; exact wv.as fun ins=>(hh ins).symm)⟩
def AI{w:Nat}(B:List Bool -> BitVec w)(ins:List Bool):Bool:=jU (fun j=>(B ins).getLsbD (dF w + j)) (w - dF w)
def yy(left ar:Bool)(w:Nat)(A B:List Bool -> BitVec w)(i:Nat)(ins:List Bool):Bool :=
 if ar then (if AI B ins then (A ins).msb else tJ left w (A ins).getLsbD (ar && (A ins).msb) ((B ins).toNat % 2 ^ dF w) i) else (!AI B ins && tJ left w (A ins).getLsbD (ar && (A ins).msb) ((B ins).toNat % 2 ^ dF w) i)
def IE(left ar:Bool){w:Nat}(a b:BitVec w):BitVec w:=if left then a <<< b.toNat else if ar then a.sshiftRight b.toNat else a >>> b.toNat
theorem AJ{left ar:Bool}(T4:left = true -> ar = false)(hr:r.length = w)(h:Ws c gl r (yy left ar w A B) u):Wd c gl r w (fun ins=>IE left ar (A ins) (B ins)) u:=by
 cases left with
 | true =>
  obtain rfl:=T4 rfl
  have h1:=Lt (A:=A) (B:=B) hr (h.as fun k _ ins=>by simp [yy,AI])
  exact ⟨h1.len,fun k hk=>(h1.bit k hk).as fun ins=>by simp [IE]⟩
 | false =>
  cases ar with
  | true =>
   have h1:=Lv (A:=A) (B:=B) hr (h.as fun k _ ins=>by simp [yy,AI])
   exact ⟨h1.len,fun k hk=>(h1.bit k hk).as fun ins=>by simp [IE]⟩
  | false =>
   have h1:=Lu (A:=A) (B:=B) hr (h.as fun k _ ins=>by simp [yy,AI])
   exact ⟨h1.len,fun k hk=>(h1.bit k hk).as fun ins=>by simp [IE]⟩
def p2(k:Nat):Nat:=2 ^ k
theorem Ck{k:Nat}(h:k <= 6):IntKind.i64.wrap (1 * 2 ^ (min (k:Int).toNat IntKind.i64.bits)) = ((p2 k:Nat):Int):=by
 have:k = 0 \/ k = 1 \/ k = 2 \/ k = 3 \/ k = 4 \/ k = 5 \/ k = 6:=by omega
 rcases this with rfl | rfl | rfl | rfl | rfl | rfl | rfl <;> decide
theorem Lw{k:Nat}(h:k <= 6):p2 k <= 64:=Nat.pow_le_pow_right (n:=2) om h
theorem FP{w:Nat}:dF w <= w:=by
 refine nI ?_
 exact Nat.le_of_lt Nat.lt_two_pow_self
end
open Go Go.AW
section
variable {c:Int} {g0 gl:List Gate} {a r:List Int} {t u:Int} {w n:Nat} {A:List Bool -> BitVec w}
def yz(sg:Bool){w:Nat}(A:List Bool -> BitVec w)(k:Nat)(ins:List Bool):Bool:=if k < w then (A ins).getLsbD k else sg && (A ins).msb
def wM(sg:Bool){w:Nat}(n:Nat)(x:BitVec w):BitVec n:=if sg then x.signExtend n else x.setWidth n
theorem FQ{sg:Bool}(ha:Wd c gl a w A t):Ws c gl a (yz sg A) t:=ha.ws.as fun k hk ins=>by
 unfold yz; rw [if_pos (by rw [<- ha.len]; exact hk)]
theorem FT{sg:Bool}{x:Int}(hr:Ws c gl r (yz sg A) t)(hl:w <= r.length)(hx:Wr c gl x (fun ins=>sg && (A ins).msb) t):Ws c gl (r ++ [x]) (yz sg A) t :=
 hr.snoc (hx.as fun ins=>by unfold yz; rw [if_neg om])
theorem FU{sg:Bool}(hr:Ws c gl r (yz sg A) t)(hl:r.length = n)(_:w <= n):Wd c gl r n (fun ins=>wM sg n (A ins)) t:=hr.wd hl fun k hk ins=>by
 unfold yz wM
 cases sg
 ·simp only [Bool.false_and,Bool.false_eq_true,if_false,BitVec.getLsbD_setWidth,hk,decide_true,Bool.true_and]
  by_cases h:k < w
  ·rw [if_pos h]
  ·rw [if_neg h,BitVec.getLsbD_of_ge _ _ om]
 ·simp only [Bool.true_and,if_true,BitVec.getLsbD_signExtend,hk,decide_true]
theorem IF{sg:Bool}(ha:Wd c gl a w A t)(h:n <= w):Wd c gl (a.take n) n (fun ins=>wM sg n (A ins)) t:=⟨by rw [List.length_take,ha.len]; omega,fun k hk=>by
 have h1:=ha.bit k om
 rw [List.getD_eq_getElem?_getD,List.getElem?_take_of_lt hk,<- List.getD_eq_getElem?_getD]
 refine h1.as fun ins=>?_
 unfold wM
 cases sg
 ·simp only [Bool.false_eq_true,if_false,BitVec.getLsbD_setWidth,hk,decide_true,Bool.true_and]
 ·simp only [if_true,BitVec.getLsbD_signExtend,hk,decide_true,Bool.true_and,show k < w by omega]⟩
def zH(s n:Nat):List Int:=(List.range n).map (fun i=>((s + i:Nat):Int))
theorem FV(s n:Nat):zH s (n + 1) = zH s n ++ [((s + n:Nat):Int)]:=by simp [zH,List.range_succ]
theorem Cl(s n:Nat):(zH s n).length = n:=by simp [zH]
theorem IG{s n k:Nat}(h:k < n):(zH s n).getD k 0 = ((s + k:Nat):Int):=by
 unfold zH
 rw [List.getD_eq_getElem?_getD,List.getElem?_map,List.getElem?_range h]; rfl
def rD(n:Nat):List Gate:=List.replicate n ⟨3,0,0⟩
theorem oT(n:Nat):rD (n + 1) = rD n ++ [⟨3,0,0⟩]:=List.replicate_succ'
theorem IH(n m:Nat):rD n ++ rD m = rD (n + m):=by simp [rD,List.replicate_append_replicate]
theorem lZ(n:Nat):(rD n).length = n:=by simp [rD]
theorem uB : ∀ n, Good (rD n)
 | 0=>Good.nil
 | n + 1=>by rw [oT]; exact (uB n).snoc (Fw ae)
theorem rE : ∀ n, oR (rD n) = n
 | 0=>rfl
 | n + 1=>by rw [oT,lY,rE n,r6,if_pos rfl]
theorem Cm{ins : List Bool} : ∀ {n k : Nat}, k < n → val (rD n) ins (k : Int) = ins.getD k false
 | 0,_,h=>by omega
 | n + 1,k,h=>by
  rw [oT]
  rcases Nat.lt_or_ge k n with h1 | h1
  ·rw [Cd om (by rw [lZ]; omega)]; exact Cm h1
  ·obtain rfl:k = n:=by omega
   have h2:=val_last (l:=rD k) (g:=⟨3,0,0⟩) (ins:=ins)
   rw [lZ] at h2
   rw [h2,rE]; rfl
theorem Lx{o ins:List Int}{n:Nat}:zG o ins n ⟨3,0,0⟩ = ins.getD n 0:=rfl
theorem Co{c : Int} : ∀ {n k : Nat}, k < n → Dh c (rD n) (k : Int) = c
 | 0,_,h=>by omega
 | n + 1,k,h=>by
  rw [oT]
  rcases Nat.lt_or_ge k n with h1 | h1
  ·rw [Ce om (by rw [lZ]; omega)]; exact Co h1
  ·obtain rfl:k = n:=by omega
   unfold Dh nZ
   have h3:(rD k ++ [(⟨3,0,0⟩:Gate)]).length = (rD k).length + 1:=by simp
   rw [h3,sy,Int.toNat_natCast,jT (by rw [kt _ (Nat.le_refl _),lZ]),Lx,rE,lY,rE,r6,if_pos rfl,u3 om]
def sX(f : Nat → Bool) : Nat → Nat
 | 0=>0
 | n + 1=>sX f n + 2 ^ n * (f n).toNat
theorem rF{f : Nat → Bool} : ∀ n, sX f n < 2 ^ n
 | 0=>by simp [sX]
 | n + 1=>by
  have h:=rF (f:=f) n
  rw [sX,Nat.pow_succ]
  cases f n <;> simp <;> omega
theorem s6{f : Nat → Bool} : ∀ {n k : Nat}, k < n → (sX f n).testBit k = f k
 | 0,_,h=>by omega
 | n + 1,k,h=>by
  have h0:=rF (f:=f) n
  rw [sX,Nat.add_comm,Nat.testBit_two_pow_mul_add _ h0]
  rcases Nat.lt_or_ge k n with h1 | h1
  ·rw [if_pos h1]; exact s6 h1
  ·obtain rfl:k = n:=by omega
   rw [if_neg om,Nat.sub_self]; cases f k <;> rfl
def II(s w:Nat)(ins:List Bool):Nat:=sX (fun k=>ins.getD (s + k) false) w
theorem PR{c:Int}{s w n:Nat}(h:s + w <= n):Wk c (rD n) (zH s w) w (II s w) c:=⟨Cl s w,fun ins=>rF w,fun k hk=>by
 rw [IG hk]
 exact ⟨om,by rw [lZ]; omega,fun ins=>by rw [Cm om]; exact (s6 (f:=fun k=>ins.getD (s + k) false) hk).symm,by rw [Co om]; exact Int.le_refl _⟩⟩
end
structure Ly(c:Int)(gl:List Gate)(ws:List (List Int))(op:Int)(w width:Nat)(x y z:List Bool -> Nat)(t:Int):Prop where
 x:Wk c gl (ws.getD 0 []) w x t
 y:2 <= ws.length -> Wk c gl (ws.getD 1 []) (if op = 21 then width else w) y t
 z:3 <= ws.length -> Wk c gl (ws.getD 2 []) width z t
 ok:((op = 2 \/ op = 3 \/ 9 <= op /\ op <= 14) /\ ws.length = 2 /\ width = w) \/ ((15 <= op /\ op <= 20) /\ ws.length = 2 /\ width = 1) \/ (op = 21 /\ ws.length = 3 /\ w = 1) \/ ((op = 22 \/ op = 23) /\ ws.length = 1 /\ w <= width) \/ (op = 24 /\ ws.length = 1 /\ width <= w)
 hw:1 <= w /\ w <= 64
 hd:1 <= width /\ width <= 64
 t0:0 <= t
open Go Go.AW
theorem Wk.ws{c:Int}{l:List Gate}{a:List Int}{w:Nat}{N:List Bool -> Nat}{t:Int}(h:Wk c l a w N t):Ws c l a (fun k ins=>(N ins).testBit k) t:=⟨fun k hk=>h.bit k (by have:=h.len; omega)⟩
theorem Ws.wk{c:Int}{l:List Gate}{a:List Int}{w:Nat}{N:List Bool -> Nat}{t:Int}(h:Ws c l a (fun k ins=>(N ins).testBit k) t)(hl:a.length = w)(hn:∀ ins,N ins < 2 ^ w):Wk c l a w N t:=⟨hl,hn,fun k hk=>h.bit k om⟩
section
variable {c:Int} {l:List Gate} {r:List Int} {t:Int} {op:Int} {w width:Nat} {X Y Z:List Bool -> Nat} {x:Int}
abbrev Cp(c:Int)(l:List Gate)(r:List Int)(op:Int)(w width:Nat)(X Y Z:List Bool -> Nat)(t:Int):Prop:=Wk c l r width (fun ins=>sc op w width (X ins) (Y ins) (Z ins)) (t + bo op (if km op then w else width))
theorem IJ{n:Nat}(h:n < 2 ^ w):(BitVec.ofNat w n).toNat = n:=by rw [BitVec.toNat_ofNat,Nat.mod_eq_of_lt h]
theorem IK(h:Wd c l r w (fun ins=>BitVec.ofNat w (X ins) + BitVec.ofNat w (Y ins)) (t + 40 + 40 * (dF w:Int)))(ho:op = 2)(hw:width = w):Cp c l r op w width X Y Z t:=by
 subst ho hw
 exact (h.wk.as fun ins=>by simp [sc]).late (by simp [bo,km]; omega)
theorem IL(h:Wd c l r w (fun ins=>BitVec.ofNat w (X ins) - BitVec.ofNat w (Y ins)) (t + 50 + 40 * (dF w:Int)))(ho:op = 3)(hw:width = w):Cp c l r op w width X Y Z t:=by
 subst ho hw
 exact (h.wk.as fun ins=>by simp [sc]).late (by simp [bo,km]; omega)
theorem wN{k:Int}(h:Ws c l r (fun i ins=>(if k = 5 then X ins &&& Y ins else if k = 6 then X ins ||| Y ins else X ins ^^^ Y ins).testBit i) (t + 20))(hl:r.length = w)(hX:∀ ins,X ins < 2 ^ w)(hY:∀ ins,Y ins < 2 ^ w)(ho:op = 9 /\ k = 5 \/ op = 10 /\ k = 6 \/ op = 11 /\ k = 7)(hw:width = w):Cp c l r op w width X Y Z t:=by
 subst hw
 rcases ho with ⟨rfl,rfl⟩ | ⟨rfl,rfl⟩ | ⟨rfl,rfl⟩
 ·exact ((h.wk hl fun ins=>Nat.and_lt_two_pow _ (hY ins)).as fun ins=>by simp [sc]).late (by simp [bo,km])
 ·exact ((h.wk hl fun ins=>Nat.or_lt_two_pow (hX ins) (hY ins)).as fun ins=>by simp [sc]).late (by simp [bo,km])
 ·exact ((h.wk hl fun ins=>Nat.xor_lt_two_pow (hX ins) (hY ins)).as fun ins=>by simp [sc]).late (by simp [bo,km])
theorem AK{left ar:Bool}(h:Wd c l r w (fun ins=>IE left ar (BitVec.ofNat w (X ins)) (BitVec.ofNat w (Y ins))) (t + (if ar then 50 else 30) + 40 * (dF w:Int)))(hY:∀ ins,Y ins < 2 ^ w)(ho:op = 12 /\ left = true /\ ar = false \/ op = 13 /\ left = false /\ ar = false \/ op = 14 /\ left = false /\ ar = true)(hw:width = w):Cp c l r op w width X Y Z t:=by
 subst hw
 rcases ho with ⟨rfl,rfl,rfl⟩ | ⟨rfl,rfl,rfl⟩ | ⟨rfl,rfl,rfl⟩
 ·exact (h.wk.as fun ins=>by simp only [sc,IE,IJ (hY ins)]; simp).late (by simp [bo,km]; omega)
 ·exact (h.wk.as fun ins=>by simp only [sc,IE,IJ (hY ins)]; simp).late (by simp [bo,km]; omega)
 ·exact (h.wk.as fun ins=>by simp only [sc,IE,IJ (hY ins)]; simp).late (by simp [bo,km]; omega)
theorem FW{x y:Nat}(hx:x < 2 ^ w)(hy:y < 2 ^ w):BitVec.ofNat w x = BitVec.ofNat w y ↔ x = y:=by
 constructor
 ·intro h
  have:=congrArg BitVec.toNat h
  rwa [IJ hx,IJ hy] at this
 ·rintro rfl; rfl
theorem Lz(h:Wr c l x (fun ins=>decide (BitVec.ofNat w (X ins) ≠ BitVec.ofNat w (Y ins))) (t + 20 + 20 * (dF w:Int)))(hX:∀ ins,X ins < 2 ^ w)(hY:∀ ins,Y ins < 2 ^ w)(ho:op = 16)(hw:width = 1):Cp c l [x] op w width X Y Z t:=by
 subst ho hw
 exact (h.MS.as fun ins=>by simp [sc,FW (hX ins) (hY ins)]).late (by simp [bo,km]; omega)
theorem L0(h:Wr c l x (fun ins=>!decide (BitVec.ofNat w (X ins) ≠ BitVec.ofNat w (Y ins))) (t + 30 + 20 * (dF w:Int)))(hX:∀ ins,X ins < 2 ^ w)(hY:∀ ins,Y ins < 2 ^ w)(ho:op = 15)(hw:width = 1):Cp c l [x] op w width X Y Z t:=by
 subst ho hw
 exact (h.MS.as fun ins=>by simp [sc,FW (hX ins) (hY ins)]).late (by simp [bo,km]; omega)
theorem FX{s:Bool}(h:Wr c l x (fun ins=>if s then (BitVec.ofNat w (X ins)).slt (BitVec.ofNat w (Y ins)) else (BitVec.ofNat w (X ins)).ult (BitVec.ofNat w (Y ins))) (t + 30 + 40 * (dF w:Int)))(hX:∀ ins,X ins < 2 ^ w)(hY:∀ ins,Y ins < 2 ^ w)(ho:op = 17 /\ s = false \/ op = 19 /\ s = true)(hw:width = 1):Cp c l [x] op w width X Y Z t:=by
 subst hw
 have hm:=oS (show w <= w + 1 by omega)
 rcases ho with ⟨rfl,rfl⟩ | ⟨rfl,rfl⟩
 ·exact (h.MS.as fun ins=>by simp [sc,BitVec.ult,Nat.mod_eq_of_lt (hX ins),Nat.mod_eq_of_lt (hY ins)]).late (by simp [bo,km]; omega)
 ·exact (h.MS.as fun ins=>by simp [sc]).late (by simp [bo,km]; omega)
theorem FY{s:Bool}(h:Wr c l x (fun ins=>!(if s then (BitVec.ofNat w (Y ins)).slt (BitVec.ofNat w (X ins)) else (BitVec.ofNat w (Y ins)).ult (BitVec.ofNat w (X ins)))) (t + 40 + 40 * (dF w:Int)))(hX:∀ ins,X ins < 2 ^ w)(hY:∀ ins,Y ins < 2 ^ w)(ho:op = 18 /\ s = false \/ op = 20 /\ s = true)(hw:width = 1):Cp c l [x] op w width X Y Z t:=by
 subst hw
 have hm:=oS (show w <= w + 1 by omega)
 rcases ho with ⟨rfl,rfl⟩ | ⟨rfl,rfl⟩
 ·refine (h.MS.as fun ins=>?_).late (by simp [bo,km]; omega)
  simp only [sc,BitVec.ult,IJ (hX ins),IJ (hY ins)]
  simp
  by_cases h:X ins <= Y ins
  ·rw [decide_eq_true h,decide_eq_false om]; rfl
  ·rw [decide_eq_false h,decide_eq_true om]; rfl
 ·refine (h.MS.as fun ins=>?_).late (by simp [bo,km]; omega)
  simp only [sc,if_true,BitVec.sle_eq_not_slt]
  simp
theorem FZ{x:Nat}(h:x < 2 ^ 1):x.testBit 0 = decide (x = 1):=by
 rcases (show x = 0 \/ x = 1 by omega) with rfl | rfl <;> rfl
theorem IM(h:Ws c l r (fun i ins=>if (X ins).testBit 0 then (Y ins).testBit i else (Z ins).testBit i) (t + 50))(hl:r.length = width)(hX:∀ ins,X ins < 2 ^ 1)(hY:∀ ins,Y ins < 2 ^ width)(hZ:∀ ins,Z ins < 2 ^ width)(ho:op = 21):Cp c l r op w width X Y Z t:=by
 subst ho
 have h1:Ws c l r (fun i ins=>(if X ins = 1 then Y ins else Z ins).testBit i) (t + 50):=h.as fun k _ ins=>by
  rw [FZ (hX ins)]
  by_cases hx:X ins = 1
  ·simp [hx]
  ·simp [hx]
 exact ((h1.wk hl fun ins=>by split; exact hY ins; exact hZ ins).as fun ins=>by simp [sc]).late (by simp [bo,km])
theorem IN{sg:Bool}(h:Wd c l r width (fun ins=>wM sg width (BitVec.ofNat w (X ins))) t)(hX:∀ ins,X ins < 2 ^ w)(ho:op = 22 /\ sg = false /\ w <= width \/ op = 23 /\ sg = true /\ w <= width \/ op = 24 /\ sg = false /\ width <= w):Cp c l r op w width X Y Z t:=by
 rcases ho with ⟨rfl,rfl,hw⟩ | ⟨rfl,rfl,hw⟩ | ⟨rfl,rfl,hw⟩
 ·refine (h.wk.as fun ins=>?_).late (by simp [bo,km])
  have:=Nat.pow_le_pow_right (n:=2) om hw
  simp only [sc,wM,Bool.false_eq_true,if_false,BitVec.toNat_setWidth,IJ (hX ins)]
  rw [Nat.mod_eq_of_lt (by have:=hX ins; omega)]; simp
 ·exact (h.wk.as fun ins=>by simp [sc,wM]).late (by simp [bo,km])
 ·refine (h.wk.as fun ins=>?_).late (by simp [bo,km])
  simp only [sc,wM,Bool.false_eq_true,if_false,BitVec.toNat_setWidth,IJ (hX ins)]
  simp
end
open Go Go.AW
end Go.Proofs.Ytlimckldnjmabaa
namespace Go.Proofs.Ytlimckldnjmabaa
open Go Go.AW
def MT(op:Int)(ws:List Int)(width:Int):Prop :=
 (∀ w ∈ ws,dO w) /\ dO width /\ cA op ≠ 0 /\ (ws.length:Int) = cA op /\ fU op (ws.getD 0 0) (ws.getD 1 0) (ws.getD 2 0) width
section
variable {op width:Int} {ws:List Int}
theorem wO{op:Int}:cA op <= 3 /\ 0 <= cA op:=by unfold cA; (repeat' split) <;> omega
end
open Go Go.AW
def ov(ws : List Int) : Nat → Nat
  | 0=>0
  | i + 1=>ov ws i + (ws.getD i 0).toNat
theorem vQ{ws : List Int}{i : Nat} : ∀ {j}, i ≤ j → ov ws i ≤ ov ws j
  | 0, h => by have : i = 0 := by omega
               subst this; exact Nat.le_refl _
  | j + 1,h=>by
    rcases Nat.lt_or_ge j i with h1 | h1
    · have:i = j + 1:=by omega
      subst this; exact Nat.le_refl _
    · have:=vQ (ws:=ws) h1
      simp only [ov]; omega
theorem y0{op:Int}{k:Nat}(h0:cA op ≠ 0)(hl:(k:Int) = cA op):(((2 <= op /\ op <= 3) \/ (9 <= op /\ op <= 20)) /\ k = 2) \/ (op = 21 /\ k = 3) \/ ((22 <= op /\ op <= 24) /\ k = 1):=by
  unfold cA at h0 hl
  by_cases h1:(2 <= op /\ op <= 3) \/ (9 <= op /\ op <= 20)
  · rw [if_pos h1] at hl; exact .inl ⟨h1,om⟩
  · rw [if_neg h1] at hl h0
    by_cases h2:op = 21
    · rw [if_pos h2] at hl; exact .inr (.inl ⟨h2,om⟩)
    · rw [if_neg h2] at hl h0
      by_cases h3:22 <= op /\ op <= 24
      · rw [if_pos h3] at hl; exact .inr (.inr ⟨h3,om⟩)
      · rw [if_neg h3] at h0; exact absurd rfl h0
section
variable {op width c:Int} {ws:List Int}
noncomputable instance:Decidable (MT op ws width):=Classical.propDecidable _
def PS(op:Int)(ws:List Int)(width:Int):Prop:=Plain op /\ MT op ws width
noncomputable instance:Decidable (PS op ws width):=Classical.propDecidable _
def pX(op:Int)(ws:List Int)(width:Int)(l:List Gate)(out:List Int)(e:Int):Prop :=
  (¬ Plain op /\ e = 1) \/ (Plain op /\ ¬ MT op ws width /\ e = 13) \/
  (Plain op ∧ MT op ws width ∧ e = 0 ∧ Ext (rD (ov ws ws.length)) l ∧ l.length ≤ 1800 ∧
    Cp 0 l out op (ws.getD 0 0).toNat width.toNat (II 0 (ws.getD 0 0).toNat) (II (ov ws 1) (ws.getD 1 0).toNat) (II (ov ws 2) (ws.getD 2 0).toNat) 0)
end
open Go Go.AW
section
variable {op width:Int} {ws:List Int} {l:List Gate} {out:List Int} {e:Int}
theorem pX.e1(h:pX op ws width l out e)(hp:¬ Plain op):e = 1:=by
 rcases h with ⟨_,h⟩ | ⟨h,_⟩ | ⟨h,_⟩
 ·exact h
 ·exact absurd h hp
 ·exact absurd h hp
theorem pX.e0(h:pX op ws width l out e)(hp:Plain op)(hc:MT op ws width):e = 0:=by
 rcases h with ⟨h,_⟩ | ⟨_,h,_⟩ | ⟨_,_,h,_⟩
 ·exact absurd hp h
 ·exact absurd hc h
 ·exact h
end
open Go Go.AW
def y4(l:List Gate):Prop:=∀ j,j < l.length -> kI j (l.getD j default)
noncomputable instance (l:List Gate):Decidable (y4 l):=Classical.propDecidable _
theorem getD_some{α:Type}{l:List α}{i:Nat}{g d:α}(h:l[i]? = some g):i < l.length /\ l.getD i d = g:=by
 obtain ⟨hi,rfl⟩:=List.getElem?_eq_some_iff.1 h
 exact ⟨hi,by rw [List.getD_eq_getElem?_getD,List.getElem?_eq_getElem hi]; rfl⟩
theorem Good.d{l:List Gate}(h:Good l):y4 l:=fun j hj=>h j _ (by rw [List.getD_eq_getElem?_getD,List.getElem?_eq_getElem hj]; rfl)
theorem uC{i:Nat}{g:Gate}:kI i g ↔ ((1 <= g.kind /\ g.kind <= 7) /\ (4 <= g.kind -> 0 <= g.a /\ g.a < i) /\ (¬ 4 <= g.kind -> g.a = 0) /\ (5 <= g.kind -> 0 <= g.b /\ g.b < i) /\ (¬ 5 <= g.kind -> g.b = 0)):=by
 unfold kI
 by_cases h4:4 <= g.kind
 ·by_cases h5:5 <= g.kind
  ·rw [if_pos h4,if_pos h5]
   exact ⟨fun h=>⟨h.1,fun _=>h.2.1,fun n=>absurd h4 n,fun _=>h.2.2,fun n=>absurd h5 n⟩,fun h=>⟨h.1,h.2.1 h4,h.2.2.2.1 h5⟩⟩
  ·rw [if_pos h4,if_neg h5]
   exact ⟨fun h=>⟨h.1,fun _=>h.2.1,fun n=>absurd h4 n,fun n=>absurd n h5,fun _=>h.2.2⟩,fun h=>⟨h.1,h.2.1 h4,h.2.2.2.2 h5⟩⟩
 ·have h5:¬ 5 <= g.kind:=by omega
  rw [if_neg h4,if_neg h5]
  exact ⟨fun h=>⟨h.1,fun n=>absurd n h4,fun _=>h.2.1,fun n=>absurd n h5,fun _=>h.2.2⟩,fun h=>⟨h.1,h.2.2.1 h4,h.2.2.2.2 h5⟩⟩
def rG(a:List Int)(w n:Int):Prop:=(∀ j,j < a.length -> 0 <= a.getD j 0 /\ a.getD j 0 < n) /\ (a.length:Int) = w
noncomputable instance (a:List Int) (w n:Int):Decidable (rG a w n):=Classical.propDecidable _
open Go Go.AW
def y5(op:Int)(ws:List Int)(width:Int):Prop:=Plain op /\ MT op ws width
theorem y5.len{op:Int}{ws:List Int}{width:Int}(h:y5 op ws width):1 <= ws.length /\ ws.length <= 3:=by
 have h1:=wO (op:=op)
 have h2:=h.2.2.2.2.1
 have h3:=h.2.2.2.1
 omega
theorem pX.dw{op : Int}{ws : List Int}{width : Int}{l : List Gate}{out : List Int}{e : Int}(h : pX op ws width l out e)(hd : y5 op ws width) :
  e = 0 /\ Good l /\ rG out width l.length /\ l.length <= 1800 /\ oR l = ov ws ws.length /\ ∀ j,j < out.length -> Dh 0 l (out.getD j 0) <= bo op (if km op then ws.getD 0 0 else width).toNat:=by
 rcases h with ⟨h,_⟩ | ⟨_,h,_⟩ | ⟨_,hc,h0,hx,hl,hr⟩
 ·exact absurd hd.1 h
 ·exact absurd hd.2 h
 ·have hw:=hc.2.1
  unfold dO at hw
  have sK:=hr.len
  refine ⟨h0,hx.dw,⟨fun j hj=>?_,om⟩,hl,by rw [hx.oR,rE],fun j hj=>?_⟩
  ·have hb:=hr.bit j om
   exact ⟨hb.lo,hb.hi⟩
  ·have hb:=(hr.bit j om).t
   rw [Int.zero_add] at hb
   have e1:(if km op then ws.getD 0 0 else width).toNat = if km op then (ws.getD 0 0).toNat else width.toNat:=by split <;> rfl
   rw [e1]; exact hb
open Go Go.AW
theorem uD(l:List Int)(b:Int):gg (l ++ [b]) = gg l + 2 ^ l.length * b.toNat:=by
 induction l with
 | nil=>simp [gg]
 | cons a r ih =>
  show 2 * gg (r ++ [b]) + a.toNat = 2 * gg r + a.toNat + 2 ^ (r.length + 1) * b.toNat
  rw [ih,Nat.pow_succ,Nat.mul_add,<- Nat.mul_assoc,Nat.mul_comm 2 (2 ^ r.length)]; omega
theorem Ga{f:Nat -> Bool}{w R:Nat}(hR:R < 2 ^ w)(h:∀ k,k < w -> R.testBit k = f k):sX f w = R:=by
 refine Nat.eq_of_testBit_eq fun i=>?_
 rcases Nat.lt_or_ge i w with h1 | h1
 ·rw [s6 h1,h i h1]
 ·rw [Nat.testBit_lt_two_pow (Nat.lt_of_lt_of_le (rF w) (Nat.pow_le_pow_right om h1)),Nat.testBit_lt_two_pow (Nat.lt_of_lt_of_le hR (Nat.pow_le_pow_right om h1))]
theorem uE{l:List Int}{i:Nat}(h:i < l.length):gg (l.take (i + 1)) = gg (l.take i) + 2 ^ i * (l.getD i 0).toNat:=by
 rw [List.take_succ_eq_append_getElem h,uD,List.length_take,Nat.min_eq_left om,List.getD_eq_getElem?_getD,List.getElem?_eq_getElem h]; rfl
structure AL(a b:List Int)(c0:Int)(i:Nat)(out:List Int)(c:Int):Prop where
 ol:out.length = i
 o01:∀ x ∈ out,0 <= x /\ x <= 1
 c01:0 <= c /\ c <= 1
 sum:gg out + 2 ^ i * c.toNat = gg (a.take i) + gg (b.take i) + c0.toNat
theorem AL.init{a b:List Int}{c0:Int}(h:0 <= c0 /\ c0 <= 1):AL a b c0 0 [] c0:=⟨rfl,fun _ h=>(by cases h),h,by simp [gg]⟩
theorem AL.step{a b out : List Int}{c0 c x y : Int}{i : Nat}(h : AL a b c0 i out c)(ha : i < a.length)(hb : i < b.length)(hx : a.getD i 0 = x)(hy : b.getD i 0 = y)(WO : 0 ≤ x ∧ x ≤ 1)(hy1 : 0 ≤ y ∧ y ≤ 1) :
  AL a b c0 (i + 1) (out ++ [(x + y + c) % 2]) ((x + y + c) / 2):=by
 obtain ⟨h1,h2,h3,h4⟩:=h
 refine ⟨by simp [h1],fun z hz=>?_,om,?_⟩
 ·rcases List.mem_append.1 hz with h | h
  ·exact h2 z h
  ·rw [List.mem_singleton.1 h]; omega
 ·rw [uD,uE ha,uE hb,h1,hx,hy,Nat.pow_succ]
  have e:((x + y + c) % 2).toNat + 2 * ((x + y + c) / 2).toNat = x.toNat + y.toNat + c.toNat:=by omega
  have e2:2 ^ i * ((x + y + c) % 2).toNat + 2 ^ i * 2 * ((x + y + c) / 2).toNat = 2 ^ i * x.toNat + 2 ^ i * y.toNat + 2 ^ i * c.toNat:=by
   rw [Nat.mul_assoc,<- Nat.mul_add,e,Nat.mul_add,Nat.mul_add]
  omega
theorem AL.done{a b out:List Int}{c0 c:Int}{n:Nat}(h:AL a b c0 n out c)(ha:a.length = n)(hb:b.length = n):gg out = (gg a + gg b + c0.toNat) % 2 ^ n:=by
 obtain ⟨h1,h2,h3,h4⟩:=h
 rw [List.take_of_length_le om,List.take_of_length_le om] at h4
 have h5:=xT out (fun b hb=>by have:=h2 b hb; omega)
 rw [<- h4,Nat.add_mul_mod_self_left,Nat.mod_eq_of_lt (by rw [<- h1]; exact h5)]
section
variable {w width x y z:Nat}
end
open Go Go.AW
section
variable {o ins:List Bool} {n:Nat} {g:Gate}
end
open Go Go.AW
structure U3 where
 a:Nat
 b:Nat
 c:Nat
instance:Inhabited U3:=⟨⟨0,0,0⟩⟩
def U3.row(u:U3):List X:=[.v (.int .u64 (u.a:Int)),.v (.int .u64 (u.b:Int)),.v (.int .u64 (u.c:Int))]
theorem U3.bx(u:U3):X.b5 u.row = true:=rfl
theorem U3.lz(u:U3):X.fj u.row:=by simp [U3.row,X.fj,X.plain]
def U3.get(u:U3)(i:Nat):Nat:=if i = 0 then u.a else if i = 1 then u.b else u.c
def U3.Ok(u:U3):Prop:=u.a < 18446744073709551616 /\ u.b < 18446744073709551616 /\ u.c < 18446744073709551616
theorem U3.Ok.get{u:U3}(h:u.Ok)(i:Nat):u.get i < 18446744073709551616:=by
 unfold U3.get; obtain ⟨h1,h2,h3⟩:=h
 split
 ·exact h1
 ·split
  ·exact h2
  ·exact h3
def bL(f:Nat -> Bool)(n:Nat):List Bool:=(List.range n).map f
theorem Gb(f:Nat -> Bool)(n:Nat):(bL f n).length = n:=by simp [bL]
theorem L1{f:Nat -> Bool}{n i:Nat}(h:i < n):(bL f n).getD i false = f i:=by
 rw [List.getD_eq_getElem?_getD,List.getElem?_eq_getElem (by rw [Gb]; exact h)]; simp [bL]
def L2(tf:List Bool)(bc:List Int)(x:Nat):Prop:=∀ j,j < bc.length -> tf.getD (bc.getD j 0).toNat false = x.testBit j
noncomputable instance (tf:List Bool) (bc:List Int) (x:Nat):Decidable (L2 tf bc x):=Classical.propDecidable _
def JY(ws:List Int)(u:U3)(i:Nat):List Nat:=(List.range i).map fun j=>jM (ws.getD j 0) (u.get j)
theorem IP(ws:List Int)(u:U3)(i:Nat):(JY ws u i).length = i:=by simp [JY]
theorem tK{ws:List Int}{u:U3}{i j:Nat}(h:j < i):(JY ws u i).getD j 0 = jM (ws.getD j 0) (u.get j):=by
 rw [List.getD_eq_getElem?_getD,List.getElem?_eq_getElem (by rw [IP]; exact h)]; simp [JY]
def Ea(ws : List Int)(u : U3) : Nat → List Bool
 | 0=>[]
 | i + 1=>Ea ws u i ++ bL (jM (ws.getD i 0) (u.get i)).testBit (iy (ws.getD i 0))
theorem pC{w:Int}(h:dO w):iy w = w.toNat:=by unfold dO at h; unfold iy; rw [if_neg om,if_neg om]
theorem Cq{ws : List Int}{u : U3}(h : ∀ w ∈ ws, dO w) : ∀ i, i ≤ ws.length → (Ea ws u i).length = ov ws i
 | 0,_=>rfl
 | i + 1,hi=>by
  have h1:=pC (h (ws.getD i 0) (getD_in om))
  rw [Ea,List.length_append,Cq h i om,Gb,ov,h1]
theorem Cr{ws : List Int}{u : U3}(h : ∀ w ∈ ws, dO w){j k : Nat}(hk : k < (ws.getD j 0).toNat) : ∀ i, j < i → i ≤ ws.length → (Ea ws u i).getD (ov ws j + k) false = (jM (ws.getD j 0) (u.get j)).testBit k
 | 0,h0,_=>by omega
 | i + 1,hj,hi=>by
  have hl:=Cq (u:=u) h i om
  rw [Ea]
  rcases Nat.lt_or_ge j i with h1 | h1
  ·have hm:=vQ (ws:=ws) (i:=j + 1) (j:=i) om
   simp only [ov] at hm
   rw [List.getD_eq_getElem?_getD,List.getElem?_append_left om,<- List.getD_eq_getElem?_getD]
   exact Cr h hk i h1 om
  ·obtain rfl:j = i:=by omega
   have RE:=pC (h (ws.getD j 0) (getD_in om))
   rw [List.getD_eq_getElem?_getD,List.getElem?_append_right om,hl,show ov ws j + k - ov ws j = k by omega,<- List.getD_eq_getElem?_getD]
   exact L1 om
theorem IQ{ws:List Int}{u:U3}(h:∀ w ∈ ws,dO w){j:Nat}(hj:j < ws.length):II (ov ws j) (ws.getD j 0).toNat (Ea ws u ws.length) = jM (ws.getD j 0) (u.get j):=by
 have RE:=pC (h (ws.getD j 0) (getD_in hj))
 have gG:=w5 (ws.getD j 0) (u.get j)
 rw [RE] at gG
 exact Ga gG fun k hk=>(Cr h hk ws.length hj (Nat.le_refl _)).symm
def PT(op width:Int)(ws:List Int)(a:List Nat):Nat:=sc op (ws.getD 0 0).toNat width.toNat (a.getD 0 0) (a.getD 1 0) (a.getD 2 0)
theorem IS{op:Int}{w width x y z z':Nat}(h:(2 <= op /\ op <= 3) \/ (9 <= op /\ op <= 20)):sc op w width x y z = sc op w width x y z':=by
 unfold sc
 simp only [show ¬ op = 21 by omega,if_false]
theorem IT{op:Int}{w width x y y' z z':Nat}(h:22 <= op /\ op <= 24):sc op w width x y z = sc op w width x y' z':=by
 have:op = 22 \/ op = 23 \/ op = 24:=by omega
 rcases this with rfl | rfl | rfl <;> simp [sc]
theorem pX.num{op : Int}{ws : List Int}{width : Int}{l : List Gate}{out : List Int}{e : Int}{u : U3}(h : pX op ws width l out e)(hd : y5 op ws width) :
  ∀ j,j < out.length -> (outs l (Ea ws u ws.length) l.length).getD (out.getD j 0).toNat false = (PT op width ws (JY ws u ws.length)).testBit j /\ PT op width ws (JY ws u ws.length) < 2 ^ width.toNat:=by
 rcases h with ⟨h,_⟩ | ⟨_,h,_⟩ | ⟨_,hc,_,_,_,hr⟩
 ·exact absurd hd.1 h
 ·exact absurd hd.2 h
 ·intro j hj
  have sK:=hr.len
  have hb:=(hr.bit j om).v (Ea ws u ws.length)
  have gG:=hr.lt (Ea ws u ws.length)
  unfold val at hb
  rw [hb]
  obtain ⟨hw,CZ,h0,hl,hf⟩:=hc
  have tk:=y0 h0 hl
  have og:=fun {j:Nat} (hj:j < ws.length)=>IQ (u:=u) hw hj
  have e0:=og (j:=0) om
  rw [show ov ws 0 = 0 from rfl] at e0
  have e1:sc op (ws.getD 0 0).toNat width.toNat (II 0 (ws.getD 0 0).toNat (Ea ws u ws.length)) (II (ov ws 1) (ws.getD 1 0).toNat (Ea ws u ws.length)) (II (ov ws 2) (ws.getD 2 0).toNat (Ea ws u ws.length)) = PT op width ws (JY ws u ws.length):=by
   unfold PT
   rw [e0,tK om]
   rcases tk with ⟨h1,h2⟩ | ⟨h1,h2⟩ | ⟨h1,h2⟩
   ·rw [og (j:=1) om,tK (j:=1) om]; exact IS h1
   ·rw [og (j:=1) om,tK (j:=1) om,og (j:=2) om,tK (j:=2) om]
   ·exact IT h1
  rw [e1] at gG ⊢
  exact ⟨rfl,gG⟩
theorem pX.small{op : Int}{ws : List Int}{width : Int}{l : List Gate}{out : List Int}{e : Int}{u : U3}(h : pX op ws width l out e)(hd : y5 op ws width)(ho : (out.length : Int) = width) :
  PT op width ws (JY ws u ws.length) < 18446744073709551616:=by
 have hw:=hd.2.2.1
 unfold dO at hw
 have h1:=(h.num (u:=u) hd 0 om).2
 have h2:=oL width.toNat om
 omega
open Go Go.AW Go.Proofs
structure VT(n:ab):Prop where
 formed:bg n
 fit:Fit n
 acyclic:Acyclic n
 small:n.Small
 dH:n.cells.length <= 1000
 dr:n.aa.length <= 1000
 mO:∀ c ∈ n.cells,c.args.length <= 200
 nX:n.bF.length <= 1000
 cG:n.streams.length <= 1000
 yb:n.ins.length <= 1000
theorem bg.ma{n:ab}(h:bg n):∀ w ∈ n.aa,dO w:=fun w hw=>by
 obtain ⟨i,hi,rfl⟩:=List.mem_iff_getElem.1 hw
 have:=h.wide i (by rw [List.length_append]; omega)
 rw [List.getD_eq_getElem?_getD,List.getElem?_append_left hi,List.getElem?_eq_getElem hi] at this
 exact this
theorem VT.oa{n:ab}(h:VT n){i:Nat}(hi:i < n.cells.length):0 <= oa n (n.cells.getD i default) /\ oa n (n.cells.getD i default) <= 400:=Lk h.formed.ma (h.mO _ (getD_in hi))
def gH(at_:List Int)(l:List Int):Int:=l.foldl (fun t w=>max t (at_.getD w.toNat 0)) 0
theorem Dn{at_ l:List Int}{w:Int}:gH at_ (l ++ [w]) = max (gH at_ l) (at_.getD w.toNat 0):=by simp [gH]
theorem AM{a b l:List Int}(h:∀ w ∈ l,a.getD w.toNat 0 = b.getD w.toNat 0):gH a l = gH b l:=by
 unfold gH
 have:∀ (t:Int) (l:List Int),(∀ w ∈ l,a.getD w.toNat 0 = b.getD w.toNat 0) -> l.foldl (fun t w=>max t (a.getD w.toNat 0)) t = l.foldl (fun t w=>max t (b.getD w.toNat 0)) t:=by
  intro t l
  induction l generalizing t with
  | nil=>intro _; rfl
  | cons x r ih =>
   intro h
   simp only [List.foldl_cons]
   rw [h x (List.mem_cons_self ..)]
   exact ih _ (fun w hw=>h w (List.mem_cons_of_mem _ hw))
 exact this 0 l h
theorem kV{at_ l:List Int}{B:Int}(hB:0 <= B)(h:∀ w ∈ l,at_.getD w.toNat 0 <= B):0 <= gH at_ l /\ gH at_ l <= B:=by
 unfold gH
 have:∀ (t:Int) (l:List Int),0 <= t -> t <= B -> (∀ w ∈ l,at_.getD w.toNat 0 <= B) -> 0 <= l.foldl (fun t w=>max t (at_.getD w.toNat 0)) t /\ l.foldl (fun t w=>max t (at_.getD w.toNat 0)) t <= B:=by
  intro t l
  induction l generalizing t with
  | nil=>intro h0 h1 _; exact ⟨h0,h1⟩
  | cons x r ih =>
   intro h0 h1 h
   simp only [List.foldl_cons]
   have:=h x (List.mem_cons_self ..)
   exact ih _ om om (fun w hw=>h w (List.mem_cons_of_mem _ hw))
 exact this 0 l (Int.le_refl _) hB h
theorem wP{at_ l:List Int}{w:Int}(h:w ∈ l):at_.getD w.toNat 0 <= gH at_ l:=by
 unfold gH
 have mono:∀ (t:Int) (l:List Int),t <= l.foldl (fun t w=>max t (at_.getD w.toNat 0)) t:=by
  intro t l
  induction l generalizing t with
  | nil=>exact Int.le_refl _
  | cons x r ih=>simp only [List.foldl_cons]; have:=ih (max t (at_.getD x.toNat 0)); omega
 have:∀ (t:Int) (l:List Int),w ∈ l -> at_.getD w.toNat 0 <= l.foldl (fun t w=>max t (at_.getD w.toNat 0)) t:=by
  intro t l
  induction l generalizing t with
  | nil=>intro h; cases h
  | cons x r ih =>
   intro h
   simp only [List.foldl_cons]
   rcases List.mem_cons.1 h with rfl | h
   ·have:=mono (max t (at_.getD w.toNat 0)) r; omega
   ·exact ih _ h
 exact this 0 l h
def lO(n:ab)(at_:List Int)(c:Cell):Int:=(if cT c.kind then gH at_ c.args else 0) + oa n c
structure xx(n:ab)(at_:List Int):Prop where
 len:at_.length = n.aa.length
 eq:∀ i w,cJ n i w -> at_.getD w.toNat 0 = lO n at_ (n.cell i)
theorem Ord.lt{n:ab}{l:List Int}(ho:Ord n l){i x:Int}(hi:0 <= i /\ i < n.cells.length)(hc:cT (n.cell i).kind)(hx:x ∈ (n.cell i).args):∃ j,cJ n j x /\ l.idxOf j < l.idxOf i:=by
 obtain ⟨p,s,hl,hn⟩:=List.eq_append_cons_of_mem (ho.mem hi)
 obtain ⟨j,hj,hd⟩:=ho.oq p i s hl hc x hx
 refine ⟨j,hd,?_⟩
 have h1:l.idxOf i = p.length:=by
  rw [hl,List.idxOf_append,if_neg hn]; simp
 have h2:l.idxOf j = p.idxOf j:=by rw [hl,List.idxOf_append,if_pos hj]
 rw [h1,h2]
 exact List.idxOf_lt_length_of_mem hj
theorem xx.bound{n:ab}{l a:List Int}(hv:VT n)(ho:Ord n l)(ha:xx n a):∀ i w,cJ n i w -> 0 <= a.getD w.toNat 0 /\ a.getD w.toNat 0 <= 400 * ((l.idxOf i:Nat) + 1:Int):=by
 have key:∀ k:Nat,∀ i w,cJ n i w -> l.idxOf i <= k -> 0 <= a.getD w.toNat 0 /\ a.getD w.toNat 0 <= 400 * ((l.idxOf i:Nat) + 1:Int):=by
  intro k
  induction k with
  | zero =>
   intro i w hd hk
   rw [ha.eq i w hd]
   have h1:=hd.1
   have Eb:=hv.oa (i:=i.toNat) om
   change 0 <= oa n (n.cell i) /\ oa n (n.cell i) <= 400 at Eb
   unfold lO
   by_cases hc:cT (n.cell i).kind
   ·rw [if_pos hc]
    have:=kV (at_:=a) (l:=(n.cell i).args) (B:=0) om (fun x hx=>by obtain ⟨j,_,h⟩:=ho.lt hd.1 hc hx; omega)
    omega
   ·rw [if_neg hc]; omega
  | succ k ih =>
   intro i w hd hk
   rw [ha.eq i w hd]
   have h1:=hd.1
   have Eb:=hv.oa (i:=i.toNat) om
   change 0 <= oa n (n.cell i) /\ oa n (n.cell i) <= 400 at Eb
   unfold lO
   by_cases hc:cT (n.cell i).kind
   ·rw [if_pos hc]
    have:=kV (at_:=a) (l:=(n.cell i).args) (B:=400 * (l.idxOf i:Int)) om (fun x hx=>by
     obtain ⟨j,hj,h⟩:=ho.lt hd.1 hc hx
     have:=(ih j x hj om).2
     omega)
    omega
   ·rw [if_neg hc]; omega
 exact fun i w hd=>key _ i w hd (Nat.le_refl _)
theorem xx.p6{n:ab}{l a:List Int}(hv:VT n)(ho:Ord n l)(ha:xx n a){w:Int}(hw:In w n.aa.length):0 <= a.getD w.toNat 0 /\ a.getD w.toNat 0 <= 400000:=by
 obtain ⟨i,hi⟩:=hv.formed.kH hw
 have h:=ha.bound hv ho i w hi
 have h1:l.idxOf i < l.length:=List.idxOf_lt_length_of_mem (ho.mem hi.1)
 have h2:=ho.len
 have h3:=hv.dH
 omega
open Go Go.AW Go.Proofs
theorem uF{l:List Int}(hn:l.Nodup){k:Nat}(hk:k < l.length):l.idxOf (l.getD k 0) = k:=by
 have hm:l.getD k 0 ∈ l:=bQ hk
 have h1:l.idxOf (l.getD k 0) < l.length:=List.idxOf_lt_length_of_mem hm
 have h2:l.getD (l.idxOf (l.getD k 0)) 0 = l.getD k 0:=by
  rw [List.getD_eq_getElem?_getD,List.getElem?_eq_getElem h1]
  exact List.getElem_idxOf h1
 exact Classical.byContradiction fun e=>e (u5 hn h1 hk h2)
structure kW(n:ab)(l:List Int)(k:Nat)(out:List Int):Prop where
 len:out.length = n.aa.length
 eq:∀ i w,cJ n i w -> l.idxOf i < k -> out.getD w.toNat 0 = lO n out (n.cell i)
theorem kW.init{n:ab}{l:List Int}:kW n l 0 (List.replicate n.aa.length 0):=⟨by simp,fun i w _ h=>by omega⟩
theorem kW.skip{n:ab}{l out:List Int}{k:Nat}(ho:Ord n l)(h:kW n l k out)(hk:k < l.length)(h7:(n.cell (l.getD k 0)).kind = 7):kW n l (k + 1) out:=by
 refine ⟨h.len,fun i w hd gG=>?_⟩
 rcases Nat.lt_or_ge (l.idxOf i) k with h1 | h1
 ·exact h.eq i w hd h1
 ·exfalso
  have hm:=ho.mem hd.1
  have h2:l.idxOf i < l.length:=List.idxOf_lt_length_of_mem hm
  have h3:l.getD (l.idxOf i) 0 = i:=by
   rw [List.getD_eq_getElem?_getD,List.getElem?_eq_getElem h2]; exact List.getElem_idxOf h2
  rw [show l.idxOf i = k by omega] at h3
  rw [h3] at h7
  exact hd.2.1 h7
theorem kW.set{n:ab}{l out:List Int}{k:Nat}(hf:bg n)(ho:Ord n l)(h:kW n l k out)(hk:k < l.length){w:Int}(hd:cJ n (l.getD k 0) w){v:Int}(hv:v = lO n out (n.cell (l.getD k 0))):kW n l (k + 1) (out.set w.toNat v):=by
 have hw:=hf.jh hd
 unfold In at hw
 have hl:=h.len
 have T5:=uF ho.nd hk
 have other:∀ j x,cJ n j x -> l.idxOf j < k -> (out.set w.toNat v).getD x.toNat 0 = out.getD x.toNat 0:=by
  intro j x hx hj
  have PU:=hf.jh hx
  unfold In at PU
  rw [bR,if_neg]
  intro e
  have:x = w:=by omega
  subst this
  have:=hf.unique hx hd
  rw [this] at hj; omega
 have args:∀ i:Int,0 <= i /\ i < n.cells.length -> l.idxOf i <= k -> lO n (out.set w.toNat v) (n.cell i) = lO n out (n.cell i):=by
  intro i hi YW
  unfold lO
  by_cases hc:cT (n.cell i).kind
  ·rw [if_pos hc,if_pos hc]
   rw [AM (fun x hx=>by obtain ⟨j,hj,h1⟩:=ho.lt hi hc hx; exact other j x hj om)]
  ·rw [if_neg hc,if_neg hc]
 refine ⟨by rw [List.length_set]; exact hl,fun i x hx gG=>?_⟩
 rw [args i hx.1 om]
 rcases Nat.lt_or_ge (l.idxOf i) k with h1 | h1
 ·rw [other i x hx h1]; exact h.eq i x hx h1
 ·have hm:=ho.mem hx.1
  have h2:l.idxOf i < l.length:=List.idxOf_lt_length_of_mem hm
  have h3:l.getD (l.idxOf i) 0 = i:=by
   rw [List.getD_eq_getElem?_getD,List.getElem?_eq_getElem h2]; exact List.getElem_idxOf h2
  rw [show l.idxOf i = k by omega] at h3
  rw [<- h3] at hx ⊢
  have e:x = w:=hx.2.2.symm.trans hd.2.2
  subst e
  rw [bR,if_pos ⟨rfl,om⟩]; exact hv
theorem kW.done{n:ab}{l out:List Int}{k:Nat}(ho:Ord n l)(h:kW n l k out)(hk:k = l.length):xx n out :=
 ⟨h.len,fun i w hd=>h.eq i w hd (by rw [hk]; exact List.idxOf_lt_length_of_mem (ho.mem hd.1))⟩
theorem Dp{at_ l:List Int}{k:Nat}(hk:k < l.length):max (gH at_ (l.take k)) (at_.getD (l.getD k 0).toNat 0) = gH at_ (l.take (k + 1)):=by
 rw [take_one (d:=(0:Int)) hk,Dn]
theorem kW.le{n:ab}{l out:List Int}{k:Nat}(hv:VT n)(ho:Ord n l)(h:kW n l k out){i w:Int}(hd:cJ n i w)(hi:l.idxOf i < k):0 <= out.getD w.toNat 0 /\ out.getD w.toNat 0 <= 400 * ((l.idxOf i:Nat) + 1:Int):=by
 have key:∀ m:Nat,∀ i w,cJ n i w -> l.idxOf i <= m -> l.idxOf i < k -> 0 <= out.getD w.toNat 0 /\ out.getD w.toNat 0 <= 400 * ((l.idxOf i:Nat) + 1:Int):=by
  intro m
  induction m with
  | zero =>
   intro i w hd hm hk
   rw [h.eq i w hd hk]
   have h1:=hd.1
   have Eb:=hv.oa (i:=i.toNat) om
   change 0 <= oa n (n.cell i) /\ oa n (n.cell i) <= 400 at Eb
   unfold lO
   by_cases hc:cT (n.cell i).kind
   ·rw [if_pos hc]
    have:=kV (at_:=out) (l:=(n.cell i).args) (B:=0) om (fun x hx=>by obtain ⟨j,_,h⟩:=ho.lt hd.1 hc hx; omega)
    omega
   ·rw [if_neg hc]; omega
  | succ m ih =>
   intro i w hd hm hk
   rw [h.eq i w hd hk]
   have h1:=hd.1
   have Eb:=hv.oa (i:=i.toNat) om
   change 0 <= oa n (n.cell i) /\ oa n (n.cell i) <= 400 at Eb
   unfold lO
   by_cases hc:cT (n.cell i).kind
   ·rw [if_pos hc]
    have:=kV (at_:=out) (l:=(n.cell i).args) (B:=400 * (l.idxOf i:Int)) om (fun x hx=>by
     obtain ⟨j,hj,h⟩:=ho.lt hd.1 hc hx
     have:=(ih j x hj om om).2
     omega)
    omega
   ·rw [if_neg hc]; omega
 exact key _ i w hd (Nat.le_refl _) hi
theorem kW.kV{n:ab}{l out:List Int}{k:Nat}(hv:VT n)(ho:Ord n l)(h:kW n l k out)(hk:k < l.length)(hc:cT (n.cell (l.getD k 0)).kind)(m:Nat):0 <= gH out ((n.cell (l.getD k 0)).args.take m) /\ gH out ((n.cell (l.getD k 0)).args.take m) <= 400000:=by
 refine Go.Proofs.Ytlimckldnjmabaa.kV om fun x hx=>?_
 have hr:=ho.p6 _ (bQ hk)
 have S4:=List.mem_of_mem_take hx
 obtain ⟨j,hj,h1⟩:=ho.lt hr hc S4
 rw [uF ho.nd hk] at h1
 have h2:=(h.le hv ho hj h1).2
 have h3:=ho.len
 have h4:=hv.dH
 omega
open Go Go.AW
theorem solve{α : Type}[Inhabited α]{n : ab}{l : List Int}(hf : bg n)(ho : Ord n l)(F : Int → (Int → α) → α)
    (hF:∀ i f g,(cT (n.cell i).kind -> ∀ x ∈ (n.cell i).args,f x = g x) -> F i f = F i g):∃ f:Int -> α,∀ i w,cJ n i w -> f w = F i f:=by
  have step:∀ k,k <= l.length -> ∃ f:Int -> α,∀ i w,cJ n i w -> l.idxOf i < k -> f w = F i f:=by
    intro k
    induction k with
    | zero=>intro _; exact ⟨fun _=>default,fun _ _ _ h=>by omega⟩
    | succ k ih =>
      intro hk
      obtain ⟨f,h⟩:=ih om
      have T5:=uF ho.nd (k:=k) om
      let f':Int -> α:=fun w=>@ite _ (cJ n (l.getD k 0) w) (Classical.propDecidable _) (F (l.getD k 0) f) (f w)
      have other:∀ j x,cJ n j x -> l.idxOf j < k -> f' x = f x:=fun j x hx hj=>if_neg fun e=>by
        have:=hf.unique hx e
        rw [this] at hj; omega
      have args:∀ i:Int,0 <= i /\ i < n.cells.length -> l.idxOf i <= k -> F i f' = F i f:=fun i hi YW =>
        hF i f' f fun hc x hx=>by obtain ⟨j,hj,h1⟩:=ho.lt hi hc hx; exact other j x hj om
      refine ⟨f',fun i x hx gG=>?_⟩
      rw [args i hx.1 om]
      rcases Nat.lt_or_ge (l.idxOf i) k with h1 | h1
      · rw [other i x hx h1]; exact h i x hx h1
      · have hm:=ho.mem hx.1
        have h2:l.idxOf i < l.length:=List.idxOf_lt_length_of_mem hm
        have h3:l.getD (l.idxOf i) 0 = i:=by
          rw [List.getD_eq_getElem?_getD,List.getElem?_eq_getElem h2]; exact List.getElem_idxOf h2
        rw [show l.idxOf i = k by omega] at h3
        rw [<- h3] at hx ⊢
        exact if_pos hx
  obtain ⟨f,h⟩:=step l.length (Nat.le_refl _)
  exact ⟨f,fun i w hd=>h i w hd (List.idxOf_lt_length_of_mem (ho.mem hd.1))⟩
theorem L3{n:ab}{l:List Int}(hf:bg n)(ho:Ord n l):∃ at_,xx n at_:=by
  have step:∀ k,k <= l.length -> ∃ out,kW n l k out:=by
    intro k
    induction k with
    | zero=>intro _; exact ⟨_,kW.init⟩
    | succ k ih =>
      intro hk
      obtain ⟨out,h⟩:=ih om
      by_cases h7:(n.cell (l.getD k 0)).kind = 7
      · exact ⟨out,h.skip ho om h7⟩
      · have hr:=ho.p6 (l.getD k 0) (bQ om)
        exact ⟨_,h.set hf ho om (w:=(n.cell (l.getD k 0)).out) ⟨hr,h7,rfl⟩ rfl⟩
  obtain ⟨out,h⟩:=step l.length (Nat.le_refl _)
  exact ⟨out,h.done ho rfl⟩
def Src(k:Int):Prop:=k = 4 \/ k = 5 \/ k = 6 \/ k = 8 \/ k = 9 \/ k = 10
instance (k:Int):Decidable (Src k):=by unfold Src; infer_instance
def mz(n : ab) : Nat → Nat
  | 0=>0
  | i + 1=>mz n i + (if Src (n.cells.getD i default).kind then (n.wd (n.cells.getD i default).out).toNat else 0)
theorem vR{n : ab}{i : Nat} : ∀ {j}, i ≤ j → mz n i ≤ mz n j
  | 0, h => by have : i = 0 := by omega
               subst this; exact Nat.le_refl _
  | j + 1,h=>by
    rcases Nat.lt_or_ge j i with h1 | h1
    · have:i = j + 1:=by omega
      subst this; exact Nat.le_refl _
    · have:=vR (n:=n) h1
      simp only [mz]; omega
theorem Gc{n:ab}(h:∀ w ∈ n.aa,dO w)(x:Int):(n.wd x).toNat <= 64:=by
  unfold ab.wd
  rw [List.getD_eq_getElem?_getD]
  cases h1:n.aa[x.toNat]? with
  | none=>simp
  | some v =>
    have:=h v (List.mem_of_getElem? h1)
    unfold dO at this
    simp only [Option.getD_some]; omega
theorem Cs{n : ab}(h : ∀ w ∈ n.aa, dO w) : ∀ i, mz n i ≤ 64 * i
  | 0=>by simp [mz]
  | i + 1=>by
    have h1:=Cs h i
    have h2:=Gc h (n.cells.getD i default).out
    simp only [mz]; split <;> omega
def rH(V : Int → Nat) : List Int → Nat
  | s :: d :: r=>(if V s = 1 then V d else 0) ||| rH V r
  | _=>0
theorem uG{V W : Int → Nat} : ∀ {l : List Int}, (∀ x ∈ l, V x = W x) → rH V l = rH W l
  | [],_=>rfl
  | [_],_=>rfl
  | s :: d :: r,h=>by
    rw [rH,rH,h s (by simp),h d (by simp),uG (l:=r) fun x hx=>h x (by simp [hx])]
def kQ(n:ab)(c:Cell)(V:Int -> Nat):Nat :=
  if c.kind = 1 then c.num else if c.kind = 2 then sc c.op (n.av c 0).toNat (n.ow c).toNat (if 0 < c.args.length then V (c.args.getD 0 0) else 0) (if 1 < c.args.length then V (c.args.getD 1 0) else 0) (if 2 < c.args.length then V (c.args.getD 2 0) else 0) else rH V c.args
theorem y6{n:ab}{c:Cell}{V W:Int -> Nat}(h:∀ x ∈ c.args,V x = W x):kQ n c V = kQ n c W:=by
  have g:∀ k,(if k < c.args.length then V (c.args.getD k 0) else 0) = if k < c.args.length then W (c.args.getD k 0) else 0:=fun k=>by
    by_cases hk:k < c.args.length
    · rw [if_pos hk,if_pos hk,h _ (bQ hk)]
    · rw [if_neg hk,if_neg hk]
  unfold kQ
  rw [g 0,g 1,g 2,uG h]
structure WV(n:ab)(S:Int -> Nat)(V:Int -> Nat):Prop where
  eq:∀ i w,cJ n i w -> V w = if cT (n.cell i).kind then kQ n (n.cell i) V else S i
theorem WV.ex{n:ab}{l:List Int}(hf:bg n)(ho:Ord n l)(S:Int -> Nat):∃ V,WV n S V:=by
  obtain ⟨f,h⟩:=solve hf ho (fun i V=>if cT (n.cell i).kind then kQ n (n.cell i) V else S i) fun i f g YX=>by
    by_cases hc:cT (n.cell i).kind
    · simp only [if_pos hc]; exact y6 (YX hc)
    · simp only [if_neg hc]
  exact ⟨f,⟨h⟩⟩
def L4(n:ab)(ins:List Bool)(i:Int):Nat:=II (mz n i.toNat) (n.wd (n.cell i).out).toNat ins
def VI(n:ab)(V:List Bool -> Int -> Nat):Prop:=∀ ins,WV n (L4 n ins) (V ins)
theorem VI.ex{n:ab}{l:List Int}(hf:bg n)(ho:Ord n l):∃ V,VI n V:=by
  have h:=fun ins=>WV.ex hf ho (L4 n ins)
  exact ⟨fun ins=>Classical.choose (h ins),fun ins=>Classical.choose_spec (h ins)⟩
open Go Go.AW
structure CI(n:ab)(c:Cell)(gl:List Gate)(bits:List (List Int))(V:List Bool -> Int -> Nat)(at_:List Int):Prop where
 ma:∀ w ∈ n.aa,dO w
 comb:cT c.kind
 ok:jO n c
 fit:Fits n c
 al:c.args.length <= 6
 bl:bits.length = n.aa.length
 wk:∀ x ∈ c.args,Wk 30 gl (bits.getD x.toNat []) (n.wd x).toNat (fun ins=>V ins x) (at_.getD x.toNat 0)
 nn:∀ x ∈ c.args,0 <= at_.getD x.toNat 0 /\ at_.getD x.toNat 0 <= 400000
section
variable {n:ab} {c:Cell} {gl g1 g0:List Gate} {bits:List (List Int)} {V:List Bool -> Int -> Nat} {at_:List Int}
theorem CI.out(h:CI n c gl bits V at_):(0 <= c.out /\ c.out < n.aa.length) /\ dO (n.wd c.out) /\ n.ow c = n.wd c.out:=by
 have h7:c.kind ≠ 7:=by have:=h.comb; unfold cT at this; omega
 have h1:=h.ok.2.2.2 h7
 refine ⟨h1,?_,by unfold ab.ow; rw [if_pos h1.1]⟩
 exact h.ma _ (getD_in (by unfold In at h1; omega))
theorem CI.arg(h:CI n c gl bits V at_){k:Nat}(hk:k < c.args.length):(0 <= c.args.getD k 0 /\ c.args.getD k 0 < n.aa.length) /\ c.args.getD k 0 ∈ c.args /\ dO (n.av c k):=by
 have hm:=bQ (l:=c.args) hk
 have h1:=h.ok.1 _ hm
 exact ⟨h1,hm,h.ma _ (getD_in (by unfold In at h1; omega))⟩
theorem CI.T(h:CI n c gl bits V at_):0 <= gH at_ c.args /\ gH at_ c.args <= 400000:=kV om fun x hx=>(h.nn x hx).2
theorem CI.bit(h : CI n c gl bits V at_){k j : Nat}(hk : k < c.args.length)(hj : j < (n.av c k).toNat) :
  (bits.getD (c.args.getD k 0).toNat []).length = (n.av c k).toNat /\ Wr 30 gl ((bits.getD (c.args.getD k 0).toNat []).getD j 0) (fun ins=>(V ins (c.args.getD k 0)).testBit j) (gH at_ c.args):=by
 have hm:=(h.arg hk).2.1
 have h1:=h.wk _ hm
 exact ⟨h1.len,(h1.bit j hj).late (wP hm)⟩
theorem CI.res{l:List Gate}{out:List Int}(h:CI n c gl bits V at_){t:Int}(hw:Wk 30 l out (n.ow c).toNat (fun ins=>kQ n c (V ins)) t)(ht:t <= gH at_ c.args + oa n c):Wk 30 l out (n.ow c).toNat (fun ins=>kQ n c (V ins)) (lO n at_ c):=by
 unfold lO
 rw [if_pos h.comb]
 exact hw.late ht
-- constants
theorem xw.MO{N : Nat}{r : List Int}{t kd : Int}{i : Nat}(k : xw 30 g0 gl r (fun k _ => N.testBit k) t i)(ht : 0 ≤ t)(hk : kd = 1 + (((N.testBit i).toNat : Nat) : Int)) :
  xw 30 g0 (gl ++ [⟨kd,0,0⟩]) (r ++ [(gl.length:Int)]) (fun k _=>N.testBit k) t (i + 1):=by
 have e:Ext gl (gl ++ [⟨kd,0,0⟩]):=Ext.MO k.ext.dw (by subst hk; cases N.testBit i <;> decide)
 have hl:=k.len
 refine ⟨k.ext.trans e,by rw [List.length_append,List.length_singleton]; omega,by rw [List.length_append,k.ol]; rfl,(k.ws.ext e).snoc ?_⟩
 rw [k.ol]
 cases hb:N.testBit i
 ·rw [hb] at hk; rw [show kd = 1 from hk]; exact Wr.zero ht
 ·rw [hb] at hk; rw [show kd = 2 from hk]; exact Wr.one ht
theorem CI.const{l : List Gate}{out : List Int}(h : CI n c gl bits V at_)(h1 : c.kind = 1)(hM : xw 30 gl l out (fun k _ => c.num.testBit k) 0 (n.ow c).toNat) :
  Ext gl l /\ l.length <= gl.length + 1700 /\ Wk 30 l out (n.ow c).toNat (fun ins=>kQ n c (V ins)) (lO n at_ c):=by
 obtain ⟨_,hw,ho⟩:=h.out
 have hl:=hM.len
 unfold dO at hw
 have hf:jM (n.ow c) c.num = c.num:=by
  have hf:=h.fit
  simp only [Fits,h1,Int.reduceEq,false_and,true_and,false_or,or_false] at hf; exact hf
 have gG:=w5 (n.ow c) c.num
 rw [hf,ho,pC hw,<- ho] at gG
 have hT:=h.T
 have hd:oa n c = 0:=by unfold oa; rw [if_pos h1]
 refine ⟨hM.ext,om,h.res (t:=0) ((Ws.wk (N:=fun _=>c.num) hM.ws hM.ol (fun _=>gG)).as fun ins=>by unfold kQ; rw [if_pos h1]) om⟩
-- multiplexers
theorem y7{V : Int → Nat}{k : Nat} : ∀ {l : List Int}, l.length % 2 = 0 → ((rH V l).testBit k = true ↔ ∃ j, j < l.length / 2 ∧ V (l.getD (2 * j) 0) = 1 ∧ (V (l.getD (2 * j + 1) 0)).testBit k = true)
 | [],_=>by simp [rH]
 | [_],h=>by simp at h
 | s :: d :: r,h=>by
  have ih:=y7 (V:=V) (k:=k) (l:=r) (by simp at h; omega)
  rw [rH,Nat.testBit_or,Bool.or_eq_true,ih]
  constructor
  ·rintro (h1 | ⟨j,hj,h1,h2⟩)
   ·by_cases hs:V s = 1
    ·rw [if_pos hs] at h1
     exact ⟨0,by simp,hs,h1⟩
    ·rw [if_neg hs,Nat.zero_testBit] at h1; cases h1
   ·exact ⟨j + 1,by simp; omega,by simpa [Nat.mul_add] using h1,by simpa [Nat.mul_add] using h2⟩
  ·rintro ⟨j,hj,h1,h2⟩
   cases j with
   | zero=>left; simp at h1 h2; rw [if_pos h1]; exact h2
   | succ j=>right; exact ⟨j,by simp at hj; omega,by simpa [Nat.mul_add] using h1,by simpa [Nat.mul_add] using h2⟩
theorem Gd{V:Int -> Nat}{l:List Int}{k:Nat}(h:l.length % 2 = 0):jU (fun j=>decide (V (l.getD (2 * j) 0) = 1) && (V (l.getD (2 * j + 1) 0)).testBit k) (l.length / 2) = (rH V l).testBit k:=by
 rw [Bool.eq_iff_iff,lA,y7 h]
 simp
theorem Ct{V : Int → Nat}{w : Nat} : ∀ {l : List Int}, (∀ j, 2 * j + 1 < l.length → V (l.getD (2 * j + 1) 0) < 2 ^ w) → rH V l < 2 ^ w
 | [],_=>Nat.two_pow_pos w
 | [_],_=>Nat.two_pow_pos w
 | s :: d :: r,h=>by
  rw [rH]
  refine Nat.or_lt_two_pow ?_ (Ct (l:=r) fun j hj=>by have:=h (j + 1) (by simp; omega); simpa [Nat.mul_add] using this)
  split
  ·exact h 0 (by simp)
  ·exact Nat.two_pow_pos w
structure Ht(n:ab)(c:Cell)(V:List Bool -> Int -> Nat)(at_:List Int)(k:Nat)(g1 gl:List Gate)(l:List Int)(i:Nat):Prop where
 ext:Ext g1 gl
 len:gl.length = g1.length + i / 2
 ev:i % 2 = 0
 il:i <= c.args.length
 ll:l.length = i / 2
 ws:Ws 30 gl l (fun j ins=>decide (V ins (c.args.getD (2 * j) 0) = 1) && (V ins (c.args.getD (2 * j + 1) 0)).testBit k) (gH at_ c.args + 20)
theorem CI.Cu(h:CI n c gl bits V at_)(h3:c.kind = 3):c.args.length % 2 = 0 /\ 2 <= c.args.length /\ ∀ k,k < c.args.length -> (k % 2 = 0 -> n.av c k = 1) /\ (k % 2 = 1 -> n.av c k = n.ow c):=by
 have hf:=h.fit
 have RG:=h.ok.2.1.k3 h3
 have JZ:∀ k,k < c.args.length -> jN n c k:=by
  simp only [Fits,h3,Int.reduceEq,false_and,true_and,false_or,or_false] at hf; exact hf
 refine ⟨RG.2,RG.1,fun k hk=>?_⟩
 have:=JZ k hk
 unfold jN at this
 omega
theorem Ht.init{k:Nat}(hg:Good g1):Ht n c V at_ k g1 g1 [] 0:=⟨.refl hg,by simp,rfl,om,rfl,.nil⟩
theorem Ht.facts{l : List Int}{k i : Nat}(h : CI n c g0 bits V at_)(h3 : c.kind = 3)(hx : Ht n c V at_ k g1 gl l i)(hi : i < c.args.length)(hk : k < (n.ow c).toNat) :
  (i + 1 < c.args.length /\ (0 <= c.args.getD i 0 /\ c.args.getD i 0 < (bits.length:Int)) /\ 0 <= c.args.getD (i + 1) 0 /\ c.args.getD (i + 1) 0 < (bits.length:Int)) /\ (bits.getD (c.args.getD i 0).toNat []).length = 1 /\ (bits.getD (c.args.getD (i + 1) 0).toNat []).length = (n.ow c).toNat:=by
 obtain ⟨he,_,hm⟩:=h.Cu h3
 have T6:=hx.ev
 have a0:=h.arg hi
 have a1:=h.arg (k:=i + 1) om
 have m0:=(hm i hi).1 T6
 have m1:=(hm (i + 1) om).2 om
 have b0:=(h.bit (k:=i) (j:=0) hi om).1
 have b1:=(h.bit (k:=i + 1) (j:=k) om om).1
 rw [h.bl]
 exact ⟨⟨om,a0.1,a1.1⟩,by rw [b0,m0]; rfl,by rw [b1,m1]⟩
theorem Ht.step{l : List Int}{k i : Nat}(h : CI n c g0 bits V at_)(h0 : Ext g0 g1)(h3 : c.kind = 3)(hx : Ht n c V at_ k g1 gl l i)(hi : i < c.args.length)(hk : k < (n.ow c).toNat) :
  Ht n c V at_ k g1 (gl ++ [⟨5,(bits.getD (c.args.getD i 0).toNat []).getD 0 0,(bits.getD (c.args.getD (i + 1) 0).toNat []).getD k 0⟩]) (l ++ [(gl.length:Int)]) (i + 2):=by
 obtain ⟨he,_,hm⟩:=h.Cu h3
 have T6:=hx.ev
 have m0:=(hm i hi).1 T6
 have m1:=(hm (i + 1) om).2 om
 have b0:=((h.bit (k:=i) (j:=0) hi om).2.ext h0).ext hx.ext
 have b1:=((h.bit (k:=i + 1) (j:=k) om om).2.ext h0).ext hx.ext
 have gG:∀ ins,V ins (c.args.getD i 0) < 2 ^ 1:=fun ins=>by
  have:=(h.wk _ (h.arg hi).2.1).lt ins
  have e:(n.wd (c.args.getD i 0)).toNat = 1:=by show (n.av c i).toNat = 1; rw [m0]; rfl
  rwa [e] at this
 have e:=Ext.two (k:=5) hx.ext.dw ae b0 b1
 have w:=(b0.as fun ins=>FZ (gG ins)).and (u:=gH at_ c.args + 20) b1 (Int.le_refl _) (Int.le_refl _)
 have hl:=hx.len
 have YY:=hx.ll
 refine ⟨hx.ext.trans e,by rw [List.length_append,List.length_singleton]; omega,om,om,by rw [List.length_append,List.length_singleton]; omega,(hx.ws.ext e).snoc ?_⟩
 rw [YY,show 2 * (i / 2) = i by omega]
 exact w
structure Hu(n:ab)(c:Cell)(V:List Bool -> Int -> Nat)(at_:List Int)(g0 gl:List Gate)(out:List Int)(k:Nat):Prop where
 ext:Ext g0 gl
 len:gl.length <= g0.length + 7 * k
 ol:out.length = k
 ws:Ws 30 gl out (fun j ins=>(rH (V ins) c.args).testBit j) (gH at_ c.args + 20 + 20 * (dF (c.args.length / 2):Int))
theorem Hu.init(hg:Good g0):Hu n c V at_ g0 g0 [] 0:=⟨.refl hg,om,rfl,.nil⟩
theorem Hu.step{out l : List Int}{k i : Nat}{g2 : List Gate}{x : Int}(h : CI n c g0 bits V at_)(h3 : c.kind = 3)(ho : Hu n c V at_ g0 g1 out k)(hx : Ht n c V at_ k g1 gl l i)(hi : i = c.args.length)(he : Ext gl g2)(hl : g2.length ≤ gl.length + l.length + 1)
  (hw:Wr 30 g2 x (fun ins=>jU (fun j=>decide (V ins (c.args.getD (2 * j) 0) = 1) && (V ins (c.args.getD (2 * j + 1) 0)).testBit k) l.length) (gH at_ c.args + 20 + 20 * (dF l.length:Int))):Hu n c V at_ g0 g2 (out ++ [x]) (k + 1):=by
 have h1:=hx.len
 have h2:=hx.ll
 have h4:=ho.len
 have h5:=h.al
 subst hi
 refine ⟨(ho.ext.trans hx.ext).trans he,om,by rw [List.length_append,ho.ol]; rfl,((ho.ws.ext hx.ext).ext he).snoc ?_⟩
 rw [ho.ol]
 rw [h2] at hw
 exact hw.as fun ins=>Gd (h.Cu h3).1
theorem Hu.done{l : List Gate}{out : List Int}(h : CI n c gl bits V at_)(h3 : c.kind = 3)(ho : Hu n c V at_ gl l out (n.ow c).toNat) :
  Ext gl l /\ l.length <= gl.length + 1700 /\ Wk 30 l out (n.ow c).toNat (fun ins=>kQ n c (V ins)) (lO n at_ c):=by
 obtain ⟨_,hw,L5⟩:=h.out
 have hl:=ho.len
 unfold dO at hw
 obtain ⟨he,_,hm⟩:=h.Cu h3
 have hd:oa n c = 20 + 20 * (dF (c.args.length / 2):Int):=by unfold oa; rw [if_neg om,if_neg om,if_pos h3]
 refine ⟨ho.ext,om,h.res ((Ws.wk (N:=fun ins=>rH (V ins) c.args) ho.ws ho.ol fun ins=>Ct fun j hj=>?_).as fun ins=>by unfold kQ; rw [if_neg (show ¬ c.kind = 1 by omega),if_neg (show ¬ c.kind = 2 by omega)]) om⟩
 have h1:=(h.wk _ (h.arg hj).2.1).lt ins
 have e:(n.wd (c.args.getD (2 * j + 1) 0)).toNat = (n.ow c).toNat:=by show (n.av c (2 * j + 1)).toNat = _; rw [(hm (2 * j + 1) hj).2 om]
 rwa [e] at h1
-- operators
def s7(bits:List (List Int))(l:List Int):List (List Int):=l.map fun x=>bits.getD x.toNat []
theorem Dq{l:List Int}{x:Int}:s7 bits (l ++ [x]) = s7 bits l ++ [bits.getD x.toNat []]:=by simp [s7]
theorem Dr{l:List Int}{k:Nat}(hk:k < l.length):s7 bits (l.take (k + 1)) = s7 bits (l.take k) ++ [bits.getD (l.getD k 0).toNat []]:=by
 rw [take_one (d:=(0:Int)) hk,Dq]
theorem oU(l:List Int):(s7 bits l).length = l.length:=by simp [s7]
theorem Ge{l:List Int}{k:Nat}(hk:k < l.length):(s7 bits l).getD k [] = bits.getD (l.getD k 0).toNat []:=by
 unfold s7
 rw [List.getD_eq_getElem?_getD,List.getElem?_map,List.getElem?_eq_getElem hk,List.getD_eq_getElem?_getD (l:=l),List.getElem?_eq_getElem hk]; rfl
def IU(c:Cell)(V:List Bool -> Int -> Nat)(k:Nat)(ins:List Bool):Nat:=if k < c.args.length then V ins (c.args.getD k 0) else 0
theorem CI.T7(h:CI n c gl bits V at_)(h2:c.kind = 2):Ly 30 gl (s7 bits c.args) c.op (n.av c 0).toNat (n.ow c).toNat (IU c V 0) (IU c V 1) (IU c V 2) (gH at_ c.args):=by
 obtain ⟨_,CZ,L5⟩:=h.out
 have hs:=h.ok.2.1
 have hf:=h.fit
 simp only [Shaped,h2,Int.reduceEq,false_and,true_and,false_or,or_false] at hs
 have h0:cA c.op ≠ 0 /\ (c.args.length:Int) = cA c.op:=⟨hs.1,hs.2.1⟩
 have MU:fU c.op (n.av c 0) (n.av c 1) (n.av c 2) (n.ow c):=by
  simp only [Fits,h2,Int.reduceEq,false_and,true_and,false_or,or_false] at hf; exact hf
 clear hs hf
 have tk:=y0 h0.1 h0.2
 have w0:=(h.arg (k:=0) om).2.2
 have Gf:∀ {j},j < c.args.length -> Wk 30 gl ((s7 bits c.args).getD j []) (n.av c j).toNat (IU c V j) (gH at_ c.args):=fun {j} hj=>by
  have hm:=(h.arg hj).2.1
  rw [Ge hj]
  exact ((h.wk _ hm).late (wP hm)).as fun ins=>by unfold IU; rw [if_pos hj]
 rw [<- L5] at CZ
 unfold dO at w0 CZ
 unfold fU km at MU
 have hT:=h.T
 refine ⟨Gf om,fun g=>?_,fun g=>?_,?_,om,om,hT.1⟩
 ·rw [oU] at g
  have hy:=Gf (j:=1) om
  have e:(n.av c 1).toNat = if c.op = 21 then (n.ow c).toNat else (n.av c 0).toNat:=by
   by_cases SR:c.op = 21
   ·rw [if_pos SR]; omega
   ·rw [if_neg SR]; omega
  rw [<- e]; exact hy
 ·rw [oU] at g
  have hz:=Gf (j:=2) om
  have e:(n.av c 2).toNat = (n.ow c).toNat:=by omega
  rw [e] at hz; exact hz
 ·rw [oU]; omega
theorem CI.PV{l : List Gate}{out : List Int}(h : CI n c gl bits V at_)(h2 : c.kind = 2)(hr : Cp 30 l out c.op (n.av c 0).toNat (n.ow c).toNat (IU c V 0) (IU c V 1) (IU c V 2) (gH at_ c.args)) :
  Wk 30 l out (n.ow c).toNat (fun ins=>kQ n c (V ins)) (lO n at_ c):=by
 refine h.res (hr.as fun ins=>?_) (Int.le_of_eq ?_)
 ·show _ = kQ n c (V ins)
  unfold kQ IU; rw [if_neg (show ¬ c.kind = 1 by omega),if_pos h2]
 ·obtain ⟨_,_,L5⟩:=h.out
  have e:(if km c.op then n.av c 0 else n.ow c).toNat = if km c.op then (n.av c 0).toNat else (n.ow c).toNat:=by split <;> rfl
  unfold oa
  rw [if_neg (show ¬ c.kind = 1 by omega),if_pos h2,<- L5,e]
end
open Go Go.AW
theorem wQ{n:ab}(hf:bg n){i:Int}(h:0 <= i /\ i < n.cells.length):Src (n.cell i).kind ↔ ¬ cT (n.cell i).kind /\ (n.cell i).kind ≠ 7:=by
 have h1:=(hf.cellAt h).2.1.kind
 unfold Src cT; omega
theorem vS{n:ab}{i:Nat}(h:Src (n.cells.getD i default).kind):mz n (i + 1) = mz n i + (n.wd (n.cells.getD i default).out).toNat:=by rw [mz,if_pos h]
theorem Ds{n:ab}{i:Nat}(h:¬ Src (n.cells.getD i default).kind):mz n (i + 1) = mz n i:=by rw [mz,if_neg h]; rfl
structure pO(n:ab)(gl:List Gate)(bits:List (List Int))(i:Nat):Prop where
 gl:gl = rD (mz n i)
 bl:bits.length = n.aa.length
 eq:∀ j x,cJ n j x -> Src (n.cell j).kind -> j < i -> bits.getD x.toNat [] = zH (mz n j.toNat) (n.wd x).toNat
section
variable {n:ab} {gl l' g0 g1:List Gate} {bits nx IV:List (List Int)} {i k:Nat} {l:List Int} {V:List Bool -> Int -> Nat} {at_:List Int}
theorem pO.init:pO n [] (List.replicate n.aa.length []) 0:=⟨rfl,by simp,fun j x hd _ h=>by have:=hd.1; omega⟩
theorem pO.skip(h:pO n gl bits i)(hk:¬ Src (n.cells.getD i default).kind):pO n gl bits (i + 1) :=
 ⟨by rw [h.gl,Ds hk],h.bl,fun j x hd hs hj=>h.eq j x hd hs (by
  by_cases e:j = i
  ·subst e; exact absurd hs hk
  ·omega)⟩
theorem pO.set(hf : bg n)(h : pO n gl bits i)(hi : i < n.cells.length)(hk : Src (n.cells.getD i default).kind){w : Nat}(hw : w = (n.wd (n.cells.getD i default).out).toNat) :
  pO n (gl ++ rD w) (bits.set (n.cells.getD i default).out.toNat (zH gl.length w)) (i + 1):=by
 have PW:cJ n (i:Int) (n.cells.getD i default).out:=⟨om,((wQ hf (i:=(i:Int)) om).1 hk).2,rfl⟩
 have og:=hf.jh PW
 unfold In at og
 refine ⟨by rw [h.gl,IH,vS hk,hw],by rw [List.length_set]; exact h.bl,fun j x hd hs hj=>?_⟩
 have PU:=hf.jh hd
 unfold In at PU
 by_cases e:x = (n.cells.getD i default).out
 ·subst e
  have e2:=hf.unique hd PW
  subst e2
  rw [bR,if_pos ⟨rfl,by rw [h.bl]; omega⟩,h.gl,lZ,hw,Int.toNat_natCast]
 ·have fb:j ≠ (i:Int):=fun e2=>by subst e2; exact e hd.2.2.symm
  rw [bR,if_neg om]
  exact h.eq j x hd hs om
theorem pO.len(hf:bg n)(h:pO n gl bits i):gl.length <= 64 * i:=by rw [h.gl,lZ]; exact Cs hf.ma i
theorem pO.dw(h:pO n gl bits i):Good gl:=by rw [h.gl]; exact uB _
structure qK(n:ab)(l:List Int)(V:List Bool -> Int -> Nat)(at_:List Int)(gl:List Gate)(bits:List (List Int))(k:Nat):Prop where
 ext:Ext (rD (mz n n.cells.length)) gl
 len:gl.length <= 64 * n.cells.length + 1700 * k
 bl:bits.length = n.aa.length
 wk:∀ j x,cJ n j x -> (cT (n.cell j).kind -> l.idxOf j < k) -> Wk 30 gl (bits.getD x.toNat []) (n.wd x).toNat (fun ins=>V ins x) (at_.getD x.toNat 0)
theorem qK.init(hf:bg n)(hV:VI n V)(hA:xx n at_)(h:pO n gl bits n.cells.length):qK n l V at_ gl bits 0:=by
 refine ⟨by rw [h.gl]; exact .refl (uB _),by have:=h.len hf; omega,h.bl,fun j x hd hc=>?_⟩
 have Cv:¬ cT (n.cell j).kind:=fun e=>by have:=hc e; omega
 have hs:Src (n.cell j).kind:=(wQ hf hd.1).2 ⟨Cv,hd.2.1⟩
 have hj:=hd.1
 have Nt:Src (n.cells.getD j.toNat default).kind:=hs
 have hw:(n.cells.getD j.toNat default).out = x:=hd.2.2
 have h1:=vS Nt
 have h2:=vR (n:=n) (i:=j.toNat + 1) (j:=n.cells.length) om
 rw [hw] at h1
 have h3:=PR (c:=30) (s:=mz n j.toNat) (w:=(n.wd x).toNat) (n:=mz n n.cells.length) om
 rw [h.eq j x hd hs om,h.gl]
 have h4:at_.getD x.toNat 0 = 30:=by
  rw [hA.eq j x hd]
  have T8:=Cv
  unfold cT at T8
  unfold lO oa
  rw [if_neg Cv,if_neg om,if_neg om,if_neg om]; rfl
 rw [h4]
 refine h3.as fun ins=>?_
 rw [(hV ins).eq j x hd,if_neg Cv]
 unfold L4
 rw [show (n.cell j).out = x from hw]
theorem qK.skip(ho:Ord n l)(h:qK n l V at_ gl bits k)(hk:k < l.length)(hc:¬ cT (n.cell (l.getD k 0)).kind):qK n l V at_ gl bits (k + 1):=by
 refine ⟨h.ext,by have:=h.len; omega,h.bl,fun j x hd hj=>h.wk j x hd fun KF=>?_⟩
 have h1:=hj KF
 rcases Nat.lt_or_ge (l.idxOf j) k with h2 | h2
 ·exact h2
 ·exfalso
  have gG:l.idxOf j < l.length:=List.idxOf_lt_length_of_mem (ho.mem hd.1)
  have h3:l.getD (l.idxOf j) 0 = j:=by rw [List.getD_eq_getElem?_getD,List.getElem?_eq_getElem gG]; exact List.getElem_idxOf gG
  rw [show l.idxOf j = k by omega] at h3
  rw [h3] at hc; exact hc KF
theorem qK.ci(hv:VT n)(ha:∀ c ∈ n.cells,c.args.length <= 6)(ho:Ord n l)(hA:xx n at_)(h:qK n l V at_ gl bits k)(hk:k < l.length)(hc:cT (n.cell (l.getD k 0)).kind):CI n (n.cell (l.getD k 0)) gl bits V at_:=by
 have hr:=ho.p6 _ (bQ hk)
 have og:n.cell (l.getD k 0) ∈ n.cells:=getD_in om
 refine ⟨hv.formed.ma,hc,hv.formed.cellAt hr,hv.fit.cells _ om,ha _ og,h.bl,fun x hx=>?_,fun x hx=>?_⟩
 ·obtain ⟨j,hj,h1⟩:=ho.lt hr hc hx
  rw [uF ho.nd hk] at h1
  exact h.wk j x hj fun _=>h1
 ·obtain ⟨j,hj,h1⟩:=ho.lt hr hc hx
  rw [uF ho.nd hk] at h1
  have h2:=hA.bound hv ho j x hj
  have h3:=ho.len
  have h4:=hv.dH
  omega
theorem qK.set(hf : bg n)(ho : Ord n l)(hV : VI n V)(hA : xx n at_)(h : qK n l V at_ gl bits k)(hk : k < l.length)(hc : cT (n.cell (l.getD k 0)).kind){out : List Int}
  (he:Ext gl l') (hl:l'.length <= gl.length + 1700) (hw:Wk 30 l' out (n.ow (n.cell (l.getD k 0))).toNat (fun ins=>kQ n (n.cell (l.getD k 0)) (V ins)) (lO n at_ (n.cell (l.getD k 0)))) :
  qK n l V at_ l' (bits.set (n.cell (l.getD k 0)).out.toNat out) (k + 1):=by
 have hr:=ho.p6 _ (bQ hk)
 have PW:cJ n (l.getD k 0) (n.cell (l.getD k 0)).out:=⟨hr,fun h7=>by unfold cT at hc; omega,rfl⟩
 have og:=hf.jh PW
 unfold In at og
 refine ⟨h.ext.trans he,Nat.le_trans hl (Nat.le_trans (Nat.add_le_add_right h.len _) (by rw [Nat.mul_add]; exact Nat.le_of_eq (Nat.add_assoc ..))),by rw [List.length_set]; exact h.bl,fun j x hd hj=>?_⟩
 have PU:=hf.jh hd
 unfold In at PU
 by_cases e:x = (n.cell (l.getD k 0)).out
 ·subst e
  have e2:=hf.unique hd PW
  subst e2
  rw [bR,if_pos ⟨rfl,by rw [h.bl]; omega⟩,hA.eq _ _ hd]
  have e3:n.ow (n.cell (l.getD k 0)) = n.wd (n.cell (l.getD k 0)).out:=by unfold ab.ow; rw [if_pos og.1]
  rw [e3] at hw
  refine hw.as fun ins=>?_
  rw [(hV ins).eq _ _ hd,if_pos hc]
 ·have fb:j ≠ l.getD k 0:=fun e2=>by subst e2; exact e hd.2.2.symm
  rw [bR,if_neg om]
  refine (h.wk j x hd fun KF=>?_).ext he
  have h1:=hj KF
  rcases Nat.lt_or_ge (l.idxOf j) k with h2 | h2
  ·exact h2
  ·exfalso
   have gG:l.idxOf j < l.length:=List.idxOf_lt_length_of_mem (ho.mem hd.1)
   have h3:l.getD (l.idxOf j) 0 = j:=by rw [List.getD_eq_getElem?_getD,List.getElem?_eq_getElem gG]; exact List.getElem_idxOf gG
   rw [show l.idxOf j = k by omega] at h3
   exact fb h3.symm
structure Gg(n:ab)(V:List Bool -> Int -> Nat)(at_:List Int)(gl:List Gate)(bits:List (List Int)):Prop where
 ext:Ext (rD (mz n n.cells.length)) gl
 len:gl.length <= 1764 * n.cells.length
 bl:bits.length = n.aa.length
 wk:∀ x,In x n.aa.length -> Wk 30 gl (bits.getD x.toNat []) (n.wd x).toNat (fun ins=>V ins x) (at_.getD x.toNat 0)
theorem qK.done(hf:bg n)(ho:Ord n l)(h:qK n l V at_ gl bits k)(hk:k = l.length):Gg n V at_ gl bits :=
 ⟨h.ext,by have:=h.len; have:=ho.len; omega,h.bl,fun x hx=>by
  obtain ⟨j,hj⟩:=hf.kH hx
  exact h.wk j x hj fun _=>by rw [hk]; exact List.idxOf_lt_length_of_mem (ho.mem hj.1)⟩
def PX(n:ab)(V:List Bool -> Int -> Nat)(c:Cell)(ins:List Bool):Nat:=if V ins (c.args.getD 0 0) = 1 /\ V ins n.freeze ≠ 1 then V ins (c.args.getD 1 0) else V ins c.out
def Cw(n:ab)(at_:List Int)(c:Cell):Int:=max (max (at_.getD (c.args.getD 1 0).toNat 0 + 40) (at_.getD (c.args.getD 0 0).toNat 0 + 80)) (max (at_.getD n.freeze.toNat 0 + 80) (at_.getD c.out.toNat 0 + 40))
structure y8(n:ab)(V:List Bool -> Int -> Nat)(at_:List Int)(gl:List Gate)(bits:List (List Int))(c:Cell):Prop where
 al:c.args.length = 2
 Xo:In (c.args.getD 0 0) n.aa.length /\ In (c.args.getD 1 0) n.aa.length
 out:In c.out n.aa.length
 wide:dO (n.wd c.out)
 w1:n.wd (c.args.getD 1 0) = n.wd c.out
 sl:(bits.getD (c.args.getD 0 0).toNat []).length = 1
 yl:(bits.getD (c.args.getD 1 0).toNat []).length = (n.wd c.out).toNat
 ol:(bits.getD c.out.toNat []).length = (n.wd c.out).toNat
 s:Wr 30 gl ((bits.getD (c.args.getD 0 0).toNat []).getD 0 0) (fun ins=>decide (V ins (c.args.getD 0 0) = 1)) (at_.getD (c.args.getD 0 0).toNat 0)
 y:∀ k,k < (n.wd c.out).toNat -> Wr 30 gl ((bits.getD (c.args.getD 1 0).toNat []).getD k 0) (fun ins=>(V ins (c.args.getD 1 0)).testBit k) (at_.getD (c.args.getD 1 0).toNat 0)
 o:∀ k,k < (n.wd c.out).toNat -> Wr 30 gl ((bits.getD c.out.toNat []).getD k 0) (fun ins=>(V ins c.out).testBit k) (at_.getD c.out.toNat 0)
 y2:∀ ins,V ins (c.args.getD 1 0) < 2 ^ (n.wd c.out).toNat
 o2:∀ ins,V ins c.out < 2 ^ (n.wd c.out).toNat
theorem Wk.FZ{c:Int}{a:List Int}{w:Nat}{N:List Bool -> Nat}{t:Int}(h:Wk c gl a w N t)(hw:w = 1):a.length = 1 /\ Wr c gl (a.getD 0 0) (fun ins=>decide (N ins = 1)) t:=by
 subst hw
 refine ⟨h.len,(h.bit 0 om).as fun ins=>?_⟩
 have h1:=h.lt ins
 have h2:N ins = 0 \/ N ins = 1:=by omega
 rcases h2 with h2 | h2 <;> rw [h2] <;> rfl
theorem Gg.YZ(hf:bg n)(ht:Fit n)(h:Gg n V at_ gl bits)(hi:i < n.cells.length)(h4:(n.cells.getD i default).kind = 4):y8 n V at_ gl bits (n.cells.getD i default):=by
 have kC:=hf.cells i hi
 have tk:(n.cells.getD i default).args.length = 2:=kC.2.1.k4 h4
 have a0:=kC.1 _ (bQ (l:=(n.cells.getD i default).args) (i:=0) om)
 have a1:=kC.1 _ (bQ (l:=(n.cells.getD i default).args) (i:=1) om)
 have lq:=kC.2.2.2 om
 have oA:=ht.cells i hi
 simp only [Fits,h4,Int.reduceEq,false_and,true_and,false_or,or_false] at oA
 have e3:n.ow (n.cells.getD i default) = n.wd (n.cells.getD i default).out:=by unfold ab.ow; rw [if_pos lq.1]
 rw [e3] at oA
 have k0:=h.wk _ a0
 have k1:=h.wk _ a1
 have ko:=h.wk _ lq
 have e0:(n.wd ((n.cells.getD i default).args.getD 0 0)).toNat = 1:=by rw [show n.wd ((n.cells.getD i default).args.getD 0 0) = 1 from oA.1]; rfl
 have e1:n.wd ((n.cells.getD i default).args.getD 1 0) = n.wd (n.cells.getD i default).out:=oA.2.1
 rw [e1] at k1
 obtain ⟨b1,b2⟩:=k0.FZ e0
 exact ⟨tk,⟨a0,a1⟩,lq,hf.ma _ (getD_in (by unfold In at lq; omega)),e1,b1,k1.len,ko.len,b2,k1.bit,ko.bit,k1.lt,ko.lt⟩
structure Cx(n:ab)(V:List Bool -> Int -> Nat)(at_:List Int)(g0 gl:List Gate)(nx:List (List Int))(i:Nat):Prop where
 ext:Ext g0 gl
 len:gl.length <= g0.length + 200 * i
 nl:nx.length = n.cells.length
 eq:∀ j,j < i -> if (n.cells.getD j default).kind = 4 then Wk 30 gl (nx.getD j []) (n.wd (n.cells.getD j default).out).toNat (PX n V (n.cells.getD j default)) (Cw n at_ (n.cells.getD j default)) else nx.getD j [] = []
 emp:∀ j,i <= j -> nx.getD j [] = []
theorem IW{m j:Nat}:(List.replicate m ([]:List Int)).getD j [] = []:=by
 rw [List.getD_eq_getElem?_getD,List.getElem?_replicate]; split <;> rfl
theorem Cx.init(hg:Good g0):Cx n V at_ g0 g0 (List.replicate n.cells.length []) 0:=⟨.refl hg,om,by simp,fun j hj=>by omega,fun j _=>IW⟩
theorem Cx.skip(h:Cx n V at_ g0 gl nx i)(hk:(n.cells.getD i default).kind ≠ 4):Cx n V at_ g0 gl nx (i + 1) :=
 ⟨h.ext,by have:=h.len; omega,h.nl,fun j hj=>by
  by_cases e:j = i
  ·subst e; rw [if_neg hk]; exact h.emp j (Nat.le_refl _)
  ·exact h.eq j om,fun j hj=>h.emp j om⟩
structure Hv(n:ab)(V:List Bool -> Int -> Nat)(at_:List Int)(i:Nat)(nx:List (List Int))(g1 gl:List Gate)(IV:List (List Int))(k:Nat):Prop where
 ml:xw 30 g1 gl (IV.getD i []) (fun k ins=>(PX n V (n.cells.getD i default) ins).testBit k) (Cw n at_ (n.cells.getD i default)) k
 nl:IV.length = nx.length
 ot:∀ j,j ≠ i -> IV.getD j [] = nx.getD j []
theorem Hv.init(h:Cx n V at_ g0 gl nx i)(hg:Good g1):Hv n V at_ i nx g1 g1 nx 0:=⟨by rw [h.emp i (Nat.le_refl _)]; exact .init hg,rfl,fun _ _=>rfl⟩
theorem Hv.step{c : Cell}{s v : Int}{row : List Int}(hr : y8 n V at_ g0 bits c)(he : Ext g0 g1)(hc : n.cells.getD i default = c)(hi : i < nx.length)(h : Hv n V at_ i nx g1 gl IV k)(hk : k < (n.wd c.out).toNat)
  (hs:Wr 30 g1 s (fun ins=>decide (V ins (c.args.getD 0 0) = 1) && !decide (V ins n.freeze = 1)) (Cw n at_ c - 50)) (hv:Wr 30 g1 v (fun ins=>!(decide (V ins (c.args.getD 0 0) = 1) && !decide (V ins n.freeze = 1))) (Cw n at_ c - 40))
  (q9:row = IV.getD i [] ++ [(gl.length:Int) + 2]) :
  Hv n V at_ i nx g1 (yx gl s v ((bits.getD (c.args.getD 1 0).toNat []).getD k 0) ((bits.getD c.out.toNat []).getD k 0)) (IV.set i row) (k + 1):=by
 subst hc q9
 refine ⟨?_,by rw [List.length_set]; exact h.nl,fun j hj=>by rw [bR,if_neg om]; exact h.ot j hj⟩
 rw [bR,if_pos ⟨rfl,by rw [h.nl]; exact hi⟩]
 refine h.ml.choose hs hv ((hr.y k hk).ext he) ((hr.o k hk).ext he) om om (by unfold Cw; omega) (by unfold Cw; omega) fun ins=>?_
 unfold PX
 by_cases h1:V ins ((n.cells.getD i default).args.getD 0 0) = 1 <;> by_cases h2:V ins n.freeze = 1 <;> simp only [h1,h2,true_and,false_and,ne_eq,not_true_eq_false,not_false_eq_true,if_true,if_false,decide_true,decide_false,Bool.not_true,Bool.not_false,Bool.and_true,Bool.and_false,Bool.false_eq_true]
theorem Hv.done(h : Cx n V at_ g0 gl nx i)(hi : i < n.cells.length)(h4 : (n.cells.getD i default).kind = 4)(hr : y8 n V at_ g1 bits (n.cells.getD i default))(he : Ext gl g1)(hl : g1.length ≤ gl.length + 2)(hj : Hv n V at_ i nx g1 l' IV k)(hk : k = (n.wd (n.cells.getD i default).out).toNat) :
  Cx n V at_ g0 l' IV (i + 1):=by
 have hw:=hr.wide
 unfold dO at hw
 have MV:=hj.ml.len
 have Xp:=hj.ml.ext
 refine ⟨(h.ext.trans he).trans Xp,by have:=h.len; omega,hj.nl.trans h.nl,fun j o5=>?_,fun j o5=>?_⟩
 ·by_cases e:j = i
  ·subst e
   rw [if_pos h4]
   refine Ws.wk hj.ml.ws (by rw [hj.ml.ol,hk]) fun ins=>?_
   unfold PX
   split
   ·exact hr.y2 ins
   ·exact hr.o2 ins
  ·have h1:=h.eq j om
   rw [hj.ot j e]
   by_cases h5:(n.cells.getD j default).kind = 4
   ·rw [if_pos h5] at h1 ⊢; exact h1.ext (he.trans Xp)
   ·rw [if_neg h5] at h1 ⊢; exact h1
 ·rw [hj.ot j om]; exact h.emp j om
theorem y8.ext{c:Cell}(h:y8 n V at_ gl bits c)(he:Ext gl g1):y8 n V at_ g1 bits c:=⟨h.al,h.Xo,h.out,h.wide,h.w1,h.sl,h.yl,h.ol,h.s.ext he,fun k hk=>(h.y k hk).ext he,fun k hk=>(h.o k hk).ext he,h.y2,h.o2⟩
theorem y8.en{c : Cell}{th : Int}(h : y8 n V at_ gl bits c)(hg : Good gl)(ht : Wr 30 gl th (fun ins => !decide (V ins n.freeze = 1)) (at_.getD n.freeze.toNat 0 + 10)) :
  Ext gl (gl ++ [⟨5,(bits.getD (c.args.getD 0 0).toNat []).getD 0 0,th⟩]) /\ Ext (gl ++ [⟨5,(bits.getD (c.args.getD 0 0).toNat []).getD 0 0,th⟩]) ((gl ++ [⟨5,(bits.getD (c.args.getD 0 0).toNat []).getD 0 0,th⟩]) ++ [⟨4,(gl.length:Int),0⟩]) /\
  Wr 30 ((gl ++ [⟨5,(bits.getD (c.args.getD 0 0).toNat []).getD 0 0,th⟩]) ++ [⟨4,(gl.length:Int),0⟩]) (gl.length:Int) (fun ins=>decide (V ins (c.args.getD 0 0) = 1) && !decide (V ins n.freeze = 1)) (Cw n at_ c - 50) /\
  Wr 30 ((gl ++ [⟨5,(bits.getD (c.args.getD 0 0).toNat []).getD 0 0,th⟩]) ++ [⟨4,(gl.length:Int),0⟩]) (((gl ++ [(⟨5,(bits.getD (c.args.getD 0 0).toNat []).getD 0 0,th⟩:Gate)]).length:Nat):Int) (fun ins=>!(decide (V ins (c.args.getD 0 0) = 1) && !decide (V ins n.freeze = 1))) (Cw n at_ c - 40):=by
 have e1:=Ext.two (k:=5) hg ae h.s ht
 have w1:=h.s.and (u:=Cw n at_ c - 50) ht (by unfold Cw; omega) (by unfold Cw; omega)
 have e2:=Ext.not e1.dw w1
 have w2:=w1.not (u:=Cw n at_ c - 40) om
 exact ⟨e1,e2,w1.ext e2,w2⟩
structure eS(n:ab)(V:List Bool -> Int -> Nat)(at_:List Int)(gl:List Gate)(bits nx:List (List Int)):Prop where
 ord:∃ l,Ord n l
 vi:VI n V
 arv:xx n at_
 ext:Ext (rD (mz n n.cells.length)) gl
 len:gl.length <= 1000000
 bl:bits.length = n.aa.length
 wk:∀ x,In x n.aa.length -> Wk 30 gl (bits.getD x.toNat []) (n.wd x).toNat (fun ins=>V ins x) (at_.getD x.toNat 0)
 nl:nx.length = n.cells.length
 nx:∀ j,j < n.cells.length -> if (n.cells.getD j default).kind = 4 then Wk 30 gl (nx.getD j []) (n.wd (n.cells.getD j default).out).toNat (PX n V (n.cells.getD j default)) (Cw n at_ (n.cells.getD j default)) else nx.getD j [] = []
theorem Cx.done(ho:Ord n l)(hV:VI n V)(hA:xx n at_)(hf:Gg n V at_ g0 bits)(he:Ext g0 g1)(h1:g1.length <= g0.length + 1)(h:Cx n V at_ g1 gl nx i)(hi:i = n.cells.length)(hn:n.cells.length <= 100):eS n V at_ gl bits nx :=
 ⟨⟨l,ho⟩,hV,hA,(hf.ext.trans he).trans h.ext,by have:=hf.len; have:=h.len; omega,hf.bl,fun x hx=>(hf.wk x hx).ext (he.trans h.ext),h.nl,fun j hj=>h.eq j om⟩
end
theorem l4.zero{n:ab}{l:List Int}{e:Int}(h:l4 n l e)(he:e = 0):bg n /\ Fit n /\ Acyclic n /\ Ord n l:=by
 rcases h with ⟨_,_,h⟩ | ⟨_,_,_,h⟩ | ⟨_,_,_,_,h⟩ | ⟨h1,h2,h3,h4,_⟩
 ·omega
 ·omega
 ·omega
 ·exact ⟨h1,h2,h3,h4⟩
structure gp where
 bc:List Gate
 bits:List (List Int)
 next:List (List Int)
instance:Inhabited gp:=⟨⟨[],[],[]⟩⟩
def gp.row(m:gp):List X:=[.fz 3 (m.bc.map Gate.row),.fz 1 (m.bits.map bG),.fz 1 (m.next.map bG)]
def gp.own(m:gp):List X:=[.dn 3 (m.bc.map Gate.row),.dn 1 (m.bits.map bG),.dn 1 (m.next.map bG)]
theorem gp.bx(m:gp):X.b5 m.row = true:=rfl
def rI(n:ab)(m:gp)(e:Int):Prop:=(fg n ≠ 0 /\ e = fg n) \/ (fg n = 0 /\ e = 0 /\ ∃ V at_,eS n V at_ m.bc m.bits m.next)
theorem rI.err{n:ab}{m:gp}{e:Int}(h:rI n m e):e = fg n:=by
 rcases h with ⟨_,h⟩ | ⟨h1,h2,_⟩
 ·exact h
 ·rw [h1,h2]
open Go Go.AW
section
variable {n:ab} {gl:List Gate} {bits nx:List (List Int)} {V:List Bool -> Int -> Nat} {at_:List Int}
theorem rI.ok{n:ab}{m:gp}{e:Int}(h:rI n m e)(h0:fg n = 0):e = 0 /\ ∃ V at_,eS n V at_ m.bc m.bits m.next:=by
 rcases h with ⟨h1,_⟩ | ⟨_,h2,h3⟩
 ·exact absurd h0 h1
 ·exact ⟨h2,h3⟩
theorem Wk.gA{c:Int}{a:List Int}{w:Int}{N:List Bool -> Nat}{t:Int}(h:Wk c gl a w.toNat N t)(hw:0 <= w):rG a w gl.length :=
 ⟨fun j hj=>⟨(h.bit j (by rw [<- h.len]; exact hj)).lo,(h.bit j (by rw [<- h.len]; exact hj)).hi⟩,by rw [h.len]; omega⟩
theorem eS.dw(h:eS n V at_ gl bits nx):Good gl:=h.ext.dw
theorem eS.Gh(h:eS n V at_ gl bits nx)(hf:bg n){i:Nat}(hi:i < n.aa.length):rG (bits.getD i []) (n.aa.getD i 0) gl.length:=by
 have hw:=hf.ma _ (getD_in (l:=n.aa) (d:=0) hi)
 unfold dO at hw
 exact (h.wk (i:Int) ⟨om,om⟩).gA (by show 0 <= n.aa.getD _ 0; rw [Int.toNat_natCast]; omega)
theorem eS.Ka(h:eS n V at_ gl bits nx)(hf:bg n){i:Nat}(hi:i < n.cells.length):rG (nx.getD i []) (if (n.cells.getD i default).kind = 4 then n.aa.getD (n.cells.getD i default).out.toNat 0 else 0) gl.length:=by
 have h1:=h.nx i hi
 by_cases h4:(n.cells.getD i default).kind = 4
 ·rw [if_pos h4] at h1 ⊢
  have lq:=(hf.cells i hi).2.2.2 om
  unfold In at lq
  have hw:=hf.ma _ (getD_in (l:=n.aa) (d:=0) (i:=(n.cells.getD i default).out.toNat) om)
  unfold dO at hw
  exact h1.gA (by show 0 <= n.aa.getD _ 0; omega)
 ·rw [if_neg h4] at h1 ⊢
  rw [h1]; exact ⟨fun j hj=>absurd hj (Nat.not_lt_zero _),rfl⟩
theorem eS.tb(h : eS n V at_ gl bits nx){i k : Nat}(hi : i < n.aa.length)(hk : k < (bits.getD i []).length) :
  (nZ gl (List.replicate (oR gl) 30) gl.length).getD ((bits.getD i []).getD k 0).toNat 0 <= at_.getD i 0:=by
 have h1:=h.wk (i:Int) ⟨om,om⟩
 rw [Int.toNat_natCast] at h1
 exact (h1.bit k (by rw [<- h1.len]; exact hk)).t
theorem eS.tn(h : eS n V at_ gl bits nx){i k : Nat}(hi : i < n.cells.length)(hk : k < (nx.getD i []).length) :
  (n.cells.getD i default).kind = 4 /\ (nZ gl (List.replicate (oR gl) 30) gl.length).getD ((nx.getD i []).getD k 0).toNat 0 <= Cw n at_ (n.cells.getD i default):=by
 have h1:=h.nx i hi
 by_cases h4:(n.cells.getD i default).kind = 4
 ·rw [if_pos h4] at h1
  exact ⟨h4,(h1.bit k (by rw [<- h1.len]; exact hk)).t⟩
 ·rw [if_neg h4] at h1
  rw [h1] at hk; cases hk
theorem xx.le(hv:VT n){l:List Int}(ho:Ord n l)(ha:xx n at_){x:Int}(hx:In x n.aa.length):0 <= at_.getD x.toNat 0 /\ at_.getD x.toNat 0 <= 400400:=by
 obtain ⟨j,hj⟩:=hv.formed.kH hx
 have h1:=ha.bound hv ho j x hj
 have h2:l.idxOf j < l.length:=List.idxOf_lt_length_of_mem (ho.mem hj.1)
 have h3:=ho.len
 have h4:=hv.dH
 omega
end
open Go Go.AW
def wR(k:Int):Int:=if k = 4 then 1 else if 5 <= k /\ k <= 7 then 2 else 0
def vm(kind:Int)(i k:Nat)(x:Int):Prop:=if (k:Int) < wR kind then 0 <= x /\ x < (i:Int) else x = 0
theorem wS{i k:Nat}{g:Gate}(h:kI i g)(hk:k < 2):vm g.kind i k (if k = 0 then g.a else g.b):=by
 have h1:=uC.1 h
 unfold vm wR
 have zB:k = 0 \/ k = 1:=by omega
 rcases zB with rfl | rfl
 ·simp only [if_true]
  (repeat' split) <;> omega
 ·simp only [Nat.one_ne_zero,if_false]
  (repeat' split) <;> omega
theorem L6{i:Nat}{g:Gate}(hk:1 <= g.kind /\ g.kind <= 7)(h:∀ k,k < 2 -> vm g.kind i k (if k = 0 then g.a else g.b)):kI i g:=by
 have h0:=h 0 om
 have h1:=h 1 om
 rw [if_pos rfl] at h0
 rw [if_neg ae] at h1
 unfold vm wR at h0 h1
 rw [uC]
 refine ⟨hk,?_,?_,?_,?_⟩ <;> intros <;> (repeat' split at h0) <;> (repeat' split at h1) <;> omega
theorem L7{a b:Int}{m:Nat}(h:m < 2):[X.v (.int .i64 a),.v (.int .i64 b)][m]? = some (.v (.int .i64 (if m = 0 then a else b))):=by
 have h':m = 0 \/ m = 1:=by omega
 rcases h' with rfl | rfl <;> rfl
def sY(l:List (List Int)):List X:=[.fz 1 (l.map bG)]
theorem y9(l:List (List Int)):X.b5 (sY l) = true:=rfl
structure mb(n:ab)(m:gp):Prop where
 dw:y4 m.bc
 bl:m.bits.length = n.aa.length
 nl:m.next.length = n.cells.length
 p6:∀ j,j < ([m.bits,m.next]:List (List (List Int))).flatten.length -> ∀ k,k < ((([m.bits,m.next]:List (List (List Int))).flatten).getD j []).length -> 0 <= ((([m.bits,m.next]:List (List (List Int))).flatten).getD j []).getD k 0 /\ ((([m.bits,m.next]:List (List (List Int))).flatten).getD j []).getD k 0 < m.bc.length
noncomputable instance (n:ab) (m:gp):Decidable (mb n m):=Classical.propDecidable _
theorem uH{a b:List (List Int)}{j:Nat}(h:j < a.length):(([a,b]:List (List (List Int))).flatten).getD j [] = a.getD j []:=by
 simp only [List.flatten_cons,List.flatten_nil,List.append_nil]
 rw [List.getD_eq_getElem?_getD,List.getD_eq_getElem?_getD,List.getElem?_append_left h]
theorem Dt{a b:List (List Int)}{j:Nat}(h:a.length <= j):(([a,b]:List (List (List Int))).flatten).getD j [] = b.getD (j - a.length) []:=by
 simp only [List.flatten_cons,List.flatten_nil,List.append_nil]
 rw [List.getD_eq_getElem?_getD,List.getD_eq_getElem?_getD,List.getElem?_append_right h]
theorem wT{a b:List (List Int)}:(([a,b]:List (List (List Int))).flatten).length = a.length + b.length:=by simp
theorem eS.fits{n:ab}{m:gp}{V:List Bool -> Int -> Nat}{at_:List Int}(hf:bg n)(h:eS n V at_ m.bc m.bits m.next):mb n m:=by
 refine ⟨h.dw.d,h.bl,h.nl,fun j hj k hk=>?_⟩
 have yA:=h.bl
 have Ep:=h.nl
 rw [wT] at hj
 rcases Nat.lt_or_ge j m.bits.length with h1 | h1
 ·rw [uH h1] at hk ⊢
  exact (h.Gh hf om).1 k hk
 ·rw [Dt h1] at hk ⊢
  exact (h.Ka hf om).1 k hk
theorem Du{n:ab}{g:List Gate}{b x:List (List Int)}(h:b.length ≠ n.aa.length):¬ mb n ⟨g,b,x⟩:=fun hF=>h hF.bl
theorem Dv{n:ab}{g:List Gate}{b x:List (List Int)}(h:x.length ≠ n.cells.length):¬ mb n ⟨g,b,x⟩:=fun hF=>h hF.nl
theorem Dw{n:ab}{g:List Gate}{b x:List (List Int)}{q:Gate}(h:¬ (1 <= q.kind /\ q.kind <= 7)):¬ mb n ⟨g ++ [q],b,x⟩:=fun hF=>by
 have h1:=hF.dw g.length (by simp)
 rw [jT rfl] at h1
 exact h h1.1
theorem Dx{n:ab}{g:List Gate}{b x:List (List Int)}{l:List Int}(hb:0 < b.length):¬ mb n ⟨g,b.set 0 (l ++ [(g.length:Int)]),x⟩:=fun hF=>by
 have hl:((b.set 0 (l ++ [(g.length:Int)])).getD 0 []) = l ++ [(g.length:Int)]:=by rw [bR,if_pos ⟨rfl,hb⟩]
 have h1:=hF.p6 0 (by rw [wT]; simp; omega) l.length (by rw [uH (by simpa using hb),hl]; simp)
 rw [uH (by simpa using hb),hl,jT rfl] at h1
 have h2:=h1.2
 simp at h2
open Go Go.AW
theorem nJ{n:ab}(h:n.freeze = -1):fg n = 3:=by
 unfold fg
 rw [if_neg]
 intro hf
 have:=hf.freeze
 unfold In at this
 omega
theorem ab.Small.fz{n:ab}(hs:n.Small)(f:Int):(⟨n.name,n.aa,n.cells,n.ins,n.aA,n.streams,n.ba,n.data,f,n.done,n.bF⟩:ab).Small :=
 ⟨hs.name,hs.aa,hs.cells,hs.args,hs.DW,hs.Ak,hs.mK,hs.mL,hs.ins,hs.aA,hs.streams,hs.ba,hs.data,hs.bF⟩
def wU(m:gp):Prop:=(m.bc.length <= 10000000 /\ m.bits.length <= 100000 /\ m.next.length <= 100000) /\ ∀ l ∈ m.bits ++ m.next,l.length <= 1000000
section
variable {n:ab} {m:gp} {V:List Bool -> Int -> Nat} {at_:List Int}
theorem eS.PY(hf:bg n)(h:eS n V at_ m.bc m.bits m.next):(∀ l ∈ m.bits,l.length <= 64) /\ ∀ l ∈ m.next,l.length <= 64:=by
 refine ⟨fun l hl=>?_,fun l hl=>?_⟩
 ·obtain ⟨i,hi,rfl⟩:=List.mem_iff_getElem.1 hl
  have h1:=(h.Gh hf (i:=i) (by have:=h.bl; omega)).2
  have h2:=Gc hf.ma (i:Int)
  unfold ab.wd at h2
  rw [Int.toNat_natCast] at h2
  rw [List.getD_eq_getElem?_getD,List.getElem?_eq_getElem hi] at h1
  simp only [Option.getD_some] at h1
  omega
 ·obtain ⟨i,hi,rfl⟩:=List.mem_iff_getElem.1 hl
  have h1:=(h.Ka hf (i:=i) (by have:=h.nl; omega)).2
  have h2:=Gc hf.ma (n.cells.getD i default).out
  unfold ab.wd at h2
  rw [List.getD_eq_getElem?_getD,List.getElem?_eq_getElem hi] at h1
  simp only [Option.getD_some] at h1
  split at h1 <;> omega
theorem eS.lens(hf:bg n)(h:eS n V at_ m.bc m.bits m.next)(hn:8 <= n.cells.length /\ n.cells.length <= 48)(hw:8 <= n.aa.length /\ n.aa.length <= 48):wU m:=by
 have h1:=h.bl; have h2:=h.nl; have h3:=h.len
 obtain ⟨r1,r2⟩:=h.PY hf
 refine ⟨⟨om,om,om⟩,fun l hl=>?_⟩
 rcases List.mem_append.1 hl with hl | hl
 ·have:=r1 l hl; omega
 ·have:=r2 l hl; omega
theorem eS.PZ(hf:bg n)(h:eS n V at_ m.bc m.bits m.next)(hn:8 <= n.cells.length /\ n.cells.length <= 48)(hw:8 <= n.aa.length /\ n.aa.length <= 48):wU ⟨m.bc,m.bits.drop 1,m.next⟩:=by
 obtain ⟨⟨a1,a2,a3⟩,a4⟩:=h.lens hf hn hw
 refine ⟨⟨a1,by show (m.bits.drop 1).length <= _; rw [List.length_drop]; omega,a3⟩,fun l hl=>a4 l ?_⟩
 rcases List.mem_append.1 hl with hl | hl
 ·exact List.mem_append.2 (.inl (List.mem_of_mem_drop hl))
 ·exact List.mem_append.2 (.inr hl)
theorem eS.Qa(hf:bg n)(h:eS n V at_ m.bc m.bits m.next)(hn:8 <= n.cells.length /\ n.cells.length <= 48)(hw:8 <= n.aa.length /\ n.aa.length <= 48):wU ⟨m.bc,m.bits,m.next ++ [[]]⟩:=by
 obtain ⟨⟨a1,a2,a3⟩,a4⟩:=h.lens hf hn hw
 have h2:=h.nl
 refine ⟨⟨a1,a2,by show (m.next ++ [[]]).length <= _; rw [List.length_append]; simp; omega⟩,fun l hl=>?_⟩
 rcases List.mem_append.1 hl with hl | hl
 ·exact a4 l (List.mem_append.2 (.inl hl))
 ·rcases List.mem_append.1 hl with hl | hl
  ·exact a4 l (List.mem_append.2 (.inr hl))
  ·rw [List.mem_singleton.1 hl]; simp
theorem eS.Qb{g:Gate}(hf:bg n)(h:eS n V at_ m.bc m.bits m.next)(hn:8 <= n.cells.length /\ n.cells.length <= 48)(hw:8 <= n.aa.length /\ n.aa.length <= 48):wU ⟨m.bc ++ [g],m.bits,m.next⟩:=by
 obtain ⟨⟨a1,a2,a3⟩,a4⟩:=h.lens hf hn hw
 have h3:=h.len
 exact ⟨⟨by show (m.bc ++ [g]).length <= _; rw [List.length_append]; simp; omega,a2,a3⟩,a4⟩
theorem eS.Qc{x:Int}(hf:bg n)(h:eS n V at_ m.bc m.bits m.next)(hn:8 <= n.cells.length /\ n.cells.length <= 48)(hw:8 <= n.aa.length /\ n.aa.length <= 48):wU ⟨m.bc,m.bits.set 0 (([] ++ m.bits.getD 0 []) ++ [x]),m.next⟩:=by
 obtain ⟨⟨a1,a2,a3⟩,a4⟩:=h.lens hf hn hw
 have h1:=h.bl
 refine ⟨⟨a1,by show (m.bits.set _ _).length <= _; rw [List.length_set]; exact a2,a3⟩,fun l hl=>?_⟩
 rcases List.mem_append.1 hl with hl | hl
 ·rcases List.mem_or_eq_of_mem_set hl with hl | hl
  ·exact a4 l (List.mem_append.2 (.inl hl))
  ·have h2:=(h.PY hf).1 (m.bits.getD 0 []) (getD_in om)
   rw [hl]; simp only [List.nil_append,List.length_append,List.length_singleton]; omega
 ·exact a4 l (List.mem_append.2 (.inr hl))
end
open Go Go.AW Go.Proofs
theorem s8{w:Int}:ay Try.prog 155 [vi w] [] [] (fun r o=>r = .v (.bool (decide (dO w))) /\ o = []):=by
 refine ay.of Try.func155 U U U (n:=9) ae (aL U) (.sr (.an (.nil (.sr ?_))))
 refine .mv ?_
 refine .vl (Y.qq U U) (.mv ?_)
 refine .aG (d:=5) U (fun c5=>?_) (fun c5=>?_)
 refine .gw 5 (Y.zh U U) (.gw 5 (Y.za U U) (.pk ?_))
 refine .an (.nil (.ret ?_))
 exact .rb rfl (dd (by (simp only [dO]) <;> (first | omega | grind)))
 refine .gz 5 (.gz 5 (.pk ?_))
 refine .an (.nil (.ret ?_))
 exact .rb rfl (df (by (simp only [dO]) <;> (first | omega | grind)))
theorem qL{s:ByteArray}(hs:s.size <= 140737488351232):ay Try.prog 154 [.v (.string s)] [] [] (fun r o=>r = .v (.bool (decide (nW s))) /\ o = []):=by
 refine ay.of Try.func154 U U U (n:=44) ae (aL U) (.sr (.an ?_))
 refine .nil (.seq (.sr (.mv ?_)))
 refine .vl (Y.qz R4 U) (.mv ?_)
 refine .nil (.block (.kO (fun (ct:Nat)=>⟨[(0,.v (.string s)),(6,vi s.size),(7,vi ct)],[]⟩) (fun ct=>((ct:Int) <= (s.size:Int)) /\ (∀ j,j < ct -> jb (bA s j))) (fun ct=>((s.size:Int) - (ct:Int)).toNat) 0 (⟨om,by intro j h; omega⟩) (Le.mk (.c2 (.cons (ak U bj) .nil)) .nil) (fun ct Ad=>?_)))
 obtain ⟨xD,hb⟩:=Ad
 refine .sr (.vl (Y.zd U U) (.nil (.seq (.a8 U (fun c8=>?_) (fun c8=>?_)))))
 refine .skip ?_
 refine .ub (⟨[(0,.v (.string s)),(6,vi s.size),(7,vi ct)],[]⟩) (((97 <= ((bA s ct:Nat):Int)) /\ (((bA s ct:Nat):Int) <= 122)) \/ ((97 <= ((bA s ct:Nat):Int)) /\ (¬ (((bA s ct:Nat):Int) <= 122)) /\ (65 <= ((bA s ct:Nat):Int)) /\ (((bA s ct:Nat):Int) <= 90)) \/ ((97 <= ((bA s ct:Nat):Int)) /\ (¬ (((bA s ct:Nat):Int) <= 122)) /\ (65 <= ((bA s ct:Nat):Int)) /\ (¬ (((bA s ct:Nat):Int) <= 90)) /\ (48 <= ((bA s ct:Nat):Int)) /\ (((bA s ct:Nat):Int) <= 57)) \/ ((97 <= ((bA s ct:Nat):Int)) /\ (¬ (((bA s ct:Nat):Int) <= 122)) /\ (65 <= ((bA s ct:Nat):Int)) /\ (¬ (((bA s ct:Nat):Int) <= 90)) /\ (48 <= ((bA s ct:Nat):Int)) /\ (¬ (((bA s ct:Nat):Int) <= 57)) /\ (((bA s ct:Nat):Int) = 95)) \/ ((97 <= ((bA s ct:Nat):Int)) /\ (¬ (((bA s ct:Nat):Int) <= 122)) /\ (65 <= ((bA s ct:Nat):Int)) /\ (¬ (((bA s ct:Nat):Int) <= 90)) /\ (¬ (48 <= ((bA s ct:Nat):Int))) /\ (((bA s ct:Nat):Int) = 95)) \/ ((97 <= ((bA s ct:Nat):Int)) /\ (¬ (((bA s ct:Nat):Int) <= 122)) /\ (¬ (65 <= ((bA s ct:Nat):Int))) /\ (48 <= ((bA s ct:Nat):Int)) /\ (((bA s ct:Nat):Int) <= 57)) \/ ((97 <= ((bA s ct:Nat):Int)) /\ (¬ (((bA s ct:Nat):Int) <= 122)) /\ (¬ (65 <= ((bA s ct:Nat):Int))) /\ (48 <= ((bA s ct:Nat):Int)) /\ (¬ (((bA s ct:Nat):Int) <= 57)) /\ (((bA s ct:Nat):Int) = 95)) \/ ((97 <= ((bA s ct:Nat):Int)) /\ (¬ (((bA s ct:Nat):Int) <= 122)) /\ (¬ (65 <= ((bA s ct:Nat):Int))) /\ (¬ (48 <= ((bA s ct:Nat):Int))) /\ (((bA s ct:Nat):Int) = 95)) \/ ((¬ (97 <= ((bA s ct:Nat):Int))) /\ (65 <= ((bA s ct:Nat):Int)) /\ (((bA s ct:Nat):Int) <= 90)) \/ ((¬ (97 <= ((bA s ct:Nat):Int))) /\ (65 <= ((bA s ct:Nat):Int)) /\ (¬ (((bA s ct:Nat):Int) <= 90)) /\ (48 <= ((bA s ct:Nat):Int)) /\ (((bA s ct:Nat):Int) <= 57)) \/ ((¬ (97 <= ((bA s ct:Nat):Int))) /\ (65 <= ((bA s ct:Nat):Int)) /\ (¬ (((bA s ct:Nat):Int) <= 90)) /\ (48 <= ((bA s ct:Nat):Int)) /\ (¬ (((bA s ct:Nat):Int) <= 57)) /\ (((bA s ct:Nat):Int) = 95)) \/ ((¬ (97 <= ((bA s ct:Nat):Int))) /\ (65 <= ((bA s ct:Nat):Int)) /\ (¬ (((bA s ct:Nat):Int) <= 90)) /\ (¬ (48 <= ((bA s ct:Nat):Int))) /\ (((bA s ct:Nat):Int) = 95)) \/ ((¬ (97 <= ((bA s ct:Nat):Int))) /\ (¬ (65 <= ((bA s ct:Nat):Int))) /\ (48 <= ((bA s ct:Nat):Int)) /\ (((bA s ct:Nat):Int) <= 57)) \/ ((¬ (97 <= ((bA s ct:Nat):Int))) /\ (¬ (65 <= ((bA s ct:Nat):Int))) /\ (48 <= ((bA s ct:Nat):Int)) /\ (¬ (((bA s ct:Nat):Int) <= 57)) /\ (((bA s ct:Nat):Int) = 95)) \/ ((¬ (97 <= ((bA s ct:Nat):Int))) /\ (¬ (65 <= ((bA s ct:Nat):Int))) /\ (¬ (48 <= ((bA s ct:Nat):Int))) /\ (((bA s ct:Nat):Int) = 95))) ?_ (fun L8=>?_)
 refine .block (.sr (.mv ?_))
 refine .an (.nil (.sr ?_))
 refine .mv ?_
 refine .mv ?_
 refine .vl (Y.qx (m:=ct) R4 U U bj om) (.an (.nil (.sr ?_)))
 refine .mv ?_
 refine .vl (Y.qq U U) (.mv ?_)
 refine .aG (d:=15) U (fun tL=>?_) (fun tL=>?_)
 refine .gw 15 (Y.zh U U) (.gw 15 (Y.za U U) (.pk ?_))
 refine .mv ?_
 refine .aG (d:=19) U (fun tM=>?_) (fun tM=>?_)
 refine .gz 19 (.gz 19 (.gz 19 (.gz 22 (.gz 22 (.gz 19 (.pk ?_))))))
 refine .mv ?_
 refine .gz 27 (.gz 27 (.gz 27 (.gz 30 (.gz 30 (.gz 27 (.pk ?_))))))
 refine .mv ?_
 refine .gz 35 (.gz 35 (.pk ?_))
 refine .vl (Y.zn U) (.nil (.dA U ?_))
 refine .skip (⟨.inl ⟨tL,tM⟩,Le.mk (.c2 (.c .nil)) .nil⟩)
 refine .gw 19 (Y.zh U U) (.gw 19 (Y.qq U U) (.gw 19 (Y.zh U U) (.aG (d:=22) U (fun mT=>?_) (fun mT=>?_))))
 refine .gw 22 (Y.zh U U) (.gw 22 (Y.za U U) (.gw 19 (Y.zo U U U) (.pk ?_)))
 refine .mv ?_
 refine .aG (d:=27) U (fun Cy=>?_) (fun Cy=>?_)
 refine .gz 27 (.gz 27 (.gz 27 (.gz 30 (.gz 30 (.gz 27 (.pk ?_))))))
 refine .mv ?_
 refine .gz 35 (.gz 35 (.pk ?_))
 refine .vl (Y.zn U) (.nil (.dA U ?_))
 refine .skip (⟨.inr (.inl ⟨tL,tM,mT,Cy⟩),Le.mk (.c2 (.c .nil)) .nil⟩)
 refine .gw 27 (Y.zh U U) (.gw 27 (Y.qq U U) (.gw 27 (Y.zh U U) (.aG (d:=30) U (fun rJ=>?_) (fun rJ=>?_))))
 refine .gw 30 (Y.zh U U) (.gw 30 (Y.za U U) (.gw 27 (Y.zo U U U) (.pk ?_)))
 refine .mv ?_
 refine .aG (d:=35) U (fun vo=>?_) (fun vo=>?_)
 refine .gz 35 (.gz 35 (.pk ?_))
 refine .vl (Y.zn U) (.nil (.dA U ?_))
 refine .skip (⟨.inr (.inr (.inl ⟨tL,tM,mT,Cy,rJ,vo⟩)),Le.mk (.c2 (.c .nil)) .nil⟩)
 refine .gw 35 (Y.zh U U) (.gw 35 (Y.qm U U) (.pk ?_))
 refine .vl (Y.zn U) (.nil (.kM U (fun rK=>?_) (fun rK=>?_)))
 refine .sr (.an (.nil (.ret ?_)))
 exact .rb rfl (df (fun h=>by have h1:=h.1 ct om; unfold jb at h1; omega))
 refine .skip (⟨.inr (.inr (.inr (.inl ⟨tL,tM,mT,Cy,rJ,vo,rK⟩))),Le.mk (.c2 (.c .nil)) .nil⟩)
 refine .gz 30 (.gz 30 (.gw 27 (Y.zo U U U) (.pk ?_)))
 refine .mv ?_
 refine .gw 35 (Y.zh U U) (.gw 35 (Y.qm U U) (.pk ?_))
 refine .vl (Y.zn U) (.nil (.kM U (fun rK=>?_) (fun rK=>?_)))
 refine .sr (.an (.nil (.ret ?_)))
 exact .rb rfl (df (fun h=>by have h1:=h.1 ct om; unfold jb at h1; omega))
 refine .skip (⟨.inr (.inr (.inr (.inr (.inl ⟨tL,tM,mT,Cy,rJ,rK⟩)))),Le.mk (.c2 (.c .nil)) .nil⟩)
 refine .gz 22 (.gz 22 (.gw 19 (Y.zo U U U) (.pk ?_)))
 refine .mv ?_
 refine .gw 27 (Y.zh U U) (.gw 27 (Y.qq U U) (.gw 27 (Y.zh U U) (.aG (d:=30) U (fun rJ=>?_) (fun rJ=>?_))))
 refine .gw 30 (Y.zh U U) (.gw 30 (Y.za U U) (.gw 27 (Y.zo U U U) (.pk ?_)))
 refine .mv ?_
 refine .aG (d:=35) U (fun vo=>?_) (fun vo=>?_)
 refine .gz 35 (.gz 35 (.pk ?_))
 refine .vl (Y.zn U) (.nil (.dA U ?_))
 refine .skip (⟨.inr (.inr (.inr (.inr (.inr (.inl ⟨tL,tM,mT,rJ,vo⟩))))),Le.mk (.c2 (.c .nil)) .nil⟩)
 refine .gw 35 (Y.zh U U) (.gw 35 (Y.qm U U) (.pk ?_))
 refine .vl (Y.zn U) (.nil (.kM U (fun rK=>?_) (fun rK=>?_)))
 refine .sr (.an (.nil (.ret ?_)))
 exact .rb rfl (df (fun h=>by have h1:=h.1 ct om; unfold jb at h1; omega))
 refine .skip (⟨.inr (.inr (.inr (.inr (.inr (.inr (.inl ⟨tL,tM,mT,rJ,vo,rK⟩)))))),Le.mk (.c2 (.c .nil)) .nil⟩)
 refine .gz 30 (.gz 30 (.gw 27 (Y.zo U U U) (.pk ?_)))
 refine .mv ?_
 refine .gw 35 (Y.zh U U) (.gw 35 (Y.qm U U) (.pk ?_))
 refine .vl (Y.zn U) (.nil (.kM U (fun rK=>?_) (fun rK=>?_)))
 refine .sr (.an (.nil (.ret ?_)))
 exact .rb rfl (df (fun h=>by have h1:=h.1 ct om; unfold jb at h1; omega))
 refine .skip (⟨.inr (.inr (.inr (.inr (.inr (.inr (.inr (.inl ⟨tL,tM,mT,rJ,rK⟩))))))),Le.mk (.c2 (.c .nil)) .nil⟩)
 refine .gz 15 (.gz 15 (.pk ?_))
 refine .mv ?_
 refine .gw 19 (Y.zh U U) (.gw 19 (Y.qq U U) (.gw 19 (Y.zh U U) (.aG (d:=22) U (fun mT=>?_) (fun mT=>?_))))
 refine .gw 22 (Y.zh U U) (.gw 22 (Y.za U U) (.gw 19 (Y.zo U U U) (.pk ?_)))
 refine .mv ?_
 refine .aG (d:=27) U (fun Cy=>?_) (fun Cy=>?_)
 refine .gz 27 (.gz 27 (.gz 27 (.gz 30 (.gz 30 (.gz 27 (.pk ?_))))))
 refine .mv ?_
 refine .gz 35 (.gz 35 (.pk ?_))
 refine .vl (Y.zn U) (.nil (.dA U ?_))
 refine .skip (⟨.inr (.inr (.inr (.inr (.inr (.inr (.inr (.inr (.inl ⟨tL,mT,Cy⟩)))))))),Le.mk (.c2 (.c .nil)) .nil⟩)
 refine .gw 27 (Y.zh U U) (.gw 27 (Y.qq U U) (.gw 27 (Y.zh U U) (.aG (d:=30) U (fun rJ=>?_) (fun rJ=>?_))))
 refine .gw 30 (Y.zh U U) (.gw 30 (Y.za U U) (.gw 27 (Y.zo U U U) (.pk ?_)))
 refine .mv ?_
 refine .aG (d:=35) U (fun vo=>?_) (fun vo=>?_)
 refine .gz 35 (.gz 35 (.pk ?_))
 refine .vl (Y.zn U) (.nil (.dA U ?_))
 refine .skip (⟨.inr (.inr (.inr (.inr (.inr (.inr (.inr (.inr (.inr (.inl ⟨tL,mT,Cy,rJ,vo⟩))))))))),Le.mk (.c2 (.c .nil)) .nil⟩)
 refine .gw 35 (Y.zh U U) (.gw 35 (Y.qm U U) (.pk ?_))
 refine .vl (Y.zn U) (.nil (.kM U (fun rK=>?_) (fun rK=>?_)))
 refine .sr (.an (.nil (.ret ?_)))
 exact .rb rfl (df (fun h=>by have h1:=h.1 ct om; unfold jb at h1; omega))
 refine .skip (⟨.inr (.inr (.inr (.inr (.inr (.inr (.inr (.inr (.inr (.inr (.inl ⟨tL,mT,Cy,rJ,vo,rK⟩)))))))))),Le.mk (.c2 (.c .nil)) .nil⟩)
 refine .gz 30 (.gz 30 (.gw 27 (Y.zo U U U) (.pk ?_)))
 refine .mv ?_
 refine .gw 35 (Y.zh U U) (.gw 35 (Y.qm U U) (.pk ?_))
 refine .vl (Y.zn U) (.nil (.kM U (fun rK=>?_) (fun rK=>?_)))
 refine .sr (.an (.nil (.ret ?_)))
 exact .rb rfl (df (fun h=>by have h1:=h.1 ct om; unfold jb at h1; omega))
 refine .skip (⟨.inr (.inr (.inr (.inr (.inr (.inr (.inr (.inr (.inr (.inr (.inr (.inl ⟨tL,mT,Cy,rJ,rK⟩))))))))))),Le.mk (.c2 (.c .nil)) .nil⟩)
 refine .gz 22 (.gz 22 (.gw 19 (Y.zo U U U) (.pk ?_)))
 refine .mv ?_
 refine .gw 27 (Y.zh U U) (.gw 27 (Y.qq U U) (.gw 27 (Y.zh U U) (.aG (d:=30) U (fun rJ=>?_) (fun rJ=>?_))))
 refine .gw 30 (Y.zh U U) (.gw 30 (Y.za U U) (.gw 27 (Y.zo U U U) (.pk ?_)))
 refine .mv ?_
 refine .aG (d:=35) U (fun vo=>?_) (fun vo=>?_)
 refine .gz 35 (.gz 35 (.pk ?_))
 refine .vl (Y.zn U) (.nil (.dA U ?_))
 refine .skip (⟨.inr (.inr (.inr (.inr (.inr (.inr (.inr (.inr (.inr (.inr (.inr (.inr (.inl ⟨tL,mT,rJ,vo⟩)))))))))))),Le.mk (.c2 (.c .nil)) .nil⟩)
 refine .gw 35 (Y.zh U U) (.gw 35 (Y.qm U U) (.pk ?_))
 refine .vl (Y.zn U) (.nil (.kM U (fun rK=>?_) (fun rK=>?_)))
 refine .sr (.an (.nil (.ret ?_)))
 exact .rb rfl (df (fun h=>by have h1:=h.1 ct om; unfold jb at h1; omega))
 refine .skip (⟨.inr (.inr (.inr (.inr (.inr (.inr (.inr (.inr (.inr (.inr (.inr (.inr (.inr (.inl ⟨tL,mT,rJ,vo,rK⟩))))))))))))),Le.mk (.c2 (.c .nil)) .nil⟩)
 refine .gz 30 (.gz 30 (.gw 27 (Y.zo U U U) (.pk ?_)))
 refine .mv ?_
 refine .gw 35 (Y.zh U U) (.gw 35 (Y.qm U U) (.pk ?_))
 refine .vl (Y.zn U) (.nil (.kM U (fun rK=>?_) (fun rK=>?_)))
 refine .sr (.an (.nil (.ret ?_)))
 exact .rb rfl (df (fun h=>by have h1:=h.1 ct om; unfold jb at h1; omega))
 refine .skip (⟨.inr (.inr (.inr (.inr (.inr (.inr (.inr (.inr (.inr (.inr (.inr (.inr (.inr (.inr (⟨tL,mT,rJ,rK⟩)))))))))))))),Le.mk (.c2 (.c .nil)) .nil⟩)
 refine .region (.vl (Y.qb U U aH) (.mv ?_))
 refine .nil (⟨ct + 1,⟨om,Af hb (by unfold jb; omega)⟩,om,Le.mk (.c2 (.cons (ak U bj) .nil)) .nil⟩)
 refine .exit (.sr (.mv ?_))
 refine .vl (Y.qz R4 U) (.vl (Y.za U U) (.an (.nil (.ret ?_))))
 exact .rb rfl (dd ⟨fun h=>⟨fun j hj=>hb j om,om⟩,fun h=>by have:=h.2; omega⟩)
theorem m7{op:Int}:ay Try.prog 186 [vi op] [] [] (fun r o=>r = (vi (cA op)) /\ o = []):=by
 refine ay.of Try.func186 U U U (n:=25) ae (aL U) (.sr (.an ?_))
 refine .nil (.seq (.sr (.mv ?_)))
 refine .nil (.block (.seq (.sr (.vl (Y.qm U U) (.an (.nil ?_))))))
 refine .bT U (fun c4=>?_) (fun c4=>?_)
 refine .skip (.bf U (.sr (.an (.nil (.ret ?_)))))
 exact .ri rfl (by simp only [cA]; omega)
 refine .sr (.vl (Y.qm U U) (.an (.nil ?_)))
 refine .bT U (fun c4=>?_) (fun c4=>?_)
 refine .skip (.bf U (.sr (.an (.nil (.ret ?_)))))
 exact .ri rfl (by simp only [cA]; omega)
 refine .sr (.vl (Y.qm U U) (.an (.nil ?_)))
 refine .bT U (fun c4=>?_) (fun c4=>?_)
 refine .skip (.bf U (.sr (.an (.nil (.ret ?_)))))
 exact .ri rfl (by simp only [cA]; omega)
 refine .sr (.vl (Y.qm U U) (.an (.nil ?_)))
 refine .bT U (fun c4=>?_) (fun c4=>?_)
 refine .skip (.bf U (.sr (.an (.nil (.ret ?_)))))
 exact .ri rfl (by simp only [cA]; omega)
 refine .sr (.vl (Y.qm U U) (.an (.nil ?_)))
 refine .bT U (fun c4=>?_) (fun c4=>?_)
 refine .skip (.bf U (.sr (.an (.nil (.ret ?_)))))
 exact .ri rfl (by simp only [cA]; omega)
 refine .sr (.vl (Y.qm U U) (.an (.nil ?_)))
 refine .bT U (fun c4=>?_) (fun c4=>?_)
 refine .skip (.bf U (.sr (.an (.nil (.ret ?_)))))
 exact .ri rfl (by simp only [cA]; omega)
 refine .sr (.vl (Y.qm U U) (.an (.nil ?_)))
 refine .bT U (fun c4=>?_) (fun c4=>?_)
 refine .skip (.bf U (.sr (.an (.nil (.ret ?_)))))
 exact .ri rfl (by simp only [cA]; omega)
 refine .sr (.vl (Y.qm U U) (.an (.nil ?_)))
 refine .bT U (fun c4=>?_) (fun c4=>?_)
 refine .skip (.bf U (.sr (.an (.nil (.ret ?_)))))
 exact .ri rfl (by simp only [cA]; omega)
 refine .sr (.vl (Y.qm U U) (.an (.nil ?_)))
 refine .bT U (fun c4=>?_) (fun c4=>?_)
 refine .skip (.bf U (.sr (.an (.nil (.ret ?_)))))
 exact .ri rfl (by simp only [cA]; omega)
 refine .sr (.vl (Y.qm U U) (.an (.nil ?_)))
 refine .bT U (fun c4=>?_) (fun c4=>?_)
 refine .skip (.bf U (.sr (.an (.nil (.ret ?_)))))
 exact .ri rfl (by simp only [cA]; omega)
 refine .sr (.vl (Y.qm U U) (.an (.nil ?_)))
 refine .bT U (fun c4=>?_) (fun c4=>?_)
 refine .skip (.bf U (.sr (.an (.nil (.ret ?_)))))
 exact .ri rfl (by simp only [cA]; omega)
 refine .sr (.vl (Y.qm U U) (.an (.nil ?_)))
 refine .bT U (fun c4=>?_) (fun c4=>?_)
 refine .skip (.bf U (.sr (.an (.nil (.ret ?_)))))
 exact .ri rfl (by simp only [cA]; omega)
 refine .sr (.vl (Y.qm U U) (.an (.nil ?_)))
 refine .bT U (fun c4=>?_) (fun c4=>?_)
 refine .skip (.bf U (.sr (.an (.nil (.ret ?_)))))
 exact .ri rfl (by simp only [cA]; omega)
 refine .region (.vl (Y.qm U U) (.an (.nil ?_)))
 refine .bT U (fun c4=>?_) (fun c4=>?_)
 refine .sr (.an (.nil (.ret ?_)))
 exact .ri rfl (by simp only [cA]; omega)
 refine .sr (.vl (Y.qm U U) (.an (.nil ?_)))
 refine .a8 U (fun tM=>?_) (fun tM=>?_)
 refine .sr (.an (.nil (.ret ?_)))
 exact .ri rfl (by simp only [cA]; omega)
 refine .seq (.sr (.vl (Y.qm U U) (.an (.nil ?_))))
 refine .bT U (fun Dy=>?_) (fun Dy=>?_)
 refine .skip (.bf U (.sr (.an (.nil (.ret ?_)))))
 exact .ri rfl (by simp only [cA]; omega)
 refine .sr (.vl (Y.qm U U) (.an (.nil ?_)))
 refine .bT U (fun Dy=>?_) (fun Dy=>?_)
 refine .skip (.bf U (.sr (.an (.nil (.ret ?_)))))
 exact .ri rfl (by simp only [cA]; omega)
 refine .region (.vl (Y.qm U U) (.an (.nil ?_)))
 refine .bT U (fun Dy=>?_) (fun Dy=>?_)
 refine .sr (.an (.nil (.ret ?_)))
 exact .ri rfl (by simp only [cA]; omega)
 refine .skip (.sr (.an (.nil (.ret ?_))))
 exact .ri rfl (by simp only [cA]; omega)
open Go Go.AW Go.Proofs
theorem yB{w:Int}:ay Try.prog 190 [vi w] [] [] (fun r o=>r = (vi ((iy w:Nat):Int)) /\ o = []):=by
 refine ay.of Try.func190 U U U (n:=6) ae (aL U) (.sr (.an (.nil (.sr ?_))))
 refine .mv ?_
 refine .vl (Y.zf U U U) (.vl (Y.zg U U U) (.an (.nil (.ret ?_))))
 exact .ri rfl (by unfold iy; (repeat' split) <;> omega)
theorem yC{w:Int}:ay Try.prog 118 [vi w] [] [] (fun r o=>r = (vi ((iy w:Nat):Int)) /\ o = []):=by
 refine ay.of Try.func118 U U U (n:=6) ae (aL U) (.sr (.an (.nil (.sr ?_))))
 refine .mv ?_
 refine .vl (Y.zf U U U) (.vl (Y.zg U U U) (.an (.nil (.ret ?_))))
 exact .ri rfl (by unfold iy; (repeat' split) <;> omega)
theorem Dz{w:Int}:ay Try.prog 167 [vi w] [] [] (fun r o=>r = .v (.int .u64 ((2 ^ iy w - 1:Nat):Int)) /\ o = []):=by
 refine ay.of Try.func167 U U U (n:=10) ae (aL U) ?_
 have hl:=n8 w
 refine .sr (.an ?_)
 refine .nil (.seq (.sr (.mv ?_)))
 refine .bm OL (yB (w:=w)) U (.ai U U .nil) ae U ?_
 refine .an (.nil (.sr ?_))
 refine .mv ?_
 refine .vl (Y.qm U U) (.nil (.a8 U (fun c6=>?_) (fun c6=>?_)))
 refine .sr (.an (.nil (.ret ?_)))
 exact .ri rfl (by rw [show iy w = 0 by omega]; rfl)
 refine .skip (.sr (.mv ?_))
 refine .vl (Y.wc U U aH) (.vl (Y.zx (a:=18446744073709551615) ((64 - ((iy w:Nat):Int)).toNat) U U om om) (.an (.nil (.ret ?_))))
 exact .ri rfl (by rw [show ((64:Int) - ((iy w:Nat):Int)).toNat = 64 - iy w by omega,HX])
theorem kZ{w:Int}{x:Nat}(hx:x < 18446744073709551616):ay Try.prog 117 [vi w,.v (.int .u64 (x:Int))] [] [] (fun r o=>r = .v (.int .u64 ((jM w x:Nat):Int)) /\ o = []):=by
 refine ay.of Try.func117 U U U (n:=9) ae (aL U) ?_
 have hm:=HY w
 refine .sr (.an (.nil (.sr ?_)))
 refine .mv ?_
 refine .mv ?_
 refine .bm OG (Dz (w:=w)) U (.ai U U .nil) ae U (.vl (Y.qe (a:=x) (b:=(2 ^ iy w - 1)) U U om) (.an (.nil (.ret ?_))))
 exact .ri rfl (by rw [EM])
theorem oV{w:Int}:ay Try.prog 189 [vi w] [] [] (fun r o=>r = .v (.bool (decide (km w))) /\ o = []):=by
 refine ay.of Try.func189 U U U (n:=9) ae (aL U) (.sr (.an (.nil (.sr ?_))))
 refine .mv ?_
 refine .vl (Y.qq U U) (.mv ?_)
 refine .aG (d:=5) U (fun c5=>?_) (fun c5=>?_)
 refine .gw 5 (Y.zh U U) (.gw 5 (Y.za U U) (.pk ?_))
 refine .an (.nil (.ret ?_))
 exact .rb rfl (dd (by (simp only [km]) <;> (first | omega | grind)))
 refine .gz 5 (.gz 5 (.pk ?_))
 refine .an (.nil (.ret ?_))
 exact .rb rfl (df (by (simp only [km]) <;> (first | omega | grind)))
theorem rL{w:Int}:ay Try.prog 42 [vi w] [] [] (fun r o=>r = .v (.bool (decide (km w))) /\ o = []):=by
 refine ay.of Try.func42 U U U (n:=9) ae (aL U) (.sr (.an (.nil (.sr ?_))))
 refine .mv ?_
 refine .vl (Y.qq U U) (.mv ?_)
 refine .aG (d:=5) U (fun c5=>?_) (fun c5=>?_)
 refine .gw 5 (Y.zh U U) (.gw 5 (Y.za U U) (.pk ?_))
 refine .an (.nil (.ret ?_))
 exact .rb rfl (dd (by (simp only [km]) <;> (first | omega | grind)))
 refine .gz 5 (.gz 5 (.pk ?_))
 refine .an (.nil (.ret ?_))
 exact .rb rfl (df (by (simp only [km]) <;> (first | omega | grind)))
theorem AN{w:Int}:ay Try.prog 88 [vi w] [] [] (fun r o=>r = .v (.bool (decide (Unary w))) /\ o = []):=by
 refine ay.of Try.func88 U U U (n:=13) ae (aL U) (.sr (.an (.nil (.sr ?_))))
 refine .mv ?_
 refine .vl (Y.qm U U) (.mv ?_)
 refine .aG (d:=5) U (fun c5=>?_) (fun c5=>?_)
 refine .gz 5 (.gz 5 (.pk ?_))
 refine .mv ?_
 refine .gz 9 (.gz 9 (.pk ?_))
 refine .an (.nil (.ret ?_))
 exact .rb rfl (dt (by (simp only [Unary]) <;> (first | omega | grind)))
 refine .gw 5 (Y.zh U U) (.gw 5 (Y.qm U U) (.pk ?_))
 refine .mv ?_
 refine .aG (d:=9) U (fun c9=>?_) (fun c9=>?_)
 refine .gz 9 (.gz 9 (.pk ?_))
 refine .an (.nil (.ret ?_))
 exact .rb rfl (dt (by (simp only [Unary]) <;> (first | omega | grind)))
 refine .gw 9 (Y.zh U U) (.gw 9 (Y.qm U U) (.pk ?_))
 refine .an (.nil (.ret ?_))
 exact .rb rfl (dd (by (simp only [Unary]) <;> (first | omega | grind)))
theorem la{w:Int}:ay Try.prog 93 [vi w] [] [] (fun r o=>r = .v (.bool (decide (cT w))) /\ o = []):=by
 refine ay.of Try.func93 U U U (n:=13) ae (aL U) (.sr (.an (.nil (.sr ?_))))
 refine .mv ?_
 refine .vl (Y.qm U U) (.mv ?_)
 refine .aG (d:=5) U (fun c5=>?_) (fun c5=>?_)
 refine .gz 5 (.gz 5 (.pk ?_))
 refine .mv ?_
 refine .gz 9 (.gz 9 (.pk ?_))
 refine .an (.nil (.ret ?_))
 exact .rb rfl (dt (by (simp only [cT]) <;> (first | omega | grind)))
 refine .gw 5 (Y.zh U U) (.gw 5 (Y.qm U U) (.pk ?_))
 refine .mv ?_
 refine .aG (d:=9) U (fun c9=>?_) (fun c9=>?_)
 refine .gz 9 (.gz 9 (.pk ?_))
 refine .an (.nil (.ret ?_))
 exact .rb rfl (dt (by (simp only [cT]) <;> (first | omega | grind)))
 refine .gw 9 (Y.zh U U) (.gw 9 (Y.qm U U) (.pk ?_))
 refine .an (.nil (.ret ?_))
 exact .rb rfl (dd (by (simp only [cT]) <;> (first | omega | grind)))
open Go Go.AW Go.Proofs
theorem DA{w:Int}{x:Nat}(hx:x < 18446744073709551616):ay Try.prog 81 [vi w,.v (.int .u64 (x:Int))] [] [] (fun r o=>r = .dn 1 ((jI (iy w) x).map ag) /\ o = []):=by
 refine ay.of Try.func81 U U U (n:=22) ae (aL U) ?_
 have hl:=n8 w
 refine .sr (.an (.nil (.sr ?_)))
 refine .an ?_
 refine .sh (Sh.nil (d:=5) 105 1 U ae) (.nil (.seq (.sr (.an (.nil (.block ?_))))))
 refine .eg (fun (tm:Nat) (uI:Nat) (bd:List Int)=>⟨[(0,vi w),(1,.v (.int .u64 (tm:Int))),(5,.aR 105 1 0 bd.length),(6,vi uI)],[(105,.rows 1 (bd.map ag))]⟩) (fun tm uI bd=>((uI:Int) <= ((iy w:Nat):Int)) /\ (bd.length = uI) /\ (bd = jI uI x) /\ (tm = x / 2 ^ uI) /\ (tm < 18446744073709551616)) (fun tm uI bd=>(((iy w:Nat):Int) - (uI:Int)).toNat) x 0 ([]:List Int) (⟨pj,U,U,by simp,hx⟩) (Le.mk (.c (.cons (ak U bj) (.cons (aP U aH) (.cons (ak U bj) .nil)))) (.c .nil)) (fun tm uI bd qM=>?_)
 obtain ⟨Ec,hlen,hb,hv,hm⟩:=qM
 refine .seq (.sr (.mv ?_))
 refine .mv ?_
 refine .bm O8 (yC (w:=w)) U (.ai U U .nil) ae U (.vl (Y.zd U U) (.nil (.a8 U (fun L9=>?_) (fun L9=>?_))))
 refine .skip (.seq (.block (.sr (.mv ?_))))
 refine .mv ?_
 refine .vl (Y.zu (a:=tm) (b:=2) U U om) (.vl (Y.ql Av sx U Ai) (.buildSlice (([((tm % 2:Nat):Int)]:List Int).map ag) az cP U U U U U (aj (s:=1) (f:=ag) (fun _=>U)) U U U ae ?_))
 refine .cL ag (bd ++ ([((tm % 2:Nat):Int)]:List Int)) az cP U U U U (aV aH) (aM aH) (bs aH) aH aH ae ae ?_
 refine .an (.nil (.region ?_))
 refine .mv ?_
 refine .vl (Y.zr (a:=tm) (b:=2) U U om) (.an (.nil (.region ?_)))
 refine .mv ?_
 refine .vl (Y.qb U U aH) (.an ?_)
 refine .nil (⟨tm / 2,uI + 1,bd ++ ([((tm % 2:Nat):Int)]:List Int),⟨om,by simp; omega,by rw [hb,Am,hv],by rw [hv,Nat.div_div_eq_div_mul,Nat.pow_succ],om⟩,om,Le.mk (.c (.cons (ak U bj) (.cons (aP U om) (.cons (ak U bj) .nil)))) (.c .nil)⟩)
 refine .exit (.sr (.mv ?_))
 refine .an ?_
 exact .sh (Sh.cO (d:=4) (o:=105) U U (aF om) ae) (.nil (.ret ⟨_,_,U,U,(CR (fun (z0:List Int)=>X.dn 1 (z0.map ag)) (by rw [hb,show uI = iy w by omega]:bd = jI (iy w) x):X.dn 1 (bd.map ag) = X.dn 1 ((jI (iy w) x).map ag)),U⟩))
theorem DB{l:List Int}(h1:∀ b ∈ l,0 <= b /\ b <= 1)(h2:l.length <= 64):ay Try.prog 80 [.fz 1 (l.map ag)] [] [] (fun r o=>r = .v (.int .u64 ((gg l:Nat):Int)) /\ o = []):=by
 refine ay.of Try.func80 U U U (n:=21) ae (aL U) (.sr (.an (.nil (.sr ?_))))
 refine .an ?_
 refine .nil (.seq (.sr (.mv ?_)))
 refine .vl (Y.qy (n:=l.length) az U fk) (.vl (Y.wc U U aH) (.an (.nil (.block ?_))))
 refine .fH (fun (yD:Nat) (eM:Int)=>⟨[(0,.fz 1 (l.map ag)),(3,.v (.int .u64 (yD:Int))),(4,vi eM)],[]⟩) (fun yD eM=>(-1 <= eM /\ eM < (l.length:Int)) /\ (yD = gg (l.drop (eM + 1).toNat))) (fun yD eM=>(eM + 1).toNat) 0 ((l.length:Int) - 1) (⟨om,by rw [List.drop_eq_nil_of_le om]; rfl⟩) (Le.mk (.c (.cons (ak U bj) (.cons (ak U bj) .nil))) .nil) (fun yD eM qM=>?_)
 obtain ⟨hi,hx⟩:=qM
 refine .seq (.sr (.mv ?_))
 refine .vl (Y.qq U U) (.nil (.a8 U (fun c9=>?_) (fun c9=>?_)))
 refine .skip (.seq (.block (.region (.mv ?_))))
 refine .vl (Y.zk (a:=2) (b:=yD) U U) (.mv ?_)
 refine .mv ?_
 refine .vl (Y.qt (m:=(eM).toNat) az U U om (aq (d:=0) om)) ?_
 have hb:=h1 _ (bQ (l:=l) (i:=eM.toNat) om)
 refine .ld bw ?_
 refine .vl (Y.qk sx Av U (v8 _ om)) (.vl (Y.qc (a:=((2 * yD) % 18446744073709551616)) (b:=((l.getD ((eM).toNat) 0).toNat)) U U) (.an (.nil (.region ?_))))
 refine .mv ?_
 refine .vl (Y.wc U U aH) (.an ?_)
 refine .nil (⟨(((2 * yD) % 18446744073709551616) + ((l.getD ((eM).toNat) 0).toNat)) % 18446744073709551616,eM - 1,⟨om,CV h1 h2 om hx⟩,om,Le.mk (.c (.cons (ak U bj) (.cons (ak U bj) .nil))) .nil⟩)
 refine .exit (.sr (.mv ?_))
 refine .an (.nil (.ret ?_))
 exact .ri rfl (by rw [hx,show (eM + 1).toNat = 0 by omega,List.drop_zero])
theorem vT{w:Int}{x:Nat}(hx:x < 18446744073709551616):ay Try.prog 35 [vi w,.v (.int .u64 (x:Int))] [] [] (fun r o=>r = .v (.int .u64 ((jM w x:Nat):Int)) /\ o = []):=by
 refine ay.of Try.func35 U U U (n:=9) ae (aL U) (.sr (.an (.nil (.sr ?_))))
 refine .mv ?_
 refine .mv ?_
 refine .bm SZ (DA (w:=w) (x:=x) (om)) U (.ai U U (.ai U U .nil)) ae U ?_
 refine .sh (Sh.bS (d:=7) ((jI (iy w) x).map ag) U fI (bN.map aE)) (.bm SY (DB (l:=(jI (iy w) x)) (EN _ _) (by rw [CU]; exact n8 _)) U (.ai U U .nil) ae U ?_)
 refine .an (.nil (.ret ?_))
 exact .ri rfl (by rw [Ao]; rfl)
open Go Go.AW Go.Proofs
end Go.Proofs.Ytlimckldnjmabaa
namespace Go.Proofs.Ytlimckldnjmabaa
open Go Go.AW Go.Proofs
open Go Go.AW Go.Proofs
end Go.Proofs.Ytlimckldnjmabaa
namespace Go.Proofs.Ytlimckldnjmabaa
open Go Go.AW Go.Proofs
open Go Go.AW Go.Proofs
end Go.Proofs.Ytlimckldnjmabaa
namespace Go.Proofs.Ytlimckldnjmabaa
open Go Go.AW Go.Proofs
open Go Go.AW
def Cz(n:ab)(k:Nat)(kn:List Bool):Prop:=∀ w:Int,In w n.aa.length -> (kn.getD w.toNat false = true ↔ ∃ j,cJ n j w /\ j < k /\ ¬ cT (n.cell j).kind)
theorem Cz.init(n:ab):Cz n 0 (List.replicate n.aa.length false):=by
 intro w hw
 unfold In at hw
 rw [List.getD_eq_getElem?_getD,List.getElem?_replicate,if_pos om]
 exact ⟨fun h=>(by cases h),fun ⟨j,h1,h2,_⟩=>(by have:=h1.1; omega)⟩
theorem Cz.skip{n:ab}{k:Nat}{l:List Bool}(h:Cz n k l)(hc:cT (n.cells.getD k default).kind \/ (n.cells.getD k default).kind = 7):Cz n (k + 1) l:=by
 intro w hw
 rw [h w hw]
 constructor
 ·rintro ⟨j,h1,h2,h3⟩; exact ⟨j,h1,om,h3⟩
 ·rintro ⟨j,h1,h2,h3⟩
  refine ⟨j,h1,?_,h3⟩
  rcases Int.lt_or_eq_of_le (show j <= k by omega) with h' | h'
  ·exact h'
  ·subst h'
   rcases hc with hc | hc
   ·exact absurd hc h3
   ·exact absurd hc h1.2.1
theorem Cz.step{n : ab}{k : Nat}{l : List Bool}(h : Cz n k l)(hk : k < n.cells.length)(hl : l.length = n.aa.length)(hc : ¬ cT (n.cells.getD k default).kind)(h7 : (n.cells.getD k default).kind ≠ 7)(ho : In (n.cells.getD k default).out n.aa.length) :
  Cz n (k + 1) (l.set (n.cells.getD k default).out.toNat true):=by
 intro w hw
 unfold In at ho
 have rZ:=hw
 unfold In at rZ
 rw [bR]
 by_cases e:(n.cells.getD k default).out = w
 ·rw [if_pos ⟨om,om⟩]
  exact ⟨fun _=>⟨(k:Int),⟨⟨om,om⟩,h7,e⟩,om,hc⟩,fun _=>rfl⟩
 ·rw [if_neg om,h w hw]
  constructor
  ·rintro ⟨j,h1,h2,h3⟩; exact ⟨j,h1,om,h3⟩
  ·rintro ⟨j,h1,h2,h3⟩
   refine ⟨j,h1,?_,h3⟩
   rcases Int.lt_or_eq_of_le (show j <= k by omega) with h' | h'
   ·exact h'
   ·subst h'; exact absurd h1.2.2 e
structure LD(n:ab)(done:List Int)(kn:List Bool)(left:Int):Prop where
 nd:done.Nodup
 cm:∀ x ∈ done,bD n x
 kn:∀ w,In w n.aa.length -> (kn.getD w.toNat false = true ↔ ¬ Open n done w)
 left:left = (n.cells.length:Int) - ((ju n n.cells.length).length:Int) - (done.length:Int)
 oq:∀ p i s,done = p ++ i :: s -> ef n p i = 0
section
variable {n:ab} (hf:bg n)
include hf
theorem LD.init{kn:List Bool}(h:Cz n n.cells.length kn):LD n [] kn ((n.cells.length:Int) - ((ju n n.cells.length).length:Int)) where
 nd:=List.nodup_nil
 cm:=fun _ h=>(by cases h)
 kn:=fun w hw=>by
  rw [h w hw]
  constructor
  ·rintro ⟨j,h1,h2,h3⟩ ⟨⟨i,hi,e⟩,_⟩
   have:=hf.unique h1 (e ▸ hi.kG)
   subst this; exact h3 hi.2
  ·intro ho
   obtain ⟨j,hj⟩:=hf.kH hw
   refine ⟨j,hj,by have:=hj.1; omega,fun hc=>ho ⟨⟨j,⟨hj.1,hc⟩,hj.2.2⟩,fun _ h=>(by cases h)⟩⟩
 left:=by simp
 oq:=fun p i s h=>by simp at h
theorem LD.step{done : List Int}{kn : List Bool}{left i : Int}(h : LD n done kn left)(hl : kn.length = n.aa.length)(hi : bD n i)(hk : kn.getD (n.cell i).out.toNat false = false)(hz : ef n done i = 0) :
  LD n (done ++ [i]) (kn.set (n.cell i).out.toNat true) (left - 1):=by
 have LC:=hf.jh hi.kG
 have KT:Open n done (n.cell i).out:=Classical.byContradiction fun hh=>by
  have:=(h.kn _ LC).2 hh
  rw [hk] at this; cases this
 have Ov:i ∉ done:=fun hm=>KT.2 i hm rfl
 refine ⟨?_,fun x hx=>?_,fun w hw=>?_,?_,fun p j s e=>?_⟩
 ·rw [List.nodup_append]
  exact ⟨h.nd,by simp,fun a ha b hb e=>Ov (by rw [<- List.mem_singleton.1 hb,<- e]; exact ha)⟩
 ·rcases List.mem_append.1 hx with hx | hx
  ·exact h.cm x hx
  ·rw [List.mem_singleton.1 hx]; exact hi
 ·unfold In at LC
  have rZ:=hw
  unfold In at rZ
  have ho:Open n (done ++ [i]) w ↔ Open n done w /\ (n.cell i).out ≠ w:=by
   constructor
   ·rintro ⟨a,b⟩
    exact ⟨⟨a,fun j hj=>b j (by simp [hj])⟩,b i (by simp)⟩
   ·rintro ⟨⟨a,b⟩,c⟩
    refine ⟨a,fun j hj=>?_⟩
    rcases List.mem_append.1 hj with hj | hj
    ·exact b j hj
    ·rw [List.mem_singleton.1 hj]; exact c
  rw [bR,ho]
  by_cases e:(n.cell i).out = w
  ·rw [if_pos ⟨om,om⟩]
   exact ⟨fun _ h=>h.2 e,fun _=>rfl⟩
  ·rw [if_neg om,h.kn w hw]
   exact ⟨fun h1 h2=>h1 h2.1,fun h1 h2=>h1 ⟨h2,e⟩⟩
 ·rw [h.left,List.length_append]; simp; omega
 ·rcases List.eq_nil_or_concat s with rfl | ⟨s',x,rfl⟩
  ·obtain ⟨rfl,e3⟩:=List.append_inj' (t₁:=[i]) (t₂:=[j]) e rfl
   cases e3
   exact hz
  ·have e2:=List.append_inj' (s₁:=done) (s₂:=p ++ j :: s') (t₁:=[i]) (t₂:=[x]) (by rw [e]; simp) rfl
   exact h.oq p j s' e2.1
theorem LD.known{done:List Int}{kn:List Bool}{left:Int}(h:LD n done kn left){i:Int}(hi:0 <= i /\ i < n.cells.length):(∀ x ∈ (n.cell i).args,kn.getD x.toNat false = true) ↔ ef n done i = 0:=by
 unfold ef
 rw [List.countP_eq_zero]
 constructor
 ·intro hh x hx ho
  exact (h.kn x (hf.pR hi hx)).1 (hh x hx) (of_decide_eq_true ho)
 ·intro hh x hx
  exact (h.kn x (hf.pR hi hx)).2 (fun ho=>hh x hx (decide_eq_true ho))
def Gi(n:ab)(k:Int)(done:List Int):Prop:=∀ i,bD n i -> i < k -> Open n done (n.cell i).out -> ef n done i ≠ 0
theorem LD.ki{done:List Int}{kn:List Bool}{left:Int}(h:LD n done kn left)(hs:Gi n n.cells.length done):KI n done [] ((List.range n.cells.length).map (fun (i:Nat)=>(ef n done (i:Int):Int))) where
 nd:=by simpa using h.nd
 cm:=fun x hx=>h.cm x (by simpa using hx)
 mN:=fun i hi=>by
  have hb:=hi.1
  rw [List.getD_eq_getElem?_getD,List.getElem?_map,List.getElem?_range om]
  simp only [Option.map_some,Option.getD_some]
  rw [show (i.toNat:Int) = i by omega]
 full:=fun i hi=>by
  rw [List.append_nil]
  constructor
  ·intro hm
   obtain ⟨p,s,e⟩:=List.append_of_mem hm
   have:=h.oq p i s e
   rw [p5] at this ⊢
   intro x hx hc
   obtain ⟨j,hj,e2⟩:=this x hx hc
   exact ⟨j,by rw [e]; simp [hj],e2⟩
  ·intro hz
   refine Classical.byContradiction fun hn=>hs i hi hi.1.2 ⟨⟨i,hi,rfl⟩,fun j hj e=>hn ?_⟩ hz
   have:=hf.unique (h.cm j hj).kG (e ▸ hi.kG)
   exact this ▸ hj
 oq:=h.oq
theorem LD.res{done:List Int}{kn:List Bool}{left:Int}(h:LD n done kn left)(hs:Gi n n.cells.length done):0 < left ↔ ¬ Acyclic n:=by
 have hk:=h.ki hf hs
 have hl:=h.left
 constructor
 ·intro h0
  exact hk.J9 (by rw [List.length_append]; omega)
 ·intro ha
  refine Classical.byContradiction fun h0=>ha (hk.ok hf (by rw [List.length_append]; omega)).1
end
theorem LD.pos{n:ab}{done:List Int}{kn:List Bool}{left:Int}(h:LD n done kn left):0 <= left /\ left <= n.cells.length:=by
 have js:(ju n n.cells.length ++ done).Nodup:=by
  rw [List.nodup_append]
  refine ⟨uo _ _,h.nd,fun a ha b hb e=>?_⟩
  subst e
  exact (kr.1 ha).2 (h.cm a hb).2
 have:=length_le_of_subset (m:=(List.range n.cells.length).map (fun (i:Nat)=>(i:Int))) js (fun x hx=>by
  have jw:0 <= x /\ x < n.cells.length:=by
   rcases List.mem_append.1 hx with hx | hx
   ·exact (kr.1 hx).1
   ·exact (h.cm x hx).1
  exact List.mem_map.2 ⟨x.toNat,List.mem_range.2 om,om⟩)
 rw [List.length_append,List.length_map,List.length_range] at this
 have hl:=h.left
 omega
def IX(n:ab)(k pY:Int)(kn:List Bool)(left:Int)(more:Bool):Prop:=∃ done,LD n done kn left /\ left <= pY /\ (more = true -> left < pY) /\ (more = false -> Gi n k done)
theorem IX.seq{n:ab}{k:Nat}{pY left:Int}{kn:List Bool}{more:Bool}(h:IX n k pY kn left more)(hc:¬ cT (n.cells.getD k default).kind):IX n ((k + 1:Nat):Int) pY kn left more:=by
 obtain ⟨done,h1,h2,h3,h4⟩:=h
 refine ⟨done,h1,h2,h3,fun hm i hi h0=>h4 hm i hi (n9 hc hi h0)⟩
section
variable {n:ab} (hf:bg n) {k:Nat} {pY left:Int} {kn:List Bool} {more:Bool}
include hf
theorem IX.skip(h:IX n k pY kn left more)(hk:k < n.cells.length)(hc:kn.getD (n.cells.getD k default).out.toNat false = true \/ ¬ ∀ x ∈ (n.cells.getD k default).args,kn.getD x.toNat false = true)(DX:cT (n.cells.getD k default).kind):IX n ((k + 1:Nat):Int) pY kn left more:=by
 obtain ⟨done,h1,h2,h3,h4⟩:=h
 have hi:bD n (k:Int):=⟨⟨om,om⟩,DX⟩
 refine ⟨done,h1,h2,h3,fun hm i Za h0=>?_⟩
 by_cases e:i = k
 ·subst e
  intro ho hz
  rcases hc with hc | hc
  ·exact (h1.kn _ (hf.jh hi.kG)).1 hc ho
  ·exact hc ((h1.known hf hi.1).2 hz)
 ·exact h4 hm i Za om
theorem IX.step(h : IX n k pY kn left more)(hk : k < n.cells.length)(hl : kn.length = n.aa.length)(h1 : kn.getD (n.cells.getD k default).out.toNat false = false)(h2 : ∀ x ∈ (n.cells.getD k default).args, kn.getD x.toNat false = true)(DX : cT (n.cells.getD k default).kind) :
  IX n ((k + 1:Nat):Int) pY (kn.set (n.cells.getD k default).out.toNat true) (left - 1) true:=by
 obtain ⟨done,a1,a2,a3,a4⟩:=h
 have hi:bD n (k:Int):=⟨⟨om,om⟩,DX⟩
 refine ⟨done ++ [(k:Int)],a1.step hf hl hi h1 ((a1.known hf hi.1).1 h2),om,fun _=>by omega,fun h=>(by cases h)⟩
end
theorem Cz.next{n : ab}(hf : bg n){k : Nat}{kn : List Bool}(h : Cz n k kn)(hk : k < n.cells.length)(hl : kn.length = n.aa.length) :
  (¬ cT (n.cells.getD k default).kind -> 0 <= (n.cells.getD k default).out -> Cz n (k + 1) (kn.set (n.cells.getD k default).out.toNat true)) /\ (cT (n.cells.getD k default).kind -> Cz n (k + 1) kn /\ 0 <= (n.cells.getD k default).out) /\
  (¬ 0 <= (n.cells.getD k default).out -> Cz n (k + 1) kn) /\ (0 <= (n.cells.getD k default).out -> (n.cells.getD k default).out < n.aa.length):=by
 obtain ⟨_,_,a3,a4⟩:=hf.cells k hk
 refine ⟨fun hc ho=>?_,fun hc=>⟨h.skip (.inl hc),?_⟩,fun ho=>?_,fun ho=>?_⟩
 ·have h7:(n.cells.getD k default).kind ≠ 7:=fun h7=>by have:=a3 h7; omega
  exact h.step hk hl hc h7 (a4 h7)
 ·have h7:(n.cells.getD k default).kind ≠ 7:=fun h7=>by rw [h7] at hc; revert hc; unfold cT; omega
  exact (a4 h7).1
 ·have h7:(n.cells.getD k default).kind = 7:=Classical.byContradiction fun h7=>ho (a4 h7).1
  exact h.skip (.inr h7)
 ·have h7:(n.cells.getD k default).kind ≠ 7:=fun h7=>by have:=a3 h7; omega
  exact (a4 h7).2
open Go Go.AW
end Go.Proofs.Ytlimckldnjmabaa
namespace Go.Proofs.Ytlimckldnjmabaa
open Go Go.AW Go.Proofs
open Go Go.AW Go.Proofs
end Go.Proofs.Ytlimckldnjmabaa
namespace Go.Proofs.Ytlimckldnjmabaa
open Go Go.AW Go.Proofs
theorem yE{n:ab}{c:Cell}(hs:n.Small)(hc:c.args.length <= 17592186043904):ay Try.prog 160 [.agg (ab.row n),.agg (Cell.row c)] [] [] (fun r o=>r = .v (.bool (decide (Shaped n c))) /\ o = []):=by
 refine ay.of Try.func160 U U U (n:=132) ae (aL U) ?_
 have RH:=hs.ins; have RI:=hs.aA; have TB:=hs.streams
 refine .sr (.box 102 U U U U U ae (.box 103 U U U U U ae ?_))
 refine .an (.nil (.sr ?_))
 refine .an ?_
 refine .an ?_
 refine .an ?_
 refine .an ?_
 refine .nil (.seq (.sr (.fa du ?_)))
 refine .ld bw ?_
 refine .nil (.block (.sr (.vl (Y.qm U U) (.an (.nil ?_)))))
 refine .a8 U (fun RJ=>?_) (fun RJ=>?_)
 refine .region (.an (.nil ?_))
 refine .ub (⟨[(2,.ptr 102 0 0 0),(3,.ptr 103 0 0 0),(8,vi (-1))],[(102,.cells (ab.row n)),(103,.cells (Cell.row c))]⟩) (((¬ ((c.args.length:Int) ≠ 0)) /\ (¬ (c.op ≠ 0)) /\ ((c.num:Int) ≠ 0)) \/ ((¬ ((c.args.length:Int) ≠ 0)) /\ (¬ (c.op ≠ 0)) /\ (¬ ((c.num:Int) ≠ 0)))) ?_ (fun Gj=>?_)
 refine .sr (.fa cd ?_)
 refine .ld bu ?_
 refine .vl (Y.qy (n:=c.args.length) az U fk) (.mv ?_)
 refine .vl (Y.zl U U) (.mv ?_)
 refine .aG (d:=88) U (fun oW=>?_) (fun oW=>?_)
 refine .gz 88 (.gz 88 (.gz 88 (.gz 88 (.pk ?_))))
 refine .mv ?_
 refine .gz 94 (.gz 94 (.gz 94 (.gz 94 (.gz 98 (.gz 98 (.gz 94 (.pk ?_)))))))
 refine .nil (.bf U (.sr (.an (.nil (.ret ?_)))))
 exact .rb rfl (df gX)
 refine .gw 88 (Y.qp eQ U U) (.gw 88 (Y.zb bw U U U U) (.gw 88 (Y.zh U U) (.gw 88 (Y.zl U U) (.pk ?_))))
 refine .mv ?_
 refine .aG (d:=94) U (fun pP=>?_) (fun pP=>?_)
 refine .gz 94 (.gz 94 (.gz 94 (.gz 94 (.gz 98 (.gz 98 (.gz 94 (.pk ?_)))))))
 refine .nil (.bf U (.sr (.an (.nil (.ret ?_)))))
 exact .rb rfl (df gX)
 refine .gw 94 (Y.qp eh U U) (.gw 94 (Y.zb iN U U U U) (.gw 94 (Y.zl U U) (.gw 94 (Y.zh U U) (.aG (d:=98) U (fun ox=>?_) (fun ox=>?_)))))
 refine .gw 98 (Y.zh U U) (.gw 98 (Y.zn U) (.gw 94 (Y.zo U U U) (.pk ?_)))
 exact .nil (.dA U (.skip (⟨.inl ⟨oW,pP,ox⟩,Le.mk (.c2 (.c .nil)) (.c (.c .nil))⟩)))
 refine .gz 98 (.gz 98 (.gw 94 (Y.zo U U U) (.pk ?_)))
 exact .nil (.dA U (.skip (⟨.inr (⟨oW,pP,ox⟩),Le.mk (.c2 (.c .nil)) (.c (.c .nil))⟩)))
 refine .seq (.sr (.mv ?_))
 refine .vl (Y.zd U U) (.nil (.bf U ?_))
 refine .sr (.fa dv ?_)
 refine .ld bw ?_
 refine .vl (Y.qm U U) (.an (.nil (.ret ?_)))
 exact .rb rfl (dd gX)
 refine .sr (.vl (Y.qm U U) (.an (.nil ?_)))
 refine .a8 U (fun wW=>?_) (fun wW=>?_)
 refine .seq (.dS U (.blind 0 U au (aw.fieldAddr eQ U U) ae ?_))
 refine .blind 3 U au (aw.fieldAddr eQ U U) ae ?_
 refine .two 1 4 U U au ?_ ?_
 refine .ld bw ?_
 refine .nil ⟨U,(.two 2 4 U U au ?_ ?_)⟩
 refine .bm Fg (m7 (op:=c.op)) U (.ai U U .nil) ae U ?_
 refine .nil ⟨U,(.bX (n:=0) [4,5,6] [] 0 U au (.cn 4 U (Y.zb bw U U U U) (.cn 5 U (Y.qf U U) (.cn 6 U (Y.qf U U) (.nil (.done au (.sr (.mv ?_))))))))⟩
 refine .vl (Y.qm U U) (.nil (.a8 U (fun Dy=>?_) (fun Dy=>?_)))
 refine .sr (.an (.nil (.ret ?_)))
 exact .rb rfl (df gX)
 refine .skip (.seq (.sr (.fa cd ?_)))
 refine .ld bu ?_
 refine .vl (Y.qy (n:=c.args.length) az U fk) (.mv ?_)
 refine .vl (Y.zl U U) (.mv ?_)
 refine .aG (d:=88) U (fun oW=>?_) (fun oW=>?_)
 refine .gz 88 (.gz 88 (.gz 88 (.gz 88 (.pk ?_))))
 refine .mv ?_
 refine .gz 94 (.gz 94 (.gz 94 (.gz 94 (.gz 98 (.gz 98 (.gz 94 (.pk ?_)))))))
 refine .nil (.bf U (.sr (.an (.nil (.ret ?_)))))
 exact .rb rfl (df gX)
 refine .gw 88 (Y.qp eQ U U) (.gw 88 (Y.zb bw U U U U) (.gw 88 (Y.zh U U) (.gw 88 (Y.zl U U) (.pk ?_))))
 refine .mv ?_
 refine .aG (d:=94) U (fun pP=>?_) (fun pP=>?_)
 refine .gz 94 (.gz 94 (.gz 94 (.gz 94 (.gz 98 (.gz 98 (.gz 94 (.pk ?_)))))))
 refine .nil (.bf U (.sr (.an (.nil (.ret ?_)))))
 exact .rb rfl (df gX)
 refine .gw 94 (Y.qp eh U U) (.gw 94 (Y.zb iN U U U U) (.gw 94 (Y.zl U U) (.gw 94 (Y.zh U U) (.aG (d:=98) U (fun ox=>?_) (fun ox=>?_)))))
 refine .gw 98 (Y.zh U U) (.gw 98 (Y.zn U) (.gw 94 (Y.zo U U U) (.pk ?_)))
 refine .nil (.bf U (.sr (.an (.nil (.ret ?_)))))
 exact .rb rfl (df gX)
 refine .gz 98 (.gz 98 (.gw 94 (Y.zo U U U) (.pk ?_)))
 refine .nil (.dA U (.skip (.seq (.sr (.mv ?_)))))
 refine .vl (Y.zd U U) (.nil (.bf U ?_))
 refine .sr (.fa dv ?_)
 refine .ld bw ?_
 refine .vl (Y.qm U U) (.an (.nil (.ret ?_)))
 exact .rb rfl (dd gX)
 refine .ld bw ?_
 refine .nil ⟨U,(.one 2 U au (.bm Fg (m7 (op:=c.op)) U (.ai U U .nil) ae U ?_))⟩
 refine .nil ⟨U,(.bX (n:=0) [5,6] [] 0 U au (.cn 5 U (Y.qf U U) (.cn 6 U (Y.qf U U) (.nil (.done au (.sr (.mv ?_)))))))⟩
 refine .vl (Y.qm U U) (.nil (.a8 U (fun Dy=>?_) (fun Dy=>?_)))
 refine .sr (.an (.nil (.ret ?_)))
 exact .rb rfl (df gX)
 refine .skip (.seq (.sr (.fa cd ?_)))
 refine .ld bu ?_
 refine .vl (Y.qy (n:=c.args.length) az U fk) (.mv ?_)
 refine .vl (Y.zl U U) (.mv ?_)
 refine .aG (d:=88) U (fun oW=>?_) (fun oW=>?_)
 refine .gz 88 (.gz 88 (.gz 88 (.gz 88 (.pk ?_))))
 refine .mv ?_
 refine .gz 94 (.gz 94 (.gz 94 (.gz 94 (.gz 98 (.gz 98 (.gz 94 (.pk ?_)))))))
 refine .nil (.bf U (.sr (.an (.nil (.ret ?_)))))
 exact .rb rfl (df gX)
 refine .gw 88 (Y.qp eQ U U) (.gw 88 (Y.zb bw U U U U) (.gw 88 (Y.zh U U) (.gw 88 (Y.zl U U) (.pk ?_))))
 refine .mv ?_
 refine .aG (d:=94) U (fun pP=>?_) (fun pP=>?_)
 refine .gz 94 (.gz 94 (.gz 94 (.gz 94 (.gz 98 (.gz 98 (.gz 94 (.pk ?_)))))))
 refine .nil (.bf U (.sr (.an (.nil (.ret ?_)))))
 exact .rb rfl (df gX)
 refine .gw 94 (Y.qp eh U U) (.gw 94 (Y.zb iN U U U U) (.gw 94 (Y.zl U U) (.gw 94 (Y.zh U U) (.aG (d:=98) U (fun ox=>?_) (fun ox=>?_)))))
 refine .gw 98 (Y.zh U U) (.gw 98 (Y.zn U) (.gw 94 (Y.zo U U U) (.pk ?_)))
 refine .nil (.bf U (.sr (.an (.nil (.ret ?_)))))
 exact .rb rfl (df gX)
 refine .gz 98 (.gz 98 (.gw 94 (Y.zo U U U) (.pk ?_)))
 refine .nil (.dA U (.skip (.seq (.sr (.mv ?_)))))
 refine .vl (Y.zd U U) (.nil (.bf U ?_))
 refine .sr (.fa dv ?_)
 refine .ld bw ?_
 refine .vl (Y.qm U U) (.an (.nil (.ret ?_)))
 exact .rb rfl (dd gX)
 refine .ld bw ?_
 refine .nil ⟨U,(.bX (n:=3) [1] [2,5,6] 2 U au (.cn 1 U (Y.zb bw U U U U) (.nil (.one 2 U au (.bm Fg (m7 (op:=c.op)) U (.ai U U .nil) ae U ?_)))))⟩
 refine .nil ⟨U,(.bX (n:=0) [5,6] [] 0 U au (.cn 5 U (Y.qf U U) (.cn 6 U (Y.qf U U) (.nil (.done au (.sr (.mv ?_)))))))⟩
 refine .vl (Y.qm U U) (.nil (.a8 U (fun Dy=>?_) (fun Dy=>?_)))
 refine .sr (.an (.nil (.ret ?_)))
 exact .rb rfl (df gX)
 refine .skip (.seq (.sr (.fa cd ?_)))
 refine .ld bu ?_
 refine .vl (Y.qy (n:=c.args.length) az U fk) (.mv ?_)
 refine .vl (Y.zl U U) (.mv ?_)
 refine .aG (d:=88) U (fun oW=>?_) (fun oW=>?_)
 refine .gz 88 (.gz 88 (.gz 88 (.gz 88 (.pk ?_))))
 refine .mv ?_
 refine .gz 94 (.gz 94 (.gz 94 (.gz 94 (.gz 98 (.gz 98 (.gz 94 (.pk ?_)))))))
 refine .nil (.bf U (.sr (.an (.nil (.ret ?_)))))
 exact .rb rfl (df gX)
 refine .gw 88 (Y.qp eQ U U) (.gw 88 (Y.zb bw U U U U) (.gw 88 (Y.zh U U) (.gw 88 (Y.zl U U) (.pk ?_))))
 refine .mv ?_
 refine .aG (d:=94) U (fun pP=>?_) (fun pP=>?_)
 refine .gz 94 (.gz 94 (.gz 94 (.gz 94 (.gz 98 (.gz 98 (.gz 94 (.pk ?_)))))))
 refine .nil (.bf U (.sr (.an (.nil (.ret ?_)))))
 exact .rb rfl (df gX)
 refine .gw 94 (Y.qp eh U U) (.gw 94 (Y.zb iN U U U U) (.gw 94 (Y.zl U U) (.gw 94 (Y.zh U U) (.aG (d:=98) U (fun ox=>?_) (fun ox=>?_)))))
 refine .gw 98 (Y.zh U U) (.gw 98 (Y.zn U) (.gw 94 (Y.zo U U U) (.pk ?_)))
 refine .nil (.bf U (.sr (.an (.nil (.ret ?_)))))
 exact .rb rfl (df gX)
 refine .gz 98 (.gz 98 (.gw 94 (Y.zo U U U) (.pk ?_)))
 refine .nil (.dA U (.skip (.seq (.sr (.mv ?_)))))
 refine .vl (Y.zd U U) (.nil (.bf U ?_))
 refine .sr (.fa dv ?_)
 refine .ld bw ?_
 refine .vl (Y.qm U U) (.an (.nil (.ret ?_)))
 exact .rb rfl (dd gX)
 refine .sr (.vl (Y.qm U U) (.an (.nil ?_)))
 refine .a8 U (fun mT=>?_) (fun mT=>?_)
 refine .sr (.fa cd ?_)
 refine .ld bu ?_
 refine .vl (Y.qy (n:=c.args.length) az U fk) (.an (.nil (.sr ?_)))
 refine .mv ?_
 refine .vl (Y.zd U U) (.mv ?_)
 refine .aG (d:=29) U (fun Hw=>?_) (fun Hw=>?_)
 refine .gz 29 (.gz 29 (.gz 29 (.pk ?_)))
 refine .nil (.bf U (.sr (.an (.nil (.ret ?_)))))
 exact .rb rfl (df gX)
 refine .gw 29 (Y.zh U U) (.gw 29 (Y.zt U U om) (.gw 29 (Y.qm U U) (.pk ?_)))
 refine .nil (.a8 U (fun LF=>?_) (fun LF=>?_))
 refine .sr (.an (.nil (.ret ?_)))
 exact .rb rfl (df gX)
 refine .skip (.seq (.sr (.fa cd ?_)))
 refine .ld bu ?_
 refine .vl (Y.qy (n:=c.args.length) az U fk) (.mv ?_)
 refine .vl (Y.zl U U) (.mv ?_)
 refine .aG (d:=88) U (fun oW=>?_) (fun oW=>?_)
 refine .gz 88 (.gz 88 (.gz 88 (.gz 88 (.pk ?_))))
 refine .mv ?_
 refine .gz 94 (.gz 94 (.gz 94 (.gz 94 (.gz 98 (.gz 98 (.gz 94 (.pk ?_)))))))
 refine .nil (.bf U (.sr (.an (.nil (.ret ?_)))))
 exact .rb rfl (df gX)
 refine .gw 88 (Y.qp eQ U U) (.gw 88 (Y.zb bw U U U U) (.gw 88 (Y.zh U U) (.gw 88 (Y.zl U U) (.pk ?_))))
 refine .mv ?_
 refine .aG (d:=94) U (fun pP=>?_) (fun pP=>?_)
 refine .gz 94 (.gz 94 (.gz 94 (.gz 94 (.gz 98 (.gz 98 (.gz 94 (.pk ?_)))))))
 refine .nil (.bf U (.sr (.an (.nil (.ret ?_)))))
 exact .rb rfl (df gX)
 refine .gw 94 (Y.qp eh U U) (.gw 94 (Y.zb iN U U U U) (.gw 94 (Y.zl U U) (.gw 94 (Y.zh U U) (.aG (d:=98) U (fun ox=>?_) (fun ox=>?_)))))
 refine .gw 98 (Y.zh U U) (.gw 98 (Y.zn U) (.gw 94 (Y.zo U U U) (.pk ?_)))
 refine .nil (.bf U (.sr (.an (.nil (.ret ?_)))))
 exact .rb rfl (df gX)
 refine .gz 98 (.gz 98 (.gw 94 (Y.zo U U U) (.pk ?_)))
 refine .nil (.dA U (.skip (.seq (.sr (.mv ?_)))))
 refine .vl (Y.zd U U) (.nil (.bf U ?_))
 refine .sr (.fa dv ?_)
 refine .ld bw ?_
 refine .vl (Y.qm U U) (.an (.nil (.ret ?_)))
 exact .rb rfl (dd gX)
 refine .sr (.vl (Y.qm U U) (.an (.nil ?_)))
 refine .a8 U (fun Hx=>?_) (fun Hx=>?_)
 refine .region (.an ?_)
 refine .an (.nil ?_)
 refine .ub (⟨[(2,.ptr 102 0 0 0),(3,.ptr 103 0 0 0),(8,vi (-1))],[(102,.cells (ab.row n)),(103,.cells (Cell.row c))]⟩) (((¬ ((c.args.length:Int) ≠ 2)) /\ (¬ (c.op ≠ 0)) /\ ((c.num:Int) ≠ 0)) \/ ((¬ ((c.args.length:Int) ≠ 2)) /\ (¬ (c.op ≠ 0)) /\ (¬ ((c.num:Int) ≠ 0)))) ?_ (fun Gj=>?_)
 refine .sr (.fa cd ?_)
 refine .ld bu ?_
 refine .vl (Y.qy (n:=c.args.length) az U fk) (.mv ?_)
 refine .vl (Y.zl U U) (.mv ?_)
 refine .aG (d:=88) U (fun oW=>?_) (fun oW=>?_)
 refine .gz 88 (.gz 88 (.gz 88 (.gz 88 (.pk ?_))))
 refine .mv ?_
 refine .gz 94 (.gz 94 (.gz 94 (.gz 94 (.gz 98 (.gz 98 (.gz 94 (.pk ?_)))))))
 refine .nil (.bf U (.sr (.an (.nil (.ret ?_)))))
 exact .rb rfl (df gX)
 refine .gw 88 (Y.qp eQ U U) (.gw 88 (Y.zb bw U U U U) (.gw 88 (Y.zh U U) (.gw 88 (Y.zl U U) (.pk ?_))))
 refine .mv ?_
 refine .aG (d:=94) U (fun pP=>?_) (fun pP=>?_)
 refine .gz 94 (.gz 94 (.gz 94 (.gz 94 (.gz 98 (.gz 98 (.gz 94 (.pk ?_)))))))
 refine .nil (.bf U (.sr (.an (.nil (.ret ?_)))))
 exact .rb rfl (df gX)
 refine .gw 94 (Y.qp eh U U) (.gw 94 (Y.zb iN U U U U) (.gw 94 (Y.zl U U) (.gw 94 (Y.zh U U) (.aG (d:=98) U (fun ox=>?_) (fun ox=>?_)))))
 refine .gw 98 (Y.zh U U) (.gw 98 (Y.zn U) (.gw 94 (Y.zo U U U) (.pk ?_)))
 exact .nil (.dA U (.skip (⟨.inl ⟨oW,pP,ox⟩,Le.mk (.c2 (.c .nil)) (.c (.c .nil))⟩)))
 refine .gz 98 (.gz 98 (.gw 94 (Y.zo U U U) (.pk ?_)))
 exact .nil (.dA U (.skip (⟨.inr (⟨oW,pP,ox⟩),Le.mk (.c2 (.c .nil)) (.c (.c .nil))⟩)))
 refine .seq (.sr (.mv ?_))
 refine .vl (Y.zd U U) (.nil (.bf U ?_))
 refine .sr (.fa dv ?_)
 refine .ld bw ?_
 refine .vl (Y.qm U U) (.an (.nil (.ret ?_)))
 exact .rb rfl (dd gX)
 refine .sr (.vl (Y.qm U U) (.an (.nil ?_)))
 refine .a8 U (fun RK=>?_) (fun RK=>?_)
 refine .seq (.kb U au (.val (Y.qp eQ U U) ae (.val (Y.zb bw U U U U) ae (.val (Y.qf U U) ae (.val (Y.qf U U) ae (.val (Y.qf U U) ae (.nil (.sr (.fa eQ ?_)))))))))
 refine .ld bw ?_
 refine .vl (Y.zd U U) (.mv ?_)
 refine .aG (d:=43) U (fun TC=>?_) (fun TC=>?_)
 refine .gz 43 (.gz 43 (.gz 43 (.pk ?_)))
 refine .mv ?_
 refine .gz 48 (.gz 48 (.gz 48 (.pk ?_)))
 refine .mv ?_
 refine .gz 53 (.gz 53 (.gz 53 (.pk ?_)))
 refine .nil (.bf U (.sr (.an (.nil (.ret ?_)))))
 exact .rb rfl (df gX)
 refine .gw 43 (Y.qp eQ U U) (.gw 43 (Y.zb bw U U U U) (.gw 43 (Y.qr U U) (.pk ?_)))
 refine .mv ?_
 refine .aG (d:=48) U (fun TD=>?_) (fun TD=>?_)
 refine .gz 48 (.gz 48 (.gz 48 (.pk ?_)))
 refine .mv ?_
 refine .gz 53 (.gz 53 (.gz 53 (.pk ?_)))
 refine .nil (.bf U (.sr (.an (.nil (.ret ?_)))))
 exact .rb rfl (df gX)
 refine .gw 48 (Y.qp eh U U) (.gw 48 (Y.zb iN U U U U) (.gw 48 (Y.zd U U) (.pk ?_)))
 refine .mv ?_
 refine .aG (d:=53) U (fun Qf=>?_) (fun Qf=>?_)
 refine .gz 53 (.gz 53 (.gz 53 (.pk ?_)))
 refine .nil (.bf U (.sr (.an (.nil (.ret ?_)))))
 exact .rb rfl (df gX)
 refine .gw 53 (Y.qp eh U U) (.gw 53 (Y.zb iN U U U U) (.gw 53 (Y.qr U U) (.pk ?_)))
 refine .nil (.a8 U (fun LG=>?_) (fun LG=>?_))
 refine .sr (.an (.nil (.ret ?_)))
 exact .rb rfl (df gX)
 refine .skip (.ub (⟨[(2,.ptr 102 0 0 0),(3,.ptr 103 0 0 0),(8,vi (-1))],[(102,.cells (ab.row n)),(103,.cells (Cell.row c))]⟩) (((¬ ((c.args.length:Int) ≠ 2)) /\ (¬ (c.op ≠ c.op)) /\ ((c.num:Int) ≠ 0)) \/ ((¬ ((c.args.length:Int) ≠ 2)) /\ (¬ (c.op ≠ c.op)) /\ (¬ ((c.num:Int) ≠ 0)))) ?_ (fun Gj=>?_))
 refine .sr (.fa cd ?_)
 refine .ld bu ?_
 refine .vl (Y.qy (n:=c.args.length) az U fk) (.mv ?_)
 refine .vl (Y.zl U U) (.mv ?_)
 refine .aG (d:=88) U (fun oW=>?_) (fun oW=>?_)
 refine .gz 88 (.gz 88 (.gz 88 (.gz 88 (.pk ?_))))
 refine .mv ?_
 refine .gz 94 (.gz 94 (.gz 94 (.gz 94 (.gz 98 (.gz 98 (.gz 94 (.pk ?_)))))))
 refine .nil (.bf U (.sr (.an (.nil (.ret ?_)))))
 exact .rb rfl (df gX)
 refine .gw 88 (Y.qp eQ U U) (.gw 88 (Y.zb bw U U U U) (.gw 88 (Y.zh U U) (.gw 88 (Y.zl U U) (.pk ?_))))
 refine .mv ?_
 refine .aG (d:=94) U (fun pP=>?_) (fun pP=>?_)
 refine .gz 94 (.gz 94 (.gz 94 (.gz 94 (.gz 98 (.gz 98 (.gz 94 (.pk ?_)))))))
 refine .nil (.bf U (.sr (.an (.nil (.ret ?_)))))
 exact .rb rfl (df gX)
 refine .gw 94 (Y.qp eh U U) (.gw 94 (Y.zb iN U U U U) (.gw 94 (Y.zl U U) (.gw 94 (Y.zh U U) (.aG (d:=98) U (fun ox=>?_) (fun ox=>?_)))))
 refine .gw 98 (Y.zh U U) (.gw 98 (Y.zn U) (.gw 94 (Y.zo U U U) (.pk ?_)))
 exact .nil (.dA U (.skip (⟨.inl ⟨oW,pP,ox⟩,Le.mk (.c2 (.c .nil)) (.c (.c .nil))⟩)))
 refine .gz 98 (.gz 98 (.gw 94 (Y.zo U U U) (.pk ?_)))
 exact .nil (.dA U (.skip (⟨.inr (⟨oW,pP,ox⟩),Le.mk (.c2 (.c .nil)) (.c (.c .nil))⟩)))
 refine .seq (.sr (.mv ?_))
 refine .vl (Y.zd U U) (.nil (.bf U ?_))
 refine .sr (.fa dv ?_)
 refine .ld bw ?_
 refine .vl (Y.qm U U) (.an (.nil (.ret ?_)))
 exact .rb rfl (dd gX)
 refine .sr (.vl (Y.qm U U) (.an (.nil ?_)))
 refine .a8 U (fun RL=>?_) (fun RL=>?_)
 refine .kb U au (.val (Y.qp gP U U) ae (.val (Y.zb pN U U U U) ae (.val (Y.qy (n:=n.aA.length) mw U fk) ae (.val (Y.qf U U) ae (.val (Y.qf U U) ae (.nil (.seq (.sr (.fa cd ?_)))))))))
 refine .ld bu ?_
 refine .vl (Y.qy (n:=c.args.length) az U fk) (.mv ?_)
 refine .vl (Y.zl U U) (.mv ?_)
 refine .aG (d:=88) U (fun oW=>?_) (fun oW=>?_)
 refine .gz 88 (.gz 88 (.gz 88 (.gz 88 (.pk ?_))))
 refine .mv ?_
 refine .gz 94 (.gz 94 (.gz 94 (.gz 94 (.gz 98 (.gz 98 (.gz 94 (.pk ?_)))))))
 refine .nil (.bf U (.sr (.an (.nil (.ret ?_)))))
 exact .rb rfl (df gX)
 refine .gw 88 (Y.qp eQ U U) (.gw 88 (Y.zb bw U U U U) (.gw 88 (Y.zh U U) (.gw 88 (Y.zl U U) (.pk ?_))))
 refine .mv ?_
 refine .aG (d:=94) U (fun pP=>?_) (fun pP=>?_)
 refine .gz 94 (.gz 94 (.gz 94 (.gz 94 (.gz 98 (.gz 98 (.gz 94 (.pk ?_)))))))
 refine .nil (.bf U (.sr (.an (.nil (.ret ?_)))))
 exact .rb rfl (df gX)
 refine .gw 94 (Y.qp eh U U) (.gw 94 (Y.zb iN U U U U) (.gw 94 (Y.zl U U) (.gw 94 (Y.zh U U) (.aG (d:=98) U (fun ox=>?_) (fun ox=>?_)))))
 refine .gw 98 (Y.zh U U) (.gw 98 (Y.zn U) (.gw 94 (Y.zo U U U) (.pk ?_)))
 refine .nil (.bf U (.sr (.an (.nil (.ret ?_)))))
 exact .rb rfl (df gX)
 refine .gz 98 (.gz 98 (.gw 94 (Y.zo U U U) (.pk ?_)))
 refine .nil (.dA U (.skip (.seq (.sr (.mv ?_)))))
 refine .vl (Y.zd U U) (.nil (.a8 U (fun oX=>?_) (fun oX=>?_)))
 refine .sr (.fa dv ?_)
 refine .ld bw ?_
 refine .vl (Y.qm U U) (.an (.nil (.ret ?_)))
 exact .rb rfl (dd gX)
 refine .skip (.sr (.fa dv ?_))
 refine .ld bw ?_
 refine .vl (Y.qq U U) (.mv ?_)
 refine .aG (d:=111) U (fun wX=>?_) (fun wX=>?_)
 refine .gw 111 (Y.qp dv U U) (.gw 111 (Y.zb bw U U U U) (.gw 111 (Y.zh U U) (.gw 111 (Y.zd U U) (.pk ?_))))
 refine .mv ?_
 refine .aG (d:=117) U (fun mU=>?_) (fun mU=>?_)
 refine .gw 117 (Y.qp du U U) (.gw 117 (Y.zb bw U U U U) (.gw 117 (Y.zl U U) (.gw 117 (Y.zh U U) (.aG (d:=121) U (fun AO=>?_) (fun AO=>?_)))))
 refine .gz 121 (.gz 121 (.gz 121 (.gz 121 (.gz 121 (.gz 121 (.gz 121 (.gz 121 (.gw 117 (Y.zo U U U) (.pk ?_)))))))))
 refine .an (.nil (.ret ?_))
 exact .rb rfl (dt gX)
 refine .gw 121 (Y.qp eI U U) (.gw 121 (Y.zb l6 U U U U) (.gw 121 (Y.qp dv U U) (.gw 121 (Y.zb bw U U U U) (.gw 121 (Y.qt (m:=(c.mem).toNat) jz U U om (aq (d:=default) om)) (.gw 121 (Y.qp kf U U) (.gw 121 (Y.zb Dd U U U U) (.gw 121 (Y.zn U) (.gw 117 (Y.zo U U U) (.pk ?_)))))))))
 refine .an (.nil (.ret ?_))
 exact .rb rfl (db gX)
 refine .gz 117 (.gz 117 (.gz 117 (.gz 117 (.gz 121 (.gz 121 (.gz 121 (.gz 121 (.gz 121 (.gz 121 (.gz 121 (.gz 121 (.gz 117 (.pk ?_)))))))))))))
 refine .an (.nil (.ret ?_))
 exact .rb rfl (df gX)
 refine .gz 111 (.gz 111 (.gz 111 (.gz 111 (.pk ?_))))
 refine .mv ?_
 refine .gz 117 (.gz 117 (.gz 117 (.gz 117 (.gz 121 (.gz 121 (.gz 121 (.gz 121 (.gz 121 (.gz 121 (.gz 121 (.gz 121 (.gz 117 (.pk ?_)))))))))))))
 refine .an (.nil (.ret ?_))
 exact .rb rfl (df gX)
 refine .sr (.vl (Y.qm U U) (.an (.nil ?_)))
 refine .a8 U (fun RM=>?_) (fun RM=>?_)
 refine .kb U au (.val (Y.qp gP U U) ae (.val (Y.zb pN U U U U) ae (.val (Y.qy (n:=n.aA.length) mw U fk) ae (.val (Y.qf U U) ae (.val (Y.qf U U) ae (.nil (.seq (.sr (.fa cd ?_)))))))))
 refine .ld bu ?_
 refine .vl (Y.qy (n:=c.args.length) az U fk) (.mv ?_)
 refine .vl (Y.zl U U) (.mv ?_)
 refine .aG (d:=88) U (fun oW=>?_) (fun oW=>?_)
 refine .gz 88 (.gz 88 (.gz 88 (.gz 88 (.pk ?_))))
 refine .mv ?_
 refine .gz 94 (.gz 94 (.gz 94 (.gz 94 (.gz 98 (.gz 98 (.gz 94 (.pk ?_)))))))
 refine .nil (.bf U (.sr (.an (.nil (.ret ?_)))))
 exact .rb rfl (df gX)
 refine .gw 88 (Y.qp eQ U U) (.gw 88 (Y.zb bw U U U U) (.gw 88 (Y.zh U U) (.gw 88 (Y.zl U U) (.pk ?_))))
 refine .mv ?_
 refine .aG (d:=94) U (fun pP=>?_) (fun pP=>?_)
 refine .gz 94 (.gz 94 (.gz 94 (.gz 94 (.gz 98 (.gz 98 (.gz 94 (.pk ?_)))))))
 refine .nil (.bf U (.sr (.an (.nil (.ret ?_)))))
 exact .rb rfl (df gX)
 refine .gw 94 (Y.qp eh U U) (.gw 94 (Y.zb iN U U U U) (.gw 94 (Y.zl U U) (.gw 94 (Y.zh U U) (.aG (d:=98) U (fun ox=>?_) (fun ox=>?_)))))
 refine .gw 98 (Y.zh U U) (.gw 98 (Y.zn U) (.gw 94 (Y.zo U U U) (.pk ?_)))
 refine .nil (.bf U (.sr (.an (.nil (.ret ?_)))))
 exact .rb rfl (df gX)
 refine .gz 98 (.gz 98 (.gw 94 (Y.zo U U U) (.pk ?_)))
 refine .nil (.dA U (.skip (.seq (.sr (.mv ?_)))))
 refine .vl (Y.zd U U) (.nil (.a8 U (fun oX=>?_) (fun oX=>?_)))
 refine .sr (.fa dv ?_)
 refine .ld bw ?_
 refine .vl (Y.qm U U) (.an (.nil (.ret ?_)))
 exact .rb rfl (dd gX)
 refine .skip (.sr (.fa dv ?_))
 refine .ld bw ?_
 refine .vl (Y.qq U U) (.mv ?_)
 refine .aG (d:=111) U (fun wX=>?_) (fun wX=>?_)
 refine .gw 111 (Y.qp dv U U) (.gw 111 (Y.zb bw U U U U) (.gw 111 (Y.zh U U) (.gw 111 (Y.zd U U) (.pk ?_))))
 refine .mv ?_
 refine .aG (d:=117) U (fun mU=>?_) (fun mU=>?_)
 refine .gw 117 (Y.qp du U U) (.gw 117 (Y.zb bw U U U U) (.gw 117 (Y.zl U U) (.gw 117 (Y.zh U U) (.aG (d:=121) U (fun AO=>?_) (fun AO=>?_)))))
 refine .gz 121 (.gz 121 (.gz 121 (.gz 121 (.gz 121 (.gz 121 (.gz 121 (.gz 121 (.gw 117 (Y.zo U U U) (.pk ?_)))))))))
 refine .an (.nil (.ret ?_))
 exact .rb rfl (dt gX)
 refine .gw 121 (Y.qp eI U U) (.gw 121 (Y.zb l6 U U U U) (.gw 121 (Y.qp dv U U) (.gw 121 (Y.zb bw U U U U) (.gw 121 (Y.qt (m:=(c.mem).toNat) jz U U om (aq (d:=default) om)) (.gw 121 (Y.qp kf U U) (.gw 121 (Y.zb Dd U U U U) (.gw 121 (Y.zn U) (.gw 117 (Y.zo U U U) (.pk ?_)))))))))
 refine .an (.nil (.ret ?_))
 exact .rb rfl (db gX)
 refine .gz 117 (.gz 117 (.gz 117 (.gz 117 (.gz 121 (.gz 121 (.gz 121 (.gz 121 (.gz 121 (.gz 121 (.gz 121 (.gz 121 (.gz 117 (.pk ?_)))))))))))))
 refine .an (.nil (.ret ?_))
 exact .rb rfl (df gX)
 refine .gz 111 (.gz 111 (.gz 111 (.gz 111 (.pk ?_))))
 refine .mv ?_
 refine .gz 117 (.gz 117 (.gz 117 (.gz 117 (.gz 121 (.gz 121 (.gz 121 (.gz 121 (.gz 121 (.gz 121 (.gz 121 (.gz 121 (.gz 117 (.pk ?_)))))))))))))
 refine .an (.nil (.ret ?_))
 exact .rb rfl (df gX)
 refine .sr (.vl (Y.qm U U) (.an (.nil ?_)))
 refine .a8 U (fun Kb=>?_) (fun Kb=>?_)
 refine .sr (.an (.nil (.sr ?_)))
 refine .fa eh ?_
 refine .ld iN ?_
 refine .fa mr ?_
 refine .ld bu ?_
 refine .vl (Y.qy (n:=n.ins.length) az U fk) (.vl (Y.ql sx Av U (by first | rfl | exact IntWalk.u64_in _ om)) (.vl (Y.qq U U) (.nil (.a8 U (fun Gk=>?_) (fun Gk=>?_)))))
 refine .sr (.an (.nil (.ret ?_)))
 exact .rb rfl (df gX)
 refine .skip (.ub (⟨[(2,.ptr 102 0 0 0),(3,.ptr 103 0 0 0),(8,vi (-1))],[(102,.cells (ab.row n)),(103,.cells (Cell.row c))]⟩) (((¬ ((c.args.length:Int) ≠ 0)) /\ (¬ (c.op ≠ 0)) /\ ((c.num:Int) ≠ 0)) \/ ((¬ ((c.args.length:Int) ≠ 0)) /\ (¬ (c.op ≠ 0)) /\ (¬ ((c.num:Int) ≠ 0)))) ?_ (fun Gj=>?_))
 refine .sr (.fa cd ?_)
 refine .ld bu ?_
 refine .vl (Y.qy (n:=c.args.length) az U fk) (.mv ?_)
 refine .vl (Y.zl U U) (.mv ?_)
 refine .aG (d:=88) U (fun oW=>?_) (fun oW=>?_)
 refine .gz 88 (.gz 88 (.gz 88 (.gz 88 (.pk ?_))))
 refine .mv ?_
 refine .gz 94 (.gz 94 (.gz 94 (.gz 94 (.gz 98 (.gz 98 (.gz 94 (.pk ?_)))))))
 refine .nil (.bf U (.sr (.an (.nil (.ret ?_)))))
 exact .rb rfl (df gX)
 refine .gw 88 (Y.qp eQ U U) (.gw 88 (Y.zb bw U U U U) (.gw 88 (Y.zh U U) (.gw 88 (Y.zl U U) (.pk ?_))))
 refine .mv ?_
 refine .aG (d:=94) U (fun pP=>?_) (fun pP=>?_)
 refine .gz 94 (.gz 94 (.gz 94 (.gz 94 (.gz 98 (.gz 98 (.gz 94 (.pk ?_)))))))
 refine .nil (.bf U (.sr (.an (.nil (.ret ?_)))))
 exact .rb rfl (df gX)
 refine .gw 94 (Y.qp eh U U) (.gw 94 (Y.zb iN U U U U) (.gw 94 (Y.zl U U) (.gw 94 (Y.zh U U) (.aG (d:=98) U (fun ox=>?_) (fun ox=>?_)))))
 refine .gw 98 (Y.zh U U) (.gw 98 (Y.zn U) (.gw 94 (Y.zo U U U) (.pk ?_)))
 exact .nil (.dA U (.skip (⟨.inl ⟨oW,pP,ox⟩,Le.mk (.c2 (.c .nil)) (.c (.c .nil))⟩)))
 refine .gz 98 (.gz 98 (.gw 94 (Y.zo U U U) (.pk ?_)))
 exact .nil (.dA U (.skip (⟨.inr (⟨oW,pP,ox⟩),Le.mk (.c2 (.c .nil)) (.c (.c .nil))⟩)))
 refine .seq (.sr (.mv ?_))
 refine .vl (Y.zd U U) (.nil (.bf U ?_))
 refine .sr (.fa dv ?_)
 refine .ld bw ?_
 refine .vl (Y.qm U U) (.an (.nil (.ret ?_)))
 exact .rb rfl (dd gX)
 refine .seq (.sr (.vl (Y.qm U U) (.an (.nil ?_))))
 refine .bT U (fun DC=>?_) (fun DC=>?_)
 refine .skip (.bf U (.region (.fa eI ?_)))
 refine .ld l6 ?_
 refine .vl (Y.qy (n:=n.streams.length) jz U fk) (.an ?_)
 refine .nil (.seq (.sr (.fa cd ?_)))
 refine .ld bu ?_
 refine .vl (Y.qy (n:=c.args.length) az U fk) (.mv ?_)
 refine .vl (Y.zl U U) (.mv ?_)
 refine .aG (d:=88) U (fun oW=>?_) (fun oW=>?_)
 refine .gz 88 (.gz 88 (.gz 88 (.gz 88 (.pk ?_))))
 refine .mv ?_
 refine .gz 94 (.gz 94 (.gz 94 (.gz 94 (.gz 98 (.gz 98 (.gz 94 (.pk ?_)))))))
 refine .nil (.bf U (.sr (.an (.nil (.ret ?_)))))
 exact .rb rfl (df gX)
 refine .gw 88 (Y.qp eQ U U) (.gw 88 (Y.zb bw U U U U) (.gw 88 (Y.zh U U) (.gw 88 (Y.zl U U) (.pk ?_))))
 refine .mv ?_
 refine .aG (d:=94) U (fun pP=>?_) (fun pP=>?_)
 refine .gz 94 (.gz 94 (.gz 94 (.gz 94 (.gz 98 (.gz 98 (.gz 94 (.pk ?_)))))))
 refine .nil (.bf U (.sr (.an (.nil (.ret ?_)))))
 exact .rb rfl (df gX)
 refine .gw 94 (Y.qp eh U U) (.gw 94 (Y.zb iN U U U U) (.gw 94 (Y.zl U U) (.gw 94 (Y.zh U U) (.aG (d:=98) U (fun ox=>?_) (fun ox=>?_)))))
 refine .gw 98 (Y.zh U U) (.gw 98 (Y.zn U) (.gw 94 (Y.zo U U U) (.pk ?_)))
 refine .nil (.bf U (.sr (.an (.nil (.ret ?_)))))
 exact .rb rfl (df gX)
 refine .gz 98 (.gz 98 (.gw 94 (Y.zo U U U) (.pk ?_)))
 refine .nil (.dA U (.skip (.seq (.sr (.mv ?_)))))
 refine .vl (Y.zd U U) (.nil (.a8 U (fun oX=>?_) (fun oX=>?_)))
 refine .sr (.fa dv ?_)
 refine .ld bw ?_
 refine .vl (Y.qm U U) (.an (.nil (.ret ?_)))
 exact .rb rfl (dd gX)
 refine .skip (.sr (.fa dv ?_))
 refine .ld bw ?_
 refine .vl (Y.qq U U) (.mv ?_)
 refine .aG (d:=111) U (fun wX=>?_) (fun wX=>?_)
 refine .gw 111 (Y.qp dv U U) (.gw 111 (Y.zb bw U U U U) (.gw 111 (Y.zh U U) (.gw 111 (Y.zd U U) (.pk ?_))))
 refine .mv ?_
 refine .aG (d:=117) U (fun mU=>?_) (fun mU=>?_)
 refine .gw 117 (Y.qp du U U) (.gw 117 (Y.zb bw U U U U) (.gw 117 (Y.zl U U) (.gw 117 (Y.zh U U) (.aG (d:=121) U (fun AO=>?_) (fun AO=>?_)))))
 refine .gz 121 (.gz 121 (.gz 121 (.gz 121 (.gz 121 (.gz 121 (.gz 121 (.gz 121 (.gw 117 (Y.zo U U U) (.pk ?_)))))))))
 refine .an (.nil (.ret ?_))
 exact .rb rfl (dt gX)
 refine .gw 121 (Y.qp eI U U) (.gw 121 (Y.zb l6 U U U U) (.gw 121 (Y.qp dv U U) (.gw 121 (Y.zb bw U U U U) (.gw 121 (Y.qt (m:=(c.mem).toNat) jz U U om (aq (d:=default) om)) (.gw 121 (Y.qp kf U U) (.gw 121 (Y.zb Dd U U U U) (.gw 121 (Y.zn U) (.gw 117 (Y.zo U U U) (.pk ?_)))))))))
 refine .an (.nil (.ret ?_))
 exact .rb rfl (db gX)
 refine .gz 117 (.gz 117 (.gz 117 (.gz 117 (.gz 121 (.gz 121 (.gz 121 (.gz 121 (.gz 121 (.gz 121 (.gz 121 (.gz 121 (.gz 117 (.pk ?_)))))))))))))
 refine .an (.nil (.ret ?_))
 exact .rb rfl (df gX)
 refine .gz 111 (.gz 111 (.gz 111 (.gz 111 (.pk ?_))))
 refine .mv ?_
 refine .gz 117 (.gz 117 (.gz 117 (.gz 117 (.gz 121 (.gz 121 (.gz 121 (.gz 121 (.gz 121 (.gz 121 (.gz 121 (.gz 121 (.gz 117 (.pk ?_)))))))))))))
 refine .an (.nil (.ret ?_))
 exact .rb rfl (df gX)
 refine .region (.vl (Y.qm U U) (.an (.nil ?_)))
 refine .bT U (fun DC=>?_) (fun DC=>?_)
 refine .region (.fa eI ?_)
 refine .ld l6 ?_
 refine .vl (Y.qy (n:=n.streams.length) jz U fk) (.an ?_)
 refine .nil (.seq (.sr (.fa cd ?_)))
 refine .ld bu ?_
 refine .vl (Y.qy (n:=c.args.length) az U fk) (.mv ?_)
 refine .vl (Y.zl U U) (.mv ?_)
 refine .aG (d:=88) U (fun oW=>?_) (fun oW=>?_)
 refine .gz 88 (.gz 88 (.gz 88 (.gz 88 (.pk ?_))))
 refine .mv ?_
 refine .gz 94 (.gz 94 (.gz 94 (.gz 94 (.gz 98 (.gz 98 (.gz 94 (.pk ?_)))))))
 refine .nil (.bf U (.sr (.an (.nil (.ret ?_)))))
 exact .rb rfl (df gX)
 refine .gw 88 (Y.qp eQ U U) (.gw 88 (Y.zb bw U U U U) (.gw 88 (Y.zh U U) (.gw 88 (Y.zl U U) (.pk ?_))))
 refine .mv ?_
 refine .aG (d:=94) U (fun pP=>?_) (fun pP=>?_)
 refine .gz 94 (.gz 94 (.gz 94 (.gz 94 (.gz 98 (.gz 98 (.gz 94 (.pk ?_)))))))
 refine .nil (.bf U (.sr (.an (.nil (.ret ?_)))))
 exact .rb rfl (df gX)
 refine .gw 94 (Y.qp eh U U) (.gw 94 (Y.zb iN U U U U) (.gw 94 (Y.zl U U) (.gw 94 (Y.zh U U) (.aG (d:=98) U (fun ox=>?_) (fun ox=>?_)))))
 refine .gw 98 (Y.zh U U) (.gw 98 (Y.zn U) (.gw 94 (Y.zo U U U) (.pk ?_)))
 refine .nil (.bf U (.sr (.an (.nil (.ret ?_)))))
 exact .rb rfl (df gX)
 refine .gz 98 (.gz 98 (.gw 94 (Y.zo U U U) (.pk ?_)))
 refine .nil (.dA U (.skip (.seq (.sr (.mv ?_)))))
 refine .vl (Y.zd U U) (.nil (.a8 U (fun oX=>?_) (fun oX=>?_)))
 refine .sr (.fa dv ?_)
 refine .ld bw ?_
 refine .vl (Y.qm U U) (.an (.nil (.ret ?_)))
 exact .rb rfl (dd gX)
 refine .skip (.sr (.fa dv ?_))
 refine .ld bw ?_
 refine .vl (Y.qq U U) (.mv ?_)
 refine .aG (d:=111) U (fun wX=>?_) (fun wX=>?_)
 refine .gw 111 (Y.qp dv U U) (.gw 111 (Y.zb bw U U U U) (.gw 111 (Y.zh U U) (.gw 111 (Y.zd U U) (.pk ?_))))
 refine .mv ?_
 refine .aG (d:=117) U (fun mU=>?_) (fun mU=>?_)
 refine .gw 117 (Y.qp du U U) (.gw 117 (Y.zb bw U U U U) (.gw 117 (Y.zl U U) (.gw 117 (Y.zh U U) (.aG (d:=121) U (fun AO=>?_) (fun AO=>?_)))))
 refine .gz 121 (.gz 121 (.gz 121 (.gz 121 (.gz 121 (.gz 121 (.gz 121 (.gz 121 (.gw 117 (Y.zo U U U) (.pk ?_)))))))))
 refine .an (.nil (.ret ?_))
 exact .rb rfl (dt gX)
 refine .gw 121 (Y.qp eI U U) (.gw 121 (Y.zb l6 U U U U) (.gw 121 (Y.qp dv U U) (.gw 121 (Y.zb bw U U U U) (.gw 121 (Y.qt (m:=(c.mem).toNat) jz U U om (aq (d:=default) om)) (.gw 121 (Y.qp kf U U) (.gw 121 (Y.zb Dd U U U U) (.gw 121 (Y.zn U) (.gw 117 (Y.zo U U U) (.pk ?_)))))))))
 refine .an (.nil (.ret ?_))
 exact .rb rfl (db gX)
 refine .gz 117 (.gz 117 (.gz 117 (.gz 117 (.gz 121 (.gz 121 (.gz 121 (.gz 121 (.gz 121 (.gz 121 (.gz 121 (.gz 121 (.gz 117 (.pk ?_)))))))))))))
 refine .an (.nil (.ret ?_))
 exact .rb rfl (df gX)
 refine .gz 111 (.gz 111 (.gz 111 (.gz 111 (.pk ?_))))
 refine .mv ?_
 refine .gz 117 (.gz 117 (.gz 117 (.gz 117 (.gz 121 (.gz 121 (.gz 121 (.gz 121 (.gz 121 (.gz 121 (.gz 121 (.gz 121 (.gz 117 (.pk ?_)))))))))))))
 refine .an (.nil (.ret ?_))
 exact .rb rfl (df gX)
 refine .sr (.an (.nil (.ret ?_)))
 exact .rb rfl (df (by (simp only [Shaped,RJ,wW,mT,Hx,RK,RL,RM,Kb,DC,DC,Int.reduceEq,Bool.not_eq_true,false_and,true_and,and_true,and_false,or_false,false_or,ne_eq]) <;> (first | omega | grind)))
open Go Go.AW Go.Proofs
theorem rM{l:List Int}{p:Int -> Bool}{g:Nat}{row:List X}(hl:l.length <= 17592186043904)(kC:aU Try.prog g = true)(hg:∀ z ∈ l,ay Try.prog g [vi z,.fp row 0] [] [] (fun r o=>r = .v (.bool (p z)) /\ o = [])):ay Try.prog 185 [.fz 1 (l.map ag),.jv (.func g) [] [.fp row 0]] [] [] (fun r o=>r = (vi (w6 p l)) /\ o = []):=by
 refine ay.of Try.func185 U U U (n:=19) ae (aL U) (.sr (.an ?_))
 refine .nil (.seq (.sr (.mv ?_)))
 refine .vl (Y.qy (n:=l.length) az U fk) (.mv ?_)
 refine .nil (.block (.kO (fun (j8:Nat)=>⟨[(0,.fz 1 (l.map ag)),(1,.jv (.func g) [] [.fp row 0]),(7,vi l.length),(8,vi j8)],[]⟩) (fun j8=>((j8:Int) <= (l.length:Int)) /\ (∀ j,j < j8 -> p (l.getD j 0) = false)) (fun j8=>((l.length:Int) - (j8:Int)).toNat) 0 (⟨om,fun j hj=>by omega⟩) (Le.mk (.c2 (.c (.cons (ak U bj) .nil))) .nil) (fun j8 Ad=>?_)))
 obtain ⟨xD,h0⟩:=Ad
 refine .sr (.vl (Y.zd U U) (.nil (.seq (.a8 U (fun c9=>?_) (fun c9=>?_)))))
 refine .skip (.seq (.block (.sr (.mv ?_))))
 refine .an (.nil (.sr ?_))
 refine .mv ?_
 refine .mv ?_
 refine .mv ?_
 refine .vl (Y.qt (m:=j8) az U U bj (aq (d:=0) om)) (.ld bw ?_)
 refine .n7 U kC (hg _ (ic om)) U (.ai U U (.ai U U .nil)) ae U (.nil (.cond U (fun yF=>?_) (fun yF=>?_)))
 refine .sr (.mv ?_)
 refine .an (.nil (.ret ?_))
 exact .ri rfl (qH h0 om yF)
 refine .skip (.region (.vl (Y.qb U U aH) (.mv ?_)))
 refine .nil (⟨j8 + 1,⟨om,oM h0 yF⟩,om,Le.mk (.c2 (.c (.cons (ak U bj) .nil))) .nil⟩)
 refine .exit (.sr (.an (.nil (.ret ?_))))
 exact .ri rfl (su (fun j hj=>h0 j om))
theorem kv{l:List Int}{p:Int -> Bool}{g:Nat}{row:List X}(hl:l.length <= 17592186043904)(kC:aU Try.prog g = true)(hg:∀ z ∈ l,ay Try.prog g [vi z,.fp row 0] [] [] (fun r o=>r = .v (.bool (p z)) /\ o = [])):ay Try.prog 157 [.fz 1 (l.map ag),.jv (.func g) [] [.fp row 0]] [] [] (fun r o=>r = .v (.bool (l.any p)) /\ o = []):=by
 refine ay.of Try.func157 U U U (n:=9) ae (aL U) (.sr (.an (.nil (.sr ?_))))
 refine .mv ?_
 refine .mv ?_
 refine .bm OI (rM (l:=l) hl kC hg) U (.ai U U (.ai U U .nil)) ae U (.vl (Y.qq U U) (.an (.nil (.ret ?_))))
 exact .rb rfl (um)
theorem qN{l:List Cell}{p:Cell -> Bool}{g:Nat}{row:List X}(hl:l.length <= 17592186043904)(kC:aU Try.prog g = true)(hg:∀ z ∈ l,ay Try.prog g [.agg (Cell.row z),.fp row 0] [] [] (fun r o=>r = .v (.bool (p z)) /\ o = [])):ay Try.prog 188 [.fz 6 (l.map Cell.row),.jv (.func g) [] [.fp row 0]] [] [] (fun r o=>r = (vi (w6 p l)) /\ o = []):=by
 refine ay.of Try.func188 U U U (n:=19) ae (aL U) (.sr (.an ?_))
 refine .nil (.seq (.sr (.mv ?_)))
 refine .vl (Y.qy (n:=l.length) dZ U fk) (.mv ?_)
 refine .nil (.block (.kO (fun (j8:Nat)=>⟨[(0,.fz 6 (l.map Cell.row)),(1,.jv (.func g) [] [.fp row 0]),(7,vi l.length),(8,vi j8)],[]⟩) (fun j8=>((j8:Int) <= (l.length:Int)) /\ (∀ j,j < j8 -> p (l.getD j default) = false)) (fun j8=>((l.length:Int) - (j8:Int)).toNat) 0 (⟨om,fun j hj=>by omega⟩) (Le.mk (.c2 (.c (.cons (ak U bj) .nil))) .nil) (fun j8 Ad=>?_)))
 obtain ⟨xD,h0⟩:=Ad
 refine .sr (.vl (Y.zd U U) (.nil (.seq (.a8 U (fun c9=>?_) (fun c9=>?_)))))
 refine .skip (.seq (.block (.sr (.mv ?_))))
 refine .an (.nil (.sr ?_))
 refine .mv ?_
 refine .mv ?_
 refine .mv ?_
 refine .vl (Y.qt (m:=j8) dZ U U bj (aq (d:=default) om)) (.vl (Y.zc fq U U (aL U) U U) (.n7 U kC (hg _ (ic om)) U (.ai U U (.ai U U .nil)) ae U (.nil (.cond U (fun yF=>?_) (fun yF=>?_)))))
 refine .sr (.mv ?_)
 refine .an (.nil (.ret ?_))
 exact .ri rfl (qH h0 om yF)
 refine .skip (.region (.vl (Y.qb U U aH) (.mv ?_)))
 refine .nil (⟨j8 + 1,⟨om,oM h0 yF⟩,om,Le.mk (.c2 (.c (.cons (ak U bj) .nil))) .nil⟩)
 refine .exit (.sr (.an (.nil (.ret ?_))))
 exact .ri rfl (su (fun j hj=>h0 j om))
theorem oy{l:List Cell}{p:Cell -> Bool}{g:Nat}{row:List X}(hl:l.length <= 17592186043904)(kC:aU Try.prog g = true)(hg:∀ z ∈ l,ay Try.prog g [.agg (Cell.row z),.fp row 0] [] [] (fun r o=>r = .v (.bool (p z)) /\ o = [])):ay Try.prog 162 [.fz 6 (l.map Cell.row),.jv (.func g) [] [.fp row 0]] [] [] (fun r o=>r = .v (.bool (l.any p)) /\ o = []):=by
 refine ay.of Try.func162 U U U (n:=9) ae (aL U) (.sr (.an (.nil (.sr ?_))))
 refine .mv ?_
 refine .mv ?_
 refine .bm OK (qN (l:=l) hl kC hg) U (.ai U U (.ai U U .nil)) ae U (.vl (Y.qq U U) (.an (.nil (.ret ?_))))
 exact .rb rfl (um)
theorem uJ{l:List Bool}{b:Bool}(hl:l.length <= 140737488351232):ay Try.prog 187 [.fz 1 (l.map oo),.v (.bool b)] [] [] (fun r o=>r = (vi (w6 (fun x=>b == x) l)) /\ o = []):=by
 refine ay.of Try.func187 U U U (n:=19) ae (aL U) (.sr (.an ?_))
 refine .nil (.seq (.sr (.mv ?_)))
 refine .vl (Y.qy (n:=l.length) yg U fk) (.mv ?_)
 refine .nil (.block (.kO (fun (j8:Nat)=>⟨[(0,.fz 1 (l.map oo)),(1,.v (.bool b)),(7,vi l.length),(8,vi j8)],[]⟩) (fun j8=>((j8:Int) <= (l.length:Int)) /\ (∀ j,j < j8 -> (fun x=>b == x) (l.getD j false) = false)) (fun j8=>((l.length:Int) - (j8:Int)).toNat) 0 (⟨om,fun j hj=>by omega⟩) (Le.mk (.c2 (.c (.cons (ak U bj) .nil))) .nil) (fun j8 Ad=>?_)))
 obtain ⟨xD,h0⟩:=Ad
 refine .sr (.vl (Y.zd U U) (.nil (.seq (.a8 U (fun c9=>?_) (fun c9=>?_)))))
 refine .skip (.seq (.block (.sr (.mv ?_))))
 refine .an (.nil (.sr ?_))
 refine .mv ?_
 refine .mv ?_
 refine .mv ?_
 refine .vl (Y.qt (m:=j8) yg U U bj (aq (d:=false) om)) (.ld Dd ?_)
 refine .vl (Y.qn YO U U) (.nil (.cond U (fun yF=>?_) (fun yF=>?_)))
 refine .sr (.mv ?_)
 refine .an (.nil (.ret ?_))
 exact .ri rfl (qH (d:=false) h0 om yF)
 refine .skip (.region (.vl (Y.qb U U aH) (.mv ?_)))
 refine .nil (⟨j8 + 1,⟨om,oM h0 yF⟩,om,Le.mk (.c2 (.c (.cons (ak U bj) .nil))) .nil⟩)
 refine .exit (.sr (.an (.nil (.ret ?_))))
 exact .ri rfl (su (d:=false) (fun j hj=>h0 j om))
theorem rN{l:List Bool}{b:Bool}(hl:l.length <= 140737488351232):ay Try.prog 161 [.fz 1 (l.map oo),.v (.bool b)] [] [] (fun r o=>r = .v (.bool (l.any (fun x=>b == x))) /\ o = []):=by
 refine ay.of Try.func161 U U U (n:=9) ae (aL U) (.sr (.an (.nil (.sr ?_))))
 refine .mv ?_
 refine .mv ?_
 refine .bm OJ (uJ (l:=l) (b:=b) (om)) U (.ai U U (.ai U U .nil)) ae U (.vl (Y.qq U U) (.an (.nil (.ret ?_))))
 exact .rb rfl (um)
open Go Go.AW Go.Proofs
theorem DD{n:Nat}(hn:n <= 35184372088832):ay Try.prog 184 [vn,vi n] [] [] (fun r o=>r = .dn 1 (([]:List Int).map ag) /\ o = []):=by
 refine ay.of Try.func184 U U U (n:=27) ae (aL U) (.sr (.an ?_))
 refine .nil (.seq (.sr (.mv ?_)))
 refine .vl (Y.zd U U) (.nil (.a8 U (fun c6=>?_) (fun c6=>?_)))
 exfalso; omega
 refine .skip (.seq (.sr (.mv ?_)))
 refine .mv ?_
 refine .vl (Y.qj az U) (.mv ?_)
 refine .vl (Y.qy (n:=0) az U U) (.vl (Y.wc U U aH) (.vl (Y.wc U U aH) (.an (.nil (.sr ?_)))))
 refine .mv ?_
 refine .vl (Y.qr U U) (.nil (.a8 U (fun yF=>?_) (fun yF=>?_)))
 refine .region (.mv ?_)
 refine .mv ?_
 refine .vl (Y.qj az U) (.vl (Y.zz az U (.none _) (.some U)) (.mv ?_))
 refine .uh (n:=(((n:Int) - (0 - 0)).toNat)) az cP U U sx U (by first | rfl | (rw [show ((n:Int) - (0 - 0):Int) = ((((n:Int) - (0 - 0)).toNat:Nat):Int) by omega]; rfl)) om ae om om ae ?_
 refine .mv ?_
 refine .vl (Y.qy (n:=0) az U U) (.sh (Sh.cz (d:=22) (n:=(List.replicate (((n:Int) - (0 - 0)).toNat) 0).length) 122 ((List.replicate (((n:Int) - (0 - 0)).toNat) 0).map ag) U fI (aF U) ae) (.vl (Y.wa (l:=0) (h:=0) az U (.none _) (.some U) om om) (.an (.nil (.sr ?_)))))
 refine .mv ?_
 refine .an ?_
 exact .sh (Sh.BH (d:=4) (o:=122) (([]:List Int).map ag) U U (by simp) (by simp) ae) (.sh (Sh.cO (d:=4) (o:=122) U U (aF aH) ae) (.nil (.ret ⟨_,_,U,U,(CR (fun (z0:List Int)=>X.dn 1 (z0.map ag)) (U:([]:List Int) = ([]:List Int)):X.dn 1 (([]:List Int).map ag) = X.dn 1 (([]:List Int).map ag)),U⟩)))
 refine .skip (.sr (.mv ?_))
 refine .an ?_
 exact .nil (.sh (Sh.zX (d:=4) 1 U) (.ret ⟨_,_,U,U,(CR (fun (z0:List Int)=>X.dn 1 (z0.map ag)) (U:([]:List Int) = ([]:List Int)):X.dn 1 (([]:List Int).map ag) = X.dn 1 (([]:List Int).map ag)),U⟩))
theorem sZ{ls:List (List Int)}(h1:ls.length <= 1000)(hn:ls.flatten.length <= 17592186044416):ay Try.prog 153 [.fz 1 (ls.map bG)] [] [] (fun r o=>r = .dn 1 (ls.flatten.map ag) /\ o = []):=by
 refine ay.of Try.func153 U U U (n:=36) ae (aL U) (.sr (.an (.nil (.sr ?_))))
 refine .an ?_
 refine .nil (.seq (.sr (.mv ?_)))
 refine .vl (Y.qy (n:=ls.length) cb U fk) (.mv ?_)
 refine .nil (.block (.fH (fun (gq:Nat) (dc:Nat)=>⟨[(0,.fz 1 (ls.map bG)),(3,vi gq),(9,.fz 1 (ls.map bG)),(10,vi ls.length),(11,vi dc)],[]⟩) (fun gq dc=>((dc:Int) <= (ls.length:Int)) /\ (gq = (ls.take dc).flatten.length)) (fun gq dc=>((ls.length:Int) - (dc:Int)).toNat) 0 0 (⟨om,U⟩) (Le.mk (.c (.cons (ak U bj) (.c2 (.cons (ak U bj) .nil)))) .nil) (fun gq dc qM=>?_)))
 obtain ⟨Ec,hs⟩:=qM
 refine .sr (.vl (Y.zd U U) (.nil (.seq (.a8 U (fun Gl=>?_) (fun Gl=>?_)))))
 refine .skip (.seq (.block (.sr ?_)))
 have hf:=congrArg List.length (p3 (ls:=ls) (i:=dc) om)
 rw [List.length_append] at hf
 have MU:=ke ls (dc + 1)
 have JZ:=ke ls dc
 refine .vl (Y.qt (m:=dc) cb U U bj (aq (d:=[]) om)) (.ld bu ?_)
 refine .an (.nil (.sr ?_))
 refine .mv ?_
 refine .mv ?_
 refine .vl (Y.qy (n:=(ls.getD dc []).length) az U fk) (.vl (Y.qb U U aH) (.an (.nil (.sr ?_))))
 refine .mv ?_
 refine .vl (Y.zd U U) (.nil (.a8 U (fun Gm=>?_) (fun Gm=>?_)))
 exfalso; omega
 refine .skip (.region (.vl (Y.qb U U aH) (.mv ?_)))
 refine .nil (⟨gq + ((ls.getD dc []).length),dc + 1,⟨om,om⟩,om,Le.mk (.c (.cons (ak U bj) (.c2 (.cons (ak U bj) .nil)))) .nil⟩)
 refine .exit (.sr ?_)
 have JZ:=ke ls dc
 refine .mv ?_
 refine .bm OH (DD (n:=gq) (om)) U (.ai U U (.ai U U .nil)) ae U ?_
 refine .cj U ae (.sh (Sh.cz (d:=6) (n:=([]:List Int).length) 106 (([]:List Int).map ag) U fI (aF U) ae) (.nil (.seq (.sr (.mv ?_)))))
 refine .vl (Y.qy (n:=ls.length) cb U fk) (.mv ?_)
 refine .nil (.block (.fH (fun (dI:Nat) (bE:List Int)=>⟨[(6,.aR 106 1 0 bE.length),(25,.fz 1 (ls.map bG)),(26,vi ls.length),(27,vi dI)],[(106,.rows 1 (bE.map ag))]⟩) (fun dI bE=>((dI:Int) <= (ls.length:Int)) /\ (bE = (ls.take dI).flatten)) (fun dI bE=>((ls.length:Int) - (dI:Int)).toNat) 0 ([]:List Int) (⟨om,U⟩) (Le.mk (.cons (aP U om) (.c2 (.cons (ak U bj) .nil))) (.c .nil)) (fun dI bE AP=>?_)))
 obtain ⟨TE,ht⟩:=AP
 refine .sr (.vl (Y.zd U U) (.nil (.seq (.a8 U (fun C5=>?_) (fun C5=>?_)))))
 refine .skip (.seq (.block (.sr ?_)))
 have hf:=p3 (ls:=ls) (i:=dI) om
 have RN:=congrArg List.length hf
 rw [List.length_append] at RN
 have MU:=ke ls (dI + 1)
 have JZ:=ke ls dI
 have Xr:=congrArg List.length ht
 refine .vl (Y.qt (m:=dI) cb U U bj (aq (d:=[]) om)) (.ld bu ?_)
 refine .an (.nil (.region ?_))
 refine .mv ?_
 refine .mv ?_
 refine .g5 ((bE ++ (ls.getD dI [])).map ag) (bE ++ (ls.getD dI [])).length az cP U U U U (aV aH) (aM aH) (bs aH) aH aH ae ae ?_
 refine .an (.nil (.region ?_))
 refine .vl (Y.qb U U aH) (.mv ?_)
 refine .nil (⟨dI + 1,bE ++ (ls.getD dI []),⟨om,by rw [ht]; exact hf.symm⟩,om,Le.mk (.cons (aP U om) (.c2 (.cons (ak U bj) .nil))) (.c .nil)⟩)
 refine .exit (.sr (.mv ?_))
 refine .an ?_
 exact .sh (Sh.cO (d:=2) (o:=106) U U (aF om) ae) (.nil (.ret ⟨_,_,U,U,(CR (fun (z0:List Int)=>X.dn 1 (z0.map ag)) (by rw [ht,List.take_of_length_le om]:bE = ls.flatten):X.dn 1 (bE.map ag) = X.dn 1 (ls.flatten.map ag)),U⟩))
end Go.Proofs.Ytlimckldnjmabaa
