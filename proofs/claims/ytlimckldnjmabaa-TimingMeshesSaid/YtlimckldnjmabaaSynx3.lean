/- The walk of shift. -/
import Derived.Test.YtlimckldnjmabaaSynx2
import Derived.Test.YtlimckldnjmabaaSynx1
import Derived.Test.YtlimckldnjmabaaSynx0
import Derived.Test.YtlimckldnjmabaaAWx2
set_option linter.unusedSimpArgs false
set_option linter.unusedVariables false
set_option linter.unusedSectionVars false
set_option maxRecDepth 4000
set_option maxHeartbeats 8000000
namespace Go.Proofs.Ytlimckldnjmabaa
open Go Go.AW Go.Proofs
theorem xk{n:Nat}(h:n <= 256):ay Try.prog 174 [vi n] [] [] (fun r o=>r = (vi ((dF n:Nat):Int)) /\ o = []):=by
  have h1:=me (x:=(n:Int)) om om
  rwa [Int.toNat_natCast] at h1
theorem qT{c:Int}{gl:List Gate}(hg:Good gl)(tp:gl.length <= 30000000){left ar:Bool}(T4:left = true -> ar = false){w:Nat}{t:Int}{a b:List Int}{A B:List Bool -> BitVec w}(ha:Wd c gl a w A t)(hb:Wd c gl b w B t)(hw:1 <= w /\ w <= 64)(ht:0 <= t):ay Try.prog 129 [.ptr 0 0 0 0,.fz 1 (a.map ag),.fz 1 (b.map ag),.v (.bool left),.v (.bool ar)] [.cells [.aR 1 3 0 gl.length],.rows 3 (gl.map Gate.row)] [0] (fun r o=>∃ (l:List Gate) (out:List Int),Ext gl l /\ l.length <= gl.length + 1500 /\ Wd c l out w (fun ins=>IE left ar (A ins) (B ins)) (t + (if ar then 50 else 30) + 40 * (dF w:Int)) /\ r = .dn 1 (out.map ag) /\ o = [.cells [.aR 1 3 0 l.length],.rows 3 (l.map Gate.row)]):=by
 refine ay.of Try.func129 U U U (n:=129) ae (aL U) ?_
 have tk:=ha.len; have yA:=hb.len; have RE:dF a.length = dF w:=by rw [tk]
 have RV:dF a.length <= 6:=nI om
 have hls:dF a.length <= a.length:=FP
 refine .sr (.an (.nil (.sr ?_)))
 refine .mv ?_
 refine .vl (Y.qy (n:=a.length) az U (congrArg some (List.length_map ..))) (.an (.nil (.sr ?_)))
 refine .mv ?_
 refine .bm BW (xk (n:=a.length) om) U (.ai U U .nil) ae U ?_
 refine .an (.nil (.sr ?_))
 refine .an (.nil ?_)
 refine .kP (fun (ec:Int) (nM:List Gate)=>⟨[(0,.ptr 0 0 0 0),(1,.fz 1 (a.map ag)),(2,.fz 1 (b.map ag)),(3,.v (.bool left)),(4,.v (.bool ar)),(11,vi a.length),(12,vi ((dF a.length:Nat):Int)),(13,vi ec)],[(0,.cells [.aR 1 3 0 nM.length]),(1,.rows 3 (nM.map Gate.row))]⟩) (fun ec nM=>Ext gl nM /\ nM.length <= gl.length + 1 /\ Wr c nM ec (fun ins=>ar && (A ins).msb) t) ?_ (fun ec nM L8=>?_)
 refine .sr (.mv ?_)
 refine .nil (.cond U (fun rJ=>?_) (fun rJ=>?_))
 refine .region (.mv ?_)
 refine .mv ?_
 refine .vl (Y.wc U U aH) (.vl (Y.qt (m:=((a.length:Int) - 1).toNat) az U U om (aq (d:=0) om)) (.ld bw ?_))
 refine .an ?_
 refine .nil (⟨a.getD (((a.length:Int) - 1).toNat) 0,gl,⟨.refl hg,om,by rw [show ((a.length:Int) - 1).toNat = w - 1 by omega]; exact (ha.msb om).as fun ins=>by simp [rJ]⟩,Le.mk (.c4 (.c2 (.c (.cons (ak U bj) .nil)))) (.cons (ax U ep) (.c .nil))⟩)
 refine .region (.mv ?_)
 refine .bI [0,1] [] Fp (fP (gl:=gl) aH) U (.named U U .nil) ⟨U,U,trivial⟩ U ae (fun _ h=>by cases h) (fun _ h=>by cases h) ae ae ?_
 rintro r aJ ⟨rfl,rfl⟩ _
 refine ⟨⟨rfl,(by intro ob aY; simp only [List.mem_cons,List.not_mem_nil,or_false] at aY; rcases aY with rfl | rfl <;> rfl),.inl rfl⟩,(.an ?_)⟩
 refine .nil (⟨(gl.length:Int),gl ++ [(⟨1,0,0⟩:Gate)],⟨Ext.MO hg ae,by simp,(Wr.zero ht).as fun ins=>by simp [rJ]⟩,Le.mk (.c4 (.c2 (.c (.cons (ak U bj) .nil)))) (.cons (ax U ep) (.c .nil))⟩)
 refine .seq ?_
 obtain ⟨hE,XD,hF⟩:=L8; have ZC:=hE.dw
 refine .region (.mv ?_)
 refine .an ?_
 refine .nil (.seq (.sr (.mv ?_)))
 refine .mv ?_
 refine .nil (.block ?_)
 refine .eg (fun (fv:List Int) (ek:Nat) (lH:List Gate)=>⟨[(0,.ptr 0 0 0 0),(2,.fz 1 (b.map ag)),(3,.v (.bool left)),(4,.v (.bool ar)),(11,vi a.length),(12,vi ((dF a.length:Nat):Int)),(13,vi ec),(14,.fz 1 (fv.map ag)),(39,vi ((dF a.length:Nat):Int)),(40,vi ek)],[(0,.cells [.aR 1 3 0 lH.length]),(1,.rows 3 (lH.map Gate.row))]⟩) (fun fv ek lH=>((ek:Int) <= ((dF a.length:Nat):Int)) /\ (IB c nM left w A B (fun ins=>ar && (A ins).msb) t lH fv ek)) (fun fv ek lH=>(((dF a.length:Nat):Int) - (ek:Int)).toNat) a 0 nM (⟨om,IB.init ZC (ha.ext hE)⟩) (Le.mk (.c8 (.c (.cons (ak U bj) .nil))) (.cons (ax U ep) (.c .nil))) (fun fv ek lH ZD=>?_)
 obtain ⟨hb9,hS⟩:=ZD
 refine .sr (.vl (Y.zd U U) (.nil (.seq (.a8 U (fun Gn=>?_) (fun Gn=>?_)))))
 refine .skip (.seq (.block (.sr (.mv ?_))))
 refine .an (.nil (.seq ?_))
 have UB:=hS.len; have ZE:=hS.xl; have ZF:(3 * w + 1) * ek <= 193 * 6:=Nat.mul_le_mul om om; have h2k:=Lw (k:=ek) om; have UW:=((hb.bit ek om).ext hE).ext hS.ext; have eN:=Ext.not hS.ext.dw UW; have nN:=UW.not (u:=t + 10) (Int.le_refl _)
 refine .region (.mv ?_)
 refine .mv ?_
 refine .vl (Y.qt (m:=ek) az U U bj (aq (d:=0) om)) (.ld bw ?_)
 refine .an (.nil (.sr ?_))
 refine .mv ?_
 refine .mv ?_
 refine .bI [0,1] [] uv (gT (gl:=lH) (a:=b.getD ek 0) om) U (.named U U (.ai U U .nil)) ⟨U,U,trivial⟩ U ae (fun _ h=>by cases h) (fun _ h=>by cases h) ae ae ?_
 rintro r aJ ⟨rfl,rfl⟩ _
 refine ⟨⟨rfl,(by intro ob aY; simp only [List.mem_cons,List.not_mem_nil,or_false] at aY; rcases aY with rfl | rfl <;> rfl),.inl rfl⟩,(.an (.nil (.sr ?_)))⟩
 refine .an ?_
 refine .sh (Sh.nil (d:=18) 118 1 U ae) (.nil (.seq (.sr (.mv ?_))))
 refine .vl (Y.qy (n:=fv.length) az U (congrArg some (List.length_map ..))) (.mv ?_)
 refine .nil (.block ?_)
 refine .eg (fun (ga:Nat) (iB:List Gate) (ez:List Int)=>⟨[(0,.ptr 0 0 0 0),(2,.fz 1 (b.map ag)),(3,.v (.bool left)),(4,.v (.bool ar)),(11,vi a.length),(12,vi ((dF a.length:Nat):Int)),(13,vi ec),(14,.fz 1 (fv.map ag)),(15,vi ek),(16,vi (b.getD ek 0)),(17,vi lH.length),(18,.aR 118 1 0 ez.length),(39,vi ((dF a.length:Nat):Int)),(40,vi ek),(51,vi fv.length),(52,vi ga)],[(0,.cells [.aR 1 3 0 iB.length]),(1,.rows 3 (iB.map Gate.row)),(118,.rows 1 (ez.map ag))]⟩) (fun ga iB ez=>((ga:Int) <= (fv.length:Int)) /\ (Hs c (lH ++ [(⟨4,b.getD ek 0,0⟩:Gate)]) iB ez (RD left w A B (fun ins=>ar && (A ins).msb) ek) (t + 10 + 40 * ((ek:Int) + 1)) ga)) (fun ga iB ez=>((fv.length:Int) - (ga:Int)).toNat) 0 (lH ++ [(⟨4,b.getD ek 0,0⟩:Gate)]) ([]:List Int) (⟨pj,Hs.init eN.dw⟩) (Le.mk (.c8 (.c2 (.c (.cons (aP U aH) (.c2 (.c (.cons (ak U bj) .nil))))))) (.cons (ax U ep) (.c (.c .nil)))) (fun ga iB ez UX=>?_)
 obtain ⟨ZG,hM⟩:=UX
 refine .sr (.vl (Y.zd U U) (.nil (.seq (.a8 U (fun Qf=>?_) (fun Qf=>?_)))))
 refine .skip (.seq (.block (.seq ?_)))
 have Nm:=hM.len; have UY:=hM.ol; have hMe:=eN.len; rw [List.length_append,List.length_singleton] at Nm
 refine .region (.mv ?_)
 refine .an (.nil (.sr ?_))
 refine .mv ?_
 refine .mv ?_
 refine .vl (Y.zv U U om (Ck (k:=ek) om)) (.vl (Y.qb U U aH) (.an (.nil ?_)))
 refine .fS (fun (fE:Int)=>⟨[(0,.ptr 0 0 0 0),(2,.fz 1 (b.map ag)),(3,.v (.bool left)),(4,.v (.bool ar)),(11,vi a.length),(12,vi ((dF a.length:Nat):Int)),(13,vi ec),(14,.fz 1 (fv.map ag)),(15,vi ek),(16,vi (b.getD ek 0)),(17,vi lH.length),(18,.aR 118 1 0 ez.length),(19,vi ga),(20,vi fE),(39,vi ((dF a.length:Nat):Int)),(40,vi ek),(51,vi fv.length),(52,vi ga)],[(0,.cells [.aR 1 3 0 iB.length]),(1,.rows 3 (iB.map Gate.row)),(118,.rows 1 (ez.map ag))]⟩) (fun fE=>fE = PL left ek ga) ?_ (fun fE LU=>?_)
 refine .sr (.mv ?_)
 refine .nil (.cond U (fun UZ=>?_) (fun UZ=>?_))
 refine .region (.mv ?_)
 refine .mv ?_
 refine .vl (Y.zv U U om (Ck (k:=ek) om)) (.vl (Y.wc U U aH) (.an ?_))
 refine .nil ⟨(ga:Int) - ((p2 ek:Nat):Int),by unfold PL p2; simp [UZ],Le.mk (.c8 (.c4 (.c (.cons (ak U bj) (.c2 (.c (.c .nil))))))) (.c2 (.c .nil))⟩
 refine .skip ⟨(ga:Int) + ((p2 ek:Nat):Int),by unfold PL p2; simp [UZ],Le.mk (.c8 (.c4 (.c (.cons (ak U bj) (.c2 (.c (.c .nil))))))) (.c2 (.c .nil))⟩
 refine .sr (.mv ?_)
 refine .an (.nil ?_)
 refine .fS (fun (nO:Int)=>⟨[(0,.ptr 0 0 0 0),(2,.fz 1 (b.map ag)),(3,.v (.bool left)),(4,.v (.bool ar)),(11,vi a.length),(12,vi ((dF a.length:Nat):Int)),(13,vi ec),(14,.fz 1 (fv.map ag)),(15,vi ek),(16,vi (b.getD ek 0)),(17,vi lH.length),(18,.aR 118 1 0 ez.length),(19,vi ga),(21,vi nO),(39,vi ((dF a.length:Nat):Int)),(40,vi ek),(51,vi fv.length),(52,vi ga)],[(0,.cells [.aR 1 3 0 iB.length]),(1,.rows 3 (iB.map Gate.row)),(118,.rows 1 (ez.map ag))]⟩) (fun nO=>nO = (if 0 <= fE /\ fE < (a.length:Int) then fv.getD fE.toNat 0 else ec)) ?_ (fun nO Va=>?_)
 refine .sr (.mv ?_)
 refine .vl (Y.qq U U) (.mv ?_)
 refine .aG (d:=67) U (fun LH=>?_) (fun LH=>?_)
 refine .gw 67 (Y.zh U U) (.gw 67 (Y.zh U U) (.gw 67 (Y.zd U U) (.pk ?_)))
 refine .nil (.a8 U (fun Vb=>?_) (fun Vb=>?_))
 refine .region (.mv ?_)
 refine .mv ?_
 refine .vl (Y.qt (m:=(fE).toNat) az U U om (aq (d:=0) om)) (.ld bw ?_)
 refine .an ?_
 refine .nil ⟨fv.getD ((fE).toNat) 0,by grind,Le.mk (.c8 (.c4 (.c (.cons (ak U bj) (.c2 (.c (.c .nil))))))) (.c2 (.c .nil))⟩
 refine .skip ⟨ec,by grind,Le.mk (.c8 (.c4 (.c (.cons (ak U bj) (.c2 (.c (.c .nil))))))) (.c2 (.c .nil))⟩
 refine .gz 67 (.gz 67 (.gz 67 (.pk ?_)))
 exact .nil (.dA U (.skip ⟨ec,by grind,Le.mk (.c8 (.c4 (.c (.cons (ak U bj) (.c2 (.c (.c .nil))))))) (.c2 (.c .nil))⟩))
 have ZH:=(hS.pick hF (i:=ga) (y:=nO) om fE LU (by rw [Va,tk])).ext eN; have ZI:=(hS.ws.bit ga om).ext eN
 refine .region (.mv ?_)
 refine .mv ?_
 refine .mv ?_
 refine .mv ?_
 refine .mv ?_
 refine .mv ?_
 refine .mv ?_
 refine .vl (Y.qt (m:=ga) az U U bj (aq (d:=0) om)) (.ld bw ?_)
 refine .bI [0,1] [] Is (choose_spec (gl:=iB) (s:=b.getD ek 0) (v:=(lH.length:Int)) (y:=nO) (n:=fv.getD ga 0) om) U (.named U U (.ai U U (.ai U U (.ai U U (.ai U U .nil))))) ⟨U,U,trivial⟩ U ae (fun _ h=>by cases h) (fun _ h=>by cases h) ae ae ?_
 rintro r aJ ⟨rfl,rfl⟩ _
 refine ⟨⟨rfl,(by intro ob aY; simp only [List.mem_cons,List.not_mem_nil,or_false] at aY; rcases aY with rfl | rfl <;> rfl),.inl rfl⟩,(.buildSlice (([((iB.length:Int) + 2)]:List Int).map ag) az cP U U U U U (aj (s:=1) (f:=ag) (fun _=>U)) U U U ae ?_)⟩
 refine .cL ag (ez ++ ([((iB.length:Int) + 2)]:List Int)) az cP U U U U (aV aH) (aM aH) (bs aH) aH aH ae ae ?_
 refine .an (.nil (.region ?_))
 refine .vl (Y.qb U U aH) (.mv ?_)
 refine .nil (⟨ga + 1,yx iB (b.getD ek 0) (lH.length:Int) nO (fv.getD ga 0),ez ++ ([((iB.length:Int) + 2)]:List Int),⟨om,hM.step (UW.ext eN) nN ZH ZI om om om om (fun ins=>Lr om ins)⟩,om,Le.mk (.c8 (.c2 (.c (.cons (aP U om) (.c2 (.c (.cons (ak U bj) .nil))))))) (.cons (ax U ep) (.c (.c .nil)))⟩)
 refine .exit (.sh (Sh.cO (d:=18) (o:=118) U U (aF om) ae) (.sh (Sh.bS (d:=18) (ez.map ag) U fI (bN.map aE)) (.region (.mv ?_))))
 refine .an (.nil (.region ?_))
 refine .vl (Y.qb U U aH) (.mv ?_)
 refine .nil (⟨ez,ek + 1,iB,⟨om,hS.pass eN hM om⟩,om,Le.mk (.c8 (.c (.cons (ak U bj) .nil))) (.cons (ax U ep) (.c .nil))⟩)
 refine .exit (.seq ?_)
 have UB:=hS.len; have ZE:=hS.xl; have Eu:ek = dF w:=om; rw [Eu] at hS; have ZF:(3 * w + 1) * ek <= 193 * 6:=Nat.mul_le_mul om om; have ZJ:=(hb.ext hE).ext hS.ext; have Uw:=hS.ext.dw
 refine .region (.mv ?_)
 refine .mv ?_
 refine .mv ?_
 refine .vl (Y.zy (l:=dF a.length) (h:=(b.map ag).length) az U (.some U) (.none _) aH aH (by rw [List.take_length,<- List.map_drop])) (.bI [0,1] [] Fo (uO (gl:=lH) Uw aH (a:=b.drop (dF a.length)) (Ls ZJ (dF a.length) om) aH aH) U (.named U U (.ai U U .nil)) ⟨U,U,trivial⟩ U ae (fun _ h=>by cases h) (fun _ h=>by cases h) ae ae ?_)
 rintro r aJ ⟨Hy,Km,GR,QC,Vc,rfl,rfl⟩ _
 refine ⟨⟨rfl,(by intro ob aY; simp only [List.mem_cons,List.not_mem_nil,or_false] at aY; rcases aY with rfl | rfl <;> rfl),.inl rfl⟩,(.an (.nil (.seq ?_)))⟩
 have hv:=Vc.as (f':=AI B) (fun ins=>by unfold AI; rw [List.length_drop,yA,RE]); have eF:=Ext.not GR.dw hv; have nF:=hv.not (u:=t + 10 + 20 * (dF w:Int)) (by have:=oS (show (b.drop (dF a.length)).length <= w by rw [List.length_drop]; omega); omega); have So:=oS (show (b.drop (dF a.length)).length <= w by rw [List.length_drop]; omega); have Vd:=QC; rw [List.length_drop] at Vd
 refine .region (.mv ?_)
 refine .mv ?_
 refine .bI [0,1] [] uv (gT (gl:=Hy) (a:=Km) aH) U (.named U U (.ai U U .nil)) ⟨U,U,trivial⟩ U ae (fun _ h=>by cases h) (fun _ h=>by cases h) ae ae ?_
 rintro r aJ ⟨rfl,rfl⟩ _
 refine ⟨⟨rfl,(by intro ob aY; simp only [List.mem_cons,List.not_mem_nil,or_false] at aY; rcases aY with rfl | rfl <;> rfl),.inl rfl⟩,(.an (.nil (.sr ?_)))⟩
 refine .an ?_
 refine .sh (Sh.nil (d:=24) 124 1 U ae) (.nil (.seq (.sr (.mv ?_))))
 refine .vl (Y.qy (n:=fv.length) az U (congrArg some (List.length_map ..))) (.mv ?_)
 refine .nil (.block ?_)
 refine .eg (fun (eY:Nat) (iC:List Gate) (iO:List Int)=>⟨[(0,.ptr 0 0 0 0),(4,.v (.bool ar)),(13,vi ec),(14,.fz 1 (fv.map ag)),(22,vi Km),(23,vi Hy.length),(24,.aR 124 1 0 iO.length),(100,vi fv.length),(101,vi eY)],[(0,.cells [.aR 1 3 0 iC.length]),(1,.rows 3 (iC.map Gate.row)),(124,.rows 1 (iO.map ag))]⟩) (fun eY iC iO=>((eY:Int) <= (fv.length:Int)) /\ (xw c (Hy ++ [(⟨4,Km,0⟩:Gate)]) iC iO (yy left ar w A B) (t + (if ar then 50 else 30) + 40 * (dF w:Int)) eY)) (fun eY iC iO=>((fv.length:Int) - (eY:Int)).toNat) 0 (Hy ++ [(⟨4,Km,0⟩:Gate)]) ([]:List Int) (⟨pj,xw.init eF.dw⟩) (Le.mk (.c4 (.c2 (.cons (aP U aH) (.c (.cons (ak U bj) .nil))))) (.cons (ax U ep) (.c (.c .nil)))) (fun eY iC iO Ve=>?_)
 obtain ⟨ZK,hM⟩:=Ve
 refine .sr (.vl (Y.zd U U) (.nil (.seq (.a8 U (fun Vf=>?_) (fun Vf=>?_)))))
 refine .skip (.kP (fun (pG:List Gate) (lg:List Int)=>⟨[(0,.ptr 0 0 0 0),(4,.v (.bool ar)),(13,vi ec),(14,.fz 1 (fv.map ag)),(22,vi Km),(23,vi Hy.length),(24,.aR 124 1 0 lg.length),(100,vi fv.length),(101,vi eY)],[(0,.cells [.aR 1 3 0 pG.length]),(1,.rows 3 (pG.map Gate.row)),(124,.rows 1 (lg.map ag))]⟩) (fun pG lg=>xw c (Hy ++ [(⟨4,Km,0⟩:Gate)]) pG lg (yy left ar w A B) (t + (if ar then 50 else 30) + 40 * (dF w:Int)) (eY + 1)) ?_ (fun pG lg Ja=>?_))
 refine .block (.sr (.mv ?_))
 refine .an (.nil (.seq ?_))
 have Nm:=hM.len; have UY:=hM.ol; rw [List.length_append,List.length_singleton] at Nm
 refine .region (.mv ?_)
 refine .nil (.cond U (fun oX=>?_) (fun oX=>?_))
 refine .region (.mv ?_)
 refine .mv ?_
 refine .mv ?_
 refine .mv ?_
 refine .mv ?_
 refine .mv ?_
 refine .mv ?_
 refine .vl (Y.qt (m:=eY) az U U bj (aq (d:=0) om)) (.ld bw ?_)
 refine .bI [0,1] [] Is (choose_spec (gl:=iC) (s:=Km) (v:=(Hy.length:Int)) (y:=ec) (n:=fv.getD eY 0) om) U (.named U U (.ai U U (.ai U U (.ai U U (.ai U U .nil))))) ⟨U,U,trivial⟩ U ae (fun _ h=>by cases h) (fun _ h=>by cases h) ae ae ?_
 rintro r aJ ⟨rfl,rfl⟩ _
 refine ⟨⟨rfl,(by intro ob aY; simp only [List.mem_cons,List.not_mem_nil,or_false] at aY; rcases aY with rfl | rfl <;> rfl),.inl rfl⟩,(.buildSlice (([((iC.length:Int) + 2)]:List Int).map ag) az cP U U U U U (aj (s:=1) (f:=ag) (fun _=>U)) U U U ae ?_)⟩
 refine .cL ag (iO ++ ([((iC.length:Int) + 2)]:List Int)) az cP U U U U (aV aH) (aM aH) (bs aH) aH aH ae ae ?_
 refine .an ?_
 refine .nil ⟨yx iC Km (Hy.length:Int) ec (fv.getD eY 0),iO ++ ([((iC.length:Int) + 2)]:List Int),hM.choose (hv.ext eF) nF (((hF.ext hS.ext).ext GR).ext eF) (((hS.ws.bit eY om).ext GR).ext eF) (by rw [if_pos oX]; omega) (by rw [if_pos oX]; omega) (by rw [if_pos oX]; omega) (by rw [if_pos oX]; omega) (fun ins=>by simp [yy,oX]),Le.mk (.c4 (.c2 (.cons (aP U om) (.c (.c .nil))))) (.cons (ax U ep) (.c (.c .nil)))⟩
 refine .region (.mv ?_)
 refine .mv ?_
 refine .mv ?_
 refine .mv ?_
 refine .mv ?_
 refine .vl (Y.qt (m:=eY) az U U bj (aq (d:=0) om)) (.ld bw ?_)
 refine .bI [0,1] [] tl (g6 (gl:=iC) (a:=(Hy.length:Int)) (b:=fv.getD eY 0) om) U (.named U U (.ai U U (.ai U U .nil))) ⟨U,U,trivial⟩ U ae (fun _ h=>by cases h) (fun _ h=>by cases h) ae ae ?_
 rintro r aJ ⟨rfl,rfl⟩ _
 refine ⟨⟨rfl,(by intro ob aY; simp only [List.mem_cons,List.not_mem_nil,or_false] at aY; rcases aY with rfl | rfl <;> rfl),.inl rfl⟩,(.buildSlice (([(iC.length:Int)]:List Int).map ag) az cP U U U U U (aj (s:=1) (f:=ag) (fun _=>U)) U U U ae ?_)⟩
 refine .cL ag (iO ++ ([(iC.length:Int)]:List Int)) az cP U U U U (aV aH) (aM aH) (bs aH) aH aH ae ae ?_
 refine .an ?_
 refine .nil (⟨iC ++ [(⟨5,(Hy.length:Int),fv.getD eY 0⟩:Gate)],iO ++ ([(iC.length:Int)]:List Int),hM.and nF (((hS.ws.bit eY om).ext GR).ext eF) (by rw [if_neg (by simp [oX])]; omega) (by rw [if_neg (by simp [oX])]; omega) (fun ins=>by simp [yy,oX]),Le.mk (.c4 (.c2 (.cons (aP U om) (.c (.c .nil))))) (.cons (ax U ep) (.c (.c .nil)))⟩)
 refine .region (.vl (Y.qb U U aH) (.mv ?_))
 refine .nil (⟨eY + 1,pG,lg,⟨om,Ja⟩,om,Le.mk (.c4 (.c2 (.cons (aP U om) (.c (.cons (ak U bj) .nil))))) (.cons (ax U ep) (.c (.c .nil)))⟩)
 refine .exit (.sr (.mv ?_))
 refine .an ?_
 exact .sh (Sh.cO (d:=10) (o:=124) U U (aF om) ae) (.nil (.ret ⟨_,_,U,U,_,_,hE.trans (hS.ext.trans (GR.trans (eF.trans hM.ext))),by have:=hM.len; rw [List.length_append,List.length_singleton] at this; omega,AJ T4 (by have:=hM.ol; omega) hM.ws,U,U⟩))
open Go Go.AW Go.Proofs
theorem yT{c:Int}{gl:List Gate}(hg:Good gl)(tp:gl.length <= 40000000){w n:Nat}{sg:Bool}{t:Int}{a:List Int}{A:List Bool -> BitVec w}(ha:Wd c gl a w A t)(hw:1 <= w /\ w <= 64)(hn:1 <= n /\ n <= 64)(ht:0 <= t):ay Try.prog 132 [.ptr 0 0 0 0,.fz 1 (a.map ag),vi n,.v (.bool sg)] [.cells [.aR 1 3 0 gl.length],.rows 3 (gl.map Gate.row)] [0] (fun r o=>∃ (l:List Gate) (out:List Int),Ext gl l /\ l.length <= gl.length + 1 /\ Wd c l out n (fun ins=>wM sg n (A ins)) t /\ r = .dn 1 (out.map ag) /\ o = [.cells [.aR 1 3 0 l.length],.rows 3 (l.map Gate.row)]):=by
 refine ay.of Try.func132 U U U (n:=40) ae (aL U) ?_
 have tk:=ha.len
 refine .sr (.an ?_)
 refine .nil (.seq (.sr (.mv ?_)))
 refine .mv ?_
 refine .vl (Y.qy (n:=a.length) az U (congrArg some (List.length_map ..))) (.vl (Y.za U U) (.nil (.a8 U (fun Gw=>?_) (fun Gw=>?_))))
 refine .sr (.mv ?_)
 refine .mv ?_
 refine .vl (Y.zy (l:=0) (h:=n) az U (.none _) (.some U) aH aH (by rw [List.drop_zero,<- List.map_take])) (.bm JF (pZ (l:=(a.take n)) (by rw [List.length_take]; omega)) U (.ai U U .nil) ae U (.cj U ae (.nil (.ret ⟨_,_,U,U,_,_,.refl hg,om,IF ha om,U,U⟩))))
 refine .skip (.sr (.mv ?_))
 refine .mv ?_
 refine .vl (Y.qy (n:=a.length) az U (congrArg some (List.length_map ..))) (.vl (Y.wc U U aH) (.vl (Y.qt (m:=((a.length:Int) - 1).toNat) az U U om (aq (d:=0) om)) (.ld bw ?_)))
 refine .an (.nil ?_)
 refine .kP (fun (kx:Int) (m9:List Gate)=>⟨[(1,.fz 1 (a.map ag)),(2,vi n),(9,vi kx)],[(0,.cells [.aR 1 3 0 m9.length]),(1,.rows 3 (m9.map Gate.row))]⟩) (fun kx m9=>Ext gl m9 /\ m9.length <= gl.length + 1 /\ Wr c m9 kx (fun ins=>sg && (A ins).msb) t) ?_ (fun kx m9 ZL=>?_)
 refine .sr (.mv ?_)
 refine .vl (Y.zn U) (.nil (.cond U (fun GS=>?_) (fun GS=>?_)))
 replace GS:sg = false:=by simpa using GS
 refine .region (.mv ?_)
 refine .bI [0,1] [] Fp (fP (gl:=gl) aH) U (.named U U .nil) ⟨U,U,trivial⟩ U ae (fun _ h=>by cases h) (fun _ h=>by cases h) ae ae ?_
 rintro r aJ ⟨rfl,rfl⟩ _
 refine ⟨⟨rfl,(by intro ob aY; simp only [List.mem_cons,List.not_mem_nil,or_false] at aY; rcases aY with rfl | rfl <;> rfl),.inl rfl⟩,(.an ?_)⟩
 refine .nil (⟨(gl.length:Int),gl ++ [(⟨1,0,0⟩:Gate)],⟨Ext.MO hg ae,by simp,(Wr.zero ht).as fun ins=>by simp [GS]⟩,Le.mk (.c2 (.cons (ak U bj) .nil)) (.cons (ax U ep) (.c .nil))⟩)
 replace GS:sg = true:=by simpa using GS
 refine .skip (⟨a.getD (((a.length:Int) - 1).toNat) 0,gl,⟨.refl hg,om,by rw [show ((a.length:Int) - 1).toNat = w - 1 by omega]; exact (ha.msb om).as fun ins=>by simp [GS]⟩,Le.mk (.c2 (.cons (ak U bj) .nil)) (.cons (ax U ep) (.c .nil))⟩)
 refine .seq ?_
 obtain ⟨hE,XD,hF⟩:=ZL
 refine .region (.mv ?_)
 refine .bm JF (pZ (l:=a) om) U (.ai U U .nil) ae U (.cj U ae (.sh (Sh.cz (d:=10) (n:=a.length) 110 (a.map ag) U fI (aF U) ae) (.nil (.seq (.block (.kO (fun (iV:List Int)=>⟨[(2,vi n),(9,vi kx),(10,.aR 110 1 0 iV.length)],[(0,.cells [.aR 1 3 0 m9.length]),(1,.rows 3 (m9.map Gate.row)),(110,.rows 1 (iV.map ag))]⟩) (fun iV=>(w <= iV.length /\ iV.length <= n /\ Ws c m9 iV (yz sg A) t)) (fun iV=>n - iV.length) a (⟨om,om,FQ (ha.ext hE)⟩) (Le.mk (.c2 (.cons (aP U om) .nil)) (.c2 (.c .nil))) (fun iV Gx=>?_)))))))
 have hO:=Gx
 refine .seq (.sr (.mv ?_))
 refine .vl (Y.qy (n:=iV.length) az U U) (.mv ?_)
 refine .vl (Y.zd U U) (.nil (.a8 U (fun Hx=>?_) (fun Hx=>?_)))
 refine .skip (.block (.region (.mv ?_)))
 refine .mv ?_
 refine .buildSlice (([kx]:List Int).map ag) az cP U U U U U (aj (s:=1) (f:=ag) (fun _=>U)) U U U ae ?_
 refine .cL ag (iV ++ ([kx]:List Int)) az cP U U U U (aV aH) (aM aH) (bs aH) aH aH ae ae ?_
 refine .an ?_
 refine .nil (⟨iV ++ ([kx]:List Int),⟨by rw [List.length_append,List.length_singleton]; omega,by rw [List.length_append,List.length_singleton]; omega,FT hO.2.2 hO.1 hF⟩,by rw [List.length_append,List.length_singleton]; omega,Le.mk (.c2 (.cons (aP U om) .nil)) (.c2 (.c .nil))⟩)
 refine .exit (.sr (.mv ?_))
 refine .an ?_
 exact .sh (Sh.cO (d:=8) (o:=110) U U (aF om) ae) (.nil (.ret ⟨_,_,U,U,_,_,hE,XD,FU hO.2.2 om om,U,U⟩))
theorem yU{gl:List Gate}(tp:gl.length <= 40000000){n:Nat}(hn:n <= 64):ay Try.prog 78 [.ptr 0 0 0 0,vi n] [.cells [.aR 1 3 0 gl.length],.rows 3 (gl.map Gate.row)] [0] (fun r o=>r = .dn 1 ((zH gl.length n).map ag) /\ o = [.cells [.aR 1 3 0 ((gl ++ rD n).length)],.rows 3 ((gl ++ rD n).map Gate.row)]):=by
 refine ay.of Try.func78 U U U (n:=16) ae (aL U) (.sr (.an (.nil (.sr ?_))))
 refine .an ?_
 refine .sh (Sh.nil (d:=5) 105 1 U ae) (.nil (.seq (.sr (.mv ?_))))
 refine .mv ?_
 refine .nil (.block (.eg (fun (tu:Nat) (aZ:List Gate) (bd:List Int)=>⟨[(0,.ptr 0 0 0 0),(5,.aR 105 1 0 bd.length),(6,vi n),(7,vi tu)],[(0,.cells [.aR 1 3 0 aZ.length]),(1,.rows 3 (aZ.map Gate.row)),(105,.rows 1 (bd.map ag))]⟩) (fun tu aZ bd=>((tu:Int) <= (n:Int)) /\ (aZ = gl ++ rD tu /\ bd = zH gl.length tu)) (fun tu aZ bd=>((n:Int) - (tu:Int)).toNat) 0 gl ([]:List Int) (⟨pj,⟨by simp [rD],U⟩⟩) (Le.mk (.c (.cons (aP U aH) (.c (.cons (ak U bj) .nil)))) (.cons (ax U ep) (.c (.c .nil)))) (fun tu aZ bd qM=>?_)))
 obtain ⟨Ec,hO⟩:=qM
 refine .sr (.vl (Y.zd U U) (.nil (.seq (.a8 U (fun c8=>?_) (fun c8=>?_)))))
 refine .skip (.seq (.block ?_))
 obtain ⟨CC,Ee⟩:=hO; have sK:aZ.length = gl.length + tu:=(by rw [CC,List.length_append,lZ]); have X7:bd.length = tu:=(by rw [Ee,Cl])
 refine .region (.mv ?_)
 refine .mv ?_
 refine .bI [0,1] [] sT (jq (gl:=aZ) (k:=3) (a:=0) (b:=0) om) U (.named U U (.ai U U (.ai U U (.ai U U .nil)))) ⟨U,U,trivial⟩ U ae (fun _ h=>by cases h) (fun _ h=>by cases h) ae ae ?_
 rintro r aJ ⟨rfl,rfl⟩ _
 refine ⟨⟨rfl,(by intro ob aY; simp only [List.mem_cons,List.not_mem_nil,or_false] at aY; rcases aY with rfl | rfl <;> rfl),.inl rfl⟩,(.buildSlice (([(aZ.length:Int)]:List Int).map ag) az cP U U U U U (aj (s:=1) (f:=ag) (fun _=>U)) U U U ae ?_)⟩
 refine .cL ag (bd ++ ([(aZ.length:Int)]:List Int)) az cP U U U U (aV aH) (aM aH) (bs aH) aH aH ae ae ?_
 refine .an (.nil (.region ?_))
 refine .vl (Y.qb U U aH) (.mv ?_)
 refine .nil (⟨tu + 1,aZ ++ [(⟨3,0,0⟩:Gate)],bd ++ ([(aZ.length:Int)]:List Int),⟨om,⟨by rw [oT,CC,List.append_assoc],by rw [FV,<- Ee,sK]⟩⟩,om,Le.mk (.c (.cons (aP U om) (.c (.cons (ak U bj) .nil)))) (.cons (ax U ep) (.c (.c .nil)))⟩)
 refine .exit (.sr (.mv ?_))
 refine .an ?_
 refine .sh (Sh.cO (d:=4) (o:=105) U U (aF om) ae) (.nil (.ret ?_))
 obtain ⟨CC,Ee⟩:=hO; obtain rfl:tu = n:=om; exact ⟨_,_,rfl,rfl,(by rw [Ee]; rfl),(by rw [CC]; rfl)⟩
open Go Go.AW Go.Proofs
theorem vq{c:Int}{gl:List Gate}(hg:Good gl)(tp:gl.length <= 20000000){op:Int}{ws:List (List Int)}{w width:Nat}{xN yN zN:List Bool -> Nat}{t:Int}(hI:Ly c gl ws op w width xN yN zN t)(xC:ws.length <= 100):ay Try.prog 79 [.ptr 0 0 0 0,vi op,.fz 1 (ws.map bG),vi width] [.cells [.aR 1 3 0 gl.length],.rows 3 (gl.map Gate.row)] [0] (fun r o=>∃ (l:List Gate) (out:List Int),Ext gl l /\ l.length <= gl.length + 1600 /\ Cp c l out op w width xN yN zN t /\ r = .dn 1 (out.map ag) /\ o = [.cells [.aR 1 3 0 l.length],.rows 3 (l.map Gate.row)]):=by
 refine ay.of Try.func79 U U U (n:=149) ae (aL U) ?_
 have hX:=hI.x; have kC:=hI.ok; have RP:=hI.hw; have Qo:=hI.hd; have XE:=hX.len
 refine .sr (.an (.nil (.sr ?_)))
 refine .mv ?_
 refine .vl (Y.qt (m:=0) cb U U bj (aq (d:=[]) aH)) (.ld bu ?_)
 refine .an (.nil (.sr ?_))
 refine .an (.nil ?_)
 refine .fS (fun (dU:List Int)=>⟨[(0,.ptr 0 0 0 0),(1,vi op),(2,.fz 1 (ws.map bG)),(3,vi width),(9,.fz 1 ((ws.getD 0 []).map ag)),(10,.fz 1 (dU.map ag))],[(0,.cells [.aR 1 3 0 gl.length]),(1,.rows 3 (gl.map Gate.row))]⟩) (fun dU=>1 < ws.length -> dU = ws.getD 1 []) ?_ (fun dU XF=>?_)
 refine .seq (.sh (Sh.S1 (d:=10) 1 U) (.region (.mv ?_)))
 refine .vl (Y.qy (n:=ws.length) cb U (congrArg some (List.length_map ..))) (.vl (Y.qr U U) (.nil (.a8 U (fun tM=>?_) (fun tM=>?_))))
 refine .region (.mv ?_)
 refine .vl (Y.qt (m:=1) cb U U bj (aq (d:=[]) om)) (.ld bu ?_)
 refine .an ?_
 refine .nil ⟨ws.getD 1 [],fun _=>U,Le.mk (.c4 (.c (.c .nil))) (.c (.c .nil))⟩
 refine .skip ⟨([]:List Int),fun h=>absurd h om,Le.mk (.c4 (.c (.c .nil))) (.c (.c .nil))⟩
 refine .seq (.sr (.mv ?_))
 refine .nil (.block (.seq ?_))
 have qW:op < 21 -> Wk c gl dU w yN t:=fun h=>(by rw [XF om]; have:=hI.y om; rwa [if_neg om] at this)
 have hYl:op < 21 -> dU.length = w:=fun h=>(qW h).len
 refine .region (.vl (Y.qm U U) (.an (.nil ?_)))
 refine .a8 U (fun Uz=>?_) (fun Uz=>?_)
 refine .sr (.mv ?_)
 refine .mv ?_
 refine .mv ?_
 refine .bI [0,1] [] Pg (Gz (gl:=gl) (a:=ws.getD 0 []) (b:=dU) hg om hX.wd (qW om).wd hI.hw hI.t0) U (.named U U (.ai U U (.ai U U .nil))) ⟨U,U,trivial⟩ U ae (fun _ h=>by cases h) (fun _ h=>by cases h) ae ae ?_
 rintro r aJ ⟨l29,XG,Vg,XH,Vh,rfl,rfl⟩ _
 exact ⟨⟨rfl,(by intro ob aY; simp only [List.mem_cons,List.not_mem_nil,or_false] at aY; rcases aY with rfl | rfl <;> rfl),.inl rfl⟩,(.cj U ae (.nil (.ret ⟨_,_,U,U,_,_,Vg,by have:=hX.len; omega,IK Vh om om,U,U⟩)))⟩
 refine .sr (.vl (Y.qm U U) (.an (.nil ?_)))
 refine .a8 U (fun rJ=>?_) (fun rJ=>?_)
 refine .sr (.mv ?_)
 refine .mv ?_
 refine .mv ?_
 refine .bI [0,1] [] Ph (GA (gl:=gl) (a:=ws.getD 0 []) (b:=dU) hg om hX.wd (qW om).wd hI.hw hI.t0) U (.named U U (.ai U U (.ai U U .nil))) ⟨U,U,trivial⟩ U ae (fun _ h=>by cases h) (fun _ h=>by cases h) ae ae ?_
 rintro r aJ ⟨l35,XI,Vi,XJ,Vj,rfl,rfl⟩ _
 exact ⟨⟨rfl,(by intro ob aY; simp only [List.mem_cons,List.not_mem_nil,or_false] at aY; rcases aY with rfl | rfl <;> rfl),.inl rfl⟩,(.cj U ae (.nil (.ret ⟨_,_,U,U,_,_,Vi,by have:=hX.len; omega,IL Vj om om,U,U⟩)))⟩
 refine .sr (.vl (Y.qm U U) (.an (.nil ?_)))
 refine .a8 U (fun RK=>?_) (fun RK=>?_)
 refine .sr (.mv ?_)
 refine .mv ?_
 refine .mv ?_
 refine .bI [0,1] [] Fl (s9 (gl:=gl) (k:=5) (a:=ws.getD 0 []) (b:=dU) (f:=fun k ins=>(xN ins).testBit k) (h:=fun k ins=>(yN ins).testBit k) (e:=fun i ins=>(if (5:Int) = 5 then xN ins &&& yN ins else if (5:Int) = 6 then xN ins ||| yN ins else xN ins ^^^ yN ins).testBit i) (t:=t) (u:=t + 20) hg om ae hX.ws (qW om).ws (by have:=hX.len; have:=(qW om).len; omega) (by have:=hX.len; omega) (Int.le_refl _) (fun i ins=>by simp)) U (.named U U (.ai U U (.ai U U (.ai U U .nil)))) ⟨U,U,trivial⟩ U ae (fun _ h=>by cases h) (fun _ h=>by cases h) ae ae ?_
 rintro r aJ ⟨l41,XK,Vk,XL,XM,Vl,rfl,rfl⟩ _
 exact ⟨⟨rfl,(by intro ob aY; simp only [List.mem_cons,List.not_mem_nil,or_false] at aY; rcases aY with rfl | rfl <;> rfl),.inl rfl⟩,(.cj U ae (.nil (.ret ⟨_,_,U,U,_,_,Vk,by have:=hX.len; omega,wN Vl (by have:=hX.len; omega) hX.lt (qW om).lt om om,U,U⟩)))⟩
 refine .sr (.vl (Y.qm U U) (.an (.nil ?_)))
 refine .a8 U (fun Ed=>?_) (fun Ed=>?_)
 refine .sr (.mv ?_)
 refine .mv ?_
 refine .mv ?_
 refine .bI [0,1] [] Fl (s9 (gl:=gl) (k:=6) (a:=ws.getD 0 []) (b:=dU) (f:=fun k ins=>(xN ins).testBit k) (h:=fun k ins=>(yN ins).testBit k) (e:=fun i ins=>(if (6:Int) = 5 then xN ins &&& yN ins else if (6:Int) = 6 then xN ins ||| yN ins else xN ins ^^^ yN ins).testBit i) (t:=t) (u:=t + 20) hg om ae hX.ws (qW om).ws (by have:=hX.len; have:=(qW om).len; omega) (by have:=hX.len; omega) (Int.le_refl _) (fun i ins=>by simp)) U (.named U U (.ai U U (.ai U U (.ai U U .nil)))) ⟨U,U,trivial⟩ U ae (fun _ h=>by cases h) (fun _ h=>by cases h) ae ae ?_
 rintro r aJ ⟨Zs,Qx,Mb,Qy,Qz,Mc,rfl,rfl⟩ _
 exact ⟨⟨rfl,(by intro ob aY; simp only [List.mem_cons,List.not_mem_nil,or_false] at aY; rcases aY with rfl | rfl <;> rfl),.inl rfl⟩,(.cj U ae (.nil (.ret ⟨_,_,U,U,_,_,Mb,by have:=hX.len; omega,wN Mc (by have:=hX.len; omega) hX.lt (qW om).lt om om,U,U⟩)))⟩
 refine .sr (.vl (Y.qm U U) (.an (.nil ?_)))
 refine .a8 U (fun TD=>?_) (fun TD=>?_)
 refine .sr (.mv ?_)
 refine .mv ?_
 refine .mv ?_
 refine .bI [0,1] [] Fl (s9 (gl:=gl) (k:=7) (a:=ws.getD 0 []) (b:=dU) (f:=fun k ins=>(xN ins).testBit k) (h:=fun k ins=>(yN ins).testBit k) (e:=fun i ins=>(if (7:Int) = 5 then xN ins &&& yN ins else if (7:Int) = 6 then xN ins ||| yN ins else xN ins ^^^ yN ins).testBit i) (t:=t) (u:=t + 20) hg om ae hX.ws (qW om).ws (by have:=hX.len; have:=(qW om).len; omega) (by have:=hX.len; omega) (Int.le_refl _) (fun i ins=>by simp)) U (.named U U (.ai U U (.ai U U (.ai U U .nil)))) ⟨U,U,trivial⟩ U ae (fun _ h=>by cases h) (fun _ h=>by cases h) ae ae ?_
 rintro r aJ ⟨l53,XN,Vm,XO,XP,Vn,rfl,rfl⟩ _
 exact ⟨⟨rfl,(by intro ob aY; simp only [List.mem_cons,List.not_mem_nil,or_false] at aY; rcases aY with rfl | rfl <;> rfl),.inl rfl⟩,(.cj U ae (.nil (.ret ⟨_,_,U,U,_,_,Vm,by have:=hX.len; omega,wN Vn (by have:=hX.len; omega) hX.lt (qW om).lt om om,U,U⟩)))⟩
 refine .sr (.vl (Y.qm U U) (.an (.nil ?_)))
 refine .a8 U (fun Kn=>?_) (fun Kn=>?_)
 refine .sr (.mv ?_)
 refine .mv ?_
 refine .mv ?_
 refine .bI [0,1] [] Fm (qT (gl:=gl) (left:=true) (ar:=false) (a:=ws.getD 0 []) (b:=dU) hg om ae hX.wd (qW om).wd hI.hw hI.t0) U (.named U U (.ai U U (.ai U U (.ai U U (.ai U U .nil))))) ⟨U,U,trivial⟩ U ae (fun _ h=>by cases h) (fun _ h=>by cases h) ae ae ?_
 rintro r aJ ⟨l59,XQ,Vo,XR,Vp,rfl,rfl⟩ _
 exact ⟨⟨rfl,(by intro ob aY; simp only [List.mem_cons,List.not_mem_nil,or_false] at aY; rcases aY with rfl | rfl <;> rfl),.inl rfl⟩,(.cj U ae (.nil (.ret ⟨_,_,U,U,_,_,Vo,by have:=hX.len; omega,AK Vp (qW om).lt (by simp; omega) om,U,U⟩)))⟩
 refine .sr (.vl (Y.qm U U) (.an (.nil ?_)))
 refine .a8 U (fun QD=>?_) (fun QD=>?_)
 refine .sr (.mv ?_)
 refine .mv ?_
 refine .mv ?_
 refine .bI [0,1] [] Fm (qT (gl:=gl) (left:=false) (ar:=false) (a:=ws.getD 0 []) (b:=dU) hg om ae hX.wd (qW om).wd hI.hw hI.t0) U (.named U U (.ai U U (.ai U U (.ai U U (.ai U U .nil))))) ⟨U,U,trivial⟩ U ae (fun _ h=>by cases h) (fun _ h=>by cases h) ae ae ?_
 rintro r aJ ⟨l65,XS,Vq,XT,Vr,rfl,rfl⟩ _
 exact ⟨⟨rfl,(by intro ob aY; simp only [List.mem_cons,List.not_mem_nil,or_false] at aY; rcases aY with rfl | rfl <;> rfl),.inl rfl⟩,(.cj U ae (.nil (.ret ⟨_,_,U,U,_,_,Vq,by have:=hX.len; omega,AK Vr (qW om).lt (by simp; omega) om,U,U⟩)))⟩
 refine .sr (.vl (Y.qm U U) (.an (.nil ?_)))
 refine .a8 U (fun QE=>?_) (fun QE=>?_)
 refine .sr (.mv ?_)
 refine .mv ?_
 refine .mv ?_
 refine .bI [0,1] [] Fm (qT (gl:=gl) (left:=false) (ar:=true) (a:=ws.getD 0 []) (b:=dU) hg om ae hX.wd (qW om).wd hI.hw hI.t0) U (.named U U (.ai U U (.ai U U (.ai U U (.ai U U .nil))))) ⟨U,U,trivial⟩ U ae (fun _ h=>by cases h) (fun _ h=>by cases h) ae ae ?_
 rintro r aJ ⟨l71,XU,Vs,XV,Vt,rfl,rfl⟩ _
 exact ⟨⟨rfl,(by intro ob aY; simp only [List.mem_cons,List.not_mem_nil,or_false] at aY; rcases aY with rfl | rfl <;> rfl),.inl rfl⟩,(.cj U ae (.nil (.ret ⟨_,_,U,U,_,_,Vs,by have:=hX.len; omega,AK Vt (qW om).lt (by simp; omega) om,U,U⟩)))⟩
 refine .sr (.vl (Y.qm U U) (.an (.nil ?_)))
 refine .a8 U (fun TJ=>?_) (fun TJ=>?_)
 refine .sr (.mv ?_)
 refine .mv ?_
 refine .mv ?_
 refine .mv ?_
 refine .bI [0,1] [] JL (ta (gl:=gl) (a:=ws.getD 0 []) (b:=dU) hg om hX.wd (qW om).wd hI.hw hI.t0) U (.named U U (.ai U U (.ai U U .nil))) ⟨U,U,trivial⟩ U ae (fun _ h=>by cases h) (fun _ h=>by cases h) ae ae ?_
 rintro r aJ ⟨XW,ZM,QF,XX,QG,rfl,rfl⟩ _
 refine ⟨⟨rfl,(by intro ob aY; simp only [List.mem_cons,List.not_mem_nil,or_false] at aY; rcases aY with rfl | rfl <;> rfl),.inl rfl⟩,(.bI [0,1] [] uv (gT (gl:=XW) (a:=ZM) om) U (.named U U (.ai U U .nil)) ⟨U,U,trivial⟩ U ae (fun _ h=>by cases h) (fun _ h=>by cases h) ae ae ?_)⟩
 rintro r aJ ⟨rfl,rfl⟩ _
 refine ⟨⟨rfl,(by intro ob aY; simp only [List.mem_cons,List.not_mem_nil,or_false] at aY; rcases aY with rfl | rfl <;> rfl),.inl rfl⟩,(.buildSlice (([(XW.length:Int)]:List Int).map ag) az cP U U U U U (aj (s:=1) (f:=ag) (fun _=>U)) U U U ae ?_)⟩
 exact .cj U ae (.nil (.ret ⟨_,_,U,U,_,_,QF.trans (Ext.not QF.dw QG),by rw [List.length_append,List.length_singleton]; omega,L0 (QG.not om) hX.lt (qW om).lt om om,U,U⟩))
 refine .sr (.vl (Y.qm U U) (.an (.nil ?_)))
 refine .a8 U (fun Kh=>?_) (fun Kh=>?_)
 refine .sr (.mv ?_)
 refine .mv ?_
 refine .mv ?_
 refine .bI [0,1] [] JL (ta (gl:=gl) (a:=ws.getD 0 []) (b:=dU) hg om hX.wd (qW om).wd hI.hw hI.t0) U (.named U U (.ai U U (.ai U U .nil))) ⟨U,U,trivial⟩ U ae (fun _ h=>by cases h) (fun _ h=>by cases h) ae ae ?_
 rintro r aJ ⟨l86,ZN,Vu,XY,Vv,rfl,rfl⟩ _
 refine ⟨⟨rfl,(by intro ob aY; simp only [List.mem_cons,List.not_mem_nil,or_false] at aY; rcases aY with rfl | rfl <;> rfl),.inl rfl⟩,(.buildSlice (([ZN]:List Int).map ag) az cP U U U U U (aj (s:=1) (f:=ag) (fun _=>U)) U U U ae ?_)⟩
 exact .cj U ae (.nil (.ret ⟨_,_,U,U,_,_,Vu,om,Lz Vv hX.lt (qW om).lt om om,U,U⟩))
 refine .seq (.sr (.vl (Y.qm U U) (.an (.nil ?_))))
 refine .bT U (fun oW=>?_) (fun oW=>?_)
 refine .skip (.bf U (.sr (.mv ?_)))
 refine .mv ?_
 refine .mv ?_
 refine .mv ?_
 refine .vl (Y.qm U U) (.bI [0,1] [] BY (pD (gl:=gl) (s:=decide (op = 19)) (a:=ws.getD 0 []) (b:=dU) hg om hX.wd (qW om).wd hI.hw hI.t0) U (.named U U (.ai U U (.ai U U (.ai U U .nil)))) ⟨U,U,trivial⟩ U ae (fun _ h=>by cases h) (fun _ h=>by cases h) ae ae ?_)
 rintro r aJ ⟨ZO,Vw,Mo,QH,Mp,rfl,rfl⟩ _
 refine ⟨⟨rfl,(by intro ob aY; simp only [List.mem_cons,List.not_mem_nil,or_false] at aY; rcases aY with rfl | rfl <;> rfl),.inl rfl⟩,(.buildSlice (([Vw]:List Int).map ag) az cP U U U U U (aj (s:=1) (f:=ag) (fun _=>U)) U U U ae ?_)⟩
 exact .cj U ae (.nil (.ret ⟨_,_,U,U,_,_,Mo,om,FX Mp hX.lt (qW om).lt (by simp; omega) om,U,U⟩))
 refine .region (.vl (Y.qm U U) (.an (.nil ?_)))
 refine .bT U (fun oW=>?_) (fun oW=>?_)
 refine .sr (.mv ?_)
 refine .mv ?_
 refine .mv ?_
 refine .mv ?_
 refine .vl (Y.qm U U) (.bI [0,1] [] BY (pD (gl:=gl) (s:=decide (op = 19)) (a:=ws.getD 0 []) (b:=dU) hg om hX.wd (qW om).wd hI.hw hI.t0) U (.named U U (.ai U U (.ai U U (.ai U U .nil)))) ⟨U,U,trivial⟩ U ae (fun _ h=>by cases h) (fun _ h=>by cases h) ae ae ?_)
 rintro r aJ ⟨ZO,Vw,Mo,QH,Mp,rfl,rfl⟩ _
 refine ⟨⟨rfl,(by intro ob aY; simp only [List.mem_cons,List.not_mem_nil,or_false] at aY; rcases aY with rfl | rfl <;> rfl),.inl rfl⟩,(.buildSlice (([Vw]:List Int).map ag) az cP U U U U U (aj (s:=1) (f:=ag) (fun _=>U)) U U U ae ?_)⟩
 exact .cj U ae (.nil (.ret ⟨_,_,U,U,_,_,Mo,om,FX Mp hX.lt (qW om).lt (by simp; omega) om,U,U⟩))
 refine .seq (.sr (.vl (Y.qm U U) (.an (.nil ?_))))
 refine .bT U (fun ox=>?_) (fun ox=>?_)
 refine .skip (.bf U (.sr (.mv ?_)))
 refine .mv ?_
 refine .mv ?_
 refine .mv ?_
 refine .mv ?_
 refine .vl (Y.qm U U) (.bI [0,1] [] BY (pD (gl:=gl) (s:=decide (op = 20)) (a:=dU) (b:=ws.getD 0 []) hg om (qW om).wd hX.wd hI.hw hI.t0) U (.named U U (.ai U U (.ai U U (.ai U U .nil)))) ⟨U,U,trivial⟩ U ae (fun _ h=>by cases h) (fun _ h=>by cases h) ae ae ?_)
 rintro r aJ ⟨GU,Mq,yV,Mr,yW,rfl,rfl⟩ _
 refine ⟨⟨rfl,(by intro ob aY; simp only [List.mem_cons,List.not_mem_nil,or_false] at aY; rcases aY with rfl | rfl <;> rfl),.inl rfl⟩,(.bI [0,1] [] uv (gT (gl:=GU) (a:=Mq) om) U (.named U U (.ai U U .nil)) ⟨U,U,trivial⟩ U ae (fun _ h=>by cases h) (fun _ h=>by cases h) ae ae ?_)⟩
 rintro r aJ ⟨rfl,rfl⟩ _
 refine ⟨⟨rfl,(by intro ob aY; simp only [List.mem_cons,List.not_mem_nil,or_false] at aY; rcases aY with rfl | rfl <;> rfl),.inl rfl⟩,(.buildSlice (([(GU.length:Int)]:List Int).map ag) az cP U U U U U (aj (s:=1) (f:=ag) (fun _=>U)) U U U ae ?_)⟩
 exact .cj U ae (.nil (.ret ⟨_,_,U,U,_,_,yV.trans (Ext.not yV.dw yW),by rw [List.length_append,List.length_singleton]; omega,FY (yW.not om) hX.lt (qW om).lt (by simp; omega) om,U,U⟩))
 refine .region (.vl (Y.qm U U) (.an (.nil ?_)))
 refine .bT U (fun ox=>?_) (fun ox=>?_)
 refine .sr (.mv ?_)
 refine .mv ?_
 refine .mv ?_
 refine .mv ?_
 refine .mv ?_
 refine .vl (Y.qm U U) (.bI [0,1] [] BY (pD (gl:=gl) (s:=decide (op = 20)) (a:=dU) (b:=ws.getD 0 []) hg om (qW om).wd hX.wd hI.hw hI.t0) U (.named U U (.ai U U (.ai U U (.ai U U .nil)))) ⟨U,U,trivial⟩ U ae (fun _ h=>by cases h) (fun _ h=>by cases h) ae ae ?_)
 rintro r aJ ⟨GU,Mq,yV,Mr,yW,rfl,rfl⟩ _
 refine ⟨⟨rfl,(by intro ob aY; simp only [List.mem_cons,List.not_mem_nil,or_false] at aY; rcases aY with rfl | rfl <;> rfl),.inl rfl⟩,(.bI [0,1] [] uv (gT (gl:=GU) (a:=Mq) om) U (.named U U (.ai U U .nil)) ⟨U,U,trivial⟩ U ae (fun _ h=>by cases h) (fun _ h=>by cases h) ae ae ?_)⟩
 rintro r aJ ⟨rfl,rfl⟩ _
 refine ⟨⟨rfl,(by intro ob aY; simp only [List.mem_cons,List.not_mem_nil,or_false] at aY; rcases aY with rfl | rfl <;> rfl),.inl rfl⟩,(.buildSlice (([(GU.length:Int)]:List Int).map ag) az cP U U U U U (aj (s:=1) (f:=ag) (fun _=>U)) U U U ae ?_)⟩
 exact .cj U ae (.nil (.ret ⟨_,_,U,U,_,_,yV.trans (Ext.not yV.dw yW),by rw [List.length_append,List.length_singleton]; omega,FY (yW.not om) hX.lt (qW om).lt (by simp; omega) om,U,U⟩))
 refine .sr (.vl (Y.qm U U) (.an (.nil ?_)))
 refine .a8 U (fun Gp=>?_) (fun Gp=>?_)
 refine .seq ?_
 have Vx:Wk c gl dU width yN t:=(by rw [XF om]; have:=hI.y om; rwa [if_pos om] at this)
 have Vy:=hI.z om; have ZP:=Vx.len; have ZQ:=Vy.len; have Vz:=hX.bit 0 om; have eN:=Ext.not hg Vz; have nN:=Vz.not (u:=t + 10) (Int.le_refl _)
 refine .region (.mv ?_)
 refine .mv ?_
 refine .vl (Y.qt (m:=0) az U U bj (aq (d:=0) om)) (.ld bw ?_)
 refine .bI [0,1] [] uv (gT (gl:=gl) (a:=(ws.getD 0 []).getD 0 0) om) U (.named U U (.ai U U .nil)) ⟨U,U,trivial⟩ U ae (fun _ h=>by cases h) (fun _ h=>by cases h) ae ae ?_
 rintro r aJ ⟨rfl,rfl⟩ _
 refine ⟨⟨rfl,(by intro ob aY; simp only [List.mem_cons,List.not_mem_nil,or_false] at aY; rcases aY with rfl | rfl <;> rfl),.inl rfl⟩,(.an (.nil (.sr ?_)))⟩
 refine .an ?_
 refine .sh (Sh.nil (d:=12) 112 1 U ae) (.nil (.seq (.sr (.mv ?_))))
 refine .vl (Y.qy (n:=dU.length) az U (congrArg some (List.length_map ..))) (.mv ?_)
 refine .nil (.block ?_)
 refine .eg (fun (fN:Nat) (lI:List Gate) (ky:List Int)=>⟨[(0,.ptr 0 0 0 0),(2,.fz 1 (ws.map bG)),(9,.fz 1 ((ws.getD 0 []).map ag)),(10,.fz 1 (dU.map ag)),(11,vi gl.length),(12,.aR 112 1 0 ky.length),(118,vi dU.length),(119,vi fN)],[(0,.cells [.aR 1 3 0 lI.length]),(1,.rows 3 (lI.map Gate.row)),(112,.rows 1 (ky.map ag))]⟩) (fun fN lI ky=>((fN:Int) <= (dU.length:Int)) /\ (Hs c (gl ++ [(⟨4,(ws.getD 0 []).getD 0 0,0⟩:Gate)]) lI ky (fun i ins=>if (xN ins).testBit 0 then (yN ins).testBit i else (zN ins).testBit i) (t + 50) fN)) (fun fN lI ky=>((dU.length:Int) - (fN:Int)).toNat) 0 (gl ++ [(⟨4,(ws.getD 0 []).getD 0 0,0⟩:Gate)]) ([]:List Int) (⟨pj,Hs.init eN.dw⟩) (Le.mk (.c4 (.c (.cons (aP U aH) (.c (.cons (ak U bj) .nil))))) (.cons (ax U ep) (.c (.c .nil)))) (fun fN lI ky Ma=>?_)
 obtain ⟨ZR,hM⟩:=Ma
 refine .sr (.vl (Y.zd U U) (.nil (.seq (.a8 U (fun V0=>?_) (fun V0=>?_)))))
 refine .skip (.seq (.block (.sr (.mv ?_))))
 refine .an (.nil ?_)
 have Nm:=hM.len; have UY:=hM.ol; rw [List.length_append,List.length_singleton] at Nm; have V8:=(Vx.bit fN om).ext eN; have VA:=(Vy.bit fN om).ext eN
 refine .dS U (.blind 0 U au (aw.move U U) ae (.bX (n:=4) [1,2,3,4,5,6,7,8,9,10,11,12,13,14,15] [16,17,18,19] 16 U au ?_))
 refine .cn 1 U (Y.zh U U) (.cn 2 U (Y.zh U U) (.cn 3 U (Y.qt (m:=0) az U U bj (aq (d:=0) om)) (.cn 4 U (Y.zb bw U U U U) (.cn 5 U (Y.zh U U) (.cn 6 U (Y.zh U U) (.cn 7 U (Y.zh U U) (.cn 8 U (Y.qt (m:=fN) az U U bj (aq (d:=0) om)) (.cn 9 U (Y.zb bw U U U U) (.cn 10 U (Y.zh U U) (.cn 11 U (Y.qt (m:=2) cb U U bj (aq (d:=[]) om)) (.cn 12 U (Y.zb bu U U U U) (.cn 13 U (Y.zh U U) (.cn 14 U (Y.qt (m:=fN) az U U bj (aq (d:=0) om)) (.cn 15 U (Y.zb bw U U U U) (.nil (.one 16 U au ?_))))))))))))))))
 refine .bI [0,1] [] Is (choose_spec (gl:=lI) (s:=(ws.getD 0 []).getD 0 0) (v:=(gl.length:Int)) (y:=dU.getD fN 0) (n:=(ws.getD 2 []).getD fN 0) om) U (.named U U (.ai U U (.ai U U (.ai U U (.ai U U .nil))))) ⟨U,U,trivial⟩ U ae (fun _ h=>by cases h) (fun _ h=>by cases h) ae ae ?_
 rintro r aJ ⟨rfl,rfl⟩ _
 refine ⟨⟨rfl,(by intro ob aY; simp only [List.mem_cons,List.not_mem_nil,or_false] at aY; rcases aY with rfl | rfl <;> rfl),.inl rfl⟩,(.nil ⟨U,(.one 17 U au (.buildSlice (([((lI.length:Int) + 2)]:List Int).map ag) az cP U U U U U (aj (s:=1) (f:=ag) (fun _=>U)) U U U ae ?_))⟩)⟩
 refine .nil ⟨U,(.one 18 U au (.cL ag (ky ++ ([((lI.length:Int) + 2)]:List Int)) az cP U U U U (aV aH) (aM aH) (bs aH) aH aH ae ae ?_))⟩
 refine .nil ⟨U,(.bX (n:=0) [19] [] 0 U au (.cn 19 U (Y.qf U U) (.nil (.done au (.region (.vl (Y.qb U U aH) (.mv ?_)))))))⟩
 refine .nil (⟨fN + 1,yx lI ((ws.getD 0 []).getD 0 0) (gl.length:Int) (dU.getD fN 0) ((ws.getD 2 []).getD fN 0),ky ++ ([((lI.length:Int) + 2)]:List Int),⟨om,hM.step (Vz.ext eN) nN V8 VA om om om om (fun ins=>U)⟩,om,Le.mk (.c4 (.c (.cons (aP U om) (.c (.cons (ak U bj) .nil))))) (.cons (ax U ep) (.c (.c .nil)))⟩)
 refine .exit (.sr (.mv ?_))
 refine .an ?_
 refine .sh (Sh.cO (d:=8) (o:=112) U U (aF om) ae) (.nil (.ret ?_))
 obtain rfl:w = 1:=om; exact ⟨_,_,rfl,rfl,_,_,eN.trans hM.ext,by have:=hM.len; rw [List.length_append,List.length_singleton] at this; omega,IM hM.ws (by have:=hM.ol; omega) hX.lt Vx.lt Vy.lt om,rfl,rfl⟩
 refine .skip (.sr (.mv ?_))
 refine .mv ?_
 refine .mv ?_
 refine .mv ?_
 refine .vl (Y.qm U U) (.bI [0,1] [] Pj (yT (gl:=gl) (a:=ws.getD 0 []) (n:=width) (sg:=decide (op = 23)) hg om hX.wd hI.hw hI.hd hI.t0) U (.named U U (.ai U U (.ai U U (.ai U U .nil)))) ⟨U,U,trivial⟩ U ae (fun _ h=>by cases h) (fun _ h=>by cases h) ae ae ?_)
 rintro r aJ ⟨ZS,VB,QI,VC,QJ,rfl,rfl⟩ _
 exact ⟨⟨rfl,(by intro ob aY; simp only [List.mem_cons,List.not_mem_nil,or_false] at aY; rcases aY with rfl | rfl <;> rfl),.inl rfl⟩,(.cj U ae (.nil (.ret ⟨_,_,U,U,_,_,QI,om,IN QJ hX.lt (by simp; omega),U,U⟩)))⟩
open Go Go.AW Go.Proofs
end Go.Proofs.Ytlimckldnjmabaa
namespace Go.Proofs.Ytlimckldnjmabaa
open Go Go.AW Go.Proofs
theorem Jp{op x:Int}(hp:Plain op)(h0:1 <= x)(h1:x <= 64):ay Try.prog 124 [vi op,vi x] [] [] (fun r o=>∃ c:Int,r = .tup [.agg [vi 0,vi x,vi (bo op x.toNat),vi 0,vi 0,vi c],vi 0] /\ o = []):=by
 refine ay.of Try.func124 U U U (n:=184) ae (aL U) ?_
 have Q7:=hp; unfold Plain KO Seq Unary at Q7; have BB:=Bb (n:=x.toNat) om; have VD:=Bb (n:=(x + 1).toNat) om; have hle:(x + 1).toNat = x.toNat + 1:=om; have XZ:=CA h0 h1 BB; have Ya:=CA h0 h1 VD
 refine .sr (.alloc 104 sR U U ae ?_)
 refine .an ?_
 refine .nil (.seq (.sr (.mv ?_)))
 refine .vl (Y.za U U) (.mv ?_)
 refine .aG (d:=12) U (fun Gl=>?_) (fun Gl=>?_)
 refine .gz 12 (.gz 12 (.pk ?_))
 refine .nil (.bf U (.sr (.vl (Y.qh yf sR U U U) (.ao fV U U U U U U (aL U) U ?_))))
 refine .an (.nil (.ret ?_))
 first | (exfalso; omega) | exact ⟨_,_,rfl,rfl,0,by rw [show bo op x.toNat = 0 by (try rw [hle]); unfold bo; (repeat' split) <;> omega]; rfl,rfl⟩
 refine .gw 12 (Y.zh U U) (.gw 12 (Y.qq U U) (.pk ?_))
 refine .nil (.a8 U (fun tL=>?_) (fun tL=>?_))
 refine .sr (.vl (Y.qh yf sR U U U) (.ao fV U U U U U U (aL U) U ?_))
 refine .an (.nil (.ret ?_))
 first | (exfalso; omega) | exact ⟨_,_,rfl,rfl,0,by rw [show bo op x.toNat = 0 by (try rw [hle]); unfold bo; (repeat' split) <;> omega]; rfl,rfl⟩
 refine .skip (.seq (.sr (.mv ?_)))
 refine .vl (Y.zd U U) (.mv ?_)
 refine .aG (d:=19) U (fun tM=>?_) (fun tM=>?_)
 refine .gz 19 (.gz 19 (.pk ?_))
 refine .nil (.bf U (.sr (.vl (Y.qh yf sR U U U) (.ao fV U U U U U U (aL U) U ?_))))
 refine .an (.nil (.ret ?_))
 first | (exfalso; omega) | exact ⟨_,_,rfl,rfl,0,by rw [show bo op x.toNat = 0 by (try rw [hle]); unfold bo; (repeat' split) <;> omega]; rfl,rfl⟩
 refine .gw 19 (Y.zh U U) (.gw 19 (Y.qr U U) (.pk ?_))
 refine .nil (.a8 U (fun mT=>?_) (fun mT=>?_))
 refine .sr (.vl (Y.qh yf sR U U U) (.ao fV U U U U U U (aL U) U ?_))
 refine .an (.nil (.ret ?_))
 first | (exfalso; omega) | exact ⟨_,_,rfl,rfl,0,by rw [show bo op x.toNat = 0 by (try rw [hle]); unfold bo; (repeat' split) <;> omega]; rfl,rfl⟩
 refine .skip (.sr (.mv ?_))
 refine .mv ?_
 refine .bm BW (me (x:=x) (om) (om)) U (.ai U U .nil) ae U ?_
 refine .mv ?_
 refine .vl (Y.qb U U aH) (.bm BW (me (x:=(x + 1)) (om) (om)) U (.ai U U .nil) ae U ?_)
 refine .an ?_
 refine .an ?_
 refine .an (.nil (.sr ?_))
 refine .mv ?_
 refine .vl (Y.qh yf sR U U U) (.alloc 109 sR U U ae (.ao fV U U U U U U (aL U) U ?_))
 refine .nil (.seq (.sr (.mv ?_)))
 refine .nil (.block (.seq (.sr (.vl (Y.qm U U) (.an (.nil ?_))))))
 refine .bT U (fun LF=>?_) (fun LF=>?_)
 refine .skip (.bf U (.region (.mv ?_)))
 refine .fa fL ?_
 refine .ao fW U U U U U U (aL U) U ?_
 refine .fa et ?_
 refine .ao fW U U U U U U (aL U) U (.nil (.sr (.vl (Y.zc iM U U (aL U) U U) (.ao fV U U U U U U (aL U) U ?_))))
 refine .an (.nil (.ret ?_))
 first | (exfalso; omega) | exact ⟨_,_,rfl,rfl,x,by rw [show bo op x.toNat = 20 by (try rw [hle]); unfold bo; (repeat' split) <;> omega]; rfl,rfl⟩
 refine .sr (.vl (Y.qm U U) (.an (.nil ?_)))
 refine .bT U (fun LF=>?_) (fun LF=>?_)
 refine .skip (.bf U (.region (.mv ?_)))
 refine .fa fL ?_
 refine .ao fW U U U U U U (aL U) U ?_
 refine .fa et ?_
 refine .ao fW U U U U U U (aL U) U (.nil (.sr (.vl (Y.zc iM U U (aL U) U U) (.ao fV U U U U U U (aL U) U ?_))))
 refine .an (.nil (.ret ?_))
 first | (exfalso; omega) | exact ⟨_,_,rfl,rfl,x,by rw [show bo op x.toNat = 20 by (try rw [hle]); unfold bo; (repeat' split) <;> omega]; rfl,rfl⟩
 refine .region (.vl (Y.qm U U) (.an (.nil ?_)))
 refine .bT U (fun LF=>?_) (fun LF=>?_)
 refine .region (.mv ?_)
 refine .fa fL ?_
 refine .ao fW U U U U U U (aL U) U ?_
 refine .fa et ?_
 refine .ao fW U U U U U U (aL U) U (.nil (.sr (.vl (Y.zc iM U U (aL U) U U) (.ao fV U U U U U U (aL U) U ?_))))
 refine .an (.nil (.ret ?_))
 first | (exfalso; omega) | exact ⟨_,_,rfl,rfl,x,by rw [show bo op x.toNat = 20 by (try rw [hle]); unfold bo; (repeat' split) <;> omega]; rfl,rfl⟩
 refine .sr (.vl (Y.qm U U) (.an (.nil ?_)))
 refine .a8 U (fun Md=>?_) (fun Md=>?_)
 refine .region (.mv ?_)
 refine .vl (Y.zj U U om) (.vl (Y.qb U U aH) (.mv ?_))
 refine .vl (Y.zj U U om) (.mv ?_)
 refine .vl (Y.zj U U om) (.mv ?_)
 refine .vl (Y.zj U U om) (.vl (Y.qb U U aH) (.fa fL ?_))
 refine .ao fW U U U U U U (aL U) U ?_
 refine .fa et ?_
 refine .ao fW U U U U U U (aL U) U (.nil (.sr (.vl (Y.zc iM U U (aL U) U U) (.ao fV U U U U U U (aL U) U ?_))))
 refine .an (.nil (.ret ?_))
 first | (exfalso; omega) | exact ⟨_,_,rfl,rfl,(3 * x) + ((3 * x) * ((dF x.toNat:Nat):Int)),by rw [show bo op x.toNat = 40 + (40 * ((dF x.toNat:Nat):Int)) by (try rw [hle]); unfold bo; (repeat' split) <;> omega]; rfl,rfl⟩
 refine .sr (.vl (Y.qm U U) (.an (.nil ?_)))
 refine .a8 U (fun Kn=>?_) (fun Kn=>?_)
 refine .region (.mv ?_)
 refine .vl (Y.zj U U om) (.vl (Y.qb U U aH) (.mv ?_))
 refine .vl (Y.zj U U om) (.mv ?_)
 refine .vl (Y.zj U U om) (.mv ?_)
 refine .vl (Y.zj U U om) (.vl (Y.qb U U aH) (.fa fL ?_))
 refine .ao fW U U U U U U (aL U) U ?_
 refine .fa et ?_
 refine .ao fW U U U U U U (aL U) U (.nil (.sr (.vl (Y.zc iM U U (aL U) U U) (.ao fV U U U U U U (aL U) U ?_))))
 refine .an (.nil (.ret ?_))
 first | (exfalso; omega) | exact ⟨_,_,rfl,rfl,(4 * x) + ((3 * x) * ((dF x.toNat:Nat):Int)),by rw [show bo op x.toNat = 50 + (40 * ((dF x.toNat:Nat):Int)) by (try rw [hle]); unfold bo; (repeat' split) <;> omega]; rfl,rfl⟩
 refine .seq (.sr (.vl (Y.qm U U) (.an (.nil ?_))))
 refine .bT U (fun Kb=>?_) (fun Kb=>?_)
 refine .skip (.bf U (.region (.mv ?_)))
 refine .vl (Y.zj U U om) (.vl (Y.qb U U aH) (.mv ?_))
 refine .vl (Y.zj U U om) (.fa fL ?_)
 refine .ao fW U U U U U U (aL U) U ?_
 refine .fa et ?_
 refine .ao fW U U U U U U (aL U) U (.nil (.sr (.vl (Y.zc iM U U (aL U) U U) (.ao fV U U U U U U (aL U) U ?_))))
 refine .an (.nil (.ret ?_))
 first | (exfalso; omega) | exact ⟨_,_,rfl,rfl,2 * x,by rw [show bo op x.toNat = 30 + (20 * ((dF x.toNat:Nat):Int)) by (try rw [hle]); unfold bo; (repeat' split) <;> omega]; rfl,rfl⟩
 refine .region (.vl (Y.qm U U) (.an (.nil ?_)))
 refine .bT U (fun Kb=>?_) (fun Kb=>?_)
 refine .region (.mv ?_)
 refine .vl (Y.zj U U om) (.vl (Y.qb U U aH) (.mv ?_))
 refine .vl (Y.zj U U om) (.fa fL ?_)
 refine .ao fW U U U U U U (aL U) U ?_
 refine .fa et ?_
 refine .ao fW U U U U U U (aL U) U (.nil (.sr (.vl (Y.zc iM U U (aL U) U U) (.ao fV U U U U U U (aL U) U ?_))))
 refine .an (.nil (.ret ?_))
 first | (exfalso; omega) | exact ⟨_,_,rfl,rfl,2 * x,by rw [show bo op x.toNat = 30 + (20 * ((dF x.toNat:Nat):Int)) by (try rw [hle]); unfold bo; (repeat' split) <;> omega]; rfl,rfl⟩
 refine .seq (.sr (.vl (Y.qm U U) (.an (.nil ?_))))
 refine .bT U (fun Qh=>?_) (fun Qh=>?_)
 refine .skip (.bf U (.region (.mv ?_)))
 refine .vl (Y.zj U U om) (.vl (Y.qb U U aH) (.mv ?_))
 refine .vl (Y.zj U U om) (.mv ?_)
 refine .vl (Y.zj U U om) (.mv ?_)
 refine .vl (Y.zj U U om) (.vl (Y.qb U U aH) (.fa fL ?_))
 refine .ao fW U U U U U U (aL U) U ?_
 refine .fa et ?_
 refine .ao fW U U U U U U (aL U) U (.nil (.sr (.vl (Y.zc iM U U (aL U) U U) (.ao fV U U U U U U (aL U) U ?_))))
 refine .an (.nil (.ret ?_))
 first | (exfalso; omega) | exact ⟨_,_,rfl,rfl,(4 * x) + ((3 * x) * ((dF (x + 1).toNat:Nat):Int)),by rw [show bo op x.toNat = 40 + (40 * ((dF (x + 1).toNat:Nat):Int)) by (try rw [hle]); unfold bo; (repeat' split) <;> omega]; rfl,rfl⟩
 refine .region (.vl (Y.qm U U) (.an (.nil ?_)))
 refine .bT U (fun Qh=>?_) (fun Qh=>?_)
 refine .region (.mv ?_)
 refine .vl (Y.zj U U om) (.vl (Y.qb U U aH) (.mv ?_))
 refine .vl (Y.zj U U om) (.mv ?_)
 refine .vl (Y.zj U U om) (.mv ?_)
 refine .vl (Y.zj U U om) (.vl (Y.qb U U aH) (.fa fL ?_))
 refine .ao fW U U U U U U (aL U) U ?_
 refine .fa et ?_
 refine .ao fW U U U U U U (aL U) U (.nil (.sr (.vl (Y.zc iM U U (aL U) U U) (.ao fV U U U U U U (aL U) U ?_))))
 refine .an (.nil (.ret ?_))
 first | (exfalso; omega) | exact ⟨_,_,rfl,rfl,(4 * x) + ((3 * x) * ((dF (x + 1).toNat:Nat):Int)),by rw [show bo op x.toNat = 40 + (40 * ((dF (x + 1).toNat:Nat):Int)) by (try rw [hle]); unfold bo; (repeat' split) <;> omega]; rfl,rfl⟩
 refine .seq (.sr (.vl (Y.qm U U) (.an (.nil ?_))))
 refine .bT U (fun LN=>?_) (fun LN=>?_)
 refine .skip (.bf U (.region (.mv ?_)))
 refine .vl (Y.zj U U om) (.vl (Y.qb U U aH) (.mv ?_))
 refine .vl (Y.zj U U om) (.mv ?_)
 refine .vl (Y.zj U U om) (.mv ?_)
 refine .vl (Y.zj U U om) (.vl (Y.qb U U aH) (.vl (Y.qb U U aH) (.fa fL ?_)))
 refine .ao fW U U U U U U (aL U) U ?_
 refine .fa et ?_
 refine .ao fW U U U U U U (aL U) U (.nil (.sr (.vl (Y.zc iM U U (aL U) U U) (.ao fV U U U U U U (aL U) U ?_))))
 refine .an (.nil (.ret ?_))
 first | (exfalso; omega) | exact ⟨_,_,rfl,rfl,((4 * x) + ((3 * x) * ((dF (x + 1).toNat:Nat):Int))) + 2,by rw [show bo op x.toNat = 50 + (40 * ((dF (x + 1).toNat:Nat):Int)) by (try rw [hle]); unfold bo; (repeat' split) <;> omega]; rfl,rfl⟩
 refine .region (.vl (Y.qm U U) (.an (.nil ?_)))
 refine .bT U (fun LN=>?_) (fun LN=>?_)
 refine .region (.mv ?_)
 refine .vl (Y.zj U U om) (.vl (Y.qb U U aH) (.mv ?_))
 refine .vl (Y.zj U U om) (.mv ?_)
 refine .vl (Y.zj U U om) (.mv ?_)
 refine .vl (Y.zj U U om) (.vl (Y.qb U U aH) (.vl (Y.qb U U aH) (.fa fL ?_)))
 refine .ao fW U U U U U U (aL U) U ?_
 refine .fa et ?_
 refine .ao fW U U U U U U (aL U) U (.nil (.sr (.vl (Y.zc iM U U (aL U) U U) (.ao fV U U U U U U (aL U) U ?_))))
 refine .an (.nil (.ret ?_))
 first | (exfalso; omega) | exact ⟨_,_,rfl,rfl,((4 * x) + ((3 * x) * ((dF (x + 1).toNat:Nat):Int))) + 2,by rw [show bo op x.toNat = 50 + (40 * ((dF (x + 1).toNat:Nat):Int)) by (try rw [hle]); unfold bo; (repeat' split) <;> omega]; rfl,rfl⟩
 refine .sr (.vl (Y.qm U U) (.an (.nil ?_)))
 refine .a8 U (fun VE=>?_) (fun VE=>?_)
 refine .region (.mv ?_)
 refine .vl (Y.zj U U om) (.vl (Y.qb U U aH) (.fa fL ?_))
 refine .ao fW U U U U U U (aL U) U ?_
 refine .fa et ?_
 refine .ao fW U U U U U U (aL U) U (.nil (.sr (.vl (Y.zc iM U U (aL U) U U) (.ao fV U U U U U U (aL U) U ?_))))
 refine .an (.nil (.ret ?_))
 first | (exfalso; omega) | exact ⟨_,_,rfl,rfl,(3 * x) + 1,by rw [show bo op x.toNat = 50 by (try rw [hle]); unfold bo; (repeat' split) <;> omega]; rfl,rfl⟩
 refine .seq (.sr (.vl (Y.qm U U) (.an (.nil ?_))))
 refine .bT U (fun Bj=>?_) (fun Bj=>?_)
 refine .skip (.bf U (.region (.mv ?_)))
 refine .vl (Y.zj U U om) (.vl (Y.qb U U aH) (.mv ?_))
 refine .vl (Y.zj U U om) (.mv ?_)
 refine .vl (Y.zj U U om) (.mv ?_)
 refine .vl (Y.zj U U om) (.vl (Y.qb U U aH) (.fa fL ?_))
 refine .ao fW U U U U U U (aL U) U ?_
 refine .fa et ?_
 refine .ao fW U U U U U U (aL U) U (.nil (.sr (.vl (Y.zc iM U U (aL U) U U) (.ao fV U U U U U U (aL U) U ?_))))
 refine .an (.nil (.ret ?_))
 first | (exfalso; omega) | exact ⟨_,_,rfl,rfl,(2 * x) + ((3 * x) * ((dF x.toNat:Nat):Int)),by rw [show bo op x.toNat = 30 + (40 * ((dF x.toNat:Nat):Int)) by (try rw [hle]); unfold bo; (repeat' split) <;> omega]; rfl,rfl⟩
 refine .region (.vl (Y.qm U U) (.an (.nil ?_)))
 refine .bT U (fun Bj=>?_) (fun Bj=>?_)
 refine .region (.mv ?_)
 refine .vl (Y.zj U U om) (.vl (Y.qb U U aH) (.mv ?_))
 refine .vl (Y.zj U U om) (.mv ?_)
 refine .vl (Y.zj U U om) (.mv ?_)
 refine .vl (Y.zj U U om) (.vl (Y.qb U U aH) (.fa fL ?_))
 refine .ao fW U U U U U U (aL U) U ?_
 refine .fa et ?_
 refine .ao fW U U U U U U (aL U) U (.nil (.sr (.vl (Y.zc iM U U (aL U) U U) (.ao fV U U U U U U (aL U) U ?_))))
 refine .an (.nil (.ret ?_))
 first | (exfalso; omega) | exact ⟨_,_,rfl,rfl,(2 * x) + ((3 * x) * ((dF x.toNat:Nat):Int)),by rw [show bo op x.toNat = 30 + (40 * ((dF x.toNat:Nat):Int)) by (try rw [hle]); unfold bo; (repeat' split) <;> omega]; rfl,rfl⟩
 refine .sr (.vl (Y.qm U U) (.an (.nil ?_)))
 refine .a8 U (fun qO=>?_) (fun qO=>?_)
 refine .region (.mv ?_)
 refine .vl (Y.zj U U om) (.vl (Y.qb U U aH) (.mv ?_))
 refine .vl (Y.zj U U om) (.mv ?_)
 refine .vl (Y.zj U U om) (.mv ?_)
 refine .vl (Y.zj U U om) (.vl (Y.qb U U aH) (.fa fL ?_))
 refine .ao fW U U U U U U (aL U) U ?_
 refine .fa et ?_
 refine .ao fW U U U U U U (aL U) U (.nil (.sr (.vl (Y.zc iM U U (aL U) U U) (.ao fV U U U U U U (aL U) U ?_))))
 refine .an (.nil (.ret ?_))
 first | (exfalso; omega) | exact ⟨_,_,rfl,rfl,(4 * x) + ((3 * x) * ((dF x.toNat:Nat):Int)),by rw [show bo op x.toNat = 50 + (40 * ((dF x.toNat:Nat):Int)) by (try rw [hle]); unfold bo; (repeat' split) <;> omega]; rfl,rfl⟩
 refine .sr (.vl (Y.qm U U) (.an (.nil ?_)))
 refine .a8 U (fun GV=>?_) (fun GV=>?_)
 refine .region (.mv ?_)
 refine .vl (Y.qb U U aH) (.vl (Y.zq U U om) (.vl (Y.qb U U aH) (.mv ?_)))
 refine .vl (Y.zj U U om) (.mv ?_)
 refine .vl (Y.zj U U om) (.fa rr ?_)
 refine .ao fW U U U U U U (aL U) U ?_
 refine .fa ru ?_
 refine .ao fW U U U U U U (aL U) U ?_
 refine .fa ry ?_
 refine .ao fW U U U U U U (aL U) U ?_
 refine .fa et ?_
 refine .ao fW U U U U U U (aL U) U (.nil (.sr (.vl (Y.zc iM U U (aL U) U U) (.ao fV U U U U U U (aL U) U ?_))))
 refine .an (.nil (.ret ?_))
 first | (exfalso; omega) | exact ⟨_,_,rfl,rfl,(6 * x) * x,by rw [show bo op x.toNat = 0 by (try rw [hle]); unfold bo; (repeat' split) <;> omega]; rfl,rfl⟩
 refine .seq (.sr (.vl (Y.qm U U) (.an (.nil ?_))))
 refine .bT U (fun nK=>?_) (fun nK=>?_)
 refine .skip (.bf U (.sr (.mv ?_)))
 refine .vl (Y.qb U U aH) (.vl (Y.wc U U aH) (.fa rr ?_))
 refine .ao fW U U U U U U (aL U) U (.nil (.region (.mv ?_)))
 refine .vl (Y.qb U U aH) (.vl (Y.zq U U om) (.vl (Y.qb U U aH) (.mv ?_)))
 refine .vl (Y.qb U U aH) (.vl (Y.zq U U om) (.vl (Y.qb U U aH) (.mv ?_)))
 refine .vl (Y.zj U U om) (.mv ?_)
 refine .vl (Y.zj U U om) (.fa ru ?_)
 refine .ao fW U U U U U U (aL U) U ?_
 refine .fa ry ?_
 refine .ao fW U U U U U U (aL U) U ?_
 refine .fa et ?_
 refine .ao fW U U U U U U (aL U) U (.nil (.sr (.vl (Y.zc iM U U (aL U) U U) (.ao fV U U U U U U (aL U) U ?_))))
 refine .an (.nil (.ret ?_))
 first | (exfalso; omega) | exact ⟨_,_,rfl,rfl,(8 * x) * x,by rw [show bo op x.toNat = 0 by (try rw [hle]); unfold bo; (repeat' split) <;> omega]; rfl,rfl⟩
 refine .sr (.vl (Y.qm U U) (.an (.nil ?_)))
 refine .bT U (fun nK=>?_) (fun nK=>?_)
 refine .skip (.bf U (.sr (.mv ?_)))
 refine .vl (Y.qb U U aH) (.vl (Y.wc U U aH) (.fa rr ?_))
 refine .ao fW U U U U U U (aL U) U (.nil (.region (.mv ?_)))
 refine .vl (Y.qb U U aH) (.vl (Y.zq U U om) (.vl (Y.qb U U aH) (.mv ?_)))
 refine .vl (Y.qb U U aH) (.vl (Y.zq U U om) (.vl (Y.qb U U aH) (.mv ?_)))
 refine .vl (Y.zj U U om) (.mv ?_)
 refine .vl (Y.zj U U om) (.fa ru ?_)
 refine .ao fW U U U U U U (aL U) U ?_
 refine .fa ry ?_
 refine .ao fW U U U U U U (aL U) U ?_
 refine .fa et ?_
 refine .ao fW U U U U U U (aL U) U (.nil (.sr (.vl (Y.zc iM U U (aL U) U U) (.ao fV U U U U U U (aL U) U ?_))))
 refine .an (.nil (.ret ?_))
 first | (exfalso; omega) | exact ⟨_,_,rfl,rfl,(8 * x) * x,by rw [show bo op x.toNat = 0 by (try rw [hle]); unfold bo; (repeat' split) <;> omega]; rfl,rfl⟩
 refine .sr (.vl (Y.qm U U) (.an (.nil ?_)))
 refine .bT U (fun nK=>?_) (fun nK=>?_)
 refine .skip (.bf U (.sr (.mv ?_)))
 refine .vl (Y.qb U U aH) (.vl (Y.wc U U aH) (.fa rr ?_))
 refine .ao fW U U U U U U (aL U) U (.nil (.region (.mv ?_)))
 refine .vl (Y.qb U U aH) (.vl (Y.zq U U om) (.vl (Y.qb U U aH) (.mv ?_)))
 refine .vl (Y.qb U U aH) (.vl (Y.zq U U om) (.vl (Y.qb U U aH) (.mv ?_)))
 refine .vl (Y.zj U U om) (.mv ?_)
 refine .vl (Y.zj U U om) (.fa ru ?_)
 refine .ao fW U U U U U U (aL U) U ?_
 refine .fa ry ?_
 refine .ao fW U U U U U U (aL U) U ?_
 refine .fa et ?_
 refine .ao fW U U U U U U (aL U) U (.nil (.sr (.vl (Y.zc iM U U (aL U) U U) (.ao fV U U U U U U (aL U) U ?_))))
 refine .an (.nil (.ret ?_))
 first | (exfalso; omega) | exact ⟨_,_,rfl,rfl,(8 * x) * x,by rw [show bo op x.toNat = 0 by (try rw [hle]); unfold bo; (repeat' split) <;> omega]; rfl,rfl⟩
 refine .region (.vl (Y.qm U U) (.an (.nil ?_)))
 refine .bT U (fun nK=>?_) (fun nK=>?_)
 refine .sr (.mv ?_)
 refine .vl (Y.qb U U aH) (.vl (Y.wc U U aH) (.fa rr ?_))
 refine .ao fW U U U U U U (aL U) U (.nil (.region (.mv ?_)))
 refine .vl (Y.qb U U aH) (.vl (Y.zq U U om) (.vl (Y.qb U U aH) (.mv ?_)))
 refine .vl (Y.qb U U aH) (.vl (Y.zq U U om) (.vl (Y.qb U U aH) (.mv ?_)))
 refine .vl (Y.zj U U om) (.mv ?_)
 refine .vl (Y.zj U U om) (.fa ru ?_)
 refine .ao fW U U U U U U (aL U) U ?_
 refine .fa ry ?_
 refine .ao fW U U U U U U (aL U) U ?_
 refine .fa et ?_
 refine .ao fW U U U U U U (aL U) U (.nil (.sr (.vl (Y.zc iM U U (aL U) U U) (.ao fV U U U U U U (aL U) U ?_))))
 refine .an (.nil (.ret ?_))
 first | (exfalso; omega) | exact ⟨_,_,rfl,rfl,(8 * x) * x,by rw [show bo op x.toNat = 0 by (try rw [hle]); unfold bo; (repeat' split) <;> omega]; rfl,rfl⟩
 refine .skip (.sr (.vl (Y.zc iM U U (aL U) U U) (.ao fV U U U U U U (aL U) U ?_)))
 refine .an (.nil (.ret ?_))
 first | (exfalso; omega) | exact ⟨_,_,rfl,rfl,0,by rw [show bo op x.toNat = 0 by (try rw [hle]); unfold bo; (repeat' split) <;> omega]; rfl,rfl⟩
open Go Go.AW Go.Proofs
end Go.Proofs.Ytlimckldnjmabaa
namespace Go.Proofs.Ytlimckldnjmabaa
open Go Go.AW Go.Proofs
open Go Go.AW Go.Proofs
theorem xm{gl:List Gate}(tp:gl.length <= 40000000){x:Int}(hx:0 <= x /\ x <= 64):ay Try.prog 78 [.ptr 0 0 0 0,vi x] [.cells [.aR 1 3 0 gl.length],.rows 3 (gl.map Gate.row)] [0] (fun r o=>r = .dn 1 ((zH gl.length x.toNat).map ag) /\ o = [.cells [.aR 1 3 0 (gl ++ rD x.toNat).length],.rows 3 ((gl ++ rD x.toNat).map Gate.row)]):=by
 obtain ⟨n,rfl⟩:∃ n:Nat,x = (n:Int):=⟨x.toNat,om⟩
 rw [Int.toNat_natCast]; exact yU tp om
theorem uW{c : Int}{gl : List Gate}(hg : Good gl)(tp : gl.length ≤ 20000000){op : Int}{ws : List (List Int)}{w : Nat}{width : Int}{xN yN zN : List Bool → Nat}{t : Int}(hI : Ly c gl ws op w width.toNat xN yN zN t)(xC : ws.length ≤ 100)(h0 : 0 ≤ width) :
  ay Try.prog 79 [.ptr 0 0 0 0,.v (.int .i64 op),.fz 1 (ws.map bG),.v (.int .i64 width)] [.cells [.aR 1 3 0 gl.length],.rows 3 (gl.map Gate.row)] [0] (fun r o=>∃ (l:List Gate) (out:List Int),Ext gl l /\ l.length <= gl.length + 1600 /\ Cp c l out op w width.toNat xN yN zN t /\ r = .dn 1 (out.map ag) /\ o = [.cells [.aR 1 3 0 l.length],.rows 3 (l.map Gate.row)]):=by
 have h:=vq (c:=c) hg tp hI xC
 rwa [Int.toNat_of_nonneg h0] at h
open Go Go.AW Go.Proofs
end Go.Proofs.Ytlimckldnjmabaa
namespace Go.Proofs.Ytlimckldnjmabaa
open Go Go.AW Go.Proofs
open Go Go.AW Go.Proofs
end Go.Proofs.Ytlimckldnjmabaa
namespace Go.Proofs.Ytlimckldnjmabaa
open Go Go.AW Go.Proofs
open Go Go.AW Go.Proofs
theorem Bk{gl:List Gate}(hg:Good gl)(tp:gl.length <= 10000000){n:ab}{c:Cell}{bits:List (List Int)}{V:List Bool -> Int -> Nat}{at_:List Int}(hI:CI n c gl bits V at_)(Hz:n.aa.length <= 1000)(Oz:c.num < 18446744073709551616):ay Try.prog 94 [.ptr 0 0 0 0,.agg (ab.row n),.agg (Cell.row c),.fz 1 (bits.map bG)] [.cells [.aR 1 3 0 gl.length],.rows 3 (gl.map Gate.row)] [0] (fun r o=>∃ (l:List Gate) (out:List Int),(Ext gl l /\ l.length <= gl.length + 1700 /\ Wk 30 l out (n.ow c).toNat (fun ins=>kQ n c (V ins)) (lO n at_ c)) /\ r = .dn 1 (out.map ag) /\ o = [.cells [.aR 1 3 0 l.length],.rows 3 (l.map Gate.row)]):=by
 refine ay.of Try.func94 U U U (n:=116) ae (aL U) ?_
 obtain ⟨R9,ZT,L5⟩:=hI.out; have hT:=hI.T; have yA:=hI.bl; have tk:=hI.al; unfold dO at ZT; have CZ:n.aa.getD c.out.toNat 0 = n.wd c.out:=rfl
 refine .sr (.box 105 U U U U U ae (.box 106 U U U U U ae ?_))
 refine .an ?_
 refine .nil (.seq (.sh (Sh.dD 105 U U) (.sh (Sh.dD 106 U U) (.region (.fa cg ?_)))))
 refine .ld bu ?_
 refine .fa eR ?_
 refine .ld bw ?_
 refine .vl (Y.qt (m:=(c.out).toNat) az U U om (aq (d:=0) om)) (.ld bw ?_)
 refine .an ?_
 refine .nil (.seq (.sr (.fa du ?_)))
 refine .ld bw ?_
 refine .nil (.block (.sr (.vl (Y.qm U U) (.an (.nil ?_)))))
 refine .a8 U (fun Cy=>?_) (fun Cy=>?_)
 refine .sr (.an ?_)
 refine .sh (Sh.nil (d:=10) 110 1 U ae) (.nil (.seq (.sr (.mv ?_))))
 refine .mv ?_
 refine .nil (.block (.eg (fun (mh:Nat) (fZ:List Gate) (mi:List Int)=>⟨[(0,.ptr 0 0 0 0),(6,.fp (Cell.row c) 0),(10,.aR 110 1 0 mi.length),(29,vi (n.aa.getD ((c.out).toNat) 0)),(30,vi mh)],[(0,.cells [.aR 1 3 0 fZ.length]),(1,.rows 3 (fZ.map Gate.row)),(110,.rows 1 (mi.map ag))]⟩) (fun mh fZ mi=>((mh:Int) <= (n.aa.getD ((c.out).toNat) 0)) /\ (xw 30 gl fZ mi (fun k _=>c.num.testBit k) 0 mh)) (fun mh fZ mi=>((n.aa.getD ((c.out).toNat) 0) - (mh:Int)).toNat) 0 gl ([]:List Int) (⟨pj,xw.init hg⟩) (Le.mk (.c2 (.cons (aP U aH) (.c (.cons (ak U bj) .nil)))) (.cons (ax U ep) (.c (.c .nil)))) (fun mh fZ mi LM=>?_)))
 obtain ⟨Xs,hM⟩:=LM
 refine .sr (.vl (Y.zd U U) (.nil (.seq (.a8 U (fun ZU=>?_) (fun ZU=>?_)))))
 refine .skip (.seq (.block (.sr (.mv ?_))))
 refine .an (.nil ?_)
 have Nm:=hM.len; have UY:=hM.ol; have Yx:=Nat.div_le_self c.num (2 ^ mh)
 refine .region (.mv ?_)
 refine .mv ?_
 refine .fa eh ?_
 refine .ld iN ?_
 refine .mv ?_
 refine .vl (Y.zx (a:=c.num) mh U U bj om) (.vl (Y.qe (a:=(c.num / 2 ^ mh)) (b:=1) U U aH) (.vl (Y.ql Av sx U (by first | rfl | exact IntWalk.i64_in _ aH)) (.vl (Y.qb U U aH) (.bI [0,1] [] sT (jq (gl:=fZ) (k:=1 + (((c.num / 2 ^ mh) &&& 1:Nat):Int)) (a:=0) (b:=0) om) U (.named U U (.ai U U (.ai U U (.ai U U .nil)))) ⟨U,U,trivial⟩ U ae (fun _ h=>by cases h) (fun _ h=>by cases h) ae ae ?_))))
 rintro r aJ ⟨rfl,rfl⟩ _
 refine ⟨⟨rfl,(by intro ob aY; simp only [List.mem_cons,List.not_mem_nil,or_false] at aY; rcases aY with rfl | rfl <;> rfl),.inl rfl⟩,(.buildSlice (([(fZ.length:Int)]:List Int).map ag) az cP U U U U U (aj (s:=1) (f:=ag) (fun _=>U)) U U U ae ?_)⟩
 refine .cL ag (mi ++ ([(fZ.length:Int)]:List Int)) az cP U U U U (aV aH) (aM aH) (bs aH) aH aH ae ae ?_
 refine .an (.nil (.region ?_))
 refine .vl (Y.qb U U aH) (.mv ?_)
 refine .nil (⟨mh + 1,fZ ++ [(⟨1 + (((c.num / 2 ^ mh) &&& 1:Nat):Int),0,0⟩:Gate)],mi ++ ([(fZ.length:Int)]:List Int),⟨om,hM.MO (Int.le_refl _) (by rw [Nat.and_one_is_mod,Nat.toNat_testBit])⟩,om,Le.mk (.c2 (.cons (aP U om) (.c (.cons (ak U bj) .nil)))) (.cons (ax U ep) (.c (.c .nil)))⟩)
 refine .exit (.sr (.mv ?_))
 refine .an ?_
 exact .sh (Sh.cO (d:=8) (o:=110) U U (aF om) ae) (.nil (.ret ⟨_,_,U,U,_,_,hI.const Cy (by rw [show (n.ow c).toNat = mh by omega]; exact hM),U,U⟩))
 refine .sr (.vl (Y.qm U U) (.an (.nil ?_)))
 refine .a8 U (fun Jd=>?_) (fun Jd=>?_)
 have h3:c.kind = 3:=Jd
 refine .sr (.an ?_)
 refine .sh (Sh.nil (d:=12) 112 1 U ae) (.nil (.seq (.sr (.mv ?_))))
 refine .mv ?_
 refine .nil (.block (.eg (fun (jd:Nat) (cW:List Gate) (iP:List Int)=>⟨[(0,.ptr 0 0 0 0),(3,.fz 1 (bits.map bG)),(6,.fp (Cell.row c) 0),(12,.aR 112 1 0 iP.length),(49,vi (n.aa.getD ((c.out).toNat) 0)),(50,vi jd)],[(0,.cells [.aR 1 3 0 cW.length]),(1,.rows 3 (cW.map Gate.row)),(112,.rows 1 (iP.map ag))]⟩) (fun jd cW iP=>((jd:Int) <= (n.aa.getD ((c.out).toNat) 0)) /\ (Hu n c V at_ gl cW iP jd)) (fun jd cW iP=>((n.aa.getD ((c.out).toNat) 0) - (jd:Int)).toNat) 0 gl ([]:List Int) (⟨pj,Hu.init hg⟩) (Le.mk (.c2 (.c (.cons (aP U aH) (.c (.cons (ak U bj) .nil))))) (.cons (ax U ep) (.c (.c .nil)))) (fun jd cW iP GC=>?_)))
 obtain ⟨VF,hO⟩:=GC
 refine .sr (.vl (Y.zd U U) (.nil (.seq (.a8 U (fun ZV=>?_) (fun ZV=>?_)))))
 refine .skip (.seq (.block (.seq ?_)))
 have hOl:=hO.len; have hOo:=hO.ol
 refine .region (.mv ?_)
 refine .an (.nil (.sr ?_))
 refine .an ?_
 refine .sh (Sh.nil (d:=14) 114 1 U ae) (.nil (.seq (.sr (.an (.nil (.block ?_))))))
 refine .eg (fun (iD:Nat) (kJ:List Gate) (mA:List Int)=>⟨[(0,.ptr 0 0 0 0),(3,.fz 1 (bits.map bG)),(6,.fp (Cell.row c) 0),(12,.aR 112 1 0 iP.length),(13,vi jd),(14,.aR 114 1 0 mA.length),(15,vi iD),(49,vi (n.aa.getD ((c.out).toNat) 0)),(50,vi jd)],[(0,.cells [.aR 1 3 0 kJ.length]),(1,.rows 3 (kJ.map Gate.row)),(112,.rows 1 (iP.map ag)),(114,.rows 1 (mA.map ag))]⟩) (fun iD kJ mA=>((iD:Int) <= (c.args.length:Int)) /\ (Ht n c V at_ jd cW kJ mA iD)) (fun iD kJ mA=>((c.args.length:Int) - (iD:Int)).toNat) 0 cW ([]:List Int) (⟨pj,Ht.init hO.ext.dw⟩) (Le.mk (.c4 (.c (.cons (aP U aH) (.cons (ak U bj) (.c (.c .nil)))))) (.cons (ax U ep) (.c2 (.c .nil)))) (fun iD kJ mA VG=>?_)
 obtain ⟨ZW,hX⟩:=VG
 refine .seq (.sr (.mv ?_))
 refine .fa cd ?_
 refine .ld bu ?_
 refine .vl (Y.qy (n:=c.args.length) az U (congrArg some (List.length_map ..))) (.vl (Y.zd U U) (.nil (.a8 U (fun LG=>?_) (fun LG=>?_))))
 refine .skip (.seq (.block ?_))
 have XE:=hX.len; have VH:=hX.ll; obtain ⟨⟨MM,Zg,Ua⟩,wu,Q9⟩:=hX.facts hI h3 om om
 refine .dS U (.blind 0 U au (aw.move U U) ae (.bX (n:=4) [1,2,3,4,5,6,7,8,9,10,11,12,13,14,15,16,17,18,19,20,21,22,23] [24,25,26,27] 24 U au ?_))
 refine .cn 1 U (Y.zh U U) (.cn 2 U (Y.zh U U) (.cn 3 U (Y.qp cd U U) (.cn 4 U (Y.zb bu U U U U) (.cn 5 U (Y.zh U U) (.cn 6 U (Y.qt (m:=iD) az U U bj (aq (d:=0) om)) (.cn 7 U (Y.zb bw U U U U) (.cn 8 U (Y.qt (m:=(c.args.getD iD 0).toNat) cb U U om (aq (d:=[]) om)) (.cn 9 U (Y.zb bu U U U U) (.cn 10 U (Y.qt (m:=0) az U U bj (aq (d:=0) om)) (.cn 11 U (Y.zb bw U U U U) (.cn 12 U (Y.zh U U) (.cn 13 U (Y.qp cd U U) (.cn 14 U (Y.zb bu U U U U) (.cn 15 U (Y.zh U U) (.cn 16 U (Y.qb U U om) (.cn 17 U (Y.qt (m:=iD + 1) az U U bj (aq (d:=0) om)) (.cn 18 U (Y.zb bw U U U U) (.cn 19 U (Y.qt (m:=(c.args.getD (iD + 1) 0).toNat) cb U U om (aq (d:=[]) om)) ?_))))))))))))))))))
 refine .cn 20 U (Y.zb bu U U U U) (.cn 21 U (Y.zh U U) (.cn 22 U (Y.qt (m:=jd) az U U bj (aq (d:=0) om)) (.cn 23 U (Y.zb bw U U U U) (.nil (.one 24 U au (.bI [0,1] [] tl (g6 (gl:=kJ) (a:=(bits.getD ((c.args.getD iD 0).toNat) []).getD 0 0) (b:=(bits.getD ((c.args.getD (iD + 1) 0).toNat) []).getD jd 0) om) U (.named U U (.ai U U (.ai U U .nil))) ⟨U,U,trivial⟩ U ae (fun _ h=>by cases h) (fun _ h=>by cases h) ae ae ?_))))))
 rintro r aJ ⟨rfl,rfl⟩ _
 refine ⟨⟨rfl,(by intro ob aY; simp only [List.mem_cons,List.not_mem_nil,or_false] at aY; rcases aY with rfl | rfl <;> rfl),.inl rfl⟩,(.nil ⟨U,(.one 25 U au (.buildSlice (([(kJ.length:Int)]:List Int).map ag) az cP U U U U U (aj (s:=1) (f:=ag) (fun _=>U)) U U U ae ?_))⟩)⟩
 refine .nil ⟨U,(.one 26 U au (.cL ag (mA ++ ([(kJ.length:Int)]:List Int)) az cP U U U U (aV aH) (aM aH) (bs aH) aH aH ae ae ?_))⟩
 refine .nil ⟨U,(.bX (n:=0) [27] [] 0 U au (.cn 27 U (Y.qf U U) (.nil (.done au (.region (.mv ?_))))))⟩
 refine .vl (Y.qb U U aH) (.an ?_)
 refine .nil (⟨iD + 2,kJ ++ [(⟨5,(bits.getD ((c.args.getD iD 0).toNat) []).getD 0 0,(bits.getD ((c.args.getD (iD + 1) 0).toNat) []).getD jd 0⟩:Gate)],mA ++ ([(kJ.length:Int)]:List Int),⟨om,hX.step hI hO.ext h3 om om⟩,om,Le.mk (.c4 (.c (.cons (aP U om) (.cons (ak U bj) (.c (.c .nil)))))) (.cons (ax U ep) (.c2 (.c .nil)))⟩)
 refine .exit (.sh (Sh.cO (d:=14) (o:=114) U U (aF om) ae) (.sh (Sh.bS (d:=14) (mA.map ag) U fI (bN.map aE)) ?_))
 have XE:=hX.len; have VH:=hX.ll; have ZX:=hX.il; have hXg:=hX.ext.dw
 refine .region (.mv ?_)
 refine .mv ?_
 refine .mv ?_
 refine .bI [0,1] [] Fo (uO (gl:=kJ) hX.ext.dw om (a:=mA) hX.ws om om) U (.named U U (.ai U U .nil)) ⟨U,U,trivial⟩ U ae (fun _ h=>by cases h) (fun _ h=>by cases h) ae ae ?_
 rintro r aJ ⟨ZY,VJ,VK,QK,VL,rfl,rfl⟩ _
 refine ⟨⟨rfl,(by intro ob aY; simp only [List.mem_cons,List.not_mem_nil,or_false] at aY; rcases aY with rfl | rfl <;> rfl),.inl rfl⟩,(.buildSlice (([VJ]:List Int).map ag) az cP U U U U U (aj (s:=1) (f:=ag) (fun _=>U)) U U U ae ?_)⟩
 refine .cL ag (iP ++ ([VJ]:List Int)) az cP U U U U (aV aH) (aM aH) (bs aH) aH aH ae ae ?_
 refine .an (.nil (.region ?_))
 refine .vl (Y.qb U U aH) (.mv ?_)
 refine .nil (⟨jd + 1,ZY,iP ++ ([VJ]:List Int),⟨om,hO.step hI h3 hX om VK QK VL⟩,om,Le.mk (.c2 (.c (.cons (aP U om) (.c (.cons (ak U bj) .nil))))) (.cons (ax U ep) (.c (.c .nil)))⟩)
 refine .exit (.sr (.mv ?_))
 refine .an ?_
 exact .sh (Sh.cO (d:=8) (o:=112) U U (aF om) ae) (.nil (.ret ⟨_,_,U,U,_,_,Hu.done hI h3 (by rw [show (n.ow c).toNat = jd by omega]; exact hO),U,U⟩))
 refine .skip (.seq ?_)
 have h2:c.kind = 2:=(by have:=hI.comb; unfold cT at this; omega)
 refine .region (.an ?_)
 refine .sh (Sh.nil (d:=16) 116 1 U ae) (.nil (.seq (.sr (.fa cd ?_))))
 refine .ld bu ?_
 refine .vl (Y.qy (n:=c.args.length) az U (congrArg some (List.length_map ..))) (.mv ?_)
 refine .nil (.block (.fH (fun (je:Nat) (gb:List (List Int))=>⟨[(0,.ptr 0 0 0 0),(3,.fz 1 (bits.map bG)),(6,.fp (Cell.row c) 0),(9,vi (n.aa.getD ((c.out).toNat) 0)),(16,.aR 116 1 0 gb.length),(96,.fz 1 (c.args.map ag)),(97,vi c.args.length),(98,vi je)],[(0,.cells [.aR 1 3 0 gl.length]),(1,.rows 3 (gl.map Gate.row)),(116,.rows 1 (gb.map bG))]⟩) (fun je gb=>((je:Int) <= (c.args.length:Int)) /\ (gb = s7 bits (c.args.take je))) (fun je gb=>((c.args.length:Int) - (je:Int)).toNat) 0 ([]:List (List Int)) (⟨pj,U⟩) (Le.mk (.c4 (.cons (aP U aH) (.c2 (.cons (ak U bj) .nil)))) (.c2 (.c .nil))) (fun je gb LL=>?_)))
 obtain ⟨TR,hA⟩:=LL
 refine .sr (.vl (Y.zd U U) (.nil (.seq (.a8 U (fun ZZ=>?_) (fun ZZ=>?_)))))
 refine .skip (.seq (.block (.seq ?_)))
 have haa:=hI.ok.1 _ (bQ (l:=c.args) (i:=je) om); unfold In at haa; have VM:=oU (bits:=bits) (c.args.take je); rw [<- hA,List.length_take] at VM
 refine .region (.vl (Y.qt (m:=je) az U U bj (aq (d:=0) om)) (.ld bw ?_))
 refine .an (.nil (.region ?_))
 refine .mv ?_
 refine .mv ?_
 refine .mv ?_
 refine .vl (Y.qt (m:=(c.args.getD je 0).toNat) cb U U om (aq (d:=[]) om)) (.ld bu ?_)
 refine .buildSlice (([bits.getD ((c.args.getD je 0).toNat) []]:List (List Int)).map bG) cb mQ U U U U U (aj (s:=1) (f:=bG) (fun _=>U)) U U U ae ?_
 refine .cL bG (gb ++ ([bits.getD ((c.args.getD je 0).toNat) []]:List (List Int))) cb mQ U U U U (aV aH) (aM aH) (bs aH) aH aH ae ae ?_
 refine .an (.nil (.region ?_))
 refine .vl (Y.qb U U aH) (.mv ?_)
 refine .nil (⟨je + 1,gb ++ ([bits.getD ((c.args.getD je 0).toNat) []]:List (List Int)),⟨om,by rw [hA,Dr om]⟩,om,Le.mk (.c4 (.cons (aP U om) (.c2 (.cons (ak U bj) .nil)))) (.c2 (.c .nil))⟩)
 refine .exit (.seq (.sh (Sh.cO (d:=16) (o:=116) U U (aF om) ae) (.sh (Sh.bS (d:=16) (gb.map bG) U fI (bN.map eb)) ?_)))
 have Yb:gb = s7 bits c.args:=(by rw [hA,List.take_of_length_le om]); have hIn:=hI.T7 h2; rw [<- Yb,L5] at hIn; have VM:=oU (bits:=bits) c.args; rw [<- Yb] at VM
 refine .region (.mv ?_)
 refine .fa eQ ?_
 refine .ld bw ?_
 refine .mv ?_
 refine .mv ?_
 refine .bI [0,1] [] Tk (uW (c:=30) (gl:=gl) (op:=c.op) (ws:=gb) (width:=n.aa.getD ((c.out).toNat) 0) hg om hIn om om) U (.named U U (.ai U U (.ai U U (.ai U U .nil)))) ⟨U,U,trivial⟩ U ae (fun _ h=>by cases h) (fun _ h=>by cases h) ae ae ?_
 rintro r aJ ⟨aab,VN,QL,VO,QM,rfl,rfl⟩ _
 exact ⟨⟨rfl,(by intro ob aY; simp only [List.mem_cons,List.not_mem_nil,or_false] at aY; rcases aY with rfl | rfl <;> rfl),.inl rfl⟩,(.cj U ae (.nil (.ret (⟨_,_,U,U,_,_,⟨QL,om,hI.PV h2 (by rw [L5]; exact QM)⟩,U,U⟩))))⟩
open Go Go.AW Go.Proofs
theorem Bm{w:Int}:ay Try.prog 92 [vi w] [] [] (fun r o=>r = .v (.bool (decide (Src w))) /\ o = []):=by
 refine ay.of Try.func92 U U U (n:=11) ae (aL U) (.sr (.an ?_))
 refine .nil (.seq (.sr (.mv ?_)))
 refine .nil (.block (.seq (.sr (.vl (Y.qm U U) (.an (.nil ?_))))))
 refine .bT U (fun c4=>?_) (fun c4=>?_)
 refine .skip (.bf U (.sr (.an (.nil (.ret ?_)))))
 exact .rb rfl (dt (by (simp only [Src]) <;> (first | omega | grind)))
 refine .sr (.vl (Y.qm U U) (.an (.nil ?_)))
 refine .bT U (fun c4=>?_) (fun c4=>?_)
 refine .skip (.bf U (.sr (.an (.nil (.ret ?_)))))
 exact .rb rfl (dt (by (simp only [Src]) <;> (first | omega | grind)))
 refine .sr (.vl (Y.qm U U) (.an (.nil ?_)))
 refine .bT U (fun c4=>?_) (fun c4=>?_)
 refine .skip (.bf U (.sr (.an (.nil (.ret ?_)))))
 exact .rb rfl (dt (by (simp only [Src]) <;> (first | omega | grind)))
 refine .sr (.vl (Y.qm U U) (.an (.nil ?_)))
 refine .bT U (fun c4=>?_) (fun c4=>?_)
 refine .skip (.bf U (.sr (.an (.nil (.ret ?_)))))
 exact .rb rfl (dt (by (simp only [Src]) <;> (first | omega | grind)))
 refine .sr (.vl (Y.qm U U) (.an (.nil ?_)))
 refine .bT U (fun c4=>?_) (fun c4=>?_)
 refine .skip (.bf U (.sr (.an (.nil (.ret ?_)))))
 exact .rb rfl (dt (by (simp only [Src]) <;> (first | omega | grind)))
 refine .region (.vl (Y.qm U U) (.an (.nil ?_)))
 refine .bT U (fun c4=>?_) (fun c4=>?_)
 refine .sr (.an (.nil (.ret ?_)))
 exact .rb rfl (dt (by (simp only [Src]) <;> (first | omega | grind)))
 refine .skip (.sr (.an (.nil (.ret ?_))))
 exact .rb rfl (df (by (simp only [Src]) <;> (first | omega | grind)))
theorem xn{n:ab}(hs:n.Small)(MX:n.aa.length + n.ins.length <= 17592186044416)(hn:n.cells.length <= 100 /\ n.aa.length <= 1000 /\ n.bF.length <= 1000 /\ n.streams.length <= 1000 /\ n.ins.length <= 1000)(Yc:∀ c ∈ n.cells,c.args.length <= 6):ay Try.prog 47 [.agg (ab.row n)] [] [] (fun r o=>∃ (m:gp) (e:Int),rI n m e /\ r = .tup [.agg (gp.own m),vi e] /\ o = []):=by
 refine ay.R6 Try.func47 U U U (n:=188) ae (aL U) (.sr (.box 101 U U U U U ae ?_))
 refine .alloc 102 jJ U U ae ?_
 refine .an ?_
 refine .nil (.seq (.sh (Sh.dD 101 U U) (.region (.vl (Y.zc er U U (aL U) U U) (.oH Lb (qP (n:=n) hs MX) U (.ai U U .nil) ae ?_)))))
 rintro _ ⟨uX,e22,Mt,rfl,_⟩
 refine ⟨U,(.oJ U ae (.iL U U ae (.vl (Y.qo U U U) (.cj U ae (.sh (Sh.bS (d:=4) (uX.map ag) U fI (bN.map aE)) (.an ?_))))))⟩
 refine .nil (.seq (.sr (.mv ?_)))
 refine .vl (Y.zl U U) (.nil (.a8 U (fun GS=>?_) (fun GS=>?_)))
 refine .sr (.vl (Y.qh r4 jJ U U U) (.sh (Sh.KE (d:=27) 600 3 [] [.v (.slice none 0 0),.v (.slice none 0 0)] U U U U) (.sh (Sh.KE (d:=27) 601 1 [.aR 600 3 0 0] [.v (.slice none 0 0)] U U U U) (.sh (Sh.KE (d:=27) 602 1 [.aR 600 3 0 0,.aR 601 1 0 0] [] U U U U) (.mv ?_)))))
 refine .ao oQ U U U U U U (aL U) U ?_
 refine .an (.nil (.ret ?_))
 exact ⟨_,U,_,_,_,(((Sh.ks (d:=0) 0 600 U U U U sa U ae).then (Sh.ks (d:=0) 1 601 U U U U sa U ae)).then (Sh.ks (d:=0) 2 602 U U U U sa U ae)),U,U,⟨[],[],[]⟩,e22,.inl ⟨by rw [<- Mt.err]; exact GS,Mt.err⟩,U,U⟩
 obtain ⟨hf,ht,Mu,ho⟩:=Mt.zero (by simpa using GS); obtain ⟨V,hV⟩:=VI.ex hf ho; obtain ⟨at_,hA⟩:=L3 hf ho; have hv:VT n:=⟨hf,ht,Mu,hs,om,om,fun c hc=>by have:=Yc c hc; omega,om,om,om⟩
 refine .skip (.sr (.vl (Y.qh Pn Pr U U U) (.box 130 U U U U U ae ?_)))
 refine .an ?_
 refine .nil (.seq (.sh (Sh.eW 130 701 3 0 U U U U ae) (.dQ (⟨[(1,.fp (ab.row n) 0),(2,.ptr 102 0 0 0),(4,.fz 1 (uX.map ag)),(6,.ptr 130 0 0 0),(7,.ptr 107 0 0 0)],[(102,.cells [.v (.slice none 0 0),.v (.slice none 0 0),.v (.slice none 0 0)]),(107,.cells [.fz 3 (([]:List Gate).map Gate.row),.aR 134 1 0 ((List.replicate n.aa.length ([]:List Int)).length),.aR 138 1 0 ((List.replicate n.cells.length ([]:List Int)).length)]),(130,.cells [.aR 701 3 0 0]),(134,.rows 1 ((List.replicate n.aa.length ([]:List Int)).map bG)),(138,.rows 1 ((List.replicate n.cells.length ([]:List Int)).map iw)),(701,.rows 3 (([]:List Gate).map Gate.row))]⟩) U ?_ ?_)))
 refine .blind 0 U au (aw.fieldAddr cg U U) ae (.load 1 U au bu U U U U U ae (.blind 2 U au (aw.len (n:=n.aa.length) az U (congrArg some (List.length_map ..))) ae ?_))
 refine .blind 4 U au (aw.fieldAddr cK U U) ae (.load 5 U au iz U U U U U ae (.blind 6 U au (aw.len (n:=n.cells.length) dZ U (congrArg some (List.length_map ..))) ae ?_))
 refine .yo ?_
 refine .three 3 7 9 U U U au ?_ ?_ ?_
 refine .makeSlice (n:=n.aa.length) cb mQ U U U U aH aH ae ?_
 refine .sh (Sh.Ko (d:=34) (z':=bG []) U U U (.td .nil)) (.sh (Sh.cz (d:=34) (n:=(List.replicate n.aa.length ([]:List Int)).length) 134 ((List.replicate n.aa.length ([]:List Int)).map bG) U fI (aF U) ae) (.nil ⟨U,(.two 7 9 U U au ?_ ?_)⟩))
 refine .makeSlice (n:=n.cells.length) cb mQ U U U U om om ae ?_
 refine .sh (Sh.pz (d:=38) 1 U) (.sh (Sh.cz (d:=38) (n:=(List.replicate n.cells.length ([]:List Int)).length) 138 ((List.replicate n.cells.length ([]:List Int)).map iw) U fI (aF U) ae) (.nil ⟨U,(.two 8 9 U U au ?_ ?_)⟩))
 refine .vl (Y.qh r4 jJ U U U) (.sh (Sh.zD (d:=39) 3 0 U U) (.nil ⟨U,(.one 9 U au (.alloc 107 jJ U U ae ?_))⟩))
 refine .nil ⟨U,(.one 10 U au (.ao oQ U U U U U U (aL U) U ?_))⟩
 exact .nil ⟨U,(.done au (Le.mk (.c4 (.c .nil)) (.c4 (.c (.c .nil)))))⟩
 refine .alloc 107 jJ U U ae ?_
 refine .nil ⟨U,(.one 8 U au (.vl (Y.qh r4 jJ U U U) (.sh (Sh.zD (d:=39) 3 0 U U) (.nil ⟨U,(.one 10 U au (.ao oQ U U U U U U (aL U) U ?_))⟩))))⟩
 exact .nil ⟨U,(.done au (Le.mk (.c4 (.c .nil)) (.c4 (.c (.c .nil)))))⟩
 refine .alloc 107 jJ U U ae ?_
 refine .nil ⟨U,(.one 7 U au (.makeSlice (n:=n.cells.length) cb mQ U U U U om om ae ?_))⟩
 refine .sh (Sh.pz (d:=38) 1 U) (.sh (Sh.cz (d:=38) (n:=(List.replicate n.cells.length ([]:List Int)).length) 138 ((List.replicate n.cells.length ([]:List Int)).map iw) U fI (aF U) ae) (.nil ⟨U,(.one 8 U au (.vl (Y.qh r4 jJ U U U) (.sh (Sh.zD (d:=39) 3 0 U U) (.nil ⟨U,(.one 10 U au (.ao oQ U U U U U U (aL U) U ?_))⟩))))⟩))
 exact .nil ⟨U,(.done au (Le.mk (.c4 (.c .nil)) (.c4 (.c (.c .nil)))))⟩
 refine .makeSlice (n:=n.cells.length) cb mQ U U U U om om ae ?_
 refine .sh (Sh.pz (d:=38) 1 U) (.sh (Sh.cz (d:=38) (n:=(List.replicate n.cells.length ([]:List Int)).length) 138 ((List.replicate n.cells.length ([]:List Int)).map iw) U fI (aF U) ae) (.nil ⟨U,(.two 3 9 U U au ?_ ?_)⟩))
 refine .makeSlice (n:=n.aa.length) cb mQ U U U U aH aH ae ?_
 refine .sh (Sh.Ko (d:=34) (z':=bG []) U U U (.td .nil)) (.sh (Sh.cz (d:=34) (n:=(List.replicate n.aa.length ([]:List Int)).length) 134 ((List.replicate n.aa.length ([]:List Int)).map bG) U fI (aF U) ae) (.nil ⟨U,(.two 8 9 U U au ?_ ?_)⟩))
 refine .vl (Y.qh r4 jJ U U U) (.sh (Sh.zD (d:=39) 3 0 U U) (.nil ⟨U,(.one 9 U au (.alloc 107 jJ U U ae ?_))⟩))
 refine .nil ⟨U,(.one 10 U au (.ao oQ U U U U U U (aL U) U ?_))⟩
 exact .nil ⟨U,(.done au (Le.mk (.c4 (.c .nil)) (.c4 (.c (.c .nil)))))⟩
 refine .alloc 107 jJ U U ae ?_
 refine .nil ⟨U,(.one 8 U au (.vl (Y.qh r4 jJ U U U) (.sh (Sh.zD (d:=39) 3 0 U U) (.nil ⟨U,(.one 10 U au (.ao oQ U U U U U U (aL U) U ?_))⟩))))⟩
 exact .nil ⟨U,(.done au (Le.mk (.c4 (.c .nil)) (.c4 (.c (.c .nil)))))⟩
 refine .alloc 107 jJ U U ae ?_
 refine .nil ⟨U,(.one 3 U au (.makeSlice (n:=n.aa.length) cb mQ U U U U aH aH ae ?_))⟩
 refine .sh (Sh.Ko (d:=34) (z':=bG []) U U U (.td .nil)) (.sh (Sh.cz (d:=34) (n:=(List.replicate n.aa.length ([]:List Int)).length) 134 ((List.replicate n.aa.length ([]:List Int)).map bG) U fI (aF U) ae) (.nil ⟨U,(.one 8 U au (.vl (Y.qh r4 jJ U U U) (.sh (Sh.zD (d:=39) 3 0 U U) (.nil ⟨U,(.one 10 U au (.ao oQ U U U U U U (aL U) U ?_))⟩))))⟩))
 exact .nil ⟨U,(.done au (Le.mk (.c4 (.c .nil)) (.c4 (.c (.c .nil)))))⟩
 refine .alloc 107 jJ U U ae ?_
 refine .nil ⟨U,(.two 3 7 U U au ?_ ?_)⟩
 refine .makeSlice (n:=n.aa.length) cb mQ U U U U aH aH ae ?_
 refine .sh (Sh.Ko (d:=34) (z':=bG []) U U U (.td .nil)) (.sh (Sh.cz (d:=34) (n:=(List.replicate n.aa.length ([]:List Int)).length) 134 ((List.replicate n.aa.length ([]:List Int)).map bG) U fI (aF U) ae) (.nil ⟨U,(.one 7 U au (.makeSlice (n:=n.cells.length) cb mQ U U U U om om ae ?_))⟩))
 refine .sh (Sh.pz (d:=38) 1 U) (.sh (Sh.cz (d:=38) (n:=(List.replicate n.cells.length ([]:List Int)).length) 138 ((List.replicate n.cells.length ([]:List Int)).map iw) U fI (aF U) ae) (.nil ⟨U,(.one 8 U au (.vl (Y.qh r4 jJ U U U) (.sh (Sh.zD (d:=39) 3 0 U U) (.nil ⟨U,(.one 10 U au (.ao oQ U U U U U U (aL U) U ?_))⟩))))⟩))
 exact .nil ⟨U,(.done au (Le.mk (.c4 (.c .nil)) (.c4 (.c (.c .nil)))))⟩
 refine .makeSlice (n:=n.cells.length) cb mQ U U U U om om ae ?_
 refine .sh (Sh.pz (d:=38) 1 U) (.sh (Sh.cz (d:=38) (n:=(List.replicate n.cells.length ([]:List Int)).length) 138 ((List.replicate n.cells.length ([]:List Int)).map iw) U fI (aF U) ae) (.nil ⟨U,(.one 3 U au (.makeSlice (n:=n.aa.length) cb mQ U U U U aH aH ae ?_))⟩))
 refine .sh (Sh.Ko (d:=34) (z':=bG []) U U U (.td .nil)) (.sh (Sh.cz (d:=34) (n:=(List.replicate n.aa.length ([]:List Int)).length) 134 ((List.replicate n.aa.length ([]:List Int)).map bG) U fI (aF U) ae) (.nil ⟨U,(.one 8 U au (.vl (Y.qh r4 jJ U U U) (.sh (Sh.zD (d:=39) 3 0 U U) (.nil ⟨U,(.one 10 U au (.ao oQ U U U U U U (aL U) U ?_))⟩))))⟩))
 exact .nil ⟨U,(.done au (Le.mk (.c4 (.c .nil)) (.c4 (.c (.c .nil)))))⟩
 refine .seq (.sr (.fa cK ?_))
 refine .ld iz ?_
 refine .vl (Y.qy (n:=n.cells.length) dZ U (congrArg some (List.length_map ..))) (.mv ?_)
 refine .nil (.block ?_)
 refine .eg (fun (gj:Nat) (q3:List (List Int)) (jX:List Gate)=>⟨[(1,.fp (ab.row n) 0),(2,.ptr 102 0 0 0),(4,.fz 1 (uX.map ag)),(6,.ptr 130 0 0 0),(7,.ptr 107 0 0 0),(41,.fz 6 (n.cells.map Cell.row)),(42,vi n.cells.length),(43,vi gj)],[(102,.cells [.v (.slice none 0 0),.v (.slice none 0 0),.v (.slice none 0 0)]),(107,.cells [.fz 3 (([]:List Gate).map Gate.row),.aR 134 1 0 ((List.replicate n.aa.length ([]:List Int)).length),.aR 138 1 0 ((List.replicate n.cells.length ([]:List Int)).length)]),(130,.cells [.aR 701 3 0 jX.length]),(134,.rows 1 (q3.map bG)),(138,.rows 1 ((List.replicate n.cells.length ([]:List Int)).map iw)),(701,.rows 3 (jX.map Gate.row))]⟩) (fun gj q3 jX=>(q3.length = (List.replicate n.aa.length ([]:List Int)).length) /\ ((gj:Int) <= (n.cells.length:Int)) /\ (pO n jX q3 gj)) (fun gj q3 jX=>((n.cells.length:Int) - (gj:Int)).toNat) 0 (List.replicate n.aa.length ([]:List Int)) ([]:List Gate) (⟨om,om,pO.init⟩) (Le.mk (.c4 (.c2 (.c (.cons (ak U bj) .nil)))) (.c2 (.cons (ax U ep) (.c2 (.c .nil))))) (fun gj q3 jX Gx=>?_)
 obtain ⟨QO,RW,hS⟩:=Gx
 refine .sr (.vl (Y.zd U U) (.nil (.seq (.a8 U (fun VQ=>?_) (fun VQ=>?_)))))
 refine .skip ?_
 refine .kP (fun (pH:List (List Int)) (nc:List Gate)=>⟨[(1,.fp (ab.row n) 0),(2,.ptr 102 0 0 0),(4,.fz 1 (uX.map ag)),(6,.ptr 130 0 0 0),(7,.ptr 107 0 0 0),(41,.fz 6 (n.cells.map Cell.row)),(42,vi n.cells.length),(43,vi gj)],[(102,.cells [.v (.slice none 0 0),.v (.slice none 0 0),.v (.slice none 0 0)]),(107,.cells [.fz 3 (([]:List Gate).map Gate.row),.aR 134 1 0 ((List.replicate n.aa.length ([]:List Int)).length),.aR 138 1 0 ((List.replicate n.cells.length ([]:List Int)).length)]),(130,.cells [.aR 701 3 0 nc.length]),(134,.rows 1 (pH.map bG)),(138,.rows 1 ((List.replicate n.cells.length ([]:List Int)).map iw)),(701,.rows 3 (nc.map Gate.row))]⟩) (fun pH nc=>(pH.length = (List.replicate n.aa.length ([]:List Int)).length) /\ (pO n nc pH (gj + 1))) ?_ (fun pH nc QP=>?_)
 refine .block (.sr (.vl (Y.qt (m:=gj) dZ U U bj (aq (d:=default) om)) (.vl (Y.zc fq U U (aL U) U U) (.alloc 109 e8 U U ae (.ao fJ U U U U U U (aL U) U ?_)))))
 refine .nil (.sr (.fa du ?_))
 refine .ld bw ?_
 refine .bm Tl (Bm (w:=((n.cells.getD gj default).kind))) U (.ai U U .nil) ae U (.nil (.a8 U (fun Sf=>?_) (fun Sf=>?_)))
 have og:=hf.jh (i:=(gj:Int)) (w:=(n.cells.getD gj default).out) ⟨om,((wQ hf (i:=(gj:Int)) om).1 Sf).2,rfl⟩; unfold In at og; have CZ:=hf.ma _ (getD_in (l:=n.aa) (i:=(n.cells.getD gj default).out.toNat) (d:=0) om); unfold dO at CZ; have UB:=hS.len hf; have hSb:=hS.bl
 refine .gm [107,109] [107,109,134,138] U (.blind 0 U au (aw.fieldAddr fM U U) ae (.load 1 U au gQ U U U U U ae ?_))
 refine .blind 2 U au (aw.fieldAddr eR U U) ae (.load 3 U au bw U U U U U ae (.blind 4 U au (aw.move U U) ae ?_))
 refine .blind 5 U au (aw.fieldAddr cg U U) ae (.load 6 U au bu U U U U U ae (.blind 7 U au (aw.fieldAddr eR U U) ae ?_))
 refine .load 8 U au bw U U U U U ae (.blind 9 U au (aw.j6 (m:=((n.cells.getD gj default).out).toNat) az U U om (aq (d:=0) om)) ae ?_)
 refine .load 10 U au bw U U U U U ae (.DZ U U (bJ.cells U U U (bJ.cells U U U bJ.nil)) (.one 11 U au (.bI [130,701] [] Tj (xm (gl:=jX) (x:=n.aa.getD (((n.cells.getD gj default).out).toNat) 0) aH om) U (.named U U (.ai U U .nil)) ⟨U,U,trivial⟩ U ae (fun _ h=>by cases h) (fun _ h=>by cases h) ae ae ?_)))
 rintro r aJ ⟨rfl,rfl⟩ _
 refine ⟨⟨rfl,(by intro ob aY; simp only [List.mem_cons,List.not_mem_nil,or_false] at aY; rcases aY with rfl | rfl <;> rfl),.inl rfl⟩,(.nil ⟨U,(.one 12 U au (.vl (Y.qu (m:=((n.cells.getD gj default).out).toNat) cb U U om om) (.nil ⟨U,(.one 13 U au (.sh (Sh.bS (d:=61) ((zH jX.length (n.aa.getD (((n.cells.getD gj default).out).toNat) 0).toNat).map ag) U fI (bN.map aE)) (.eH ((q3.set (((n.cells.getD gj default).out).toNat) (zH jX.length (n.aa.getD (((n.cells.getD gj default).out).toNat) 0).toNat)).map bG) eD U U U U U U U (aI (d:=[]) om) (aL U) (cY U) ?_)))⟩)))⟩)⟩
 refine .nil ⟨U,(.done au (⟨q3.set (((n.cells.getD gj default).out).toNat) (zH jX.length (n.aa.getD (((n.cells.getD gj default).out).toNat) 0).toNat),jX ++ rD (n.aa.getD (((n.cells.getD gj default).out).toNat) 0).toNat,⟨pj,hS.set hf om Sf U⟩,Le.mk (.c4 (.c2 (.c (.c .nil)))) (.c2 (.cons (ax U ep) (.c2 (.c .nil))))⟩))⟩
 refine .skip (⟨q3,jX,⟨om,hS.skip Sf⟩,Le.mk (.c4 (.c2 (.c (.c .nil)))) (.c2 (.cons (ax U ep) (.c2 (.c .nil))))⟩)
 obtain ⟨Nn,yI⟩:=QP
 refine .region (.vl (Y.qb U U aH) (.mv ?_))
 refine .nil (⟨gj + 1,pH,nc,⟨om,om,yI⟩,om,Le.mk (.c4 (.c2 (.c (.cons (ak U bj) .nil)))) (.c2 (.cons (ax U ep) (.c2 (.c .nil))))⟩)
 refine .exit (.seq (.sr (.mv ?_)))
 refine .vl (Y.qy (n:=uX.length) az U (congrArg some (List.length_map ..))) (.mv ?_)
 refine .nil (.block ?_)
 refine .eg (fun (fF:Nat) (dm:List (List Int)) (dR:List Gate)=>⟨[(1,.fp (ab.row n) 0),(2,.ptr 102 0 0 0),(6,.ptr 130 0 0 0),(7,.ptr 107 0 0 0),(64,.fz 1 (uX.map ag)),(65,vi uX.length),(66,vi fF)],[(102,.cells [.v (.slice none 0 0),.v (.slice none 0 0),.v (.slice none 0 0)]),(107,.cells [.fz 3 (([]:List Gate).map Gate.row),.aR 134 1 0 ((List.replicate n.aa.length ([]:List Int)).length),.aR 138 1 0 ((List.replicate n.cells.length ([]:List Int)).length)]),(130,.cells [.aR 701 3 0 dR.length]),(134,.rows 1 (dm.map bG)),(138,.rows 1 ((List.replicate n.cells.length ([]:List Int)).map iw)),(701,.rows 3 (dR.map Gate.row))]⟩) (fun fF dm dR=>(dm.length = (List.replicate n.aa.length ([]:List Int)).length) /\ ((fF:Int) <= (uX.length:Int)) /\ (qK n uX V at_ dR dm fF)) (fun fF dm dR=>((uX.length:Int) - (fF:Int)).toNat) 0 q3 jX (⟨om,om,qK.init hf hV hA (by rw [show n.cells.length = gj by omega]; exact hS)⟩) (Le.mk (.c4 (.c2 (.cons (ak U bj) .nil))) (.c2 (.cons (ax U ep) (.c2 (.c .nil))))) (fun fF dm dR Mv=>?_)
 obtain ⟨QO,VR,hK⟩:=Mv
 refine .sr (.vl (Y.zd U U) (.nil (.seq (.a8 U (fun LH=>?_) (fun LH=>?_)))))
 refine .skip (.seq (.block (.seq ?_)))
 have hr:=ho.p6 _ (bQ (l:=uX) (i:=fF) om); have sK:=ho.len; have Nl:=hK.bl; have Se:=hK.len
 refine .region (.vl (Y.qt (m:=fF) az U U bj (aq (d:=0) om)) (.ld bw ?_))
 refine .an (.nil (.sr ?_))
 refine .fa cK ?_
 refine .ld iz ?_
 refine .mv ?_
 refine .vl (Y.qt (m:=(uX.getD fF 0).toNat) dZ U U om (aq (d:=default) om)) (.vl (Y.zc fq U U (aL U) U U) (.alloc 112 e8 U U ae (.ao fJ U U U U U U (aL U) U ?_)))
 refine .nil ?_
 refine .kP (fun (pI:List (List Int)) (lJ:List Gate)=>⟨[(1,.fp (ab.row n) 0),(2,.ptr 102 0 0 0),(6,.ptr 130 0 0 0),(7,.ptr 107 0 0 0),(64,.fz 1 (uX.map ag)),(65,vi uX.length),(66,vi fF)],[(102,.cells [.v (.slice none 0 0),.v (.slice none 0 0),.v (.slice none 0 0)]),(107,.cells [.fz 3 (([]:List Gate).map Gate.row),.aR 134 1 0 ((List.replicate n.aa.length ([]:List Int)).length),.aR 138 1 0 ((List.replicate n.cells.length ([]:List Int)).length)]),(130,.cells [.aR 701 3 0 lJ.length]),(134,.rows 1 (pI.map bG)),(138,.rows 1 ((List.replicate n.cells.length ([]:List Int)).map iw)),(701,.rows 3 (lJ.map Gate.row))]⟩) (fun pI lJ=>(pI.length = (List.replicate n.aa.length ([]:List Int)).length) /\ (qK n uX V at_ lJ pI (fF + 1))) ?_ (fun pI lJ GW=>?_)
 refine .sr (.fa du ?_)
 refine .ld bw ?_
 refine .bm Dc (la (w:=((n.cells.getD ((uX.getD fF 0).toNat) default).kind))) U (.ai U U .nil) ae U (.nil (.a8 U (fun DC=>?_) (fun DC=>?_)))
 have hdo:=hf.jh (i:=uX.getD fF 0) (w:=(n.cells.getD ((uX.getD fF 0).toNat) default).out) ⟨hr,fun h7=>by have h8:=DC; unfold cT at h8; have h9:(n.cells.getD ((uX.getD fF 0).toNat) default).kind = 7:=h7; omega,rfl⟩; unfold In at hdo
 refine .gm [107,112] [107,112,134,138] U (.blind 0 U au (aw.fieldAddr fM U U) ae (.load 1 U au gQ U U U U U ae ?_))
 refine .blind 2 U au (aw.fieldAddr eR U U) ae (.load 3 U au bw U U U U U ae (.blind 4 U au (aw.move U U) ae ?_))
 refine .fu 5 U au er U U U (aL U) U U ae (.fu 6 U au fq U U U (aL U) U U ae (.blind 7 U au (aw.fieldAddr fM U U) ae ?_))
 refine .load 8 U au gQ U U U U U ae (.DZ U U (bJ.cells U U U (bJ.cells U U U bJ.nil)) (.one 9 U au (.bI [130,701] [134] Tm (Bk (gl:=dR) (n:=n) (c:=(n.cells.getD ((uX.getD fF 0).toNat) default)) (bits:=dm) (V:=V) (at_:=at_) hK.ext.dw aH (hK.ci hv Yc ho hA om DC) om (hs.Ak _ (getD_in om))) U (.named U U (.ai U U (.ai U U (.cI U U (bB aH) (bC aH) .nil)))) ⟨U,U,trivial⟩ U ae ae (kN U (br eb)) ae ae ?_)))
 rintro r aJ ⟨l87,GX,Mw,rfl,rfl⟩ _
 refine ⟨⟨rfl,(by intro ob aY; simp only [List.mem_cons,List.not_mem_nil,or_false] at aY; rcases aY with rfl | rfl <;> rfl),.inr ⟨(lu oK _),(by intro ob aY; simp only [List.mem_cons,List.not_mem_nil,or_false] at aY; rcases aY with rfl | rfl; exact ⟨trivial,trivial⟩; exact lu Gate.lz _)⟩⟩,(.nil ⟨U,(.one 10 U au (.vl (Y.qu (m:=((n.cells.getD ((uX.getD fF 0).toNat) default).out).toNat) cb U U om om) (.nil ⟨U,(.one 11 U au (.sh (Sh.bS (d:=87) (GX.map ag) U fI (bN.map aE)) (.eH ((dm.set (((n.cells.getD ((uX.getD fF 0).toNat) default).out).toNat) GX).map bG) eD U U U U U U U (aI (d:=[]) om) (aL U) (cY U) ?_)))⟩)))⟩)⟩
 refine .nil ⟨U,(.done au (⟨dm.set (((n.cells.getD ((uX.getD fF 0).toNat) default).out).toNat) GX,l87,⟨pj,hK.set hf ho hV hA om DC Mw.1 Mw.2.1 Mw.2.2⟩,Le.mk (.c4 (.c2 (.c .nil))) (.c2 (.cons (ax U ep) (.c2 (.c .nil))))⟩))⟩
 refine .skip (⟨dm,dR,⟨om,hK.skip ho om DC⟩,Le.mk (.c4 (.c2 (.c .nil))) (.c2 (.cons (ax U ep) (.c2 (.c .nil))))⟩)
 obtain ⟨No,Jq⟩:=GW
 refine .seq ?_
 have Zp:=Jq.len; have sK:=ho.len
 refine .region (.mv ?_)
 refine .vl (Y.zm U U) (.fa pA ?_)
 refine .ld wF ?_
 refine .vl (Y.qy (n:=lJ.length) uw U U) (.vl (Y.qr U U) (.nil (.a8 U (fun pP=>?_) (fun pP=>?_))))
 exfalso; omega
 refine .skip (.region (.vl (Y.qb U U aH) (.mv ?_)))
 refine .nil (⟨fF + 1,pI,lJ,⟨om,om,Jq⟩,om,Le.mk (.c4 (.c2 (.cons (ak U bj) .nil))) (.c2 (.cons (ax U ep) (.c2 (.c .nil))))⟩)
 refine .exit (.seq ?_)
 have hF:Gg n V at_ dR dm:=hK.done hf ho om; have hFb:=hF.bl; have hFl:=hF.len; have MW:=hf.freeze; unfold In at MW; obtain ⟨Rn,NC⟩:=(hF.wk n.freeze hf.freeze).FZ (by rw [show n.wd n.freeze = 1 from ht.freeze]; rfl); have hth:=NC.not (u:=at_.getD n.freeze.toNat 0 + 10) (Int.le_refl _); have VS:=Ext.not hF.ext.dw NC
 refine .region (.mv ?_)
 refine .fa fM ?_
 refine .ld gQ ?_
 refine .fa mu ?_
 refine .ld bw ?_
 refine .vl (Y.qu (m:=(n.freeze).toNat) cb U U om om) (.vl (Y.zb bu U (aI (d:=[]) om) U U) (.vl (Y.qt (m:=0) az U U bj (aq (d:=0) om)) (.ld bw ?_)))
 refine .bI [130,701] [] uv (gT (gl:=dR) (a:=(dm.getD ((n.freeze).toNat) []).getD 0 0) om) U (.named U U (.ai U U .nil)) ⟨U,U,trivial⟩ U ae (fun _ h=>by cases h) (fun _ h=>by cases h) ae ae ?_
 rintro r aJ ⟨rfl,rfl⟩ _
 refine ⟨⟨rfl,(by intro ob aY; simp only [List.mem_cons,List.not_mem_nil,or_false] at aY; rcases aY with rfl | rfl <;> rfl),.inl rfl⟩,(.an ?_)⟩
 refine .nil (.seq (.sr (.fa cK ?_)))
 refine .ld iz ?_
 refine .vl (Y.qy (n:=n.cells.length) dZ U (congrArg some (List.length_map ..))) (.mv ?_)
 refine .nil (.block ?_)
 refine .eg (fun (b7:Nat) (lK:List (List Int)) (dX:List Gate)=>⟨[(2,.ptr 102 0 0 0),(6,.ptr 130 0 0 0),(7,.ptr 107 0 0 0),(13,vi dR.length),(108,.fz 6 (n.cells.map Cell.row)),(109,vi n.cells.length),(110,vi b7)],[(102,.cells [.v (.slice none 0 0),.v (.slice none 0 0),.v (.slice none 0 0)]),(107,.cells [.fz 3 (([]:List Gate).map Gate.row),.aR 134 1 0 ((List.replicate n.aa.length ([]:List Int)).length),.aR 138 1 0 ((List.replicate n.cells.length ([]:List Int)).length)]),(130,.cells [.aR 701 3 0 dX.length]),(134,.rows 1 (dm.map bG)),(138,.rows 1 (lK.map iw)),(701,.rows 3 (dX.map Gate.row))]⟩) (fun b7 lK dX=>(lK.length = (List.replicate n.cells.length ([]:List Int)).length) /\ ((b7:Int) <= (n.cells.length:Int)) /\ (Cx n V at_ (dR ++ [(⟨4,(dm.getD ((n.freeze).toNat) []).getD 0 0,0⟩:Gate)]) dX lK b7)) (fun b7 lK dX=>((n.cells.length:Int) - (b7:Int)).toNat) 0 (List.replicate n.cells.length ([]:List Int)) (dR ++ [(⟨4,(dm.getD ((n.freeze).toNat) []).getD 0 0,0⟩:Gate)]) (⟨om,om,Cx.init VS.dw⟩) (Le.mk (.c4 (.c2 (.cons (ak U bj) .nil))) (.c2 (.cons (ax U ep) (.c2 (.c .nil))))) (fun b7 lK dX LV=>?_)
 obtain ⟨QQ,Uk,hN⟩:=LV
 refine .sr (.vl (Y.zd U U) (.nil (.seq (.a8 U (fun wX=>?_) (fun wX=>?_)))))
 refine .skip ?_
 refine .kP (fun (pJ:List (List Int)) (nf:List Gate)=>⟨[(2,.ptr 102 0 0 0),(6,.ptr 130 0 0 0),(7,.ptr 107 0 0 0),(13,vi dR.length),(108,.fz 6 (n.cells.map Cell.row)),(109,vi n.cells.length),(110,vi b7)],[(102,.cells [.v (.slice none 0 0),.v (.slice none 0 0),.v (.slice none 0 0)]),(107,.cells [.fz 3 (([]:List Gate).map Gate.row),.aR 134 1 0 ((List.replicate n.aa.length ([]:List Int)).length),.aR 138 1 0 ((List.replicate n.cells.length ([]:List Int)).length)]),(130,.cells [.aR 701 3 0 nf.length]),(134,.rows 1 (dm.map bG)),(138,.rows 1 (pJ.map iw)),(701,.rows 3 (nf.map Gate.row))]⟩) (fun pJ nf=>(pJ.length = (List.replicate n.cells.length ([]:List Int)).length) /\ (Cx n V at_ (dR ++ [(⟨4,(dm.getD ((n.freeze).toNat) []).getD 0 0,0⟩:Gate)]) nf pJ (b7 + 1))) ?_ (fun pJ nf QR=>?_)
 refine .block (.sr (.mv ?_))
 refine .vl (Y.qt (m:=b7) dZ U U bj (aq (d:=default) om)) (.vl (Y.zc fq U U (aL U) U U) (.alloc 115 e8 U U ae ?_))
 refine .an ?_
 refine .ao fJ U U U U U U (aL U) U (.nil (.seq (.sr (.fa du ?_))))
 refine .ld bw ?_
 refine .vl (Y.zl U U) (.nil (.a8 U (fun mU=>?_) (fun mU=>?_)))
 refine .exit (⟨lK,dX,⟨om,hN.skip mU⟩,Le.mk (.c4 (.c2 (.c .nil))) (.c2 (.cons (ax U ep) (.c2 (.c .nil))))⟩)
 have h4:(n.cells.getD b7 default).kind = 4:=Classical.not_not.1 mU; have Ex:=hF.YZ hf ht om h4; have hR:=Ex.ext (VS.trans hN.ext); have hRa:=hR.al; have hRi:=hR.Xo; unfold In at hRi; have Tq:=hR.out; unfold In at Tq; have Rr:=hR.sl; have hRy:=hR.yl; have hRl:=hR.ol; have hRw:=hR.wide; unfold dO at hRw; have VU:=hN.len; simp only [List.length_append,List.length_singleton] at VU; have hNn:=hN.nl; obtain ⟨e1,e2,w1,w2⟩:=hR.en hN.ext.dw (hth.ext hN.ext)
 refine .skip (.seq (.px 12 U au ?_))
 refine .val (Y.zh U U) ae (.val (Y.qp fM U U) ae (.val (Y.zb gQ U U U U) ae (.val (Y.qp cd U U) ae (.val (Y.zb bu U U U U) ae (.val (Y.qt (m:=0) az U U bj (aq (d:=0) om)) ae (.val (Y.zb bw U U U U) ae (.val (Y.qu (m:=(((n.cells.getD b7 default).args).getD 0 0).toNat) cb U U om om) ae (.val (Y.zb bu U (aI (d:=[]) om) U U) ae (.val (Y.qt (m:=0) az U U bj (aq (d:=0) om)) ae (.val (Y.zb bw U U U U) ae (.val (Y.zh U U) ae (.nil ?_))))))))))))
 refine .bI [130,701] [] tl (g6 (gl:=dX) (a:=(dm.getD ((((n.cells.getD b7 default).args).getD 0 0).toNat) []).getD 0 0) (b:=(dR.length:Int)) om) U (.named U U (.ai U U (.ai U U .nil))) ⟨U,U,trivial⟩ U ae (fun _ h=>by cases h) (fun _ h=>by cases h) ae ae ?_
 rintro r aJ ⟨rfl,rfl⟩ _
 refine ⟨⟨rfl,(by intro ob aY; simp only [List.mem_cons,List.not_mem_nil,or_false] at aY; rcases aY with rfl | rfl <;> rfl),.inl rfl⟩,(.an (.nil (.sr ?_)))⟩
 refine .mv ?_
 refine .mv ?_
 refine .bI [130,701] [] uv (gT (gl:=dX ++ [(⟨5,(dm.getD ((((n.cells.getD b7 default).args).getD 0 0).toNat) []).getD 0 0,(dR.length:Int)⟩:Gate)]) (a:=(dX.length:Int)) aH) U (.named U U (.ai U U .nil)) ⟨U,U,trivial⟩ U ae (fun _ h=>by cases h) (fun _ h=>by cases h) ae ae ?_
 rintro r aJ ⟨rfl,rfl⟩ _
 refine ⟨⟨rfl,(by intro ob aY; simp only [List.mem_cons,List.not_mem_nil,or_false] at aY; rcases aY with rfl | rfl <;> rfl),.inl rfl⟩,(.an (.nil (.sr ?_)))⟩
 refine .fa fM ?_
 refine .ld gQ ?_
 refine .fa eR ?_
 refine .ld bw ?_
 refine .vl (Y.qu (m:=((n.cells.getD b7 default).out).toNat) cb U U om om) (.vl (Y.zb bu U (aI (d:=[]) om) U U) (.vl (Y.qy (n:=(dm.getD (((n.cells.getD b7 default).out).toNat) []).length) az U (congrArg some (List.length_map ..))) (.mv ?_)))
 refine .nil (.block ?_)
 refine .eg (fun (gF:Nat) (jB:List (List Int)) (ik:List Gate)=>⟨[(2,.ptr 102 0 0 0),(6,.ptr 130 0 0 0),(7,.ptr 107 0 0 0),(13,vi dR.length),(14,vi b7),(15,.ptr 115 0 0 0),(16,vi dX.length),(17,vi (((dX ++ [(⟨5,(dm.getD ((((n.cells.getD b7 default).args).getD 0 0).toNat) []).getD 0 0,(dR.length:Int)⟩:Gate)]).length:Nat):Int)),(108,.fz 6 (n.cells.map Cell.row)),(109,vi n.cells.length),(110,vi b7),(139,.fz 1 ((dm.getD (((n.cells.getD b7 default).out).toNat) []).map ag)),(140,vi (((dm.getD (((n.cells.getD b7 default).out).toNat) []).length:Nat):Int)),(141,vi gF)],[(102,.cells [.v (.slice none 0 0),.v (.slice none 0 0),.v (.slice none 0 0)]),(107,.cells [.fz 3 (([]:List Gate).map Gate.row),.aR 134 1 0 ((List.replicate n.aa.length ([]:List Int)).length),.aR 138 1 0 ((List.replicate n.cells.length ([]:List Int)).length)]),(115,.cells [vi ((n.cells.getD b7 default).kind),vi ((n.cells.getD b7 default).op),vi ((n.cells.getD b7 default).out),.fz 1 (((n.cells.getD b7 default).args).map ag),.v (.int .u64 (((n.cells.getD b7 default).num:Nat):Int)),vi ((n.cells.getD b7 default).mem)]),(130,.cells [.aR 701 3 0 ik.length]),(134,.rows 1 (dm.map bG)),(138,.rows 1 (jB.map iw)),(701,.rows 3 (ik.map Gate.row))]⟩) (fun gF jB ik=>(jB.length = (List.replicate n.cells.length ([]:List Int)).length) /\ ((gF:Int) <= (((dm.getD (((n.cells.getD b7 default).out).toNat) []).length:Nat):Int)) /\ (Hv n V at_ b7 lK ((dX ++ [(⟨5,(dm.getD ((((n.cells.getD b7 default).args).getD 0 0).toNat) []).getD 0 0,(dR.length:Int)⟩:Gate)]) ++ [(⟨4,(dX.length:Int),0⟩:Gate)]) ik jB gF)) (fun gF jB ik=>((((dm.getD (((n.cells.getD b7 default).out).toNat) []).length:Nat):Int) - (gF:Int)).toNat) 0 lK ((dX ++ [(⟨5,(dm.getD ((((n.cells.getD b7 default).args).getD 0 0).toNat) []).getD 0 0,(dR.length:Int)⟩:Gate)]) ++ [(⟨4,(dX.length:Int),0⟩:Gate)]) (⟨om,om,Hv.init hN e2.dw⟩) (Le.mk (.c8 (.c4 (.c (.cons (ak U bj) .nil)))) (.c2 (.c (.cons (ax U ep) (.c2 (.c .nil)))))) (fun gF jB ik Mx=>?_)
 obtain ⟨QQ,VV,hq⟩:=Mx
 refine .sr (.vl (Y.zd U U) (.nil (.seq (.a8 U (fun AU=>?_) (fun AU=>?_)))))
 refine .skip (.seq (.block (.sr (.mv ?_))))
 refine .vl (Y.qt (m:=gF) az U U bj (aq (d:=0) om)) (.ld bw ?_)
 refine .an ?_
 refine .an (.nil ?_)
 have hql:=hq.ml.ol; have hqm:=hq.ml.len; simp only [List.length_append,List.length_singleton] at hqm
 refine .sh (Sh.PE 138 801 (0 + b7) (n:=(jB.getD b7 []).length) ((jB.map iw).set (0 + b7) [.no]) U (aI (d:=[]) om) U (aF U) U U) (.AD [27] [107,115,134,138] [107,115,134,138] U (dB.blind 0 U au au (aw.fieldAddr nH U U) ae (dB.load 1 U au au gQ U U U U U ae ?_)))
 refine .blind 2 U au au (aw.move U U) ae (dB.blind 3 U au au (aw.fieldAddr nH U U) ae (dB.load 4 U au au gQ U U U U U ae ?_))
 refine .blind 5 U au au (aw.move U U) ae (.blind 6 U au au (aw.uy (m:=b7) cb U U bj om) ae ?_)
 refine .load 7 U au au bu U U (zJ U) U U ae (dB.blind 8 U au au (aw.move U U) ae (dB.blind 9 U au au (aw.move U U) ae ?_))
 refine .blind 10 U au au (aw.move U U) ae (dB.blind 11 U au au (aw.fieldAddr fM U U) ae (dB.load 12 U au au gQ U U U U U ae ?_))
 refine .blind 13 U au au (aw.fieldAddr cd U U) ae (dB.load 14 U au au bu U U U U U ae ?_)
 refine .blind 15 U au au (aw.j6 (m:=1) az U U bj (aq (d:=0) om)) ae (.load 16 U au au bw U U U U U ae (.blind 17 U au au (aw.uy (m:=(((n.cells.getD b7 default).args).getD 1 0).toNat) cb U U om om) ae (.load 18 U au au bu U U (aI (d:=[]) om) U U ae (.blind 19 U au au (aw.move U U) ae (.blind 20 U au au (aw.j6 (m:=gF) az U U bj (aq (d:=0) om)) ae ?_)))))
 refine .load 21 U au au bw U U U U U ae (dB.blind 22 U au au (aw.move U U) ae (dB.uz 138 U ?_))
 refine .DZ U U (bJ.cells U U U (bJ.cells U U U (bJ.rows U (bJ.rows U bJ.nil)))) (gC.one 23 U au ?_)
 refine .bI [130,701] [] Is (choose_spec (gl:=ik) (s:=(dX.length:Int)) (v:=(((dX ++ [(⟨5,(dm.getD ((((n.cells.getD b7 default).args).getD 0 0).toNat) []).getD 0 0,(dR.length:Int)⟩:Gate)]).length:Nat):Int)) (y:=(dm.getD ((((n.cells.getD b7 default).args).getD 1 0).toNat) []).getD gF 0) (n:=(dm.getD (((n.cells.getD b7 default).out).toNat) []).getD gF 0) aH) U (.named U U (.ai U U (.ai U U (.ai U U (.ai U U .nil))))) ⟨U,U,trivial⟩ U ae (fun _ h=>by cases h) (fun _ h=>by cases h) ae ae ?_
 rintro r aJ ⟨rfl,rfl⟩ _
 refine ⟨⟨rfl,(by intro ob aY; simp only [List.mem_cons,List.not_mem_nil,or_false] at aY; rcases aY with rfl | rfl <;> rfl),.inl rfl⟩,(.nil ⟨U,(.one 24 U au (.buildSlice (([((ik.length:Int) + 2)]:List Int).map ag) az cP U U U U U (aj (s:=1) (f:=ag) (fun _=>U)) U U U ae ?_))⟩)⟩
 refine .nil ⟨U,(.one 25 U au (.cL ag ((jB.getD b7 []) ++ ([((ik.length:Int) + 2)]:List Int)) az cP U U U U (aV aH) (aM aH) (bs aH) aH aH ae ae ?_))⟩
 refine .nil ⟨U,(.one 26 U au (.vl (Y.qu (m:=b7) cb U U bj om) (.nil ⟨U,(.late U (.one 27 U au (.sh (Sh.cO (d:=171) (o:=801) U U (aF om) ae) (.BL ((jB.set b7 ((jB.getD b7 []) ++ ([((ik.length:Int) + 2)]:List Int))).map iw) eD U U U (BM om) ae (xR U) ?_))))⟩)))⟩
 refine .nil ⟨U,(.done au (.region (.vl (Y.qb U U aH) (.mv ?_))))⟩
 refine .nil (⟨gF + 1,jB.set b7 ((jB.getD b7 []) ++ ([((ik.length:Int) + 2)]:List Int)),yx ik (dX.length:Int) (((dX ++ [(⟨5,(dm.getD ((((n.cells.getD b7 default).args).getD 0 0).toNat) []).getD 0 0,(dR.length:Int)⟩:Gate)]).length:Nat):Int) ((dm.getD ((((n.cells.getD b7 default).args).getD 1 0).toNat) []).getD gF 0) ((dm.getD (((n.cells.getD b7 default).out).toNat) []).getD gF 0),⟨pj,pj,hq.step hR (e1.trans e2) U om om w1 w2 U⟩,om,Le.mk (.c8 (.c4 (.c (.cons (ak U bj) .nil)))) (.c2 (.c (.cons (ax U ep) (.c2 (.c .nil)))))⟩)
 refine .exit (⟨jB,ik,⟨om,Hv.done hN om h4 (hR.ext (e1.trans e2)) (e1.trans e2) (by simp) hq om⟩,Le.mk (.c4 (.c2 (.c .nil))) (.c2 (.cons (ax U ep) (.c2 (.c .nil))))⟩)
 obtain ⟨Np,Gj⟩:=QR
 refine .region (.vl (Y.qb U U aH) (.mv ?_))
 refine .nil (⟨b7 + 1,pJ,nf,⟨om,om,Gj⟩,om,Le.mk (.c4 (.c2 (.cons (ak U bj) .nil))) (.c2 (.cons (ax U ep) (.c2 (.c .nil))))⟩)
 refine .exit (.seq (.seq ?_))
 have VU:=hN.len; simp only [List.length_append,List.length_singleton] at VU
 refine .region (.mv ?_)
 refine .vl (Y.zm U U) (.fa pA ?_)
 refine .ld wF ?_
 refine .vl (Y.qy (n:=dX.length) uw U U) (.vl (Y.qr U U) (.nil (.a8 U (fun Jb=>?_) (fun Jb=>?_))))
 exfalso; omega
 refine .skip (.sr (.mv ?_))
 refine .vl (Y.zm U U) (.fa pA ?_)
 refine .ld wF ?_
 refine .fa p9 ?_
 refine .ao Lc U U U U U U (aL U) U (.nil (.seq (.sh (Sh.Bl 138 (lK.map bG) U (X.rh xS _)) (.region (.vl (Y.zc pU U U (aL U) U U) (.ao oQ U U U U U U (aL U) U ?_))))))
 refine .an (.nil (.ret ?_))
 exact ⟨_,U,_,_,_,(((Sh.ks (d:=0) 0 701 U U U U sa U ae).then (Sh.ks (d:=0) 1 134 U U U U sa U ae)).then (Sh.ks (d:=0) 2 138 U U U U sa U ae)),U,U,⟨dX,dm,lK⟩,0,.inr ⟨mS hf ht Mu,U,V,at_,Cx.done ho hV hA hF VS (by simp) hN om om⟩,U,U⟩
open Go Go.AW Go.Proofs
theorem DO{k:Int}:ay Try.prog 150 [vi k] [] [] (fun r o=>r = (vi (wR k)) /\ o = []):=by
 refine ay.of Try.func150 U U U (n:=10) ae (aL U) (.sr (.an ?_))
 refine .nil (.seq (.sr (.mv ?_)))
 refine .nil (.block (.sr (.vl (Y.qm U U) (.an (.nil ?_)))))
 refine .a8 U (fun c4=>?_) (fun c4=>?_)
 refine .sr (.an (.nil (.ret ?_)))
 exact .ri rfl (by unfold wR; (repeat' split) <;> omega)
 refine .seq (.sr (.vl (Y.qm U U) (.an (.nil ?_))))
 refine .bT U (fun c6=>?_) (fun c6=>?_)
 refine .skip (.bf U (.sr (.an (.nil (.ret ?_)))))
 exact .ri rfl (by unfold wR; (repeat' split) <;> omega)
 refine .sr (.vl (Y.qm U U) (.an (.nil ?_)))
 refine .bT U (fun c6=>?_) (fun c6=>?_)
 refine .skip (.bf U (.sr (.an (.nil (.ret ?_)))))
 exact .ri rfl (by unfold wR; (repeat' split) <;> omega)
 refine .region (.vl (Y.qm U U) (.an (.nil ?_)))
 refine .bT U (fun c6=>?_) (fun c6=>?_)
 refine .sr (.an (.nil (.ret ?_)))
 exact .ri rfl (by unfold wR; (repeat' split) <;> omega)
 refine .skip (.sr (.an (.nil (.ret ?_))))
 exact .ri rfl (by unfold wR; (repeat' split) <;> omega)
theorem yX{l:List Gate}(hl:l.length <= 10000000):ay Try.prog 147 [.fz 3 (l.map Gate.row)] [] [] (fun r o=>r = (vi (if y4 l then 0 else 3)) /\ o = []):=by
 refine ay.of Try.func147 U U U (n:=47) ae (aL U) (.sr (.an ?_))
 refine .nil (.seq (.sr (.mv ?_)))
 refine .vl (Y.qy (n:=l.length) uw U (congrArg some (List.length_map ..))) (.mv ?_)
 refine .nil (.block (.kO (fun (eG:Nat)=>⟨[(7,.fz 3 (l.map Gate.row)),(8,vi l.length),(9,vi eG)],[]⟩) (fun eG=>((eG:Int) <= (l.length:Int)) /\ (∀ j,j < eG -> kI j (l.getD j default))) (fun eG=>((l.length:Int) - (eG:Int)).toNat) 0 (⟨om,fun j hj=>by omega⟩) (Le.mk (.c2 (.cons (ak U bj) .nil)) .nil) (fun eG Ad=>?_)))
 obtain ⟨xD,hG⟩:=Ad
 refine .sr (.vl (Y.zd U U) (.nil (.seq (.a8 U (fun L9=>?_) (fun L9=>?_)))))
 refine .skip (.seq (.block (.sr (.mv ?_))))
 refine .vl (Y.qt (m:=eG) uw U U bj (aq (d:=default) om)) (.vl (Y.zc Po U U (aL U) U U) (.alloc 104 ux U U ae ?_))
 refine .an ?_
 refine .ao Pq U U U U U U (aL U) U (.nil (.seq (.sr (.fa wE ?_))))
 refine .ld bw ?_
 refine .vl (Y.zd U U) (.mv ?_)
 refine .aG (d:=17) U (fun TH=>?_) (fun TH=>?_)
 refine .gz 17 (.gz 17 (.gz 17 (.pk ?_)))
 refine .nil (.bf U (.sr (.an (.nil (.ret ?_)))))
 exact .ri rfl (by rw [if_neg (fun h=>by have h1:=(h eG om).1; omega)])
 refine .gw 17 (Y.qp wE U U) (.gw 17 (Y.zb bw U U U U) (.gw 17 (Y.qr U U) (.pk ?_)))
 refine .nil (.a8 U (fun Dy=>?_) (fun Dy=>?_))
 refine .sr (.an (.nil (.ret ?_)))
 exact .ri rfl (by rw [if_neg (fun h=>by have h1:=(h eG om).1; omega)])
 refine .skip (.sr (.fa Iq ?_))
 refine .ld bw ?_
 refine .fa Ir ?_
 refine .ld bw ?_
 refine .vl (Y.qi JP Pz U U U) (.mv ?_)
 refine .nil (.block ?_)
 refine .kO (fun (nh:Nat)=>⟨[(3,vi eG),(4,.ptr 104 0 0 0),(7,.fz 3 (l.map Gate.row)),(8,vi l.length),(9,vi eG),(18,.ptr 104 0 0 0),(19,vi ((l.getD eG default).kind)),(20,.v (.bool (decide (7 < ((l.getD eG default).kind))))),(26,.agg [vi ((l.getD eG default).a),vi ((l.getD eG default).b)]),(27,vi nh)],[(104,.cells [vi ((l.getD eG default).kind),vi ((l.getD eG default).a),vi ((l.getD eG default).b)])]⟩) (fun nh=>((nh:Int) <= 2) /\ (∀ k,k < nh -> vm (l.getD eG default).kind eG k (if k = 0 then (l.getD eG default).a else (l.getD eG default).b))) (fun nh=>(2 - (nh:Int)).toNat) 0 (⟨om,fun j hj=>by omega⟩) (Le.mk (.c8 (.c (.cons (ak U bj) .nil))) (.c .nil)) (fun nh Gx=>?_)
 obtain ⟨RW,hQ⟩:=Gx
 refine .sr (.vl (Y.zd U U) (.nil (.seq (.a8 U (fun C5=>?_) (fun C5=>?_)))))
 refine .skip (.seq (.block (.sr (.mv ?_))))
 refine .vl (Y.qs (m:=nh) JP bw U U U om (L7 om) U) (.an ?_)
 refine .an (.nil (.sr ?_))
 refine .mv ?_
 refine .fa wE ?_
 refine .ld bw ?_
 refine .bm Pv (DO (k:=((l.getD eG default).kind))) U (.ai U U .nil) ae U (.vl (Y.zd U U) (.nil (.a8 U (fun vo=>?_) (fun vo=>?_))))
 refine .sr (.mv ?_)
 refine .vl (Y.zd U U) (.mv ?_)
 refine .aG (d:=38) U (fun QS=>?_) (fun QS=>?_)
 refine .gz 38 (.gz 38 (.gz 38 (.pk ?_)))
 refine .nil (.bf U (.sr (.an (.nil (.ret ?_)))))
 exact .ri rfl (by rw [if_neg (fun h=>by have h1:=wS (h eG om) (k:=nh) om; unfold vm at h1; split at h1 <;> omega)])
 refine .gw 38 (Y.zh U U) (.gw 38 (Y.zh U U) (.gw 38 (Y.qq U U) (.pk ?_)))
 refine .nil (.a8 U (fun Ed=>?_) (fun Ed=>?_))
 refine .sr (.an (.nil (.ret ?_)))
 exact .ri rfl (by rw [if_neg (fun h=>by have h1:=wS (h eG om) (k:=nh) om; unfold vm at h1; split at h1 <;> omega)])
 refine .skip (.region (.vl (Y.qb U U aH) (.mv ?_)))
 refine .nil (⟨nh + 1,⟨om,eK hQ (by unfold vm; split <;> omega)⟩,om,Le.mk (.c8 (.c (.cons (ak U bj) .nil))) (.c .nil)⟩)
 refine .sr (.mv ?_)
 refine .vl (Y.zl U U) (.nil (.a8 U (fun VQ=>?_) (fun VQ=>?_)))
 refine .sr (.an (.nil (.ret ?_)))
 exact .ri rfl (by rw [if_neg (fun h=>by have h1:=wS (h eG om) (k:=nh) om; unfold vm at h1; split at h1 <;> omega)])
 refine .skip (.region (.vl (Y.qb U U aH) (.mv ?_)))
 refine .nil (⟨nh + 1,⟨om,eK hQ (by unfold vm; split <;> omega)⟩,om,Le.mk (.c8 (.c (.cons (ak U bj) .nil))) (.c .nil)⟩)
 refine .exit (.region (.vl (Y.qb U U aH) (.mv ?_)))
 refine .nil (⟨eG + 1,⟨om,eK hG (L6 om (fun k hk=>hQ k om))⟩,om,Le.mk (.c2 (.cons (ak U bj) .nil)) .nil⟩)
 refine .exit (.sr (.an (.nil (.ret ?_))))
 exact .ri rfl (by rw [if_pos (show y4 l from fun j hj=>hG j om)])
theorem Bn{n:Nat}(hn:n <= 5864062014805):ay Try.prog 183 [.v (.slice none 0 0),vi n] [] [] (fun r o=>r = .dn 1 (([]:List (List Int)).map bG) /\ o = []):=by
 refine ay.of Try.func183 U U U (n:=27) ae (aL U) (.sr (.an ?_))
 refine .nil (.seq (.sr (.mv ?_)))
 refine .vl (Y.zd U U) (.nil (.a8 U (fun c6=>?_) (fun c6=>?_)))
 exfalso; omega
 refine .skip (.seq (.sr (.mv ?_)))
 refine .mv ?_
 refine .vl (Y.qj cb U) (.mv ?_)
 refine .vl (Y.qy (n:=0) cb U U) (.vl (Y.wc U U aH) (.vl (Y.wc U U aH) (.an (.nil (.sr ?_)))))
 refine .mv ?_
 refine .vl (Y.qr U U) (.nil (.a8 U (fun yF=>?_) (fun yF=>?_)))
 refine .region (.mv ?_)
 refine .mv ?_
 refine .vl (Y.qj cb U) (.vl (Y.zz cb U (.none _) (.some U)) (.mv ?_))
 refine .uh (n:=(((n:Int) - (0 - 0)).toNat)) cb mQ U U sx U (by first | rfl | (rw [show ((n:Int) - (0 - 0):Int) = ((((n:Int) - (0 - 0)).toNat:Nat):Int) by omega]; rfl)) om ae om om ae (.sh (Sh.Ko (d:=22) (z':=bG []) U U U (.td .nil)) (.mv ?_))
 refine .vl (Y.qy (n:=0) cb U U) (.sh (Sh.cz (d:=22) (n:=(List.replicate (((n:Int) - (0 - 0)).toNat) ([]:List Int)).length) 122 ((List.replicate (((n:Int) - (0 - 0)).toNat) ([]:List Int)).map bG) U fI (aF U) ae) (.vl (Y.wa (l:=0) (h:=0) cb U (.none _) (.some U) om om) (.an (.nil (.sr ?_)))))
 refine .mv ?_
 refine .an ?_
 exact .sh (Sh.BH (d:=4) (o:=122) (([]:List (List Int)).map bG) U U (by simp) (by simp) ae) (.sh (Sh.cO (d:=4) (o:=122) U U (aF aH) ae) (.nil (.ret ⟨_,_,U,U,(CR (fun (z0:List (List Int))=>X.dn 1 (z0.map bG)) (U:([]:List (List Int)) = ([]:List (List Int))):X.dn 1 (([]:List (List Int)).map bG) = X.dn 1 (([]:List (List Int)).map bG)),U⟩)))
 refine .skip (.sr (.mv ?_))
 refine .an ?_
 exact .nil (.sh (Sh.zX (d:=4) 1 U) (.ret ⟨_,_,U,U,(CR (fun (z0:List (List Int))=>X.dn 1 (z0.map bG)) (U:([]:List (List Int)) = ([]:List (List Int))):X.dn 1 (([]:List (List Int)).map bG) = X.dn 1 (([]:List (List Int)).map bG)),U⟩))
theorem xo{ls:List (List (List Int))}(h1:ls.length <= 1000)(hn:ls.flatten.length <= 5864062014805):ay Try.prog 148 [.fz 1 (ls.map sY)] [] [] (fun r o=>r = .dn 1 (ls.flatten.map bG) /\ o = []):=by
 refine ay.of Try.func148 U U U (n:=36) ae (aL U) (.sr (.an (.nil (.sr ?_))))
 refine .an ?_
 refine .nil (.seq (.sr (.mv ?_)))
 refine .vl (Y.qy (n:=ls.length) ym U (congrArg some (List.length_map ..))) (.mv ?_)
 refine .nil (.block (.fH (fun (gq:Nat) (dc:Nat)=>⟨[(0,.fz 1 (ls.map sY)),(3,vi gq),(9,.fz 1 (ls.map sY)),(10,vi ls.length),(11,vi dc)],[]⟩) (fun gq dc=>((dc:Int) <= (ls.length:Int)) /\ (gq = (ls.take dc).flatten.length)) (fun gq dc=>((ls.length:Int) - (dc:Int)).toNat) 0 0 (⟨om,U⟩) (Le.mk (.c (.cons (ak U bj) (.c2 (.cons (ak U bj) .nil)))) .nil) (fun gq dc qM=>?_)))
 obtain ⟨Ec,hs⟩:=qM
 refine .sr (.vl (Y.zd U U) (.nil (.seq (.a8 U (fun Gl=>?_) (fun Gl=>?_)))))
 refine .skip (.seq (.block (.sr ?_)))
 have hf:=congrArg List.length (p3 (ls:=ls) (i:=dc) om)
 rw [List.length_append] at hf
 have MU:=ke ls (dc + 1)
 have JZ:=ke ls dc
 refine .vl (Y.qt (m:=dc) ym U U bj (aq (d:=[]) om)) (.ld gQ ?_)
 refine .an (.nil (.sr ?_))
 refine .mv ?_
 refine .mv ?_
 refine .vl (Y.qy (n:=(ls.getD dc []).length) cb U (congrArg some (List.length_map ..))) (.vl (Y.qb U U aH) (.an (.nil (.sr ?_))))
 refine .mv ?_
 refine .vl (Y.zd U U) (.nil (.a8 U (fun Gm=>?_) (fun Gm=>?_)))
 exfalso; omega
 refine .skip (.region (.vl (Y.qb U U aH) (.mv ?_)))
 refine .nil (⟨gq + ((ls.getD dc []).length),dc + 1,⟨om,om⟩,om,Le.mk (.c (.cons (ak U bj) (.c2 (.cons (ak U bj) .nil)))) .nil⟩)
 refine .exit (.sr ?_)
 have JZ:=ke ls dc
 refine .mv ?_
 refine .bm Pw (Bn (n:=gq) (om)) U (.ai U U (.ai U U .nil)) ae U ?_
 refine .cj U ae (.sh (Sh.cz (d:=6) (n:=([]:List (List Int)).length) 106 (([]:List (List Int)).map bG) U fI (aF U) ae) (.nil (.seq (.sr (.mv ?_)))))
 refine .vl (Y.qy (n:=ls.length) ym U (congrArg some (List.length_map ..))) (.mv ?_)
 refine .nil (.block (.fH (fun (dI:Nat) (bE:List (List Int))=>⟨[(6,.aR 106 1 0 bE.length),(25,.fz 1 (ls.map sY)),(26,vi ls.length),(27,vi dI)],[(106,.rows 1 (bE.map bG))]⟩) (fun dI bE=>((dI:Int) <= (ls.length:Int)) /\ (bE = (ls.take dI).flatten)) (fun dI bE=>((ls.length:Int) - (dI:Int)).toNat) 0 ([]:List (List Int)) (⟨om,U⟩) (Le.mk (.cons (aP U om) (.c2 (.cons (ak U bj) .nil))) (.c .nil)) (fun dI bE AP=>?_)))
 obtain ⟨TE,ht⟩:=AP
 refine .sr (.vl (Y.zd U U) (.nil (.seq (.a8 U (fun C5=>?_) (fun C5=>?_)))))
 refine .skip (.seq (.block (.sr ?_)))
 have hf:=p3 (ls:=ls) (i:=dI) om
 have RN:=congrArg List.length hf
 rw [List.length_append] at RN
 have MU:=ke ls (dI + 1)
 have JZ:=ke ls dI
 have Xr:=congrArg List.length ht
 refine .vl (Y.qt (m:=dI) ym U U bj (aq (d:=[]) om)) (.ld gQ ?_)
 refine .an (.nil (.region ?_))
 refine .mv ?_
 refine .mv ?_
 refine .g5 ((bE ++ (ls.getD dI [])).map bG) (bE ++ (ls.getD dI [])).length cb mQ U U U U (aV aH) (aM aH) (bs aH) aH aH ae ae ?_
 refine .an (.nil (.region ?_))
 refine .vl (Y.qb U U aH) (.mv ?_)
 refine .nil (⟨dI + 1,bE ++ (ls.getD dI []),⟨om,by rw [ht]; exact hf.symm⟩,om,Le.mk (.cons (aP U om) (.c2 (.cons (ak U bj) .nil))) (.c .nil)⟩)
 refine .exit (.sr (.mv ?_))
 refine .an ?_
 exact .sh (Sh.cO (d:=2) (o:=106) U U (aF om) ae) (.nil (.ret ⟨_,_,U,U,(CR (fun (z0:List (List Int))=>X.dn 1 (z0.map bG)) (by rw [ht,List.take_of_length_le om]:bE = ls.flatten):X.dn 1 (bE.map bG) = X.dn 1 (ls.flatten.map bG)),U⟩))
open Go Go.AW Go.Proofs
theorem xp{n:ab}{m:gp}(hm:m.bc.length <= 10000000 /\ m.bits.length <= 100000 /\ m.next.length <= 100000)(hl:∀ l ∈ m.bits ++ m.next,l.length <= 1000000):ay Try.prog 102 [.agg (ab.row n),.agg (gp.row m)] [] [] (fun r o=>r = .v (.bool (decide (mb n m))) /\ o = []):=by
 refine ay.of Try.func102 U U U (n:=59) ae (aL U) (.sr (.box 102 U U U U U ae ?_))
 refine .box 103 U U U U U ae ?_
 refine .an ?_
 refine .nil (.seq (.seq (.sh (Sh.dD 102 U U) (.sh (Sh.dD 103 U U) (.region (.fa p9 ?_))))))
 refine .ld wF ?_
 refine .bm Pt (yX (l:=m.bc) (om)) U (.ai U U .nil) ae U (.vl (Y.zl U U) (.mv ?_))
 refine .aG (d:=13) U (fun wW=>?_) (fun wW=>?_)
 refine .gz 13 (.gz 13 (.gz 13 (.gz 13 (.gz 13 (.gz 13 (.gz 13 (.pk ?_)))))))
 refine .mv ?_
 refine .gz 22 (.gz 22 (.gz 22 (.gz 22 (.gz 22 (.gz 22 (.gz 22 (.pk ?_)))))))
 refine .nil (.bf U (.sr (.an (.nil (.ret ?_)))))
 exact .rb rfl (df (fun h=>by have h1:=h.dw; rw [if_pos h1] at wW; exact wW rfl))
 refine .gw 13 (Y.qp fM U U) (.gw 13 (Y.zb gQ U U U U) (.gw 13 (Y.qy (n:=m.bits.length) cb U (congrArg some (List.length_map ..))) (.gw 13 (Y.qp cg U U) (.gw 13 (Y.zb bu U U U U) (.gw 13 (Y.qy (n:=n.aa.length) az U (congrArg some (List.length_map ..))) (.gw 13 (Y.zl U U) (.pk ?_)))))))
 refine .mv ?_
 refine .aG (d:=22) U (fun mT=>?_) (fun mT=>?_)
 refine .gz 22 (.gz 22 (.gz 22 (.gz 22 (.gz 22 (.gz 22 (.gz 22 (.pk ?_)))))))
 refine .nil (.bf U (.sr (.an (.nil (.ret ?_)))))
 exact .rb rfl (df (fun h=>by have:=h.bl; omega))
 refine .gw 22 (Y.qp nH U U) (.gw 22 (Y.zb gQ U U U U) (.gw 22 (Y.qy (n:=m.next.length) cb U (congrArg some (List.length_map ..))) (.gw 22 (Y.qp cK U U) (.gw 22 (Y.zb iz U U U U) (.gw 22 (Y.qy (n:=n.cells.length) dZ U (congrArg some (List.length_map ..))) (.gw 22 (Y.zl U U) (.pk ?_)))))))
 refine .nil (.a8 U (fun rJ=>?_) (fun rJ=>?_))
 refine .sr (.an (.nil (.ret ?_)))
 exact .rb rfl (df (fun h=>by have:=h.nl; omega))
 refine .skip (.seq (.sr (.fa fM ?_)))
 refine .ld gQ ?_
 refine .fa nH ?_
 refine .ld gQ ?_
 refine .buildSlice (([m.bits,m.next]:List (List (List Int))).map sY) ym Py U U U U U (aj (s:=1) (f:=sY) (fun _=>U)) U U U ae ?_
 refine .sh (Sh.bS (d:=35) (([m.bits,m.next]:List (List (List Int))).map sY) U fI (bN.map y9)) (.bm Pu (xo (ls:=([m.bits,m.next]:List (List (List Int)))) (by simp) (by simp; omega)) U (.ai U U .nil) ae U (.vl (Y.qy (n:=(([m.bits,m.next]:List (List (List Int))).flatten).length) cb U (congrArg some (List.length_map ..))) (.mv ?_)))
 refine .nil (.block (.sh (Sh.bS (d:=36) ((([m.bits,m.next]:List (List (List Int))).flatten).map bG) U fI (bN.map eb)) ?_))
 refine .kO (fun (iQ:Nat)=>⟨[(3,.fp (gp.row m) 0),(36,.fz 1 ((([m.bits,m.next]:List (List (List Int))).flatten).map bG)),(37,vi (((([m.bits,m.next]:List (List (List Int))).flatten).length:Nat):Int)),(38,vi iQ)],[]⟩) (fun iQ=>((iQ:Int) <= (((([m.bits,m.next]:List (List (List Int))).flatten).length:Nat):Int)) /\ (∀ j,j < iQ -> ∀ k,k < ((([m.bits,m.next]:List (List (List Int))).flatten).getD j []).length -> 0 <= ((([m.bits,m.next]:List (List (List Int))).flatten).getD j []).getD k 0 /\ ((([m.bits,m.next]:List (List (List Int))).flatten).getD j []).getD k 0 < m.bc.length)) (fun iQ=>((((([m.bits,m.next]:List (List (List Int))).flatten).length:Nat):Int) - (iQ:Int)).toNat) 0 (⟨om,fun j hj=>by omega⟩) (Le.mk (.c2 (.c (.cons (ak U bj) .nil))) .nil) (fun iQ IY=>?_)
 obtain ⟨Kd,hA⟩:=IY
 refine .seq ?_
 have z5:(([m.bits,m.next]:List (List (List Int))).flatten).length = m.bits.length + m.next.length:=wT
 refine .region (.vl (Y.zd U U) (.nil (.seq (.a8 U (fun rK=>?_) (fun rK=>?_)))))
 refine .skip (.seq (.block (.sr (.vl (Y.qt (m:=iQ) cb U U bj (aq (d:=[]) om)) (.ld bu ?_)))))
 refine .an (.nil (.seq ?_))
 have Jv:((([m.bits,m.next]:List (List (List Int))).flatten).getD iQ []).length <= 1000000:=hl _ (by have:=getD_in (l:=(([m.bits,m.next]:List (List (List Int))).flatten)) (i:=iQ) (d:=[]) om; simpa using this)
 refine .region (.mv ?_)
 refine .vl (Y.qy (n:=((([m.bits,m.next]:List (List (List Int))).flatten).getD iQ []).length) az U (congrArg some (List.length_map ..))) (.mv ?_)
 refine .nil (.block ?_)
 refine .kO (fun (pd:Nat)=>⟨[(3,.fp (gp.row m) 0),(36,.fz 1 ((([m.bits,m.next]:List (List (List Int))).flatten).map bG)),(37,vi (((([m.bits,m.next]:List (List (List Int))).flatten).length:Nat):Int)),(38,vi iQ),(42,.fz 1 (((([m.bits,m.next]:List (List (List Int))).flatten).getD iQ []).map ag)),(43,vi ((((([m.bits,m.next]:List (List (List Int))).flatten).getD iQ []).length:Nat):Int)),(44,vi pd)],[]⟩) (fun pd=>((pd:Int) <= ((((([m.bits,m.next]:List (List (List Int))).flatten).getD iQ []).length:Nat):Int)) /\ (∀ k,k < pd -> 0 <= ((([m.bits,m.next]:List (List (List Int))).flatten).getD iQ []).getD k 0 /\ ((([m.bits,m.next]:List (List (List Int))).flatten).getD iQ []).getD k 0 < m.bc.length)) (fun pd=>(((((([m.bits,m.next]:List (List (List Int))).flatten).getD iQ []).length:Nat):Int) - (pd:Int)).toNat) 0 (⟨om,fun j hj=>by omega⟩) (Le.mk (.c4 (.c2 (.cons (ak U bj) .nil))) .nil) (fun pd Gx=>?_)
 obtain ⟨RW,hB⟩:=Gx
 refine .sr (.vl (Y.zd U U) (.nil (.seq (.a8 U (fun c45=>?_) (fun c45=>?_)))))
 refine .skip (.seq (.block (.sr (.vl (Y.qt (m:=pd) az U U bj (aq (d:=0) om)) (.ld bw ?_)))))
 refine .an (.nil (.sr ?_))
 refine .mv ?_
 refine .vl (Y.zd U U) (.mv ?_)
 refine .aG (d:=50) U (fun TI=>?_) (fun TI=>?_)
 refine .gz 50 (.gz 50 (.gz 50 (.gz 50 (.gz 50 (.pk ?_)))))
 refine .nil (.bf U (.sr (.an (.nil (.ret ?_)))))
 exact .rb rfl (df (fun h=>by have h1:=h.p6 iQ om pd om; omega))
 refine .gw 50 (Y.zh U U) (.gw 50 (Y.qp p9 U U) (.gw 50 (Y.zb wF U U U U) (.gw 50 (Y.qy (n:=m.bc.length) uw U (congrArg some (List.length_map ..))) (.gw 50 (Y.qq U U) (.pk ?_)))))
 refine .nil (.a8 U (fun Qj=>?_) (fun Qj=>?_))
 refine .sr (.an (.nil (.ret ?_)))
 exact .rb rfl (df (fun h=>by have h1:=h.p6 iQ om pd om; omega))
 refine .skip (.region (.vl (Y.qb U U aH) (.mv ?_)))
 refine .nil (⟨pd + 1,⟨om,eK hB ⟨om,om⟩⟩,om,Le.mk (.c4 (.c2 (.cons (ak U bj) .nil))) .nil⟩)
 refine .exit (.region (.vl (Y.qb U U aH) (.mv ?_)))
 refine .nil (⟨iQ + 1,⟨om,eK hA (fun k hk=>hB k om)⟩,om,Le.mk (.c2 (.c (.cons (ak U bj) .nil))) .nil⟩)
 refine .exit (.sr (.an (.nil (.ret ?_))))
 exact .rb rfl (dt ⟨Classical.byContradiction fun hg=>absurd wW (by rw [if_neg hg]; decide),om,om,fun j hj k hk=>hA j om k hk⟩)
theorem eL{n:ab}{m:gp}(hs:n.Small)(MX:n.aa.length + n.ins.length <= 17592186044416)(hm:m.bc.length <= 10000000 /\ m.bits.length <= 100000 /\ m.next.length <= 100000)(hl:∀ l ∈ m.bits ++ m.next,l.length <= 1000000)(hF:¬ mb n m):ay Try.prog 51 [.agg (ab.row n),.agg (gp.row m)] [] [] (fun r o=>r = .tup [.agg [vi 0,.v (.slice none 0 0)],vi (if fg n ≠ 0 then fg n else 3)] /\ o = []):=by
 refine ay.ofM Try.func51 U U U (n:=118) ae (aL U) (gW.yP (.region (.box 102 U U U U U ae (.box 103 U U U U U ae (.alloc 104 l8 U U ae ?_)))))
 refine .an ?_
 refine .nil (gW.yP (.seq (.sh (Sh.dD 102 U U) (.sh (Sh.dD 103 U U) (.region (.vl (Y.zc er U U (aL U) U U) (.bm Ti (AZ (n:=n) hs MX) U (.ai U U .nil) ae U ?_)))))))
 refine .an (.nil (.sr ?_))
 refine .mv ?_
 refine .vl (Y.zl U U) (.nil (.a8 U (fun mT=>?_) (fun mT=>?_)))
 refine .sr (.vl (Y.qh Fh l8 U U U) (.mv ?_))
 refine .ao mR U U U U U U (aL U) U ?_
 refine .an (.nil (.ret ?_))
 refine ⟨_,_,U,U,?_,U⟩; rw [if_pos mT]; rfl
 refine .skip (gW.yP (.sr (.vl (Y.zc er U U (aL U) U U) (.vl (Y.zc pU U U (aL U) U U) (.bm Ps (xp (n:=n) (m:=m) hm hl) U (.ai U U (.ai U U .nil)) ae U ?_)))))
 refine .vl (Y.zn U) (.nil (.cond U (fun C5=>?_) (fun C5=>?_)))
 replace C5:¬ (mb n m):=by simpa using C5
 refine .sr (.vl (Y.qh Fh l8 U U U) (.ao mR U U U U U U (aL U) U ?_))
 refine .an (.nil (.ret ?_))
 refine ⟨_,_,U,U,?_,U⟩; rw [if_neg mT]; rfl
 exact absurd (show mb n m by simpa using C5) hF
open Go Go.AW Go.Proofs
theorem fG{k:Nat}:ay Try.prog 64 [.v (.int .u8 (k:Int))] [] [] (fun r o=>r = (vi (a7 k)) /\ o = []):=by
 refine ay.of Try.func64 U U U (n:=8) ae (aL U) (.sr (.an (.nil (.sr ?_))))
 refine .buildSlice (([1,2,4,7,8,13,33,64]:List Int).map ag) az cP U U U U U (aj (s:=1) (f:=ag) (fun _=>U)) U U U ae ?_
 refine .mv ?_
 refine .vl (Y.zt U U aH) (.sh (Sh.bS (d:=3) (([1,2,4,7,8,13,33,64]:List Int).map ag) U fI (bN.map aE)) (.vl (Y.qt (m:=k % 8) az U U bj (aq (d:=0) aH)) (.ld bw ?_)))
 refine .an (.nil (.ret ?_))
 exact .ri rfl (rfl)
theorem cv{n:ab}{w:Int}{k:Nat}(hn:n.aa.length <= 1048576)(hk:k < 256):ay Try.prog 67 [.agg (ab.rm n),vi w,.v (.int .u8 (k:Int))] [] [] (fun r o=>r = (vi (aB n.aa w k)) /\ o = []):=by
 refine ay.of Try.func67 U U U (n:=38) ae (aL U) ?_
 have GY:=vC n.aa w
 refine .sr (.box 103 U U U U U ae ?_)
 refine .an (.nil (.sr ?_))
 refine .an ?_
 refine .sh (Sh.nil (d:=7) 107 1 U ae) (.nil (.seq (.sr (.an (.nil (.block ?_))))))
 refine .fH (fun (pf:Nat) (qU:List Int)=>⟨[(1,vi w),(2,.v (.int .u8 (k:Int))),(3,.ptr 103 0 0 0),(7,.aR 107 1 0 qU.length),(8,vi pf)],[(103,.cells (ab.rm n)),(107,.rows 1 (qU.map ag))]⟩) (fun pf qU=>((pf:Int) <= (n.aa.length:Int)) /\ (qU = ji n.aa w pf)) (fun pf qU=>((n.aa.length:Int) - (pf:Int)).toNat) 0 ([]:List Int) (⟨pj,U⟩) (Le.mk (.c2 (.c (.cons (aP U aH) (.cons (ak U bj) .nil)))) (.c (.c .nil))) (fun pf qU qM=>?_)
 obtain ⟨Ec,hl⟩:=qM
 refine .seq (.sr (.mv ?_))
 refine .fa cg ?_
 refine .ld bu ?_
 refine .vl (Y.qy (n:=n.aa.length) az U fk) (.vl (Y.zd U U) (.nil (.a8 U (fun wW=>?_) (fun wW=>?_))))
 refine .skip (.fS (fun (sF:List Int)=>⟨[(1,vi w),(2,.v (.int .u8 (k:Int))),(3,.ptr 103 0 0 0),(7,.aR 107 1 0 sF.length),(8,vi pf)],[(103,.cells (ab.rm n)),(107,.rows 1 (sF.map ag))]⟩) (fun sF=>sF = ji n.aa w (pf + 1)) ?_ (fun sF AS=>?_))
 refine .block (.seq ?_)
 have My:=GY pf; rw [<- hl] at My
 refine .region (.fa cg ?_)
 refine .ld bu ?_
 refine .mv ?_
 refine .vl (Y.qt (m:=pf) az U U bj (aq (d:=0) om)) (.ld bw ?_)
 refine .mv ?_
 refine .vl (Y.qm U U) (.nil (.a8 U (fun mT=>?_) (fun mT=>?_)))
 refine .region (.mv ?_)
 refine .mv ?_
 refine .buildSlice (([(pf:Int)]:List Int).map ag) az cP U U U U U (aj (s:=1) (f:=ag) (fun _=>U)) U U U ae ?_
 refine .cL ag (qU ++ ([(pf:Int)]:List Int)) az cP U U U U (aV aH) (aM aH) (bs aH) aH aH ae ae ?_
 refine .an ?_
 refine .nil ⟨qU ++ ([(pf:Int)]:List Int),by first | (rw [hl]; exact (p7 cU).symm) | exact hl.trans (rp cU).symm,Le.mk (.c2 (.c (.cons (aP U om) (.c .nil)))) (.c (.c .nil))⟩
 refine .skip ⟨qU,by first | (rw [hl]; exact (p7 cU).symm) | exact hl.trans (rp cU).symm,Le.mk (.c2 (.c (.cons (aP U om) (.c .nil)))) (.c (.c .nil))⟩
 refine .region (.mv ?_)
 refine .vl (Y.qb U U aH) (.an ?_)
 refine .nil (⟨pf + 1,sF,⟨om,AS⟩,om,Le.mk (.c2 (.c (.cons (aP U om) (.cons (ak U bj) .nil)))) (.c (.c .nil))⟩)
 refine .exit (.seq (.seq ?_))
 have he:qU = ji n.aa w n.aa.length:=by rw [hl,show pf = n.aa.length by omega]
 have My:=GY pf; rw [<- hl] at My
 refine .region (.mv ?_)
 refine .vl (Y.qy (n:=qU.length) az U U) (.vl (Y.qm U U) (.nil (.a8 U (fun Hw=>?_) (fun Hw=>?_))))
 refine .sr (.an (.nil (.ret ?_)))
 exact .ri rfl (by unfold aB; rw [<- he,if_pos om])
 refine .skip (.seq ?_)
 have VW:k % qU.length < qU.length:=Nat.mod_lt _ om
 refine .region (.mv ?_)
 refine .mv ?_
 refine .vl (Y.ql w9 sx U Ai) (.mv ?_)
 refine .vl (Y.qy (n:=qU.length) az U U) (.vl (Y.zt U U aH) (.vl (Y.qu (m:=k % qU.length) az U U bj om) (.vl (Y.zb bw U (aI (d:=0) om) U U) (.an (.nil (.ret ?_))))))
 exact .ri rfl (by unfold aB; rw [<- he,if_neg om])
theorem jY{n:ab}{w:Int}{k:Nat}(hn:n.aa.length <= 1048576)(hk:k < 256):ay Try.prog 67 [.agg (ab.row n),vi w,.v (.int .u8 (k:Int))] [] [] (fun r o=>r = (vi (aB n.aa w k)) /\ o = []):=by
 refine ay.of Try.func67 U U U (n:=38) ae (aL U) ?_
 have GY:=vC n.aa w
 refine .sr (.box 103 U U U U U ae ?_)
 refine .an (.nil (.sr ?_))
 refine .an ?_
 refine .sh (Sh.nil (d:=7) 107 1 U ae) (.nil (.seq (.sr (.an (.nil (.block ?_))))))
 refine .fH (fun (pf:Nat) (qU:List Int)=>⟨[(1,vi w),(2,.v (.int .u8 (k:Int))),(3,.ptr 103 0 0 0),(7,.aR 107 1 0 qU.length),(8,vi pf)],[(103,.cells (ab.row n)),(107,.rows 1 (qU.map ag))]⟩) (fun pf qU=>((pf:Int) <= (n.aa.length:Int)) /\ (qU = ji n.aa w pf)) (fun pf qU=>((n.aa.length:Int) - (pf:Int)).toNat) 0 ([]:List Int) (⟨pj,U⟩) (Le.mk (.c2 (.c (.cons (aP U aH) (.cons (ak U bj) .nil)))) (.c (.c .nil))) (fun pf qU qM=>?_)
 obtain ⟨Ec,hl⟩:=qM
 refine .seq (.sr (.mv ?_))
 refine .fa cg ?_
 refine .ld bu ?_
 refine .vl (Y.qy (n:=n.aa.length) az U fk) (.vl (Y.zd U U) (.nil (.a8 U (fun wW=>?_) (fun wW=>?_))))
 refine .skip (.fS (fun (sF:List Int)=>⟨[(1,vi w),(2,.v (.int .u8 (k:Int))),(3,.ptr 103 0 0 0),(7,.aR 107 1 0 sF.length),(8,vi pf)],[(103,.cells (ab.row n)),(107,.rows 1 (sF.map ag))]⟩) (fun sF=>sF = ji n.aa w (pf + 1)) ?_ (fun sF AS=>?_))
 refine .block (.seq ?_)
 have My:=GY pf; rw [<- hl] at My
 refine .region (.fa cg ?_)
 refine .ld bu ?_
 refine .mv ?_
 refine .vl (Y.qt (m:=pf) az U U bj (aq (d:=0) om)) (.ld bw ?_)
 refine .mv ?_
 refine .vl (Y.qm U U) (.nil (.a8 U (fun mT=>?_) (fun mT=>?_)))
 refine .region (.mv ?_)
 refine .mv ?_
 refine .buildSlice (([(pf:Int)]:List Int).map ag) az cP U U U U U (aj (s:=1) (f:=ag) (fun _=>U)) U U U ae ?_
 refine .cL ag (qU ++ ([(pf:Int)]:List Int)) az cP U U U U (aV aH) (aM aH) (bs aH) aH aH ae ae ?_
 refine .an ?_
 refine .nil ⟨qU ++ ([(pf:Int)]:List Int),by first | (rw [hl]; exact (p7 cU).symm) | exact hl.trans (rp cU).symm,Le.mk (.c2 (.c (.cons (aP U om) (.c .nil)))) (.c (.c .nil))⟩
 refine .skip ⟨qU,by first | (rw [hl]; exact (p7 cU).symm) | exact hl.trans (rp cU).symm,Le.mk (.c2 (.c (.cons (aP U om) (.c .nil)))) (.c (.c .nil))⟩
 refine .region (.mv ?_)
 refine .vl (Y.qb U U aH) (.an ?_)
 refine .nil (⟨pf + 1,sF,⟨om,AS⟩,om,Le.mk (.c2 (.c (.cons (aP U om) (.cons (ak U bj) .nil)))) (.c (.c .nil))⟩)
 refine .exit (.seq (.seq ?_))
 have he:qU = ji n.aa w n.aa.length:=by rw [hl,show pf = n.aa.length by omega]
 have My:=GY pf; rw [<- hl] at My
 refine .region (.mv ?_)
 refine .vl (Y.qy (n:=qU.length) az U U) (.vl (Y.qm U U) (.nil (.a8 U (fun Hw=>?_) (fun Hw=>?_))))
 refine .sr (.an (.nil (.ret ?_)))
 exact .ri rfl (by unfold aB; rw [<- he,if_pos om])
 refine .skip (.seq ?_)
 have VW:k % qU.length < qU.length:=Nat.mod_lt _ om
 refine .region (.mv ?_)
 refine .mv ?_
 refine .vl (Y.ql w9 sx U Ai) (.mv ?_)
 refine .vl (Y.qy (n:=qU.length) az U U) (.vl (Y.zt U U aH) (.vl (Y.qu (m:=k % qU.length) az U U bj om) (.vl (Y.zb bw U (aI (d:=0) om) U U) (.an (.nil (.ret ?_))))))
 exact .ri rfl (by unfold aB; rw [<- he,if_neg om])
open Go Go.AW Go.Proofs
theorem Bo{n:ab}{p:sb}(hn:n.aa.length <= 1048576)(h0:0 < n.aa.length)(hp:p.Ok)(hg:Ground n)(hi:n.ins.length <= 1048576):ay Try.prog 119 [.agg (ab.rm n),.agg (sb.row p)] [] [] (fun r o=>∃ c w,l5 n c w /\ r = .tup [.agg (Cell.iw c),vi w] /\ o = []):=by
 refine ay.R6 Try.func119 U U U (n:=96) ae (aL U) ?_
 have UJ:=hp.kind; have Q7:=hp.op; have hp3:=hp.width; have Yd:=hp.a; have hp5:=hp.b; have RY:=hp.d; have hp7:=hp.num; have XZ:=Nat.mod_lt p.a h0; have Ya:=Nat.mod_lt p.b h0
 refine .sr (.box 102 U U U U U ae (.box 103 U U U U U ae ?_))
 refine .alloc 104 e8 U U ae ?_
 refine .an ?_
 refine .nil (.seq (.sh (Sh.dD 102 U U) (.sh (Sh.dD 103 U U) (.region (.buildSlice (([2,3,9,10,11,12,13,14,15,16,17,18,19,20,21,22,23,24]:List Int).map ag) az cP U U U U U (aj (s:=1) (f:=ag) (fun _=>U)) U U U ae ?_)))))
 refine .cj U ae (.sh (Sh.bS (d:=6) (([2,3,9,10,11,12,13,14,15,16,17,18,19,20,21,22,23,24]:List Int).map ag) U fI (bN.map aE)) (.nil (.le (aW:=⟨[(2,.fp (ab.rm n) 0),(3,.fp (sb.row p) 0),(4,.ptr 104 0 0 0),(6,.fz 1 (([2,3,9,10,11,12,13,14,15,16,17,18,19,20,21,22,23,24]:List Int).map ag))],[(104,.cells [vi 0,vi 0,vi 0,vn,.v (.int .u64 0),vi 0])]⟩) (Le.mk (.c2 (.c (.c .nil))) (.c .nil)) (.sr (.mv ?_)))))
 refine .fa p8 ?_
 refine .ld sS ?_
 refine .vl (Y.ql w9 sx U Ai) (.mv ?_)
 refine .vl (Y.qy (n:=([2,3,9,10,11,12,13,14,15,16,17,18,19,20,21,22,23,24]:List Int).length) az U fk) (.vl (Y.zt U U aH) (.vl (Y.qt (m:=p.op % (([2,3,9,10,11,12,13,14,15,16,17,18,19,20,21,22,23,24]:List Int).length)) az U U bj (aq (d:=0) aH)) (.ld bw ?_)))
 refine .an (.nil (.sr ?_))
 refine .fa BX ?_
 refine .ld sS ?_
 refine .bm vj (fG (k:=p.width)) U (.ai U U .nil) ae U ?_
 refine .an (.nil (.sr ?_))
 refine .mv ?_
 refine .vl (Y.qh wA e8 U U U) (.alloc 109 e8 U U ae (.ao fJ U U U U U U (aL U) U ?_))
 refine .nil (.seq (.block (.sr (.mv ?_))))
 refine .vl (Y.qm U U) (.an (.nil ?_))
 refine .a8 U (fun Ed=>?_) (fun Ed=>?_)
 refine .gh U (.fu 0 U au er U U U (aL U) U U ae (.blind 1 U au (aw.fieldAddr j0 U U) ae ?_))
 refine .blind 2 U au (aw.l9 oP U U (m:=0) U om U) ae (.load 3 U au sS U U U U U ae (.fu 5 U au er U U U (aL U) U U ae ?_))
 refine .blind 6 U au (aw.move U U) ae (.blind 7 U au (aw.fieldAddr j0 U U) ae (.blind 8 U au (aw.l9 oP U U (m:=1) U om U) ae ?_))
 refine .load 9 U au sS U U U U U ae (.fu 11 U au er U U U (aL U) U U ae (.blind 12 U au (aw.move U U) ae ?_))
 refine .blind 13 U au (aw.fieldAddr j0 U U) ae (.blind 14 U au (aw.l9 oP U U (m:=2) U om U) ae (.load 15 U au sS U U U U U ae ?_))
 refine .yo (.one 4 U au (.bm jc (cv (n:=(⟨n.name,n.aa,n.cells,n.ins,n.aA,n.streams,[],[],n.freeze,n.done,[]⟩:ab)) (w:=1) (k:=p.a) (by show (n.aa).length <= 1048576; omega) om) U (.ai U U (.ai U U (.ai U U .nil))) ae U ?_))
 refine .nil ⟨U,(.one 10 U au (.bm jc (cv (n:=(⟨n.name,n.aa,n.cells,n.ins,n.aA,n.streams,[],[],n.freeze,n.done,[]⟩:ab)) (w:=(a7 p.width)) (k:=p.b) (by show (n.aa).length <= 1048576; omega) om) U (.ai U U (.ai U U (.ai U U .nil))) ae U ?_))⟩
 refine .nil ⟨U,(.one 16 U au (.bm jc (cv (n:=(⟨n.name,n.aa,n.cells,n.ins,n.aA,n.streams,[],[],n.freeze,n.done,[]⟩:ab)) (w:=(a7 p.width)) (k:=p.d) (by show (n.aa).length <= 1048576; omega) om) U (.ai U U (.ai U U (.ai U U .nil))) ae U ?_))⟩
 refine .nil ⟨U,(.one 17 U au (.buildSlice (([aB n.aa 1 p.a,aB n.aa (a7 p.width) p.b,aB n.aa (a7 p.width) p.d]:List Int).map ag) az cP U U U U U (aj (s:=1) (f:=ag) (fun _=>U)) U U U ae ?_))⟩
 refine .nil ⟨U,(.one 18 U au (.fa cd ?_))⟩
 refine .nil ⟨U,(.one 19 U au (.sh (Sh.cz (d:=62) (n:=([aB n.aa 1 p.a,aB n.aa (a7 p.width) p.b,aB n.aa (a7 p.width) p.d]:List Int).length) 162 (([aB n.aa 1 p.a,aB n.aa (a7 p.width) p.b,aB n.aa (a7 p.width) p.d]:List Int).map ag) U fI (aF U) ae) (.ao eD U U U U U U (aL U) U ?_)))⟩
 refine .nil ⟨U,(.done au (.le (aW:=⟨[(4,.ptr 104 0 0 0),(8,vi (a7 p.width)),(9,.ptr 109 0 0 0)],[(104,.cells [vi 0,vi 0,vi 0,vn,.v (.int .u64 0),vi 0]),(109,.cells [vi 2,vi (([2,3,9,10,11,12,13,14,15,16,17,18,19,20,21,22,23,24]:List Int).getD (p.op % (([2,3,9,10,11,12,13,14,15,16,17,18,19,20,21,22,23,24]:List Int).length)) 0),vi 0,.aR 162 1 0 (([aB n.aa 1 p.a,aB n.aa (a7 p.width) p.b,aB n.aa (a7 p.width) p.d]:List Int).length),.v (.int .u64 0),vi 0]),(162,.rows 1 (([aB n.aa 1 p.a,aB n.aa (a7 p.width) p.b,aB n.aa (a7 p.width) p.d]:List Int).map ag))]⟩) (Le.mk (.c2 (.c .nil)) (.c2 (.c .nil))) ?_))⟩
 refine .sr (.vl (Y.zc fq U U (aL U) U U) (.mv ?_))
 refine .ao fJ U U U U U U (aL U) U ?_
 refine .an (.nil (.ret ?_))
 exact ⟨_,U,_,_,_,Sh.ks (d:=0) 3 162 U U U U sa U ae,U,U,(⟨2,([2,3,9,10,11,12,13,14,15,16,17,18,19,20,21,22,23,24]:List Int).getD (p.op % (([2,3,9,10,11,12,13,14,15,16,17,18,19,20,21,22,23,24]:List Int).length)) 0,0,([aB n.aa 1 p.a,aB n.aa (a7 p.width) p.b,aB n.aa (a7 p.width) p.d]:List Int),0,0⟩:Cell),_,KS hg Ed,U,U⟩
 refine .sr (.mv ?_)
 refine .bm Ta (AN (w:=(([2,3,9,10,11,12,13,14,15,16,17,18,19,20,21,22,23,24]:List Int).getD (p.op % (([2,3,9,10,11,12,13,14,15,16,17,18,19,20,21,22,23,24]:List Int).length)) 0))) U (.ai U U .nil) ae U ?_
 refine .an (.nil ?_)
 refine .a8 U (fun Kg=>?_) (fun Kg=>?_)
 refine .sr (.fa j0 ?_)
 refine .vl (Y.qv oP U U (m:=0) U om U) (.ld sS ?_)
 refine .vl (Y.ql w9 sx U Ai) (.fa cg ?_)
 refine .ld bu ?_
 refine .vl (Y.qy (n:=n.aa.length) az U fk) (.vl (Y.zt U U aH) (.an (.nil ?_)))
 refine .fS (fun (sG:Int)=>⟨[(4,.ptr 104 0 0 0),(8,vi sG),(9,.ptr 109 0 0 0),(10,vi ((p.a:Int) % (n.aa.length:Int)))],[(104,.cells [vi 0,vi 0,vi 0,vn,.v (.int .u64 0),vi 0]),(109,.cells [vi 2,vi (([2,3,9,10,11,12,13,14,15,16,17,18,19,20,21,22,23,24]:List Int).getD (p.op % (([2,3,9,10,11,12,13,14,15,16,17,18,19,20,21,22,23,24]:List Int).length)) 0),vi 0,vn,.v (.int .u64 0),vi 0])]⟩) (fun sG=>(((([2,3,9,10,11,12,13,14,15,16,17,18,19,20,21,22,23,24]:List Int).getD (p.op % (([2,3,9,10,11,12,13,14,15,16,17,18,19,20,21,22,23,24]:List Int).length)) 0) = 24) /\ (sG = (if (n.aa.getD (p.a % n.aa.length) 0) < (a7 p.width) then (n.aa.getD (p.a % n.aa.length) 0) else (a7 p.width)))) \/ ((¬ ((([2,3,9,10,11,12,13,14,15,16,17,18,19,20,21,22,23,24]:List Int).getD (p.op % (([2,3,9,10,11,12,13,14,15,16,17,18,19,20,21,22,23,24]:List Int).length)) 0) = 24)) /\ (sG = (if (n.aa.getD (p.a % n.aa.length) 0) > (a7 p.width) then (n.aa.getD (p.a % n.aa.length) 0) else (a7 p.width))))) ?_ (fun sG VX=>?_)
 refine .sr (.mv ?_)
 refine .vl (Y.qm U U) (.nil (.a8 U (fun Gk=>?_) (fun Gk=>?_)))
 refine .region (.mv ?_)
 refine .fa cg ?_
 refine .ld bu ?_
 refine .mv ?_
 refine .vl (Y.qt (m:=p.a % n.aa.length) az U U bj (aq (d:=0) om)) (.ld bw ?_)
 refine .vl (Y.zg U U U) (.an ?_)
 refine .nil (⟨if (n.aa.getD (p.a % n.aa.length) 0) < (a7 p.width) then (n.aa.getD (p.a % n.aa.length) 0) else (a7 p.width),.inl ⟨Gk,U⟩,Le.mk (.c (.cons (ak U bj) (.c (.c .nil)))) (.c (.c .nil))⟩)
 refine .region (.mv ?_)
 refine .fa cg ?_
 refine .ld bu ?_
 refine .mv ?_
 refine .vl (Y.qt (m:=p.a % n.aa.length) az U U bj (aq (d:=0) om)) (.ld bw ?_)
 refine .vl (Y.zf U U U) (.an ?_)
 refine .nil (⟨if (n.aa.getD (p.a % n.aa.length) 0) > (a7 p.width) then (n.aa.getD (p.a % n.aa.length) 0) else (a7 p.width),.inr (⟨Gk,U⟩),Le.mk (.c (.cons (ak U bj) (.c (.c .nil)))) (.c (.c .nil))⟩)
 refine .region (.mv ?_)
 refine .buildSlice (([(p.a:Int) % (n.aa.length:Int)]:List Int).map ag) az cP U U U U U (aj (s:=1) (f:=ag) (fun _=>U)) U U U ae ?_
 refine .fa cd ?_
 refine .sh (Sh.cz (d:=92) (n:=([(p.a:Int) % (n.aa.length:Int)]:List Int).length) 192 (([(p.a:Int) % (n.aa.length:Int)]:List Int).map ag) U fI (aF U) ae) (.ao eD U U U U U U (aL U) U (.nil ?_))
 refine .le (aW:=⟨[(4,.ptr 104 0 0 0),(8,vi sG),(9,.ptr 109 0 0 0)],[(104,.cells [vi 0,vi 0,vi 0,vn,.v (.int .u64 0),vi 0]),(109,.cells [vi 2,vi (([2,3,9,10,11,12,13,14,15,16,17,18,19,20,21,22,23,24]:List Int).getD (p.op % (([2,3,9,10,11,12,13,14,15,16,17,18,19,20,21,22,23,24]:List Int).length)) 0),vi 0,.aR 192 1 0 (([(p.a:Int) % (n.aa.length:Int)]:List Int).length),.v (.int .u64 0),vi 0]),(192,.rows 1 (([(p.a:Int) % (n.aa.length:Int)]:List Int).map ag))]⟩) (Le.mk (.c2 (.c .nil)) (.c2 (.c .nil))) ?_
 refine .sr (.vl (Y.zc fq U U (aL U) U U) (.mv ?_))
 refine .ao fJ U U U U U U (aL U) U ?_
 refine .an (.nil (.ret ?_))
 exact ⟨_,U,_,_,_,Sh.ks (d:=0) 3 192 U U U U sa U ae,U,U,(⟨2,([2,3,9,10,11,12,13,14,15,16,17,18,19,20,21,22,23,24]:List Int).getD (p.op % (([2,3,9,10,11,12,13,14,15,16,17,18,19,20,21,22,23,24]:List Int).length)) 0,0,([(p.a:Int) % (n.aa.length:Int)]:List Int),0,0⟩:Cell),_,Oy hg h0 Kg VX,U,U⟩
 refine .seq (.gh U (.fu 0 U au er U U U (aL U) U U ae ?_))
 refine .blind 1 U au (aw.move U U) ae (.blind 2 U au (aw.fieldAddr j0 U U) ae (.blind 3 U au (aw.l9 oP U U (m:=0) U om U) ae ?_))
 refine .load 4 U au sS U U U U U ae (.fu 6 U au er U U U (aL U) U U ae (.blind 7 U au (aw.move U U) ae ?_))
 refine .blind 8 U au (aw.fieldAddr j0 U U) ae (.blind 9 U au (aw.l9 oP U U (m:=1) U om U) ae (.load 10 U au sS U U U U U ae ?_))
 refine .yo (.one 5 U au (.bm jc (cv (n:=(⟨n.name,n.aa,n.cells,n.ins,n.aA,n.streams,[],[],n.freeze,n.done,[]⟩:ab)) (w:=(a7 p.width)) (k:=p.a) (by show (n.aa).length <= 1048576; omega) om) U (.ai U U (.ai U U (.ai U U .nil))) ae U ?_))
 refine .nil ⟨U,(.one 11 U au (.bm jc (cv (n:=(⟨n.name,n.aa,n.cells,n.ins,n.aA,n.streams,[],[],n.freeze,n.done,[]⟩:ab)) (w:=(a7 p.width)) (k:=p.b) (by show (n.aa).length <= 1048576; omega) om) U (.ai U U (.ai U U (.ai U U .nil))) ae U ?_))⟩
 refine .nil ⟨U,(.one 12 U au (.buildSlice (([aB n.aa (a7 p.width) p.a,aB n.aa (a7 p.width) p.b]:List Int).map ag) az cP U U U U U (aj (s:=1) (f:=ag) (fun _=>U)) U U U ae ?_))⟩
 refine .nil ⟨U,(.one 13 U au (.fa cd ?_))⟩
 refine .nil ⟨U,(.one 14 U au (.sh (Sh.cz (d:=38) (n:=([aB n.aa (a7 p.width) p.a,aB n.aa (a7 p.width) p.b]:List Int).length) 138 (([aB n.aa (a7 p.width) p.a,aB n.aa (a7 p.width) p.b]:List Int).map ag) U fI (aF U) ae) (.ao eD U U U U U U (aL U) U ?_)))⟩
 refine .nil ⟨U,?_⟩
 refine .done au (.le (aW:=⟨[(4,.ptr 104 0 0 0),(7,vi (([2,3,9,10,11,12,13,14,15,16,17,18,19,20,21,22,23,24]:List Int).getD (p.op % (([2,3,9,10,11,12,13,14,15,16,17,18,19,20,21,22,23,24]:List Int).length)) 0)),(8,vi (a7 p.width)),(9,.ptr 109 0 0 0)],[(104,.cells [vi 0,vi 0,vi 0,vn,.v (.int .u64 0),vi 0]),(109,.cells [vi 2,vi (([2,3,9,10,11,12,13,14,15,16,17,18,19,20,21,22,23,24]:List Int).getD (p.op % (([2,3,9,10,11,12,13,14,15,16,17,18,19,20,21,22,23,24]:List Int).length)) 0),vi 0,.aR 138 1 0 (([aB n.aa (a7 p.width) p.a,aB n.aa (a7 p.width) p.b]:List Int).length),.v (.int .u64 0),vi 0]),(138,.rows 1 (([aB n.aa (a7 p.width) p.a,aB n.aa (a7 p.width) p.b]:List Int).map ag))]⟩) (Le.mk (.c2 (.c (.c .nil))) (.c2 (.c .nil))) (.sr ?_))
 refine .mv ?_
 refine .bm SX (rL (w:=(([2,3,9,10,11,12,13,14,15,16,17,18,19,20,21,22,23,24]:List Int).getD (p.op % (([2,3,9,10,11,12,13,14,15,16,17,18,19,20,21,22,23,24]:List Int).length)) 0))) U (.ai U U .nil) ae U (.nil (.a8 U (fun Gn=>?_) (fun Gn=>?_)))
 refine .region (.an ?_)
 refine .nil (.le (aW:=⟨[(4,.ptr 104 0 0 0),(8,vi 1),(9,.ptr 109 0 0 0)],[(104,.cells [vi 0,vi 0,vi 0,vn,.v (.int .u64 0),vi 0]),(109,.cells [vi 2,vi (([2,3,9,10,11,12,13,14,15,16,17,18,19,20,21,22,23,24]:List Int).getD (p.op % (([2,3,9,10,11,12,13,14,15,16,17,18,19,20,21,22,23,24]:List Int).length)) 0),vi 0,.aR 138 1 0 (([aB n.aa (a7 p.width) p.a,aB n.aa (a7 p.width) p.b]:List Int).length),.v (.int .u64 0),vi 0]),(138,.rows 1 (([aB n.aa (a7 p.width) p.a,aB n.aa (a7 p.width) p.b]:List Int).map ag))]⟩) (Le.mk (.c2 (.c .nil)) (.c2 (.c .nil))) ?_)
 refine .sr (.vl (Y.zc fq U U (aL U) U U) (.mv ?_))
 refine .ao fJ U U U U U U (aL U) U ?_
 refine .an (.nil (.ret ?_))
 exact ⟨_,U,_,_,_,Sh.ks (d:=0) 3 138 U U U U sa U ae,U,U,(⟨2,([2,3,9,10,11,12,13,14,15,16,17,18,19,20,21,22,23,24]:List Int).getD (p.op % (([2,3,9,10,11,12,13,14,15,16,17,18,19,20,21,22,23,24]:List Int).length)) 0,0,([aB n.aa (a7 p.width) p.a,aB n.aa (a7 p.width) p.b]:List Int),0,0⟩:Cell),_,EX hg (EW _) Ed Kg (.inl ⟨Gn,U⟩),U,U⟩
 refine .skip (.le (aW:=⟨[(4,.ptr 104 0 0 0),(8,vi (a7 p.width)),(9,.ptr 109 0 0 0)],[(104,.cells [vi 0,vi 0,vi 0,vn,.v (.int .u64 0),vi 0]),(109,.cells [vi 2,vi (([2,3,9,10,11,12,13,14,15,16,17,18,19,20,21,22,23,24]:List Int).getD (p.op % (([2,3,9,10,11,12,13,14,15,16,17,18,19,20,21,22,23,24]:List Int).length)) 0),vi 0,.aR 138 1 0 (([aB n.aa (a7 p.width) p.a,aB n.aa (a7 p.width) p.b]:List Int).length),.v (.int .u64 0),vi 0]),(138,.rows 1 (([aB n.aa (a7 p.width) p.a,aB n.aa (a7 p.width) p.b]:List Int).map ag))]⟩) (Le.mk (.c2 (.c .nil)) (.c2 (.c .nil))) ?_)
 refine .sr (.vl (Y.zc fq U U (aL U) U U) (.mv ?_))
 refine .ao fJ U U U U U U (aL U) U ?_
 refine .an (.nil (.ret ?_))
 exact ⟨_,U,_,_,_,Sh.ks (d:=0) 3 138 U U U U sa U ae,U,U,(⟨2,([2,3,9,10,11,12,13,14,15,16,17,18,19,20,21,22,23,24]:List Int).getD (p.op % (([2,3,9,10,11,12,13,14,15,16,17,18,19,20,21,22,23,24]:List Int).length)) 0,0,([aB n.aa (a7 p.width) p.a,aB n.aa (a7 p.width) p.b]:List Int),0,0⟩:Cell),_,EX hg (EW _) Ed Kg (.inr ⟨Gn,U⟩),U,U⟩
theorem vZ{n:ab}{p:sb}(hn:n.aa.length <= 1048576)(h0:0 < n.aa.length)(hp:p.Ok)(hg:Ground n)(hi:n.ins.length <= 1048576):ay Try.prog 65 [.agg (ab.rm n),.agg (sb.row p)] [] [] (fun r o=>∃ c w,l5 n c w /\ r = .tup [.agg (Cell.iw c),vi w] /\ o = []):=by
 refine ay.R6 Try.func65 U U U (n:=208) ae (aL U) ?_
 have UJ:=hp.kind; have Q7:=hp.op; have hp3:=hp.width; have Yd:=hp.a; have hp5:=hp.b; have RY:=hp.d; have hp7:=hp.num; have XZ:=Nat.mod_lt p.a h0; have Ya:=Nat.mod_lt p.b h0
 refine .sr (.box 102 U U U U U ae (.box 103 U U U U U ae ?_))
 refine .alloc 104 e8 U U ae ?_
 refine .an ?_
 refine .nil (.seq (.sh (Sh.dD 102 U U) (.sh (Sh.dD 103 U U) (.region (.fa BX ?_)))))
 refine .ld sS ?_
 refine .bm vj (fG (k:=p.width)) U (.ai U U .nil) ae U ?_
 refine .an (.nil (.sr ?_))
 refine .fa Ik ?_
 refine .ld sS ?_
 refine .vl (Y.zt U U aH) (.vl (Y.ql w9 sx U Ai) (.vl (Y.qb U U aH) (.vl (Y.qh wA e8 U U U) (.alloc 107 e8 U U ae (.ao fJ U U U U U U (aL U) U ?_)))))
 refine .nil (.seq (.kb U au ?_))
 refine .val (Y.qp j0 U U) ae (.val (Y.qv oP U U (m:=0) U om U) ae (.val (Y.zb sS U U U U) ae (.val (Y.qp j0 U U) ae (.val (Y.qv oP U U (m:=1) U om U) ae (.val (Y.zb sS U U U U) ae (.val (Y.qp j0 U U) ae (.val (Y.qv oP U U (m:=2) U om U) ae (.val (Y.zb sS U U U U) ae (.val (Y.qf U U) ae (.val (Y.qf U U) ae (.val (Y.qf U U) ae ?_)))))))))))
 refine .nil (.le (aW:=⟨[(2,.fp (ab.rm n) 0),(3,.fp (sb.row p) 0),(4,.ptr 104 0 0 0),(6,vi (a7 p.width)),(7,.ptr 107 0 0 0),(8,.v (.int .u8 (p.a:Int))),(9,.v (.int .u8 (p.b:Int))),(10,.v (.int .u8 (p.d:Int)))],[(104,.cells [vi 0,vi 0,vi 0,vn,.v (.int .u64 0),vi 0]),(107,.cells [vi (1 + ((p.kind:Int) % 10)),vi 0,vi (-1),vn,.v (.int .u64 0),vi 0])]⟩) (Le.mk (.c4 (.c2 (.c (.c .nil)))) (.c (.c .nil))) ?_)
 refine .seq (.sr (.fa du ?_))
 refine .ld bw ?_
 refine .nil (.block (.sr (.vl (Y.qm U U) (.an (.nil ?_)))))
 refine .a8 U (fun LH=>?_) (fun LH=>?_)
 refine .region (.mv ?_)
 refine .fa tI ?_
 refine .ld iN ?_
 refine .bm Pc (vT (w:=(a7 p.width)) (x:=p.num) (om)) U (.ai U U (.ai U U .nil)) ae U ?_
 refine .fa eh ?_
 refine .ao Ip U U U U U U (aL U) U (.nil (.le (aW:=⟨[(4,.ptr 104 0 0 0),(6,vi (a7 p.width)),(7,.ptr 107 0 0 0)],[(104,.cells [vi 0,vi 0,vi 0,vn,.v (.int .u64 0),vi 0]),(107,.cells [vi (1 + ((p.kind:Int) % 10)),vi 0,vi (-1),vn,.v (.int .u64 ((jM (a7 p.width) p.num:Nat):Int)),vi 0])]⟩) (Le.mk (.c2 (.c .nil)) (.c (.c .nil))) ?_))
 refine .sr (.vl (Y.zc fq U U (aL U) U U) (.mv ?_))
 refine .ao fJ U U U U U U (aL U) U ?_
 refine .an ?_
 exact .nil (.sh (Sh.eW 104 399 1 3 U U U U ae) (.ret (⟨_,U,_,_,_,Sh.ks (d:=0) 3 399 U U U U sa U ae,U,U,(⟨1 + ((p.kind:Int) % 10),0,-1,([]:List Int),jM (a7 p.width) p.num,0⟩:Cell),_,EY hg om,U,U⟩)))
 refine .sr (.vl (Y.qm U U) (.an (.nil ?_)))
 refine .a8 U (fun Ul=>?_) (fun Ul=>?_)
 refine .sr (.vl (Y.zc er U U (aL U) U U) (.vl (Y.zc Fk U U (aL U) U U) (.oH OT (Bo (n:=n) (p:=p) hn h0 hp hg hi) U (.ai U U (.ai U U .nil)) ae ?_)))
 rintro _ ⟨QT,aan,VY,rfl,_⟩
 refine ⟨U,(.iL U U ae (.vl (Y.qo U U U) (.sh (Sh.Cc (d:=79) 3 2083 QT.args.length U U U ae (aF U)) (.ao fJ U U U U U U (aL U) U ?_))))⟩
 refine .an (.nil (.ret ?_))
 exact ⟨_,U,_,_,_,Sh.ks (d:=0) 3 2083 U U U U sa U ae,U,U,QT,_,VY,U,U⟩
 refine .sr (.vl (Y.qm U U) (.an (.nil ?_)))
 refine .a8 U (fun Kh=>?_) (fun Kh=>?_)
 refine .gh U (.fu 0 U au er U U U (aL U) U U ae (.blind 1 U au (aw.move U U) ae ?_))
 refine .fu 3 U au er U U U (aL U) U U ae (.blind 4 U au (aw.move U U) ae (.blind 5 U au (aw.move U U) ae ?_))
 refine .fu 7 U au er U U U (aL U) U U ae (.blind 8 U au (aw.move U U) ae (.fu 10 U au er U U U (aL U) U U ae ?_))
 refine .blind 11 U au (aw.move U U) ae (.blind 12 U au (aw.fieldAddr p8 U U) ae (.load 13 U au sS U U U U U ae ?_))
 refine .yo (.one 2 U au (.bm jc (cv (n:=(⟨n.name,n.aa,n.cells,n.ins,n.aA,n.streams,[],[],n.freeze,n.done,[]⟩:ab)) (w:=1) (k:=p.a) (by show (n.aa).length <= 1048576; omega) om) U (.ai U U (.ai U U (.ai U U .nil))) ae U ?_))
 refine .nil ⟨U,(.one 6 U au (.bm jc (cv (n:=(⟨n.name,n.aa,n.cells,n.ins,n.aA,n.streams,[],[],n.freeze,n.done,[]⟩:ab)) (w:=(a7 p.width)) (k:=p.b) (by show (n.aa).length <= 1048576; omega) om) U (.ai U U (.ai U U (.ai U U .nil))) ae U ?_))⟩
 refine .nil ⟨U,(.one 9 U au (.bm jc (cv (n:=(⟨n.name,n.aa,n.cells,n.ins,n.aA,n.streams,[],[],n.freeze,n.done,[]⟩:ab)) (w:=1) (k:=p.d) (by show (n.aa).length <= 1048576; omega) om) U (.ai U U (.ai U U (.ai U U .nil))) ae U ?_))⟩
 refine .nil ⟨U,(.one 14 U au (.bm jc (cv (n:=(⟨n.name,n.aa,n.cells,n.ins,n.aA,n.streams,[],[],n.freeze,n.done,[]⟩:ab)) (w:=(a7 p.width)) (k:=p.op) (by show (n.aa).length <= 1048576; omega) om) U (.ai U U (.ai U U (.ai U U .nil))) ae U ?_))⟩
 refine .nil ⟨U,(.one 15 U au (.buildSlice (([aB n.aa 1 p.a,aB n.aa (a7 p.width) p.b,aB n.aa 1 p.d,aB n.aa (a7 p.width) p.op]:List Int).map ag) az cP U U U U U (aj (s:=1) (f:=ag) (fun _=>U)) U U U ae ?_))⟩
 refine .nil ⟨U,(.one 16 U au (.fa cd ?_))⟩
 refine .nil ⟨U,(.one 17 U au (.sh (Sh.cz (d:=98) (n:=([aB n.aa 1 p.a,aB n.aa (a7 p.width) p.b,aB n.aa 1 p.d,aB n.aa (a7 p.width) p.op]:List Int).length) 198 (([aB n.aa 1 p.a,aB n.aa (a7 p.width) p.b,aB n.aa 1 p.d,aB n.aa (a7 p.width) p.op]:List Int).map ag) U fI (aF U) ae) (.ao eD U U U U U U (aL U) U ?_)))⟩
 refine .nil ⟨U,(.done au (.le (aW:=⟨[(4,.ptr 104 0 0 0),(6,vi (a7 p.width)),(7,.ptr 107 0 0 0)],[(104,.cells [vi 0,vi 0,vi 0,vn,.v (.int .u64 0),vi 0]),(107,.cells [vi (1 + ((p.kind:Int) % 10)),vi 0,vi (-1),.aR 198 1 0 (([aB n.aa 1 p.a,aB n.aa (a7 p.width) p.b,aB n.aa 1 p.d,aB n.aa (a7 p.width) p.op]:List Int).length),.v (.int .u64 0),vi 0]),(198,.rows 1 (([aB n.aa 1 p.a,aB n.aa (a7 p.width) p.b,aB n.aa 1 p.d,aB n.aa (a7 p.width) p.op]:List Int).map ag))]⟩) (Le.mk (.c2 (.c .nil)) (.c2 (.c .nil))) ?_))⟩
 refine .sr (.vl (Y.zc fq U U (aL U) U U) (.mv ?_))
 refine .ao fJ U U U U U U (aL U) U ?_
 refine .an (.nil (.ret ?_))
 exact ⟨_,U,_,_,_,Sh.ks (d:=0) 3 198 U U U U sa U ae,U,U,(⟨1 + ((p.kind:Int) % 10),0,-1,([aB n.aa 1 p.a,aB n.aa (a7 p.width) p.b,aB n.aa 1 p.d,aB n.aa (a7 p.width) p.op]:List Int),0,0⟩:Cell),_,KU hg om,U,U⟩
 refine .sr (.vl (Y.qm U U) (.an (.nil ?_)))
 refine .a8 U (fun VZ=>?_) (fun VZ=>?_)
 refine .sr (.mv ?_)
 refine .fa tI ?_
 refine .ld iN ?_
 refine .bm Pc (vT (w:=(a7 p.width)) (x:=p.num) (om)) U (.ai U U (.ai U U .nil)) ae U ?_
 refine .fa eh ?_
 refine .ao Ip U U U U U U (aL U) U (.nil (.le (aW:=⟨[(2,.fp (ab.rm n) 0),(4,.ptr 104 0 0 0),(6,vi (a7 p.width)),(7,.ptr 107 0 0 0),(8,.v (.int .u8 (p.a:Int))),(9,.v (.int .u8 (p.b:Int)))],[(104,.cells [vi 0,vi 0,vi 0,vn,.v (.int .u64 0),vi 0]),(107,.cells [vi (1 + ((p.kind:Int) % 10)),vi 0,vi (-1),vn,.v (.int .u64 ((jM (a7 p.width) p.num:Nat):Int)),vi 0])]⟩) (Le.mk (.c4 (.c (.c .nil))) (.c (.c .nil))) ?_))
 refine .gh U (.fu 0 U au er U U U (aL U) U U ae (.blind 1 U au (aw.move U U) ae ?_))
 refine .fu 3 U au er U U U (aL U) U U ae (.blind 4 U au (aw.move U U) ae (.blind 5 U au (aw.move U U) ae ?_))
 refine .yo (.one 2 U au (.bm jc (cv (n:=(⟨n.name,n.aa,n.cells,n.ins,n.aA,n.streams,[],[],n.freeze,n.done,[]⟩:ab)) (w:=1) (k:=p.a) (by show (n.aa).length <= 1048576; omega) om) U (.ai U U (.ai U U (.ai U U .nil))) ae U ?_))
 refine .nil ⟨U,(.one 6 U au (.bm jc (cv (n:=(⟨n.name,n.aa,n.cells,n.ins,n.aA,n.streams,[],[],n.freeze,n.done,[]⟩:ab)) (w:=(a7 p.width)) (k:=p.b) (by show (n.aa).length <= 1048576; omega) om) U (.ai U U (.ai U U (.ai U U .nil))) ae U ?_))⟩
 refine .nil ⟨U,(.one 7 U au (.buildSlice (([aB n.aa 1 p.a,aB n.aa (a7 p.width) p.b]:List Int).map ag) az cP U U U U U (aj (s:=1) (f:=ag) (fun _=>U)) U U U ae ?_))⟩
 refine .nil ⟨U,(.one 8 U au (.fa cd ?_))⟩
 refine .nil ⟨U,(.one 9 U au (.sh (Sh.cz (d:=114) (n:=([aB n.aa 1 p.a,aB n.aa (a7 p.width) p.b]:List Int).length) 214 (([aB n.aa 1 p.a,aB n.aa (a7 p.width) p.b]:List Int).map ag) U fI (aF U) ae) (.ao eD U U U U U U (aL U) U ?_)))⟩
 refine .nil ⟨U,(.done au (.le (aW:=⟨[(4,.ptr 104 0 0 0),(6,vi (a7 p.width)),(7,.ptr 107 0 0 0)],[(104,.cells [vi 0,vi 0,vi 0,vn,.v (.int .u64 0),vi 0]),(107,.cells [vi (1 + ((p.kind:Int) % 10)),vi 0,vi (-1),.aR 214 1 0 (([aB n.aa 1 p.a,aB n.aa (a7 p.width) p.b]:List Int).length),.v (.int .u64 ((jM (a7 p.width) p.num:Nat):Int)),vi 0]),(214,.rows 1 (([aB n.aa 1 p.a,aB n.aa (a7 p.width) p.b]:List Int).map ag))]⟩) (Le.mk (.c2 (.c .nil)) (.c2 (.c .nil))) ?_))⟩
 refine .sr (.vl (Y.zc fq U U (aL U) U U) (.mv ?_))
 refine .ao fJ U U U U U U (aL U) U ?_
 refine .an (.nil (.ret ?_))
 exact ⟨_,U,_,_,_,Sh.ks (d:=0) 3 214 U U U U sa U ae,U,U,(⟨1 + ((p.kind:Int) % 10),0,-1,([aB n.aa 1 p.a,aB n.aa (a7 p.width) p.b]:List Int),jM (a7 p.width) p.num,0⟩:Cell),_,KV hg om,U,U⟩
 refine .sr (.vl (Y.qm U U) (.an (.nil ?_)))
 refine .a8 U (fun Bj=>?_) (fun Bj=>?_)
 refine .sr (.fa p8 ?_)
 refine .ld sS ?_
 refine .vl (Y.zt U U aH) (.vl (Y.ql w9 sx U Ai) (.vl (Y.qb U U aH) (.fa eQ ?_)))
 refine .ao fW U U U U U U (aL U) U (.nil (.sr (.fa tI ?_)))
 refine .ld iN ?_
 refine .vl (Y.zu (a:=p.num) (b:=4) U U om) (.vl (Y.qc (a:=1) (b:=(p.num % 4)) U U) (.fa eh ?_))
 refine .ao Ip U U U U U U (aL U) U (.nil (.le (aW:=⟨[(2,.fp (ab.rm n) 0),(4,.ptr 104 0 0 0),(6,vi (a7 p.width)),(7,.ptr 107 0 0 0),(8,.v (.int .u8 (p.a:Int))),(9,.v (.int .u8 (p.b:Int)))],[(104,.cells [vi 0,vi 0,vi 0,vn,.v (.int .u64 0),vi 0]),(107,.cells [vi (1 + ((p.kind:Int) % 10)),vi (4 + ((p.op:Int) % 5)),vi (-1),vn,.v (.int .u64 (((1 + (p.num % 4)) % 18446744073709551616:Nat):Int)),vi 0])]⟩) (Le.mk (.c4 (.c (.c .nil))) (.c (.c .nil))) ?_))
 refine .gh U (.fu 0 U au er U U U (aL U) U U ae (.blind 1 U au (aw.move U U) ae ?_))
 refine .blind 2 U au (aw.move U U) ae (.fu 4 U au er U U U (aL U) U U ae (.blind 5 U au (aw.move U U) ae ?_))
 refine .blind 6 U au (aw.move U U) ae (.yo (.one 3 U au (.bm jc (cv (n:=(⟨n.name,n.aa,n.cells,n.ins,n.aA,n.streams,[],[],n.freeze,n.done,[]⟩:ab)) (w:=(a7 p.width)) (k:=p.a) (by show (n.aa).length <= 1048576; omega) om) U (.ai U U (.ai U U (.ai U U .nil))) ae U ?_)))
 refine .nil ⟨U,(.one 7 U au (.bm jc (cv (n:=(⟨n.name,n.aa,n.cells,n.ins,n.aA,n.streams,[],[],n.freeze,n.done,[]⟩:ab)) (w:=(a7 p.width)) (k:=p.b) (by show (n.aa).length <= 1048576; omega) om) U (.ai U U (.ai U U (.ai U U .nil))) ae U ?_))⟩
 refine .nil ⟨U,(.one 8 U au (.buildSlice (([aB n.aa (a7 p.width) p.a,aB n.aa (a7 p.width) p.b]:List Int).map ag) az cP U U U U U (aj (s:=1) (f:=ag) (fun _=>U)) U U U ae ?_))⟩
 refine .nil ⟨U,(.one 9 U au (.fa cd ?_))⟩
 refine .nil ⟨U,(.one 10 U au (.sh (Sh.cz (d:=137) (n:=([aB n.aa (a7 p.width) p.a,aB n.aa (a7 p.width) p.b]:List Int).length) 237 (([aB n.aa (a7 p.width) p.a,aB n.aa (a7 p.width) p.b]:List Int).map ag) U fI (aF U) ae) (.ao eD U U U U U U (aL U) U ?_)))⟩
 refine .nil ⟨U,(.done au (.le (aW:=⟨[(4,.ptr 104 0 0 0),(6,vi (a7 p.width)),(7,.ptr 107 0 0 0)],[(104,.cells [vi 0,vi 0,vi 0,vn,.v (.int .u64 0),vi 0]),(107,.cells [vi (1 + ((p.kind:Int) % 10)),vi (4 + ((p.op:Int) % 5)),vi (-1),.aR 237 1 0 (([aB n.aa (a7 p.width) p.a,aB n.aa (a7 p.width) p.b]:List Int).length),.v (.int .u64 (((1 + (p.num % 4)) % 18446744073709551616:Nat):Int)),vi 0]),(237,.rows 1 (([aB n.aa (a7 p.width) p.a,aB n.aa (a7 p.width) p.b]:List Int).map ag))]⟩) (Le.mk (.c2 (.c .nil)) (.c2 (.c .nil))) ?_))⟩
 refine .sr (.vl (Y.zc fq U U (aL U) U U) (.mv ?_))
 refine .ao fJ U U U U U U (aL U) U ?_
 refine .an (.nil (.ret ?_))
 exact ⟨_,U,_,_,_,Sh.ks (d:=0) 3 237 U U U U sa U ae,U,U,(⟨1 + ((p.kind:Int) % 10),4 + ((p.op:Int) % 5),-1,([aB n.aa (a7 p.width) p.a,aB n.aa (a7 p.width) p.b]:List Int),(1 + (p.num % 4)) % 18446744073709551616,0⟩:Cell),_,HZ hg om om om,U,U⟩
 refine .seq (.sr (.vl (Y.qm U U) (.an (.nil ?_))))
 refine .bT U (fun Mz=>?_) (fun Mz=>?_)
 refine .skip (.bf U (.seq (.sr (.fa gP ?_))))
 refine .ld pN ?_
 refine .vl (Y.qy (n:=n.aA.length) mw U fk) (.vl (Y.qm U U) (.nil (.a8 U (fun GV=>?_) (fun GV=>?_))))
 refine .sr (.vl (Y.qh wA e8 U U U) (.ao fJ U U U U U U (aL U) U ?_))
 refine .an ?_
 exact .nil (.sh (Sh.eW 104 399 1 3 U U U U ae) (.ret (⟨_,U,_,_,_,Sh.ks (d:=0) 3 399 U U U U sa U ae,U,U,(⟨0,0,0,([]:List Int),0,0⟩:Cell),_,tD hg,U,U⟩)))
 refine .skip (.sr (.fa p8 ?_))
 refine .ld sS ?_
 refine .vl (Y.ql w9 sx U Ai) (.fa gP ?_)
 refine .ld pN ?_
 refine .vl (Y.qy (n:=n.aA.length) mw U fk) (.vl (Y.zt U U aH) (.fa dv ?_))
 refine .ao fW U U U U U U (aL U) U (.nil (.seq ?_))
 have Wa:p.op % n.aA.length < n.aA.length:=Nat.mod_lt _ om
 refine .region (.fa gP ?_)
 refine .ld pN ?_
 refine .fa dv ?_
 refine .ld bw ?_
 refine .vl (Y.qt (m:=p.op % n.aA.length) mw U U bj (aq (d:=default) om)) (.fa rz ?_)
 refine .ld bw ?_
 refine .an ?_
 refine .nil (.le (aW:=⟨[(2,.fp (ab.rm n) 0),(4,.ptr 104 0 0 0),(6,vi ((n.aA.getD (p.op % n.aA.length) default).width)),(7,.ptr 107 0 0 0),(8,.v (.int .u8 (p.a:Int))),(9,.v (.int .u8 (p.b:Int))),(10,.v (.int .u8 (p.d:Int)))],[(104,.cells [vi 0,vi 0,vi 0,vn,.v (.int .u64 0),vi 0]),(107,.cells [vi (1 + ((p.kind:Int) % 10)),vi 0,vi (-1),vn,.v (.int .u64 0),vi ((p.op:Int) % (n.aA.length:Int))])]⟩) (Le.mk (.c4 (.c2 (.c .nil))) (.c (.c .nil))) ?_)
 refine .seq (.gh U (.fu 0 U au er U U U (aL U) U U ae ?_))
 refine .blind 1 U au (aw.move U U) ae (.blind 3 U au (aw.move U U) ae ?_)
 refine .blind 4 U au (aw.vI w9 sx U Ai) ae ?_
 refine .blind 5 U au (aw.fieldAddr cg U U) ae (.load 6 U au bu U U U U U ae (.blind 7 U au (aw.len (n:=n.aa.length) az U fk) ae ?_))
 refine .blind 8 U au (aw.Ft U U om) ae ?_
 refine .yo (.one 2 U au (.bm jc (cv (n:=(⟨n.name,n.aa,n.cells,n.ins,n.aA,n.streams,[],[],n.freeze,n.done,[]⟩:ab)) (w:=1) (k:=p.a) (by show (n.aa).length <= 1048576; omega) om) U (.ai U U (.ai U U (.ai U U .nil))) ae U ?_))
 refine .nil ⟨U,(.one 9 U au (.buildSlice (([aB n.aa 1 p.a,(p.b:Int) % (n.aa.length:Int)]:List Int).map ag) az cP U U U U U (aj (s:=1) (f:=ag) (fun _=>U)) U U U ae ?_))⟩
 refine .nil ⟨U,(.one 10 U au (.fa cd ?_))⟩
 refine .nil ⟨U,(.one 11 U au (.sh (Sh.cz (d:=171) (n:=([aB n.aa 1 p.a,(p.b:Int) % (n.aa.length:Int)]:List Int).length) 271 (([aB n.aa 1 p.a,(p.b:Int) % (n.aa.length:Int)]:List Int).map ag) U fI (aF U) ae) (.ao eD U U U U U U (aL U) U ?_)))⟩
 refine .nil ⟨U,(.done au (.le (aW:=⟨[(2,.fp (ab.rm n) 0),(4,.ptr 104 0 0 0),(6,vi ((n.aA.getD (p.op % n.aA.length) default).width)),(7,.ptr 107 0 0 0),(10,.v (.int .u8 (p.d:Int)))],[(104,.cells [vi 0,vi 0,vi 0,vn,.v (.int .u64 0),vi 0]),(107,.cells [vi (1 + ((p.kind:Int) % 10)),vi 0,vi (-1),.aR 271 1 0 (([aB n.aa 1 p.a,(p.b:Int) % (n.aa.length:Int)]:List Int).length),.v (.int .u64 0),vi ((p.op:Int) % (n.aA.length:Int))]),(271,.rows 1 (([aB n.aa 1 p.a,(p.b:Int) % (n.aa.length:Int)]:List Int).map ag))]⟩) (Le.mk (.c4 (.c .nil)) (.c2 (.c .nil))) (.sr (.fa du ?_))))⟩
 refine .ld bw ?_
 refine .vl (Y.qm U U) (.nil (.a8 U (fun M0=>?_) (fun M0=>?_)))
 refine .dQ (⟨[(4,.ptr 104 0 0 0),(6,.v (.int .i64 ((n.aA.getD (p.op % n.aA.length) default).width))),(7,.ptr 107 0 0 0)],[(104,.cells [.v (.int .i64 0),.v (.int .i64 0),.v (.int .i64 0),vn,.v (.int .u64 0),.v (.int .i64 0)]),(107,.cells [.v (.int .i64 (1 + ((p.kind:Int) % 10))),.v (.int .i64 0),.v (.int .i64 (-1)),.aR 271 1 0 ((([aB n.aa 1 p.a,(p.b:Int) % (n.aa.length:Int)]:List Int) ++ ([aB n.aa ((n.aA.getD (p.op % n.aA.length) default).width) p.d]:List Int)).length),.v (.int .u64 0),.v (.int .i64 ((p.op:Int) % (n.aA.length:Int)))]),(271,.rows 1 ((([aB n.aa 1 p.a,(p.b:Int) % (n.aa.length:Int)]:List Int) ++ ([aB n.aa ((n.aA.getD (p.op % n.aA.length) default).width) p.d]:List Int)).map ag))]⟩) U ?_ ?_
 refine .blind 0 U au (aw.fieldAddr cd U U) ae (.fu 2 U au er U U U (aL U) U U ae (.blind 3 U au (aw.move U U) ae ?_))
 refine .blind 4 U au (aw.move U U) ae (.yo ?_)
 refine .two 1 5 U U au ?_ ?_
 refine .ld bu ?_
 refine .nil ⟨U,(.one 5 U au (.bm jc (cv (n:=(⟨n.name,n.aa,n.cells,n.ins,n.aA,n.streams,[],[],n.freeze,n.done,[]⟩:ab)) (w:=((n.aA.getD (p.op % n.aA.length) default).width)) (k:=p.d) (by show (n.aa).length <= 1048576; omega) om) U (.ai U U (.ai U U (.ai U U .nil))) ae U ?_))⟩
 refine .nil ⟨U,(.one 6 U au (.buildSlice (([aB n.aa ((n.aA.getD (p.op % n.aA.length) default).width) p.d]:List Int).map ag) az cP U U U U U (aj (s:=1) (f:=ag) (fun _=>U)) U U U ae ?_))⟩
 refine .nil ⟨U,(.one 7 U au (.cL ag (([aB n.aa 1 p.a,(p.b:Int) % (n.aa.length:Int)]:List Int) ++ ([aB n.aa ((n.aA.getD (p.op % n.aA.length) default).width) p.d]:List Int)) az cP U U U U (aV aH) (aM aH) (bs aH) aH aH ae ae ?_))⟩
 refine .nil ⟨U,(.one 8 U au (.fa cd ?_))⟩
 refine .nil ⟨U,(.one 9 U au (.ao eD U U U U U U (aL U) U ?_))⟩
 exact .nil ⟨U,(.done au (Le.mk (.c2 (.c .nil)) (.c2 (.c .nil))))⟩
 refine .bm jc (cv (n:=(⟨n.name,n.aa,n.cells,n.ins,n.aA,n.streams,[],[],n.freeze,n.done,[]⟩:ab)) (w:=((n.aA.getD (p.op % n.aA.length) default).width)) (k:=p.d) (by show (n.aa).length <= 1048576; omega) om) U (.ai U U (.ai U U (.ai U U .nil))) ae U ?_
 refine .nil ⟨U,(.two 1 6 U U au ?_ ?_)⟩
 refine .ld bu ?_
 refine .nil ⟨U,(.one 6 U au (.buildSlice (([aB n.aa ((n.aA.getD (p.op % n.aA.length) default).width) p.d]:List Int).map ag) az cP U U U U U (aj (s:=1) (f:=ag) (fun _=>U)) U U U ae ?_))⟩
 refine .nil ⟨U,(.one 7 U au (.cL ag (([aB n.aa 1 p.a,(p.b:Int) % (n.aa.length:Int)]:List Int) ++ ([aB n.aa ((n.aA.getD (p.op % n.aA.length) default).width) p.d]:List Int)) az cP U U U U (aV aH) (aM aH) (bs aH) aH aH ae ae ?_))⟩
 refine .nil ⟨U,(.one 8 U au (.fa cd ?_))⟩
 refine .nil ⟨U,(.one 9 U au (.ao eD U U U U U U (aL U) U ?_))⟩
 exact .nil ⟨U,(.done au (Le.mk (.c2 (.c .nil)) (.c2 (.c .nil))))⟩
 refine .buildSlice (([aB n.aa ((n.aA.getD (p.op % n.aA.length) default).width) p.d]:List Int).map ag) az cP U U U U U (aj (s:=1) (f:=ag) (fun _=>U)) U U U ae ?_
 refine .nil ⟨U,(.one 1 U au (.ld bu ?_))⟩
 refine .nil ⟨U,(.one 7 U au (.cL ag (([aB n.aa 1 p.a,(p.b:Int) % (n.aa.length:Int)]:List Int) ++ ([aB n.aa ((n.aA.getD (p.op % n.aA.length) default).width) p.d]:List Int)) az cP U U U U (aV aH) (aM aH) (bs aH) aH aH ae ae ?_))⟩
 refine .nil ⟨U,(.one 8 U au (.fa cd ?_))⟩
 refine .nil ⟨U,(.one 9 U au (.ao eD U U U U U U (aL U) U ?_))⟩
 exact .nil ⟨U,(.done au (Le.mk (.c2 (.c .nil)) (.c2 (.c .nil))))⟩
 refine .le (aW:=⟨[(4,.ptr 104 0 0 0),(6,vi ((n.aA.getD (p.op % n.aA.length) default).width)),(7,.ptr 107 0 0 0)],[(104,.cells [vi 0,vi 0,vi 0,vn,.v (.int .u64 0),vi 0]),(107,.cells [vi (1 + ((p.kind:Int) % 10)),vi 0,vi (-1),.aR 271 1 0 ((([aB n.aa 1 p.a,(p.b:Int) % (n.aa.length:Int)]:List Int) ++ ([aB n.aa ((n.aA.getD (p.op % n.aA.length) default).width) p.d]:List Int)).length),.v (.int .u64 0),vi ((p.op:Int) % (n.aA.length:Int))]),(271,.rows 1 ((([aB n.aa 1 p.a,(p.b:Int) % (n.aa.length:Int)]:List Int) ++ ([aB n.aa ((n.aA.getD (p.op % n.aA.length) default).width) p.d]:List Int)).map ag))]⟩) (Le.mk (.c2 (.c .nil)) (.c2 (.c .nil))) ?_
 refine .sr (.vl (Y.zc fq U U (aL U) U U) (.mv ?_))
 refine .ao fJ U U U U U U (aL U) U ?_
 refine .an (.nil (.ret ?_))
 exact ⟨_,U,_,_,_,Sh.ks (d:=0) 3 271 U U U U sa U ae,U,U,(⟨1 + ((p.kind:Int) % 10),0,-1,([aB n.aa 1 p.a,(p.b:Int) % (n.aa.length:Int)]:List Int) ++ ([aB n.aa ((n.aA.getD (p.op % n.aA.length) default).width) p.d]:List Int),0,(p.op:Int) % (n.aA.length:Int)⟩:Cell),_,xZ hg h0 om om,U,U⟩
 refine .skip (.le (aW:=⟨[(4,.ptr 104 0 0 0),(6,vi ((n.aA.getD (p.op % n.aA.length) default).width)),(7,.ptr 107 0 0 0)],[(104,.cells [vi 0,vi 0,vi 0,vn,.v (.int .u64 0),vi 0]),(107,.cells [vi (1 + ((p.kind:Int) % 10)),vi 0,vi (-1),.aR 271 1 0 (([aB n.aa 1 p.a,(p.b:Int) % (n.aa.length:Int)]:List Int).length),.v (.int .u64 0),vi ((p.op:Int) % (n.aA.length:Int))]),(271,.rows 1 (([aB n.aa 1 p.a,(p.b:Int) % (n.aa.length:Int)]:List Int).map ag))]⟩) (Le.mk (.c2 (.c .nil)) (.c2 (.c .nil))) ?_)
 refine .sr (.vl (Y.zc fq U U (aL U) U U) (.mv ?_))
 refine .ao fJ U U U U U U (aL U) U ?_
 refine .an (.nil (.ret ?_))
 exact ⟨_,U,_,_,_,Sh.ks (d:=0) 3 271 U U U U sa U ae,U,U,(⟨1 + ((p.kind:Int) % 10),0,-1,([aB n.aa 1 p.a,(p.b:Int) % (n.aa.length:Int)]:List Int),0,(p.op:Int) % (n.aA.length:Int)⟩:Cell),_,BP hg h0 om om,U,U⟩
 refine .region (.vl (Y.qm U U) (.an (.nil ?_)))
 refine .bT U (fun Mz=>?_) (fun Mz=>?_)
 refine .seq (.sr (.fa gP ?_))
 refine .ld pN ?_
 refine .vl (Y.qy (n:=n.aA.length) mw U fk) (.vl (Y.qm U U) (.nil (.a8 U (fun GV=>?_) (fun GV=>?_))))
 refine .sr (.vl (Y.qh wA e8 U U U) (.ao fJ U U U U U U (aL U) U ?_))
 refine .an ?_
 exact .nil (.sh (Sh.eW 104 399 1 3 U U U U ae) (.ret (⟨_,U,_,_,_,Sh.ks (d:=0) 3 399 U U U U sa U ae,U,U,(⟨0,0,0,([]:List Int),0,0⟩:Cell),_,tD hg,U,U⟩)))
 refine .skip (.sr (.fa p8 ?_))
 refine .ld sS ?_
 refine .vl (Y.ql w9 sx U Ai) (.fa gP ?_)
 refine .ld pN ?_
 refine .vl (Y.qy (n:=n.aA.length) mw U fk) (.vl (Y.zt U U aH) (.fa dv ?_))
 refine .ao fW U U U U U U (aL U) U (.nil (.seq ?_))
 have Wa:p.op % n.aA.length < n.aA.length:=Nat.mod_lt _ om
 refine .region (.fa gP ?_)
 refine .ld pN ?_
 refine .fa dv ?_
 refine .ld bw ?_
 refine .vl (Y.qt (m:=p.op % n.aA.length) mw U U bj (aq (d:=default) om)) (.fa rz ?_)
 refine .ld bw ?_
 refine .an ?_
 refine .nil (.le (aW:=⟨[(2,.fp (ab.rm n) 0),(4,.ptr 104 0 0 0),(6,vi ((n.aA.getD (p.op % n.aA.length) default).width)),(7,.ptr 107 0 0 0),(8,.v (.int .u8 (p.a:Int))),(9,.v (.int .u8 (p.b:Int))),(10,.v (.int .u8 (p.d:Int)))],[(104,.cells [vi 0,vi 0,vi 0,vn,.v (.int .u64 0),vi 0]),(107,.cells [vi (1 + ((p.kind:Int) % 10)),vi 0,vi (-1),vn,.v (.int .u64 0),vi ((p.op:Int) % (n.aA.length:Int))])]⟩) (Le.mk (.c4 (.c2 (.c .nil))) (.c (.c .nil))) ?_)
 refine .seq (.gh U (.fu 0 U au er U U U (aL U) U U ae ?_))
 refine .blind 1 U au (aw.move U U) ae (.blind 3 U au (aw.move U U) ae ?_)
 refine .blind 4 U au (aw.vI w9 sx U Ai) ae ?_
 refine .blind 5 U au (aw.fieldAddr cg U U) ae (.load 6 U au bu U U U U U ae (.blind 7 U au (aw.len (n:=n.aa.length) az U fk) ae ?_))
 refine .blind 8 U au (aw.Ft U U om) ae ?_
 refine .yo (.one 2 U au (.bm jc (cv (n:=(⟨n.name,n.aa,n.cells,n.ins,n.aA,n.streams,[],[],n.freeze,n.done,[]⟩:ab)) (w:=1) (k:=p.a) (by show (n.aa).length <= 1048576; omega) om) U (.ai U U (.ai U U (.ai U U .nil))) ae U ?_))
 refine .nil ⟨U,(.one 9 U au (.buildSlice (([aB n.aa 1 p.a,(p.b:Int) % (n.aa.length:Int)]:List Int).map ag) az cP U U U U U (aj (s:=1) (f:=ag) (fun _=>U)) U U U ae ?_))⟩
 refine .nil ⟨U,(.one 10 U au (.fa cd ?_))⟩
 refine .nil ⟨U,(.one 11 U au (.sh (Sh.cz (d:=171) (n:=([aB n.aa 1 p.a,(p.b:Int) % (n.aa.length:Int)]:List Int).length) 271 (([aB n.aa 1 p.a,(p.b:Int) % (n.aa.length:Int)]:List Int).map ag) U fI (aF U) ae) (.ao eD U U U U U U (aL U) U ?_)))⟩
 refine .nil ⟨U,(.done au (.le (aW:=⟨[(2,.fp (ab.rm n) 0),(4,.ptr 104 0 0 0),(6,vi ((n.aA.getD (p.op % n.aA.length) default).width)),(7,.ptr 107 0 0 0),(10,.v (.int .u8 (p.d:Int)))],[(104,.cells [vi 0,vi 0,vi 0,vn,.v (.int .u64 0),vi 0]),(107,.cells [vi (1 + ((p.kind:Int) % 10)),vi 0,vi (-1),.aR 271 1 0 (([aB n.aa 1 p.a,(p.b:Int) % (n.aa.length:Int)]:List Int).length),.v (.int .u64 0),vi ((p.op:Int) % (n.aA.length:Int))]),(271,.rows 1 (([aB n.aa 1 p.a,(p.b:Int) % (n.aa.length:Int)]:List Int).map ag))]⟩) (Le.mk (.c4 (.c .nil)) (.c2 (.c .nil))) (.sr (.fa du ?_))))⟩
 refine .ld bw ?_
 refine .vl (Y.qm U U) (.nil (.a8 U (fun M0=>?_) (fun M0=>?_)))
 refine .dQ (⟨[(4,.ptr 104 0 0 0),(6,.v (.int .i64 ((n.aA.getD (p.op % n.aA.length) default).width))),(7,.ptr 107 0 0 0)],[(104,.cells [.v (.int .i64 0),.v (.int .i64 0),.v (.int .i64 0),vn,.v (.int .u64 0),.v (.int .i64 0)]),(107,.cells [.v (.int .i64 (1 + ((p.kind:Int) % 10))),.v (.int .i64 0),.v (.int .i64 (-1)),.aR 271 1 0 ((([aB n.aa 1 p.a,(p.b:Int) % (n.aa.length:Int)]:List Int) ++ ([aB n.aa ((n.aA.getD (p.op % n.aA.length) default).width) p.d]:List Int)).length),.v (.int .u64 0),.v (.int .i64 ((p.op:Int) % (n.aA.length:Int)))]),(271,.rows 1 ((([aB n.aa 1 p.a,(p.b:Int) % (n.aa.length:Int)]:List Int) ++ ([aB n.aa ((n.aA.getD (p.op % n.aA.length) default).width) p.d]:List Int)).map ag))]⟩) U ?_ ?_
 refine .blind 0 U au (aw.fieldAddr cd U U) ae (.fu 2 U au er U U U (aL U) U U ae (.blind 3 U au (aw.move U U) ae ?_))
 refine .blind 4 U au (aw.move U U) ae (.yo ?_)
 refine .two 1 5 U U au ?_ ?_
 refine .ld bu ?_
 refine .nil ⟨U,(.one 5 U au (.bm jc (cv (n:=(⟨n.name,n.aa,n.cells,n.ins,n.aA,n.streams,[],[],n.freeze,n.done,[]⟩:ab)) (w:=((n.aA.getD (p.op % n.aA.length) default).width)) (k:=p.d) (by show (n.aa).length <= 1048576; omega) om) U (.ai U U (.ai U U (.ai U U .nil))) ae U ?_))⟩
 refine .nil ⟨U,(.one 6 U au (.buildSlice (([aB n.aa ((n.aA.getD (p.op % n.aA.length) default).width) p.d]:List Int).map ag) az cP U U U U U (aj (s:=1) (f:=ag) (fun _=>U)) U U U ae ?_))⟩
 refine .nil ⟨U,(.one 7 U au (.cL ag (([aB n.aa 1 p.a,(p.b:Int) % (n.aa.length:Int)]:List Int) ++ ([aB n.aa ((n.aA.getD (p.op % n.aA.length) default).width) p.d]:List Int)) az cP U U U U (aV aH) (aM aH) (bs aH) aH aH ae ae ?_))⟩
 refine .nil ⟨U,(.one 8 U au (.fa cd ?_))⟩
 refine .nil ⟨U,(.one 9 U au (.ao eD U U U U U U (aL U) U ?_))⟩
 exact .nil ⟨U,(.done au (Le.mk (.c2 (.c .nil)) (.c2 (.c .nil))))⟩
 refine .bm jc (cv (n:=(⟨n.name,n.aa,n.cells,n.ins,n.aA,n.streams,[],[],n.freeze,n.done,[]⟩:ab)) (w:=((n.aA.getD (p.op % n.aA.length) default).width)) (k:=p.d) (by show (n.aa).length <= 1048576; omega) om) U (.ai U U (.ai U U (.ai U U .nil))) ae U ?_
 refine .nil ⟨U,(.two 1 6 U U au ?_ ?_)⟩
 refine .ld bu ?_
 refine .nil ⟨U,(.one 6 U au (.buildSlice (([aB n.aa ((n.aA.getD (p.op % n.aA.length) default).width) p.d]:List Int).map ag) az cP U U U U U (aj (s:=1) (f:=ag) (fun _=>U)) U U U ae ?_))⟩
 refine .nil ⟨U,(.one 7 U au (.cL ag (([aB n.aa 1 p.a,(p.b:Int) % (n.aa.length:Int)]:List Int) ++ ([aB n.aa ((n.aA.getD (p.op % n.aA.length) default).width) p.d]:List Int)) az cP U U U U (aV aH) (aM aH) (bs aH) aH aH ae ae ?_))⟩
 refine .nil ⟨U,(.one 8 U au (.fa cd ?_))⟩
 refine .nil ⟨U,(.one 9 U au (.ao eD U U U U U U (aL U) U ?_))⟩
 exact .nil ⟨U,(.done au (Le.mk (.c2 (.c .nil)) (.c2 (.c .nil))))⟩
 refine .buildSlice (([aB n.aa ((n.aA.getD (p.op % n.aA.length) default).width) p.d]:List Int).map ag) az cP U U U U U (aj (s:=1) (f:=ag) (fun _=>U)) U U U ae ?_
 refine .nil ⟨U,(.one 1 U au (.ld bu ?_))⟩
 refine .nil ⟨U,(.one 7 U au (.cL ag (([aB n.aa 1 p.a,(p.b:Int) % (n.aa.length:Int)]:List Int) ++ ([aB n.aa ((n.aA.getD (p.op % n.aA.length) default).width) p.d]:List Int)) az cP U U U U (aV aH) (aM aH) (bs aH) aH aH ae ae ?_))⟩
 refine .nil ⟨U,(.one 8 U au (.fa cd ?_))⟩
 refine .nil ⟨U,(.one 9 U au (.ao eD U U U U U U (aL U) U ?_))⟩
 exact .nil ⟨U,(.done au (Le.mk (.c2 (.c .nil)) (.c2 (.c .nil))))⟩
 refine .le (aW:=⟨[(4,.ptr 104 0 0 0),(6,vi ((n.aA.getD (p.op % n.aA.length) default).width)),(7,.ptr 107 0 0 0)],[(104,.cells [vi 0,vi 0,vi 0,vn,.v (.int .u64 0),vi 0]),(107,.cells [vi (1 + ((p.kind:Int) % 10)),vi 0,vi (-1),.aR 271 1 0 ((([aB n.aa 1 p.a,(p.b:Int) % (n.aa.length:Int)]:List Int) ++ ([aB n.aa ((n.aA.getD (p.op % n.aA.length) default).width) p.d]:List Int)).length),.v (.int .u64 0),vi ((p.op:Int) % (n.aA.length:Int))]),(271,.rows 1 ((([aB n.aa 1 p.a,(p.b:Int) % (n.aa.length:Int)]:List Int) ++ ([aB n.aa ((n.aA.getD (p.op % n.aA.length) default).width) p.d]:List Int)).map ag))]⟩) (Le.mk (.c2 (.c .nil)) (.c2 (.c .nil))) ?_
 refine .sr (.vl (Y.zc fq U U (aL U) U U) (.mv ?_))
 refine .ao fJ U U U U U U (aL U) U ?_
 refine .an (.nil (.ret ?_))
 exact ⟨_,U,_,_,_,Sh.ks (d:=0) 3 271 U U U U sa U ae,U,U,(⟨1 + ((p.kind:Int) % 10),0,-1,([aB n.aa 1 p.a,(p.b:Int) % (n.aa.length:Int)]:List Int) ++ ([aB n.aa ((n.aA.getD (p.op % n.aA.length) default).width) p.d]:List Int),0,(p.op:Int) % (n.aA.length:Int)⟩:Cell),_,xZ hg h0 om om,U,U⟩
 refine .skip (.le (aW:=⟨[(4,.ptr 104 0 0 0),(6,vi ((n.aA.getD (p.op % n.aA.length) default).width)),(7,.ptr 107 0 0 0)],[(104,.cells [vi 0,vi 0,vi 0,vn,.v (.int .u64 0),vi 0]),(107,.cells [vi (1 + ((p.kind:Int) % 10)),vi 0,vi (-1),.aR 271 1 0 (([aB n.aa 1 p.a,(p.b:Int) % (n.aa.length:Int)]:List Int).length),.v (.int .u64 0),vi ((p.op:Int) % (n.aA.length:Int))]),(271,.rows 1 (([aB n.aa 1 p.a,(p.b:Int) % (n.aa.length:Int)]:List Int).map ag))]⟩) (Le.mk (.c2 (.c .nil)) (.c2 (.c .nil))) ?_)
 refine .sr (.vl (Y.zc fq U U (aL U) U U) (.mv ?_))
 refine .ao fJ U U U U U U (aL U) U ?_
 refine .an (.nil (.ret ?_))
 exact ⟨_,U,_,_,_,Sh.ks (d:=0) 3 271 U U U U sa U ae,U,U,(⟨1 + ((p.kind:Int) % 10),0,-1,([aB n.aa 1 p.a,(p.b:Int) % (n.aa.length:Int)]:List Int),0,(p.op:Int) % (n.aA.length:Int)⟩:Cell),_,BP hg h0 om om,U,U⟩
 refine .sr (.vl (Y.qm U U) (.an (.nil ?_)))
 refine .a8 U (fun Wb=>?_) (fun Wb=>?_)
 refine .seq (.sr (.fa mr ?_))
 refine .ld bu ?_
 refine .vl (Y.qy (n:=n.ins.length) az U fk) (.vl (Y.qm U U) (.nil (.a8 U (fun Wc=>?_) (fun Wc=>?_))))
 refine .sr (.vl (Y.qh wA e8 U U U) (.ao fJ U U U U U U (aL U) U ?_))
 refine .an ?_
 exact .nil (.sh (Sh.eW 104 399 1 3 U U U U ae) (.ret (⟨_,U,_,_,_,Sh.ks (d:=0) 3 399 U U U U sa U ae,U,U,(⟨0,0,0,([]:List Int),0,0⟩:Cell),_,tD hg,U,U⟩)))
 refine .skip (.sr (.fa tI ?_))
 refine .ld iN ?_
 refine .fa mr ?_
 refine .ld bu ?_
 refine .vl (Y.qy (n:=n.ins.length) az U fk) (.vl (Y.ql sx Av U (by first | rfl | exact IntWalk.u64_in _ om)) (.vl (Y.zu (a:=p.num) (b:=n.ins.length) U U om) (.fa eh ?_)))
 refine .ao Ip U U U U U U (aL U) U (.nil ?_)
 have Wa:p.num % n.ins.length < n.ins.length:=Nat.mod_lt _ om
 refine .region (.fa mr ?_)
 refine .ld bu ?_
 refine .fa eh ?_
 refine .ld iN ?_
 refine .vl (Y.qt (m:=p.num % n.ins.length) az U U bj (aq (d:=0) om)) (.ld bw ?_)
 refine .an ?_
 refine .nil (.le (aW:=⟨[(4,.ptr 104 0 0 0),(6,vi (n.ins.getD (p.num % n.ins.length) 0)),(7,.ptr 107 0 0 0)],[(104,.cells [vi 0,vi 0,vi 0,vn,.v (.int .u64 0),vi 0]),(107,.cells [vi (1 + ((p.kind:Int) % 10)),vi 0,vi (-1),vn,.v (.int .u64 ((p.num % n.ins.length:Nat):Int)),vi 0])]⟩) (Le.mk (.c2 (.c .nil)) (.c (.c .nil))) ?_)
 refine .sr (.vl (Y.zc fq U U (aL U) U U) (.mv ?_))
 refine .ao fJ U U U U U U (aL U) U ?_
 refine .an ?_
 exact .nil (.sh (Sh.eW 104 399 1 3 U U U U ae) (.ret (⟨_,U,_,_,_,Sh.ks (d:=0) 3 399 U U U U sa U ae,U,U,(⟨1 + ((p.kind:Int) % 10),0,-1,([]:List Int),p.num % n.ins.length,0⟩:Cell),_,EZ hg om om hi,U,U⟩)))
 refine .seq (.sr (.fa eI ?_))
 refine .ld l6 ?_
 refine .vl (Y.qy (n:=n.streams.length) jz U fk) (.vl (Y.qm U U) (.nil (.a8 U (fun Hx=>?_) (fun Hx=>?_))))
 refine .sr (.vl (Y.qh wA e8 U U U) (.ao fJ U U U U U U (aL U) U ?_))
 refine .an ?_
 exact .nil (.sh (Sh.eW 104 399 1 3 U U U U ae) (.ret (⟨_,U,_,_,_,Sh.ks (d:=0) 3 399 U U U U sa U ae,U,U,(⟨0,0,0,([]:List Int),0,0⟩:Cell),_,tD hg,U,U⟩)))
 refine .skip (.sr (.fa p8 ?_))
 refine .ld sS ?_
 refine .vl (Y.ql w9 sx U Ai) (.fa eI ?_)
 refine .ld l6 ?_
 refine .vl (Y.qy (n:=n.streams.length) jz U fk) (.vl (Y.zt U U aH) (.fa dv ?_))
 refine .ao fW U U U U U U (aL U) U (.nil (.seq ?_))
 have Wa:p.op % n.streams.length < n.streams.length:=Nat.mod_lt _ om
 refine .region (.fa eI ?_)
 refine .ld l6 ?_
 refine .fa dv ?_
 refine .ld bw ?_
 refine .vl (Y.qt (m:=p.op % n.streams.length) jz U U bj (aq (d:=default) om)) (.fa r3 ?_)
 refine .ld bw ?_
 refine .an ?_
 refine .nil (.le (aW:=⟨[(2,.fp (ab.rm n) 0),(4,.ptr 104 0 0 0),(6,vi ((n.streams.getD (p.op % n.streams.length) default).width)),(7,.ptr 107 0 0 0)],[(104,.cells [vi 0,vi 0,vi 0,vn,.v (.int .u64 0),vi 0]),(107,.cells [vi (1 + ((p.kind:Int) % 10)),vi 0,vi (-1),vn,.v (.int .u64 0),vi ((p.op:Int) % (n.streams.length:Int))])]⟩) (Le.mk (.c2 (.c (.c .nil))) (.c (.c .nil))) ?_)
 refine .fS (fun (iR:Nat)=>⟨[(4,.ptr 104 0 0 0),(6,vi ((n.streams.getD (p.op % n.streams.length) default).width)),(7,.ptr 107 0 0 0)],[(104,.cells [vi 0,vi 0,vi 0,vn,.v (.int .u64 0),vi 0]),(107,.cells [vi iR,vi 0,vi (-1),vn,.v (.int .u64 0),vi ((p.op:Int) % (n.streams.length:Int))])]⟩) (fun iR=>(((1 + ((p.kind:Int) % 10)) = 10) /\ (((n.streams.getD (p.op % n.streams.length) default).out) = true) /\ (iR = 9)) \/ (((1 + ((p.kind:Int) % 10)) = 10) /\ (((n.streams.getD (p.op % n.streams.length) default).out) = false) /\ (iR = (1 + (p.kind % 10)))) \/ ((¬ ((1 + ((p.kind:Int) % 10)) = 10)) /\ (iR = (1 + (p.kind % 10))))) ?_ (fun iR yI=>?_)
 refine .sr (.fa du ?_)
 refine .ld bw ?_
 refine .vl (Y.qm U U) (.mv ?_)
 refine .aG (d:=54) U (fun Kn=>?_) (fun Kn=>?_)
 refine .gw 54 (Y.qp eI U U) (.gw 54 (Y.zb l6 U U U U) (.gw 54 (Y.qp dv U U) (.gw 54 (Y.zb bw U U U U) (.gw 54 (Y.qt (m:=p.op % n.streams.length) jz U U bj (aq (d:=default) om)) (.gw 54 (Y.qp kf U U) (.gw 54 (Y.zb Dd U U U U) (.pk ?_)))))))
 refine .nil (.cond U (fun Qk=>?_) (fun Qk=>?_))
 refine .region (.fa du ?_)
 exact .ao fW U U U U U U (aL U) U (.nil (⟨9,.inl ⟨Kn,Qk,U⟩,Le.mk (.c2 (.c .nil)) (.c (.cons (ax U ep) .nil))⟩))
 refine .skip (⟨1 + (p.kind % 10),.inr (.inl ⟨Kn,Qk,U⟩),Le.mk (.c2 (.c .nil)) (.c (.cons (ax U ep) .nil))⟩)
 refine .gz 54 (.gz 54 (.gz 54 (.gz 54 (.gz 54 (.gz 54 (.gz 54 (.pk ?_)))))))
 exact .nil (.dA U (.skip (⟨1 + (p.kind % 10),.inr (.inr (⟨Kn,U⟩)),Le.mk (.c2 (.c .nil)) (.c (.cons (ax U ep) .nil))⟩)))
 refine .sr (.fa du ?_)
 refine .ld bw ?_
 refine .vl (Y.qm U U) (.nil (.a8 U (fun QE=>?_) (fun QE=>?_)))
 refine .region (.an ?_)
 refine .nil (.le (aW:=⟨[(4,.ptr 104 0 0 0),(6,vi 1),(7,.ptr 107 0 0 0)],[(104,.cells [vi 0,vi 0,vi 0,vn,.v (.int .u64 0),vi 0]),(107,.cells [vi iR,vi 0,vi (-1),vn,.v (.int .u64 0),vi ((p.op:Int) % (n.streams.length:Int))])]⟩) (Le.mk (.c2 (.c .nil)) (.c (.c .nil))) ?_)
 refine .sr (.vl (Y.zc fq U U (aL U) U U) (.mv ?_))
 refine .ao fJ U U U U U U (aL U) U ?_
 refine .an ?_
 exact .nil (.sh (Sh.eW 104 399 1 3 U U U U ae) (.ret (⟨_,U,_,_,_,Sh.ks (d:=0) 3 399 U U U U sa U ae,U,U,(⟨(iR:Int),0,-1,([]:List Int),0,(p.op:Int) % (n.streams.length:Int)⟩:Cell),_,Ia hg om om,U,U⟩)))
 refine .skip (.le (aW:=⟨[(4,.ptr 104 0 0 0),(6,vi ((n.streams.getD (p.op % n.streams.length) default).width)),(7,.ptr 107 0 0 0)],[(104,.cells [vi 0,vi 0,vi 0,vn,.v (.int .u64 0),vi 0]),(107,.cells [vi iR,vi 0,vi (-1),vn,.v (.int .u64 0),vi ((p.op:Int) % (n.streams.length:Int))])]⟩) (Le.mk (.c2 (.c .nil)) (.c (.c .nil))) ?_)
 refine .sr (.vl (Y.zc fq U U (aL U) U U) (.mv ?_))
 refine .ao fJ U U U U U U (aL U) U ?_
 refine .an ?_
 exact .nil (.sh (Sh.eW 104 399 1 3 U U U U ae) (.ret (⟨_,U,_,_,_,Sh.ks (d:=0) 3 399 U U U U sa U ae,U,U,(⟨(iR:Int),0,-1,([]:List Int),0,(p.op:Int) % (n.streams.length:Int)⟩:Cell),_,Ib hg om om (by grind),U,U⟩)))
end Go.Proofs.Ytlimckldnjmabaa
