/- Walks of comparisons. -/
import Derived.Test.YtlimckldnjmabaaSynx2
import Derived.Test.YtlimckldnjmabaaSynx1
import Derived.Test.YtlimckldnjmabaaSynx0
import Derived.Test.YtlimckldnjmabaaAWx2
set_option linter.unusedSimpArgs false
set_option linter.unusedVariables false
set_option linter.unusedSectionVars false
set_option maxRecDepth 4000
set_option maxHeartbeats 8000000
namespace Go.Proofs.Ytlimckldnjmabaa
open Go Go.AW Go.Proofs
theorem oZ{l:List bm}(hl:l.length <= 8796093022208):aw Try.prog 198 [.fz 2 (l.map bm.row)] [] [] (fun r o=>r = .dK 2 (l.map bm.row) /\ o = []):=by
 refine aw.of Try.func198 U U U (n:=8) ab (aH U) (.sr (.an ?_))
 refine .nil (.seq (.sr (.mv ?_)))
 refine .IU eo U U ab (fun b4 FM=>?_)
 refine .nil (.cond U (fun c4=>?_) (fun c4=>?_))
 refine .sr (.an ?_)
 exact .nil (.sh (Sh.vr (d:=2) 2 U) (.ret ⟨_,_,U,U,(Eg (fun (z0:List bm)=>X.dK 2 (z0.map bm.row)) (by have:=FM bO; simpa using this:([]:List bm) = l):X.dK 2 (([]:List bm).map bm.row) = X.dK 2 (l.map bm.row)),U⟩))
 refine .skip (.sr (.buildSlice (([]:List bm).map bm.row) eo jq U U U U U (aq (s:=2) (f:=bm.row) (fun _=>U)) U U U ab ?_))
 refine .mv ?_
 refine .sh (Sh.dD (d:=5) (n:=([]:List bm).length) 105 (([]:List bm).map bm.row) U iX (aW U) ab) (.tY ((([]:List bm) ++ l).map bm.row) (([]:List bm) ++ l).length eo jq U U U U (bh aJ) (aV aJ) (b8 aJ) aJ aJ ab ab ?_)
 refine .an ?_
 exact .sh (Sh.dL (d:=2) (o:=105) U U (aW om) ab) (.nil (.ret ⟨_,_,U,U,(Eg (fun (z0:List bm)=>X.dK 2 (z0.map bm.row)) (U:(([]:List bm) ++ l) = l):X.dK 2 ((([]:List bm) ++ l).map bm.row) = X.dK 2 (l.map bm.row)),U⟩))
theorem sZ{c:Int}{gl:List Gate}(hg:Good gl)(tJ:gl.length <= 40000000){w:Nat}{t:Int}{a b:List Int}{A B:List Bool -> BitVec w}(ha:Wd c gl a w A t)(hb:Wd c gl b w B t)(hw:1 <= w /\ w <= 64)(ht:0 <= t):aw Try.prog 130 [.ptr 0 0 0 0,.fz 1 (a.map ah),.fz 1 (b.map ah)] [.cells [.aN 1 3 0 gl.length],.rows 3 (gl.map Gate.row)] [0] (fun r o=>∃ (l:List Gate) (x:Int),Ext gl l /\ l.length <= gl.length + 200 /\ Wr c l x (fun ins=>decide (A ins ≠ B ins)) (t + 20 + 20 * (dI w:Int)) /\ r = (vi x) /\ o = [.cells [.aN 1 3 0 l.length],.rows 3 (l.map Gate.row)]):=by
 refine aw.of Try.func130 U U U (n:=31) ab (aH U) ?_
 have so:=ha.len; have Ln:=hb.len
 refine .sr (.an (.nil (.sr ?_)))
 refine .an ?_
 refine .sh (Sh.nil (d:=7) 107 1 U ab) (.nil (.seq (.sr (.mv ?_))))
 refine .vl (Y.qw (n:=a.length) a7 U (congrArg some (List.length_map ..))) (.mv ?_)
 refine .nil (.block (.e8 (fun (eV:Nat) (bc:List Gate) (lu:List Int)=>⟨[(0,.ptr 0 0 0 0),(1,.fz 1 (a.map ah)),(2,.fz 1 (b.map ah)),(7,.aN 107 1 0 lu.length),(10,vi a.length),(11,vi eV)],[(0,.cells [.aN 1 3 0 bc.length]),(1,.rows 3 (bc.map Gate.row)),(107,.rows 1 (lu.map ah))]⟩) (fun eV bc lu=>((eV:Int) <= (a.length:Int)) /\ (yc c gl bc lu (fun k ins=>(A ins).getLsbD k ^^ (B ins).getLsbD k) (t + 20) eV)) (fun eV bc lu=>((a.length:Int) - (eV:Int)).toNat) 0 gl ([]:List Int) (⟨pP,yc.init hg⟩) (Le.mk (.c2 (.c (.cons (aM U aJ) (.c (.cons (ak U aY) .nil))))) (.cons (az U eS) (.c (.c .nil)))) (fun eV bc lu pK=>?_)))
 obtain ⟨CL,hM⟩:=pK
 refine .sr (.vl (Y.zb U U) (.nil (.seq (.aB U (fun yX=>?_) (fun yX=>?_)))))
 refine .skip (.seq (.block (.sr (.mv ?_))))
 refine .an (.nil ?_)
 have M0:=hM.len; have sJ:=hM.ol
 refine .de U (.blind 0 U au (ax.move U U) ab (.br (n:=4) [1,2,3,4,5,6,7,8,9] [10,11,12,13] 10 U au ?_))
 refine .cn 1 U (Y.zf U U) (.cn 2 U (Y.zf U U) (.cn 3 U (Y.zf U U) (.cn 4 U (Y.qr (m:=eV) a7 U U aY (ao (d:=0) om)) (.cn 5 U (Y.qz bg U U U U) (.cn 6 U (Y.zf U U) (.cn 7 U (Y.zf U U) (.cn 8 U (Y.qr (m:=eV) a7 U U aY (ao (d:=0) om)) (.cn 9 U (Y.qz bg U U U U) (.nil (.one 10 U au (.b7 [0,1] [] vU (nj (gl:=bc) (a:=a.getD eV 0) (b:=b.getD eV 0) om) U (.named U U (.ai U U (.ai U U .nil))) ⟨U,U,trivial⟩ U ab (fun _ h=>by cases h) (fun _ h=>by cases h) ab ab ?_)))))))))))
 rintro r aK ⟨rfl,rfl⟩ _
 refine ⟨⟨rfl,(by intro ob aZ; simp only [List.mem_cons,List.not_mem_nil,or_false] at aZ; rcases aZ with rfl | rfl <;> rfl),.inl rfl⟩,(.nil ⟨U,(.one 11 U au (.buildSlice (([(bc.length:Int)]:List Int).map ah) a7 dG U U U U U (aq (s:=1) (f:=ah) (fun _=>U)) U U U ab ?_))⟩)⟩
 refine .nil ⟨U,(.one 12 U au (.cJ ah (lu ++ ([(bc.length:Int)]:List Int)) a7 dG U U U U (bh aJ) (aV aJ) (b8 aJ) aJ aJ ab ab ?_))⟩
 refine .nil ⟨U,(.br (n:=0) [13] [] 0 U au (.cn 13 U (Y.qf U U) (.nil (.done au (.region (.vl (Y.qb U U aJ) (.mv ?_)))))))⟩
 refine .nil (⟨eV + 1,bc ++ [(⟨7,a.getD eV 0,b.getD eV 0⟩:Gate)],lu ++ ([(bc.length:Int)]:List Int),⟨om,hM.two (k:=7) (f:=fun k ins=>(A ins).getLsbD k) (h:=fun k ins=>(B ins).getLsbD k) ab (ha.bit eV om) (hb.bit eV om) (Int.le_refl _) (fun ins=>U)⟩,om,Le.mk (.c2 (.c (.cons (aM U om) (.c (.cons (ak U aY) .nil))))) (.cons (az U eS) (.c (.c .nil)))⟩)
 refine .exit (.seq (.sh (Sh.dL (d:=7) (o:=107) U U (aW om) ab) (.sh (Sh.cN (d:=7) (lu.map ah) U iX (cM.map aI)) ?_)))
 have M0:=hM.len; have sJ:=hM.ol; have T7:=hM.ext.dZ
 refine .region (.mv ?_)
 refine .mv ?_
 refine .b7 [0,1] [] ES (uZ (gl:=bc) T7 aJ (a:=lu) hM.ws aJ aJ) U (.named U U (.ai U U .nil)) ⟨U,U,trivial⟩ U ab (fun _ h=>by cases h) (fun _ h=>by cases h) ab ab ?_
 rintro r aK ⟨Z2,Z3,T8,VJ,PD,rfl,rfl⟩ _
 refine ⟨⟨rfl,(by intro ob aZ; simp only [List.mem_cons,List.not_mem_nil,or_false] at aZ; rcases aZ with rfl | rfl <;> rfl),.inl rfl⟩,(.an (.nil (.ret ?_)))⟩
 exact ⟨_,_,U,U,_,_,hM.ext.trans T8,om,(by rw [show lu.length = w by omega] at PD; exact PD.as fun ins=>K9),U,U⟩
open Go Go.AW Go.Proofs
theorem yz{c:Int}{gl:List Gate}(hg:Good gl)(tJ:gl.length <= 50000000){t:Int}{ps:List bm}{G P:Nat -> List Bool -> Bool}(hp:Wp c gl ps G P t)(hn:ps.length <= 64):aw Try.prog 195 [.ptr 0 0 0 0,.fz 2 (ps.map bm.row)] [.cells [.aN 1 3 0 gl.length],.rows 3 (gl.map Gate.row)] [0] (fun r o=>∃ (l:List Gate) (out:List bm),Ext gl l /\ l.length <= gl.length + 1152 /\ out.length = ps.length /\ (∀ i,i < ps.length -> Wr c l (out.getD i default).g (fun ins=>ca (fun k=>G k ins) (fun k=>P k ins) 0 (i + 1) false) (t + 40 * (dI ps.length:Int))) /\ r = .fz 2 (out.map bm.row) /\ o = [.cells [.aN 1 3 0 l.length],.rows 3 (l.map Gate.row)]):=by
 refine aw.of Try.func195 U U U (n:=78) ab (aH U) (.sr (.an (.nil (.sr ?_))))
 refine .mv ?_
 refine .aR Jm (oZ (l:=ps) (om)) U (.ai U U .nil) ab U ?_
 refine .bX U ab (.sh (Sh.cN (d:=5) (ps.map bm.row) U iX (cM.map bm.bE)) (.nil (.seq (.sr (.an (.nil (.block ?_)))))))
 refine .e8 (fun (bf:List bm) (iD:Nat) (bc:List Gate)=>⟨[(0,.ptr 0 0 0 0),(5,.fz 2 (bf.map bm.row)),(6,vi iD)],[(0,.cells [.aN 1 3 0 bc.length]),(1,.rows 3 (bc.map Gate.row))]⟩) (fun bf iD bc=>(∃ j,rE c gl G P t ps.length bc bf iD j)) (fun bf iD bc=>ps.length - iD) ps 1 gl (⟨0,rE.init hg hp⟩) (Le.mk (.c2 (.cons (ak U aY) .nil)) (.cons (az U eS) (.c .nil))) (fun bf iD bc pK=>?_)
 have hI:=pK
 refine .seq (.sr (.mv ?_))
 refine .mv ?_
 refine .vl (Y.qw (n:=bf.length) eo U (congrArg some (List.length_map ..))) (.vl (Y.zb U U) (.nil (.aB U (fun tD=>?_) (fun tD=>?_))))
 refine .skip (.seq (.block (.seq ?_)))
 obtain ⟨j,hI⟩:=hI; have Z4:=hI.KB; have sJ:=hI.ol; have T9:=hI.len; have oy:=hI.jl; have QR:dI ps.length <= 6:=nJ om; have Yd:3 * ps.length * j <= 1152:=Nat.le_trans (Nat.mul_le_mul_left _ oy) (Nat.mul_le_mul (show 3 * ps.length <= 192 by omega) QR)
 refine .region (.mv ?_)
 refine .aR Jm (oZ (l:=bf) (om)) U (.ai U U .nil) ab U ?_
 refine .bX U ab (.sh (Sh.dD (d:=7) (n:=bf.length) 107 (bf.map bm.row) U iX (aW U) ab) (.nil (.seq (.sr (.mv ?_)))))
 refine .an (.nil (.block ?_))
 refine .e8 (fun (dc:Nat) (gr:List Gate) (eD:List bm)=>⟨[(0,.ptr 0 0 0 0),(5,.fz 2 (bf.map bm.row)),(6,vi iD),(7,.aN 107 2 0 bf.length),(8,vi dc)],[(0,.cells [.aN 1 3 0 gr.length]),(1,.rows 3 (gr.map Gate.row)),(107,.rows 2 (eD.map bm.row))]⟩) (fun dc gr eD=>(eD.length = bf.length) /\ ((dc:Int) <= (bf.length:Int)) /\ (rF c bc G P t ps.length bf iD j gr eD dc)) (fun dc gr eD=>ps.length - dc) iD bc bf (⟨om,om,rF.init hI⟩) (Le.mk (.c4 (.cons (ak U aY) .nil)) (.cons (az U eS) (.c (.c .nil)))) (fun dc gr eD L0=>?_)
 obtain ⟨JB,VH,hJ⟩:=L0
 refine .seq (.sr (.mv ?_))
 refine .mv ?_
 refine .vl (Y.qw (n:=bf.length) eo U (congrArg some (List.length_map ..))) (.vl (Y.zb U U) (.nil (.aB U (fun P9=>?_) (fun P9=>?_))))
 refine .skip (.kY (fun (sA:List Gate) (nk:List bm)=>⟨[(0,.ptr 0 0 0 0),(5,.fz 2 (bf.map bm.row)),(6,vi iD),(7,.aN 107 2 0 bf.length),(8,vi dc)],[(0,.cells [.aN 1 3 0 sA.length]),(1,.rows 3 (sA.map Gate.row)),(107,.rows 2 (nk.map bm.row))]⟩) (fun sA nk=>(nk.length = bf.length) /\ (rF c bc G P t ps.length bf iD j sA nk (dc + 1))) ?_ (fun sA nk TA=>?_))
 refine .block (.seq ?_)
 have z3:=hJ.lo; have Ye:=hJ.len; have Z5:=hJ.nl
 refine .kx 13 U au (.val (Y.zf U U) ab (.val (Y.zf U U) ab (.val (Y.zf U U) ab (.val (Y.qr (m:=dc) eo U U aY (ao (d:=default) om)) ab (.val (Y.qo lp U U) ab (.val (Y.qz bg U U U U) ab (.val (Y.zf U U) ab (.val (Y.zf U U) ab (.val (Y.zf U U) ab (.val (Y.wa U U om) ab (.val (Y.qr (m:=((dc:Int) - (iD:Int)).toNat) eo U U om (ao (d:=default) om)) ab (.val (Y.qo mn U U) ab (.val (Y.qz bg U U U U) ab (.nil (.b7 [0,1] [] tj (gD (gl:=gr) (a:=(bf.getD dc default).p) (b:=(bf.getD (((dc:Int) - (iD:Int)).toNat) default).g) om) U (.named U U (.ai U U (.ai U U .nil))) ⟨U,U,trivial⟩ U ab (fun _ h=>by cases h) (fun _ h=>by cases h) ab ab ?_)))))))))))))))
 rintro r aK ⟨rfl,rfl⟩ _
 refine ⟨⟨rfl,(by intro ob aZ; simp only [List.mem_cons,List.not_mem_nil,or_false] at aZ; rcases aZ with rfl | rfl <;> rfl),.inl rfl⟩,(.an (.nil (.sr ?_)))⟩
 refine .mv ?_
 refine .mv ?_
 refine .mv ?_
 refine .mv ?_
 refine .mv ?_
 refine .vl (Y.qr (m:=dc) eo U U aY (ao (d:=default) om)) (.fa mn ?_)
 refine .ld bg ?_
 refine .mv ?_
 refine .b7 [0,1] [] xU (rN (gl:=gr ++ [(⟨5,(bf.getD dc default).p,(bf.getD (((dc:Int) - (iD:Int)).toNat) default).g⟩:Gate)]) (a:=(bf.getD dc default).g) (b:=(gr.length:Int)) aJ) U (.named U U (.ai U U (.ai U U .nil))) ⟨U,U,trivial⟩ U ab (fun _ h=>by cases h) (fun _ h=>by cases h) ab ab ?_
 rintro r aK ⟨rfl,rfl⟩ _
 refine ⟨⟨rfl,(by intro ob aZ; simp only [List.mem_cons,List.not_mem_nil,or_false] at aZ; rcases aZ with rfl | rfl <;> rfl),.inl rfl⟩,(.vl (Y.qs (m:=dc) eo U U aY om) (.fa mn ?_))⟩
 refine .iB ((eD.set dc (⟨(((gr ++ [(⟨5,(bf.getD dc default).p,(bf.getD (((dc:Int) - (iD:Int)).toNat) default).g⟩:Gate)]).length:Nat):Int),(eD.getD dc default).p⟩:bm)).map bm.row) dT U U U U U U U (aO (d:=default) om) (aH U) (eO U) ?_
 refine .nil (.sr (.mv ?_))
 refine .mv ?_
 refine .vl (Y.wa U U aJ) (.mv ?_)
 refine .vl (Y.qp U U) (.nil (.aB U (fun DD=>?_) (fun DD=>?_)))
 refine .de U (.blind 0 U au (ax.move U U) ab (.blind 1 U au (ax.move U U) ab ?_))
 refine .br (n:=4) [2,3,4,5,6,7,8,9,10,11,12,13,14] [15,16,17,18] 15 U au (.cn 2 U (Y.zf U U) (.cn 3 U (Y.zf U U) (.cn 4 U (Y.zf U U) (.cn 5 U (Y.qr (m:=dc) eo U U aY (ao (d:=default) om)) (.cn 6 U (Y.qo lp U U) (.cn 7 U (Y.qz bg U U U U) (.cn 8 U (Y.zf U U) (.cn 9 U (Y.zf U U) (.cn 10 U (Y.zf U U) (.cn 11 U (Y.wa U U om) (.cn 12 U (Y.qr (m:=((dc:Int) - (iD:Int)).toNat) eo U U om (ao (d:=default) om)) (.cn 13 U (Y.qo lp U U) (.cn 14 U (Y.qz bg U U U U) (.nil (.one 15 U au ?_)))))))))))))))
 refine .b7 [0,1] [] tj (gD (gl:=(gr ++ [(⟨5,(bf.getD dc default).p,(bf.getD (((dc:Int) - (iD:Int)).toNat) default).g⟩:Gate)]) ++ [(⟨6,(bf.getD dc default).g,(gr.length:Int)⟩:Gate)]) (a:=(bf.getD dc default).p) (b:=(bf.getD (((dc:Int) - (iD:Int)).toNat) default).p) aJ) U (.named U U (.ai U U (.ai U U .nil))) ⟨U,U,trivial⟩ U ab (fun _ h=>by cases h) (fun _ h=>by cases h) ab ab ?_
 rintro r aK ⟨rfl,rfl⟩ _
 refine ⟨⟨rfl,(by intro ob aZ; simp only [List.mem_cons,List.not_mem_nil,or_false] at aZ; rcases aZ with rfl | rfl <;> rfl),.inl rfl⟩,(.nil ⟨U,(.br (n:=1) [16,17] [18] 18 U au (.cn 16 U (Y.qs (m:=dc) eo U U aY om) (.cn 17 U (Y.qo lp U U) (.nil (.one 18 U au ?_)))))⟩)⟩
 refine .iB (((eD.set dc (⟨(((gr ++ [(⟨5,(bf.getD dc default).p,(bf.getD (((dc:Int) - (iD:Int)).toNat) default).g⟩:Gate)]).length:Nat):Int),(eD.getD dc default).p⟩:bm)).set dc (⟨((eD.set dc (⟨(((gr ++ [(⟨5,(bf.getD dc default).p,(bf.getD (((dc:Int) - (iD:Int)).toNat) default).g⟩:Gate)]).length:Nat):Int),(eD.getD dc default).p⟩:bm)).getD dc default).g,((((gr ++ [(⟨5,(bf.getD dc default).p,(bf.getD (((dc:Int) - (iD:Int)).toNat) default).g⟩:Gate)]) ++ [(⟨6,(bf.getD dc default).g,(gr.length:Int)⟩:Gate)]).length:Nat):Int)⟩:bm)).map bm.row) dT U U U U U U U (aO (d:=default) aJ) (aH U) (eO U) ?_
 refine .nil ⟨U,?_⟩
 refine .done au (⟨((gr ++ [(⟨5,(bf.getD dc default).p,(bf.getD (((dc:Int) - (iD:Int)).toNat) default).g⟩:Gate)]) ++ [(⟨6,(bf.getD dc default).g,(gr.length:Int)⟩:Gate)]) ++ [(⟨5,(bf.getD dc default).p,(bf.getD (((dc:Int) - (iD:Int)).toNat) default).p⟩:Gate)],(eD.set dc (⟨(((gr ++ [(⟨5,(bf.getD dc default).p,(bf.getD (((dc:Int) - (iD:Int)).toNat) default).g⟩:Gate)]).length:Nat):Int),(eD.getD dc default).p⟩:bm)).set dc (⟨((eD.set dc (⟨(((gr ++ [(⟨5,(bf.getD dc default).p,(bf.getD (((dc:Int) - (iD:Int)).toNat) default).g⟩:Gate)]).length:Nat):Int),(eD.getD dc default).p⟩:bm)).getD dc default).g,((((gr ++ [(⟨5,(bf.getD dc default).p,(bf.getD (((dc:Int) - (iD:Int)).toNat) default).g⟩:Gate)]) ++ [(⟨6,(bf.getD dc default).g,(gr.length:Int)⟩:Gate)]).length:Nat):Int)⟩:bm),⟨pP,by rw [List.set_set,show ((dc:Int) - (iD:Int)).toNat = dc - iD by omega]; (try rw [kI om]); exact rF.X9 hI hJ om om U⟩,Le.mk (.c4 (.c .nil)) (.cons (az U eS) (.c (.c .nil)))⟩)
 refine .skip (⟨(gr ++ [(⟨5,(bf.getD dc default).p,(bf.getD (((dc:Int) - (iD:Int)).toNat) default).g⟩:Gate)]) ++ [(⟨6,(bf.getD dc default).g,(gr.length:Int)⟩:Gate)],eD.set dc (⟨(((gr ++ [(⟨5,(bf.getD dc default).p,(bf.getD (((dc:Int) - (iD:Int)).toNat) default).g⟩:Gate)]).length:Nat):Int),(eD.getD dc default).p⟩:bm),⟨pP,by rw [show ((dc:Int) - (iD:Int)).toNat = dc - iD by omega]; exact rF.S7 hI hJ om om⟩,Le.mk (.c4 (.c .nil)) (.cons (az U eS) (.c (.c .nil)))⟩)
 obtain ⟨PE,Iz⟩:=TA
 refine .region (.mv ?_)
 refine .vl (Y.qb U U aJ) (.an ?_)
 refine .nil (⟨dc + 1,sA,nk,⟨om,om,Iz⟩,om,Le.mk (.c4 (.cons (ak U aY) .nil)) (.cons (az U eS) (.c (.c .nil)))⟩)
 refine .exit (.sh (Sh.dL (d:=7) (o:=107) U U (aW om) ab) (.sh (Sh.cN (d:=7) (eD.map bm.row) U iX (cM.map bm.bE)) (.region (.mv ?_))))
 refine .an (.nil (.region ?_))
 refine .mv ?_
 refine .vl (Y.zh U U om) (.an ?_)
 refine .nil (⟨eD,iD * 2,gr,⟨j + 1,hI.pass om hJ om⟩,om,Le.mk (.c2 (.cons (ak U aY) .nil)) (.cons (az U eS) (.c .nil))⟩)
 refine .exit (.sr (.mv ?_))
 refine .an (.nil (.ret ?_))
 obtain ⟨j,hI⟩:=hI; have sJ:=hI.ol; have T9:=hI.len; have oy:=hI.jl; have QR:dI ps.length <= 6:=nJ om; have Yd:3 * ps.length * j <= 1152:=Nat.le_trans (Nat.mul_le_mul_left _ oy) (Nat.mul_le_mul (show 3 * ps.length <= 192 by omega) QR); exact ⟨_,_,rfl,rfl,_,_,hI.ext,om,sJ,fun i hi=>hI.done om hi,rfl,rfl⟩
open Go Go.AW Go.Proofs
theorem y0{c:Int}{gl:List Gate}(hg:Good gl)(tJ:gl.length <= 40000000){t:Int}{x:Int}{ps:List bm}{G P:Nat -> List Bool -> Bool}{F0:List Bool -> Bool}(hp:Wp c gl ps G P t)(hx:Wr c gl x F0 t)(hn:1 <= ps.length /\ ps.length <= 64):aw Try.prog 176 [.ptr 0 0 0 0,.fz 2 (ps.map bm.row),vi x] [.cells [.aN 1 3 0 gl.length],.rows 3 (gl.map Gate.row)] [0] (fun r o=>∃ (l:List Gate) (out:List Int),Ext gl l /\ l.length <= gl.length + 1216 /\ out.length = ps.length /\ Ws c l out (Aj F0 G P) (t + 20 + 40 * (dI ps.length:Int)) /\ r = .dK 1 (out.map ah) /\ o = [.cells [.aN 1 3 0 l.length],.rows 3 (l.map Gate.row)]):=by
 refine aw.of Try.func176 U U U (n:=42) ab (aH U) (.sr (.an (.nil (.sr ?_))))
 refine .mv ?_
 refine .mv ?_
 refine .mv ?_
 refine .vl (Y.qw (n:=ps.length) eo U (congrArg some (List.length_map ..))) (.vl (Y.zz U U (K3 (a:=ps.length) (b:=1) (by first | omega | (simp; omega)))) (.vl (Y.zw (l:=0) (h:=ps.length - 1) eo U (.none _) (.some U) aJ aJ (by rw [List.drop_zero,<- List.map_take])) (.b7 [0,1] [] O9 (yz (gl:=gl) (ps:=ps.take (ps.length - 1)) hg om hp.take (by rw [List.length_take]; omega)) U (.named U U (.ai U U .nil)) ⟨U,U,trivial⟩ U ab (fun _ h=>by cases h) (fun _ h=>by cases h) ab ab ?_)))
 rintro r aK ⟨VK,Gb,I3,VL,VM,TB,rfl,rfl⟩ _
 refine ⟨⟨rfl,(by intro ob aZ; simp only [List.mem_cons,List.not_mem_nil,or_false] at aZ; rcases aZ with rfl | rfl <;> rfl),.inl rfl⟩,(.an (.nil (.seq ?_)))⟩
 have Z6:(ps.take (ps.length - 1)).length = ps.length - 1:=by rw [List.length_take]; omega
 refine .region (.mv ?_)
 refine .buildSlice (([x]:List Int).map ah) a7 dG U U U U U (aq (s:=1) (f:=ah) (fun _=>U)) U U U ab ?_
 refine .bX U ab (.sh (Sh.dD (d:=8) (n:=([x]:List Int).length) 108 (([x]:List Int).map ah) U iX (aW U) ab) (.nil (.seq (.sr (.an (.nil (.block ?_)))))))
 refine .e8 (fun (np:Nat) (eE:List Gate) (pa:List Int)=>⟨[(0,.ptr 0 0 0 0),(1,.fz 2 (ps.map bm.row)),(7,.fz 2 (Gb.map bm.row)),(8,.aN 108 1 0 pa.length),(9,vi np)],[(0,.cells [.aN 1 3 0 eE.length]),(1,.rows 3 (eE.map Gate.row)),(108,.rows 1 (pa.map ah))]⟩) (fun np eE pa=>((np:Int) <= (ps.length:Int)) /\ (Ak c VK eE F0 G P (t + 20 + 40 * (dI ps.length:Int)) pa np)) (fun np eE pa=>ps.length - np) 1 VK ([x]:List Int) (⟨om,Ak.init I3.dZ ((hx.ext I3).late om)⟩) (Le.mk (.c2 (.c (.cons (aM U om) (.cons (ak U aY) .nil)))) (.cons (az U eS) (.c (.c .nil)))) (fun np eE pa Au=>?_)
 obtain ⟨FM,hS⟩:=Au
 refine .seq (.sr (.mv ?_))
 refine .mv ?_
 refine .vl (Y.qw (n:=ps.length) eo U (congrArg some (List.length_map ..))) (.vl (Y.zb U U) (.nil (.aB U (fun pU=>?_) (fun pU=>?_))))
 refine .skip (.seq (.block ?_))
 have Yf:=hS.lo; have TC:=hS.len; have Z7:=hS.ol; have QS:=(hp.bit np om).2.ext I3; have VN:=TB (np - 1) om; rw [show np - 1 + 1 = np by omega] at VN; have Rj:=oM (show (ps.take (ps.length - 1)).length <= ps.length by omega)
 refine .de U (.blind 0 U au (ax.move U U) ab (.br (n:=4) [1,2,3,4,5,6,7,8,9,10,11,12] [13,14,15,16] 13 U au ?_))
 refine .cn 1 U (Y.zf U U) (.cn 2 U (Y.zf U U) (.cn 3 U (Y.zf U U) (.cn 4 U (Y.qr (m:=np) eo U U aY (ao (d:=default) om)) (.cn 5 U (Y.qo lp U U) (.cn 6 U (Y.qz bg U U U U) (.cn 7 U (Y.zf U U) (.cn 8 U (Y.zf U U) (.cn 9 U (Y.wa U U om) (.cn 10 U (Y.qr (m:=((np:Int) - 1).toNat) eo U U aJ (ao (d:=default) aJ)) (.cn 11 U (Y.qo mn U U) (.cn 12 U (Y.qz bg U U U U) (.nil (.one 13 U au (.b7 [0,1] [] vU (nj (gl:=eE) (a:=(ps.getD np default).p) (b:=(Gb.getD (((np:Int) - 1).toNat) default).g) om) U (.named U U (.ai U U (.ai U U .nil))) ⟨U,U,trivial⟩ U ab (fun _ h=>by cases h) (fun _ h=>by cases h) ab ab ?_))))))))))))))
 rintro r aK ⟨rfl,rfl⟩ _
 refine ⟨⟨rfl,(by intro ob aZ; simp only [List.mem_cons,List.not_mem_nil,or_false] at aZ; rcases aZ with rfl | rfl <;> rfl),.inl rfl⟩,(.nil ⟨U,(.one 14 U au (.buildSlice (([(eE.length:Int)]:List Int).map ah) a7 dG U U U U U (aq (s:=1) (f:=ah) (fun _=>U)) U U U ab ?_))⟩)⟩
 refine .nil ⟨U,(.one 15 U au (.cJ ah (pa ++ ([(eE.length:Int)]:List Int)) a7 dG U U U U (bh aJ) (aV aJ) (b8 aJ) aJ aJ ab ab ?_))⟩
 refine .nil ⟨U,(.br (n:=0) [16] [] 0 U au (.cn 16 U (Y.qf U U) (.nil (.done au (.region (.mv ?_))))))⟩
 refine .vl (Y.qb U U aJ) (.an ?_)
 refine .nil (⟨np + 1,eE ++ [(⟨7,(ps.getD np default).p,(Gb.getD (((np:Int) - 1).toNat) default).g⟩:Gate)],pa ++ ([(eE.length:Int)]:List Int),⟨om,by rw [show ((np:Int) - 1).toNat = np - 1 by omega]; exact hS.step (t:=t + 40 * (dI ps.length:Int)) (QS.late om) (VN.late om) om⟩,om,Le.mk (.c2 (.c (.cons (aM U om) (.cons (ak U aY) .nil)))) (.cons (az U eS) (.c (.c .nil)))⟩)
 refine .exit (.sr (.mv ?_))
 refine .an ?_
 exact .sh (Sh.dL (d:=6) (o:=108) U U (aW om) ab) (.nil (.ret ⟨_,_,U,U,_,_,I3.trans hS.ext,by have:=hS.len; omega,by have:=hS.ol; omega,hS.ws,U,U⟩))
open Go Go.AW Go.Proofs
theorem Gc{c:Int}{gl:List Gate}(hg:Good gl)(tJ:gl.length <= 30000000){w:Nat}{t:Int}{a b:List Int}{A B:List Bool -> BitVec w}(ha:Wd c gl a w A t)(hb:Wd c gl b w B t)(hw:1 <= w /\ w <= 64)(ht:0 <= t):aw Try.prog 126 [.ptr 0 0 0 0,.fz 1 (a.map ah),.fz 1 (b.map ah)] [.cells [.aN 1 3 0 gl.length],.rows 3 (gl.map Gate.row)] [0] (fun r o=>∃ (l:List Gate) (out:List Int),Ext gl l /\ l.length <= gl.length + 1500 /\ Wd c l out w (fun ins=>A ins + B ins) (t + 40 + 40 * (dI w:Int)) /\ r = .dK 1 (out.map ah) /\ o = [.cells [.aN 1 3 0 l.length],.rows 3 (l.map Gate.row)]):=by
 refine aw.of Try.func126 U U U (n:=48) ab (aH U) ?_
 have so:=ha.len; have Ln:=hb.len
 refine .sr (.an (.nil (.sr ?_)))
 refine .an ?_
 refine .sh (Sh.nil (d:=7) 107 2 U ab) (.nil (.seq (.sr (.mv ?_))))
 refine .vl (Y.qw (n:=a.length) a7 U (congrArg some (List.length_map ..))) (.mv ?_)
 refine .nil (.block (.e8 (fun (fj:Nat) (bc:List Gate) (lu:List bm)=>⟨[(0,.ptr 0 0 0 0),(1,.fz 1 (a.map ah)),(2,.fz 1 (b.map ah)),(7,.aN 107 2 0 lu.length),(11,vi a.length),(12,vi fj)],[(0,.cells [.aN 1 3 0 bc.length]),(1,.rows 3 (bc.map Gate.row)),(107,.rows 2 (lu.map bm.row))]⟩) (fun fj bc lu=>((fj:Int) <= (a.length:Int)) /\ (wN c gl bc (fun k ins=>(A ins).getLsbD k) (fun k ins=>(B ins).getLsbD k) (t + 20) lu fj)) (fun fj bc lu=>((a.length:Int) - (fj:Int)).toNat) 0 gl ([]:List bm) (⟨pP,wN.init hg⟩) (Le.mk (.c2 (.c (.cons (aM U aJ) (.c (.cons (ak U aY) .nil))))) (.cons (az U eS) (.c (.c .nil)))) (fun fj bc lu pK=>?_)))
 obtain ⟨CL,hT⟩:=pK
 refine .sr (.vl (Y.zb U U) (.nil (.seq (.aB U (fun yV=>?_) (fun yV=>?_)))))
 refine .skip (.seq (.block (.sr (.mv ?_))))
 refine .an (.nil (.seq ?_))
 have PF:=hT.len; have PG:=hT.pl
 refine .kx 9 U au (.val (Y.zf U U) ab (.val (Y.zf U U) ab (.val (Y.zf U U) ab (.val (Y.qr (m:=fj) a7 U U aY (ao (d:=0) om)) ab (.val (Y.qz bg U U U U) ab (.val (Y.zf U U) ab (.val (Y.zf U U) ab (.val (Y.qr (m:=fj) a7 U U aY (ao (d:=0) om)) ab (.val (Y.qz bg U U U U) ab (.nil (.b7 [0,1] [] tj (gD (gl:=bc) (a:=a.getD fj 0) (b:=b.getD fj 0) om) U (.named U U (.ai U U (.ai U U .nil))) ⟨U,U,trivial⟩ U ab (fun _ h=>by cases h) (fun _ h=>by cases h) ab ab ?_)))))))))))
 rintro r aK ⟨rfl,rfl⟩ _
 refine ⟨⟨rfl,(by intro ob aZ; simp only [List.mem_cons,List.not_mem_nil,or_false] at aZ; rcases aZ with rfl | rfl <;> rfl),.inl rfl⟩,(.an (.nil ?_))⟩
 have PF:=hT.len; have PG:=hT.pl
 refine .de U (.blind 0 U au (ax.move U U) ab (.blind 1 U au (ax.move U U) ab ?_))
 refine .br (n:=5) [2,3,4,5,6,7,8,9,10] [11,12,13,14,15] 11 U au (.cn 2 U (Y.zf U U) (.cn 3 U (Y.zf U U) (.cn 4 U (Y.zf U U) (.cn 5 U (Y.qr (m:=fj) a7 U U aY (ao (d:=0) om)) (.cn 6 U (Y.qz bg U U U U) (.cn 7 U (Y.zf U U) (.cn 8 U (Y.zf U U) (.cn 9 U (Y.qr (m:=fj) a7 U U aY (ao (d:=0) om)) (.cn 10 U (Y.qz bg U U U U) (.nil (.one 11 U au (.b7 [0,1] [] vU (nj (gl:=bc ++ [(⟨5,a.getD fj 0,b.getD fj 0⟩:Gate)]) (a:=a.getD fj 0) (b:=b.getD fj 0) aJ) U (.named U U (.ai U U (.ai U U .nil))) ⟨U,U,trivial⟩ U ab (fun _ h=>by cases h) (fun _ h=>by cases h) ab ab ?_))))))))))))
 rintro r aK ⟨rfl,rfl⟩ _
 refine ⟨⟨rfl,(by intro ob aZ; simp only [List.mem_cons,List.not_mem_nil,or_false] at aZ; rcases aZ with rfl | rfl <;> rfl),.inl rfl⟩,(.nil ⟨U,(.br (n:=3) [12] [13,14,15] 13 U au (.cn 12 U (Y.qh BE jq U U U) (.nil (.one 13 U au (.buildSlice (([(⟨(bc.length:Int),(((bc ++ [(⟨5,a.getD fj 0,b.getD fj 0⟩:Gate)]).length:Nat):Int)⟩:bm)]:List bm).map bm.row) eo jq U U U U U (aq (s:=2) (f:=bm.row) (fun _=>U)) U U U ab ?_)))))⟩)⟩
 refine .nil ⟨U,(.one 14 U au (.cJ bm.row (lu ++ ([(⟨(bc.length:Int),(((bc ++ [(⟨5,a.getD fj 0,b.getD fj 0⟩:Gate)]).length:Nat):Int)⟩:bm)]:List bm)) eo jq U U U U (bh aJ) (aV aJ) (b8 aJ) aJ aJ ab ab ?_))⟩
 refine .nil ⟨U,(.br (n:=0) [15] [] 0 U au (.cn 15 U (Y.qf U U) (.nil (.done au (.region (.vl (Y.qb U U aJ) (.mv ?_)))))))⟩
 refine .nil (⟨fj + 1,(bc ++ [(⟨5,a.getD fj 0,b.getD fj 0⟩:Gate)]) ++ [(⟨7,a.getD fj 0,b.getD fj 0⟩:Gate)],lu ++ ([(⟨(bc.length:Int),(((bc ++ [(⟨5,a.getD fj 0,b.getD fj 0⟩:Gate)]).length:Nat):Int)⟩:bm)]:List bm),⟨om,hT.step (ha.bit fj om) (hb.bit fj om) (Int.le_refl _) (Int.le_refl _)⟩,om,Le.mk (.c2 (.c (.cons (aM U om) (.c (.cons (ak U aY) .nil))))) (.cons (az U eS) (.c (.c .nil)))⟩)
 refine .exit (.seq (.sh (Sh.dL (d:=7) (o:=107) U U (aW om) ab) (.sh (Sh.cN (d:=7) (lu.map bm.row) U iX (cM.map bm.bE)) ?_)))
 have PF:=hT.len; have PG:=hT.pl; have Yg:=hT.wp.bit 0 om
 refine .region (.mv ?_)
 refine .mv ?_
 refine .mv ?_
 refine .vl (Y.qr (m:=0) eo U U aY (ao (d:=default) om)) (.fa lp ?_)
 refine .ld bg ?_
 refine .b7 [0,1] [] Jl (y0 (gl:=bc) (ps:=lu) (x:=(lu.getD 0 default).p) hT.ext.dZ om hT.wp (F0:=fun ins=>(A ins).getLsbD 0 ^^ (B ins).getLsbD 0) Yg.2 ⟨om,om⟩) U (.named U U (.ai U U (.ai U U .nil))) ⟨U,U,trivial⟩ U ab (fun _ h=>by cases h) (fun _ h=>by cases h) ab ab ?_
 rintro r aK ⟨Yh,PH,L3,PI,PJ,L4,rfl,rfl⟩ _
 exact ⟨⟨rfl,(by intro ob aZ; simp only [List.mem_cons,List.not_mem_nil,or_false] at aZ; rcases aZ with rfl | rfl <;> rfl),.inl rfl⟩,(.bX U ab (.nil (.ret ⟨_,_,U,U,_,_,hT.ext.trans L3,om,(sum_add om L4).late (by have:=hT.pl; rw [show lu.length = w by omega]; omega),U,U⟩)))⟩
theorem Gd{c:Int}{gl:List Gate}(hg:Good gl)(tJ:gl.length <= 30000000){w:Nat}{t:Int}{a b:List Int}{A B:List Bool -> BitVec w}(ha:Wd c gl a w A t)(hb:Wd c gl b w B t)(hw:1 <= w /\ w <= 64)(ht:0 <= t):aw Try.prog 127 [.ptr 0 0 0 0,.fz 1 (a.map ah),.fz 1 (b.map ah)] [.cells [.aN 1 3 0 gl.length],.rows 3 (gl.map Gate.row)] [0] (fun r o=>∃ (l:List Gate) (out:List Int),Ext gl l /\ l.length <= gl.length + 1500 /\ Wd c l out w (fun ins=>A ins - B ins) (t + 50 + 40 * (dI w:Int)) /\ r = .dK 1 (out.map ah) /\ o = [.cells [.aN 1 3 0 l.length],.rows 3 (l.map Gate.row)]):=by
 refine aw.of Try.func127 U U U (n:=69) ab (aH U) ?_
 have so:=ha.len; have Ln:=hb.len
 refine .sr (.an (.nil (.sr ?_)))
 refine .mv ?_
 refine .mv ?_
 refine .b7 [0,1] [] O8 (Dd (gl:=gl) (a:=b) hg om hb.ws om) U (.named U U (.ai U U .nil)) ⟨U,U,trivial⟩ U ab (fun _ h=>by cases h) (fun _ h=>by cases h) ab ab ?_
 rintro r aK ⟨VO,oa,Ge,VQ,VR,PK,rfl,rfl⟩ _
 refine ⟨⟨rfl,(by intro ob aZ; simp only [List.mem_cons,List.not_mem_nil,or_false] at aZ; rcases aZ with rfl | rfl <;> rfl),.inl rfl⟩,(.bX U ab (.sh (Sh.cN (d:=7) (oa.map ah) U iX (cM.map aI)) (.nil (.sr (.an ?_)))))⟩
 refine .sh (Sh.nil (d:=8) 108 2 U ab) (.nil (.seq (.sr (.mv ?_))))
 refine .vl (Y.qw (n:=a.length) a7 U (congrArg some (List.length_map ..))) (.mv ?_)
 refine .nil (.block ?_)
 refine .e8 (fun (fk:Nat) (eE:List Gate) (qM:List bm)=>⟨[(0,.ptr 0 0 0 0),(1,.fz 1 (a.map ah)),(2,.fz 1 (b.map ah)),(7,.fz 1 (oa.map ah)),(8,.aN 108 2 0 qM.length),(16,vi a.length),(17,vi fk)],[(0,.cells [.aN 1 3 0 eE.length]),(1,.rows 3 (eE.map Gate.row)),(108,.rows 2 (qM.map bm.row))]⟩) (fun fk eE qM=>((fk:Int) <= (a.length:Int)) /\ (wN c VO eE (fun k ins=>(A ins).getLsbD k) (fun k ins=>!(B ins).getLsbD k) (t + 30) qM fk)) (fun fk eE qM=>((a.length:Int) - (fk:Int)).toNat) 0 VO ([]:List bm) (⟨pP,wN.init Ge.dZ⟩) (Le.mk (.c4 (.cons (aM U aJ) (.c (.cons (ak U aY) .nil)))) (.cons (az U eS) (.c (.c .nil)))) (fun fk eE qM Au=>?_)
 obtain ⟨FM,hT⟩:=Au
 refine .sr (.vl (Y.zb U U) (.nil (.seq (.aB U (fun T0=>?_) (fun T0=>?_)))))
 refine .skip (.seq (.block (.sr (.mv ?_))))
 refine .an (.nil (.seq ?_))
 have PF:=hT.len; have PG:=hT.pl
 refine .kx 9 U au (.val (Y.zf U U) ab (.val (Y.zf U U) ab (.val (Y.zf U U) ab (.val (Y.qr (m:=fk) a7 U U aY (ao (d:=0) om)) ab (.val (Y.qz bg U U U U) ab (.val (Y.zf U U) ab (.val (Y.zf U U) ab (.val (Y.qr (m:=fk) a7 U U aY (ao (d:=0) om)) ab (.val (Y.qz bg U U U U) ab (.nil (.b7 [0,1] [] tj (gD (gl:=eE) (a:=a.getD fk 0) (b:=oa.getD fk 0) om) U (.named U U (.ai U U (.ai U U .nil))) ⟨U,U,trivial⟩ U ab (fun _ h=>by cases h) (fun _ h=>by cases h) ab ab ?_)))))))))))
 rintro r aK ⟨rfl,rfl⟩ _
 refine ⟨⟨rfl,(by intro ob aZ; simp only [List.mem_cons,List.not_mem_nil,or_false] at aZ; rcases aZ with rfl | rfl <;> rfl),.inl rfl⟩,(.an (.nil ?_))⟩
 have PF:=hT.len; have PG:=hT.pl
 refine .de U (.blind 0 U au (ax.move U U) ab (.blind 1 U au (ax.move U U) ab ?_))
 refine .br (n:=5) [2,3,4,5,6,7,8,9,10] [11,12,13,14,15] 11 U au (.cn 2 U (Y.zf U U) (.cn 3 U (Y.zf U U) (.cn 4 U (Y.zf U U) (.cn 5 U (Y.qr (m:=fk) a7 U U aY (ao (d:=0) om)) (.cn 6 U (Y.qz bg U U U U) (.cn 7 U (Y.zf U U) (.cn 8 U (Y.zf U U) (.cn 9 U (Y.qr (m:=fk) a7 U U aY (ao (d:=0) om)) (.cn 10 U (Y.qz bg U U U U) (.nil (.one 11 U au (.b7 [0,1] [] vU (nj (gl:=eE ++ [(⟨5,a.getD fk 0,oa.getD fk 0⟩:Gate)]) (a:=a.getD fk 0) (b:=oa.getD fk 0) aJ) U (.named U U (.ai U U (.ai U U .nil))) ⟨U,U,trivial⟩ U ab (fun _ h=>by cases h) (fun _ h=>by cases h) ab ab ?_))))))))))))
 rintro r aK ⟨rfl,rfl⟩ _
 refine ⟨⟨rfl,(by intro ob aZ; simp only [List.mem_cons,List.not_mem_nil,or_false] at aZ; rcases aZ with rfl | rfl <;> rfl),.inl rfl⟩,(.nil ⟨U,(.br (n:=3) [12] [13,14,15] 13 U au (.cn 12 U (Y.qh BE jq U U U) (.nil (.one 13 U au (.buildSlice (([(⟨(eE.length:Int),(((eE ++ [(⟨5,a.getD fk 0,oa.getD fk 0⟩:Gate)]).length:Nat):Int)⟩:bm)]:List bm).map bm.row) eo jq U U U U U (aq (s:=2) (f:=bm.row) (fun _=>U)) U U U ab ?_)))))⟩)⟩
 refine .nil ⟨U,(.one 14 U au (.cJ bm.row (qM ++ ([(⟨(eE.length:Int),(((eE ++ [(⟨5,a.getD fk 0,oa.getD fk 0⟩:Gate)]).length:Nat):Int)⟩:bm)]:List bm)) eo jq U U U U (bh aJ) (aV aJ) (b8 aJ) aJ aJ ab ab ?_))⟩
 refine .nil ⟨U,(.br (n:=0) [15] [] 0 U au (.cn 15 U (Y.qf U U) (.nil (.done au (.region (.vl (Y.qb U U aJ) (.mv ?_)))))))⟩
 refine .nil (⟨fk + 1,(eE ++ [(⟨5,a.getD fk 0,oa.getD fk 0⟩:Gate)]) ++ [(⟨7,a.getD fk 0,oa.getD fk 0⟩:Gate)],qM ++ ([(⟨(eE.length:Int),(((eE ++ [(⟨5,a.getD fk 0,oa.getD fk 0⟩:Gate)]).length:Nat):Int)⟩:bm)]:List bm),⟨om,hT.step ((ha.bit fk om).ext Ge) (PK.bit fk om) om om⟩,om,Le.mk (.c4 (.cons (aM U om) (.c (.cons (ak U aY) .nil)))) (.cons (az U eS) (.c (.c .nil)))⟩)
 refine .exit (.seq ?_)
 have PF:=hT.len; have PG:=hT.pl; have a0:=(ha.bit 0 om).ext (Ge.trans hT.ext); have b0:=(hb.bit 0 om).ext (Ge.trans hT.ext); have n0:=(PK.bit 0 om).ext hT.ext; have e1:=Ext.two (k:=7) hT.ext.dZ ab a0 b0; have w1:=a0.xor (u:=t + 30) b0 om om; have e2:=Ext.two (k:=6) e1.dZ ab (a0.ext e1) (n0.ext e1); have w2:=(a0.ext e1).or (u:=t + 30) (n0.ext e1) om om; have hq:=(hT.wp.ext (e1.trans e2)).S8 om w2
 refine .kx 7 U au (.val (Y.zf U U) ab (.val (Y.zf U U) ab (.val (Y.qr (m:=0) a7 U U aY (ao (d:=0) om)) ab (.val (Y.qz bg U U U U) ab (.val (Y.zf U U) ab (.val (Y.qr (m:=0) a7 U U aY (ao (d:=0) om)) ab (.val (Y.qz bg U U U U) ab (.nil (.b7 [0,1] [] vU (nj (gl:=eE) (a:=a.getD 0 0) (b:=b.getD 0 0) om) U (.named U U (.ai U U (.ai U U .nil))) ⟨U,U,trivial⟩ U ab (fun _ h=>by cases h) (fun _ h=>by cases h) ab ab ?_)))))))))
 rintro r aK ⟨rfl,rfl⟩ _
 refine ⟨⟨rfl,(by intro ob aZ; simp only [List.mem_cons,List.not_mem_nil,or_false] at aZ; rcases aZ with rfl | rfl <;> rfl),.inl rfl⟩,(.an ?_)⟩
 refine .nil (.seq (.de U ?_))
 refine .blind 0 U au (ax.move U U) ab (.br (n:=4) [1,2,3,4,5,6,7] [8,9,10,11] 8 U au (.cn 1 U (Y.zf U U) (.cn 2 U (Y.zf U U) (.cn 3 U (Y.qr (m:=0) a7 U U aY (ao (d:=0) om)) (.cn 4 U (Y.qz bg U U U U) (.cn 5 U (Y.zf U U) (.cn 6 U (Y.qr (m:=0) a7 U U aY (ao (d:=0) om)) (.cn 7 U (Y.qz bg U U U U) (.nil (.one 8 U au (.b7 [0,1] [] xU (rN (gl:=eE ++ [(⟨7,a.getD 0 0,b.getD 0 0⟩:Gate)]) (a:=a.getD 0 0) (b:=oa.getD 0 0) aJ) U (.named U U (.ai U U (.ai U U .nil))) ⟨U,U,trivial⟩ U ab (fun _ h=>by cases h) (fun _ h=>by cases h) ab ab ?_)))))))))))
 rintro r aK ⟨rfl,rfl⟩ _
 refine ⟨⟨rfl,(by intro ob aZ; simp only [List.mem_cons,List.not_mem_nil,or_false] at aZ; rcases aZ with rfl | rfl <;> rfl),.inl rfl⟩,(.nil ⟨U,(.br (n:=1) [9,10] [11] 11 U au (.cn 9 U (Y.qs (m:=0) eo U U aY om) (.cn 10 U (Y.qo mn U U) (.nil (.one 11 U au (.iB ((qM.set 0 (⟨(((eE ++ [(⟨7,a.getD 0 0,b.getD 0 0⟩:Gate)]).length:Nat):Int),(qM.getD 0 default).p⟩:bm)).map bm.row) dT U U U U U U U (aO (d:=default) om) (aH U) (eO U) ?_))))))⟩)⟩
 refine .nil ⟨U,(.done au (.seq (.sh (Sh.dL (d:=8) (o:=108) U U (aW aJ) ab) (.sh (Sh.cN (d:=8) ((qM.set 0 (⟨(((eE ++ [(⟨7,a.getD 0 0,b.getD 0 0⟩:Gate)]).length:Nat):Int),(qM.getD 0 default).p⟩:bm)).map bm.row) U iX (cM.map bm.bE)) (.region (.mv ?_))))))⟩
 refine .mv ?_
 refine .mv ?_
 refine .b7 [0,1] [] Jl (y0 (gl:=(eE ++ [(⟨7,a.getD 0 0,b.getD 0 0⟩:Gate)]) ++ [(⟨6,a.getD 0 0,oa.getD 0 0⟩:Gate)]) (ps:=qM.set 0 (⟨(((eE ++ [(⟨7,a.getD 0 0,b.getD 0 0⟩:Gate)]).length:Nat):Int),(qM.getD 0 default).p⟩:bm)) (x:=(eE.length:Int)) e2.dZ aJ hq (w1.ext e2) ⟨pP,pP⟩) U (.named U U (.ai U U (.ai U U .nil))) ⟨U,U,trivial⟩ U ab (fun _ h=>by cases h) (fun _ h=>by cases h) ab ab ?_
 rintro r aK ⟨Z8,VS,TD,PL,PM,TE,rfl,rfl⟩ _
 exact ⟨⟨rfl,(by intro ob aZ; simp only [List.mem_cons,List.not_mem_nil,or_false] at aZ; rcases aZ with rfl | rfl <;> rfl),.inl rfl⟩,(.bX U ab (.nil (.ret ⟨_,_,U,U,_,_,(Ge.trans hT.ext).trans ((e1.trans e2).trans TD),by simp only [List.length_append,List.length_singleton] at PL; omega,(HW (by rw [List.length_set] at PM; omega) TE).late (by rw [List.length_set,show qM.length = w by omega]; omega),U,U⟩)))⟩
open Go Go.AW Go.Proofs
theorem pB{c:Int}{gl:List Gate}(hg:Good gl)(tJ:gl.length <= 40000000){s:Bool}{w:Nat}{t:Int}{a b:List Int}{A B:List Bool -> BitVec w}(ha:Wd c gl a w A t)(hb:Wd c gl b w B t)(hw:1 <= w /\ w <= 64)(ht:0 <= t):aw Try.prog 131 [.ptr 0 0 0 0,.fz 1 (a.map ah),.fz 1 (b.map ah),.v (.bool s)] [.cells [.aN 1 3 0 gl.length],.rows 3 (gl.map Gate.row)] [0] (fun r o=>∃ (l:List Gate) (x:Int),Ext gl l /\ l.length <= gl.length + 450 /\ Wr c l x (fun ins=>if s then (A ins).slt (B ins) else (A ins).ult (B ins)) (t + 30 + 40 * (dI w:Int)) /\ r = (vi x) /\ o = [.cells [.aN 1 3 0 l.length],.rows 3 (l.map Gate.row)]):=by
 refine aw.of Try.func131 U U U (n:=120) ab (aH U) ?_
 have so:=ha.len; have Ln:=hb.len
 refine .sr (.an (.nil (.sr ?_)))
 refine .an ?_
 refine .sh (Sh.nil (d:=9) 109 2 U ab) (.nil (.seq (.sr (.mv ?_))))
 refine .vl (Y.qw (n:=a.length) a7 U (congrArg some (List.length_map ..))) (.mv ?_)
 refine .nil (.block (.e8 (fun (gE:Nat) (bc:List Gate) (tl:List bm)=>⟨[(0,.ptr 0 0 0 0),(1,.fz 1 (a.map ah)),(2,.fz 1 (b.map ah)),(3,.v (.bool s)),(9,.aN 109 2 0 tl.length),(21,vi a.length),(22,vi gE)],[(0,.cells [.aN 1 3 0 bc.length]),(1,.rows 3 (bc.map Gate.row)),(109,.rows 2 (tl.map bm.row))]⟩) (fun gE bc tl=>((gE:Int) <= (a.length:Int)) /\ (vx c gl bc (fun k ins=>(A ins).getLsbD k) (fun k ins=>(B ins).getLsbD k) s w (t + 30) tl gE)) (fun gE bc tl=>((a.length:Int) - (gE:Int)).toNat) 0 gl ([]:List bm) (⟨pP,vx.init hg⟩) (Le.mk (.c4 (.cons (aM U aJ) (.c (.cons (ak U aY) .nil)))) (.cons (az U eS) (.c (.c .nil)))) (fun gE bc tl pK=>?_)))
 obtain ⟨CL,hL⟩:=pK
 refine .sr (.vl (Y.zb U U) (.nil (.seq (.aB U (fun oK=>?_) (fun oK=>?_)))))
 refine .skip (.seq (.block (.sr (.mv ?_))))
 refine .an ?_
 refine .nil (.seq (.j9 U au ?_))
 refine .val (Y.zf U U) ab (.val (Y.zf U U) ab (.val (Y.qr (m:=gE) a7 U U aY (ao (d:=0) om)) ab (.val (Y.qz bg U U U U) ab (.val (Y.zf U U) ab (.val (Y.zf U U) ab (.val (Y.qr (m:=gE) a7 U U aY (ao (d:=0) om)) ab (.val (Y.qz bg U U U U) ab (.val (Y.qf U U) ab (.val (Y.qf U U) ab (.nil ?_))))))))))
 refine .kY (fun (fb:Int) (g8:Int)=>⟨[(0,.ptr 0 0 0 0),(1,.fz 1 (a.map ah)),(2,.fz 1 (b.map ah)),(3,.v (.bool s)),(9,.aN 109 2 0 tl.length),(11,vi fb),(12,vi g8),(21,vi a.length),(22,vi gE)],[(0,.cells [.aN 1 3 0 bc.length]),(1,.rows 3 (bc.map Gate.row)),(109,.rows 2 (tl.map bm.row))]⟩) (fun fb g8=>(fb = if s = true /\ gE + 1 = a.length then b.getD gE 0 else a.getD gE 0) /\ (g8 = if s = true /\ gE + 1 = a.length then a.getD gE 0 else b.getD gE 0)) ?_ (fun fb g8 Iz=>?_)
 refine .sr (.mv ?_)
 refine .mv ?_
 refine .split (d:=34) U (fun DC=>?_) (fun DC=>?_)
 refine .gw 34 (Y.zf U U) (.gw 34 (Y.zf U U) (.gw 34 (Y.qw (n:=a.length) a7 U (congrArg some (List.length_map ..))) (.gw 34 (Y.wa U U om) (.gw 34 (Y.ql U U) (.pk ?_)))))
 refine .nil (.aB U (fun r8=>?_) (fun r8=>?_))
 refine .region (.mv ?_)
 refine .mv ?_
 refine .an ?_
 refine .an ?_
 refine .nil ⟨b.getD gE 0,a.getD gE 0,by grind,Le.mk (.c4 (.c (.cons (ak U aY) (.cons (ak U aY) (.c (.c .nil)))))) (.c2 (.c .nil))⟩
 refine .skip ⟨a.getD gE 0,b.getD gE 0,by grind,Le.mk (.c4 (.c (.cons (ak U aY) (.cons (ak U aY) (.c (.c .nil)))))) (.c2 (.c .nil))⟩
 refine .gz 34 (.gz 34 (.gz 34 (.gz 34 (.gz 34 (.pk ?_)))))
 exact .nil (.cu U (.skip ⟨a.getD gE 0,b.getD gE 0,by grind,Le.mk (.c4 (.c (.cons (ak U aY) (.cons (ak U aY) (.c (.c .nil)))))) (.c2 (.c .nil))⟩))
 refine .seq ?_
 have Yi:=hL.len; have Yj:=hL.pl; have zK:=Fo (s:=s) (i:=gE) ha hb om (Iz.1.trans (by rw [so])) (Iz.2.trans (by rw [so]))
 refine .region (.mv ?_)
 refine .mv ?_
 refine .mv ?_
 refine .b7 [0,1] [] uy (ia (gl:=bc) (a:=fb) om) U (.named U U (.ai U U .nil)) ⟨U,U,trivial⟩ U ab (fun _ h=>by cases h) (fun _ h=>by cases h) ab ab ?_
 rintro r aK ⟨rfl,rfl⟩ _
 refine ⟨⟨rfl,(by intro ob aZ; simp only [List.mem_cons,List.not_mem_nil,or_false] at aZ; rcases aZ with rfl | rfl <;> rfl),.inl rfl⟩,(.mv ?_)⟩
 refine .b7 [0,1] [] tj (gD (gl:=bc ++ [(⟨4,fb,0⟩:Gate)]) (a:=(bc.length:Int)) (b:=g8) aJ) U (.named U U (.ai U U (.ai U U .nil))) ⟨U,U,trivial⟩ U ab (fun _ h=>by cases h) (fun _ h=>by cases h) ab ab ?_
 rintro r aK ⟨rfl,rfl⟩ _
 refine ⟨⟨rfl,(by intro ob aZ; simp only [List.mem_cons,List.not_mem_nil,or_false] at aZ; rcases aZ with rfl | rfl <;> rfl),.inl rfl⟩,(.an (.nil (.region ?_)))⟩
 refine .mv ?_
 refine .mv ?_
 refine .mv ?_
 refine .mv ?_
 refine .mv ?_
 refine .mv ?_
 refine .b7 [0,1] [] vU (nj (gl:=(bc ++ [(⟨4,fb,0⟩:Gate)]) ++ [(⟨5,(bc.length:Int),g8⟩:Gate)]) (a:=fb) (b:=g8) aJ) U (.named U U (.ai U U (.ai U U .nil))) ⟨U,U,trivial⟩ U ab (fun _ h=>by cases h) (fun _ h=>by cases h) ab ab ?_
 rintro r aK ⟨rfl,rfl⟩ _
 refine ⟨⟨rfl,(by intro ob aZ; simp only [List.mem_cons,List.not_mem_nil,or_false] at aZ; rcases aZ with rfl | rfl <;> rfl),.inl rfl⟩,(.b7 [0,1] [] uy (ia (gl:=((bc ++ [(⟨4,fb,0⟩:Gate)]) ++ [(⟨5,(bc.length:Int),g8⟩:Gate)]) ++ [(⟨7,fb,g8⟩:Gate)]) (a:=((((bc ++ [(⟨4,fb,0⟩:Gate)]) ++ [(⟨5,(bc.length:Int),g8⟩:Gate)]).length:Nat):Int)) aJ) U (.named U U (.ai U U .nil)) ⟨U,U,trivial⟩ U ab (fun _ h=>by cases h) (fun _ h=>by cases h) ab ab ?_)⟩
 rintro r aK ⟨rfl,rfl⟩ _
 refine ⟨⟨rfl,(by intro ob aZ; simp only [List.mem_cons,List.not_mem_nil,or_false] at aZ; rcases aZ with rfl | rfl <;> rfl),.inl rfl⟩,(.vl (Y.qh BE jq U U U) (.buildSlice (([(⟨(((bc ++ [(⟨4,fb,0⟩:Gate)]).length:Nat):Int),(((((bc ++ [(⟨4,fb,0⟩:Gate)]) ++ [(⟨5,(bc.length:Int),g8⟩:Gate)]) ++ [(⟨7,fb,g8⟩:Gate)]).length:Nat):Int)⟩:bm)]:List bm).map bm.row) eo jq U U U U U (aq (s:=2) (f:=bm.row) (fun _=>U)) U U U ab ?_))⟩
 refine .cJ bm.row (tl ++ ([(⟨(((bc ++ [(⟨4,fb,0⟩:Gate)]).length:Nat):Int),(((((bc ++ [(⟨4,fb,0⟩:Gate)]) ++ [(⟨5,(bc.length:Int),g8⟩:Gate)]) ++ [(⟨7,fb,g8⟩:Gate)]).length:Nat):Int)⟩:bm)]:List bm)) eo jq U U U U (bh aJ) (aV aJ) (b8 aJ) aJ aJ ab ab ?_
 refine .an (.nil (.region ?_))
 refine .vl (Y.qb U U aJ) (.mv ?_)
 refine .nil (⟨gE + 1,(((bc ++ [(⟨4,fb,0⟩:Gate)]) ++ [(⟨5,(bc.length:Int),g8⟩:Gate)]) ++ [(⟨7,fb,g8⟩:Gate)]) ++ [(⟨4,((((bc ++ [(⟨4,fb,0⟩:Gate)]) ++ [(⟨5,(bc.length:Int),g8⟩:Gate)]).length:Nat):Int),0⟩:Gate)],tl ++ ([(⟨(((bc ++ [(⟨4,fb,0⟩:Gate)]).length:Nat):Int),(((((bc ++ [(⟨4,fb,0⟩:Gate)]) ++ [(⟨5,(bc.length:Int),g8⟩:Gate)]) ++ [(⟨7,fb,g8⟩:Gate)]).length:Nat):Int)⟩:bm)]:List bm),⟨om,hL.step zK.1 zK.2 (Int.le_refl _) (fun ins=>⟨U,U⟩)⟩,om,Le.mk (.c4 (.cons (aM U om) (.c (.cons (ak U aY) .nil)))) (.cons (az U eS) (.c (.c .nil)))⟩)
 refine .exit (.seq (.block (.sh (Sh.dL (d:=9) (o:=109) U U (aW om) ab) (.sh (Sh.cN (d:=9) (tl.map bm.row) U iX (cM.map bm.bE)) ?_))))
 have Yi:=hL.len; have Yj:=hL.pl
 refine .gT (fun (cw:List bm) (nO:List Gate)=>⟨[(0,.ptr 0 0 0 0),(9,.fz 2 (cw.map bm.row))],[(0,.cells [.aN 1 3 0 nO.length]),(1,.rows 3 (nO.map Gate.row))]⟩) (fun cw nO=>(BO c bc (fun ins=>if s then (A ins).slt (B ins) else (A ins).ult (B ins)) w (t + 30) nO cw)) (fun cw nO=>cw.length) tl bc (vx.tree (g0:=gl) om ((show gE = w by omega) ▸ hL)) (Le.mk (.c (.c .nil)) (.cons (az U eS) (.c .nil))) (fun cw nO La=>?_)
 have hI:=La
 refine .seq (.sr (.mv ?_))
 refine .vl (Y.qw (n:=cw.length) eo U (congrArg some (List.length_map ..))) (.vl (Y.qq U U) (.nil (.aB U (fun yU=>?_) (fun yU=>?_))))
 refine .skip (.block (.seq ?_))
 have T9:=hI.len; have TF:=hI.lo; have Z9:=hI.ext.len; have hex:∃ G P t,Wp c nO cw G P t:=(by obtain ⟨G1,P1,t1,h1,_⟩:=hI.ex; exact ⟨G1,P1,t1,h1⟩)
 refine .region (.an ?_)
 refine .sh (Sh.nil (d:=14) 114 2 U ab) (.nil (.seq (.sr (.an (.nil (.block ?_))))))
 refine .e8 (fun (cx:Nat) (cY:List Gate) (eX:List bm)=>⟨[(0,.ptr 0 0 0 0),(9,.fz 2 (cw.map bm.row)),(14,.aN 114 2 0 eX.length),(15,vi cx)],[(0,.cells [.aN 1 3 0 cY.length]),(1,.rows 3 (cY.map Gate.row)),(114,.rows 2 (eX.map bm.row))]⟩) (fun cx cY eX=>(HU c nO cw cY eX cx)) (fun cx cY eX=>cw.length - cx) 0 nO ([]:List bm) (HU.init hI.ext.dZ) (Le.mk (.c2 (.cons (aM U aJ) (.cons (ak U aY) .nil))) (.cons (az U eS) (.c (.c .nil)))) (fun cx cY eX L5=>?_)
 have hJ:=L5
 refine .seq (.seq ?_)
 have T4:=hJ.hi; have oy:=hJ.len; have T5:=hJ.nl; have T6:=hJ.even
 refine .region (.mv ?_)
 refine .vl (Y.qb U U aJ) (.mv ?_)
 refine .vl (Y.qw (n:=cw.length) eo U (congrArg some (List.length_map ..))) (.vl (Y.zb U U) (.nil (.aB U (fun Cc=>?_) (fun Cc=>?_))))
 refine .skip (.seq (.block (.seq (.ea (⟨[(0,.ptr 0 0 0 0),(9,.fz 2 (cw.map bm.row)),(14,.aN 114 2 0 eX.length),(15,.v (.int .i64 (cx:Int))),(16,.ptr 116 0 0 0),(17,.ptr 117 0 0 0)],[(0,.cells [.aN 1 3 0 cY.length]),(1,.rows 3 (cY.map Gate.row)),(114,.rows 2 (eX.map bm.row)),(116,.cells [.v (.int .i64 ((cw.getD cx default).g)),.v (.int .i64 ((cw.getD cx default).p))]),(117,.cells [.v (.int .i64 ((cw.getD (cx + 1) default).g)),.v (.int .i64 ((cw.getD (cx + 1) default).p))])]⟩) U ?_ ?_))))
 refine .blind 0 U au (ax.move U U) ab (.blind 1 U au (ax.move U U) ab ?_)
 refine .blind 2 U au (ax.kj (m:=cx) eo U U aY (ao (d:=default) om)) ab ?_
 refine .fW 3 U au EU U U U (aH U) U U ab (.blind 4 U au (ax.move U U) ab (.blind 5 U au (ax.move U U) ab ?_))
 refine .blind 6 U au (ax.KU U U om) ab (.blind 7 U au (ax.kj (m:=cx + 1) eo U U aY (ao (d:=default) om)) ab ?_)
 refine .fW 8 U au EU U U U (aH U) U U ab (.yn ?_)
 refine .two 9 10 U U au ?_ ?_
 refine .alloc 116 jq U U ab ?_
 refine .nil ⟨U,(.one 10 U au (.alloc 117 jq U U ab ?_))⟩
 refine .nil ⟨U,(.one 11 U au (.aj BF U U U U U U (aH U) U ?_))⟩
 refine .nil ⟨U,(.one 12 U au (.aj BF U U U U U U (aH U) U ?_))⟩
 exact .nil ⟨U,(.done au (Le.mk (.c4 (.c (.c .nil))) (.c4 (.c .nil))))⟩
 refine .alloc 117 jq U U ab ?_
 refine .nil ⟨U,(.one 9 U au (.alloc 116 jq U U ab ?_))⟩
 refine .nil ⟨U,(.one 11 U au (.aj BF U U U U U U (aH U) U ?_))⟩
 refine .nil ⟨U,(.one 12 U au (.aj BF U U U U U U (aH U) U ?_))⟩
 exact .nil ⟨U,(.done au (Le.mk (.c4 (.c (.c .nil))) (.c4 (.c .nil))))⟩
 refine .sr (.mv ?_)
 refine .fa lp ?_
 refine .ld bg ?_
 refine .fa mn ?_
 refine .ld bg ?_
 refine .b7 [0,1] [] tj (gD (gl:=cY) (a:=(cw.getD (cx + 1) default).p) (b:=(cw.getD cx default).g) om) U (.named U U (.ai U U (.ai U U .nil))) ⟨U,U,trivial⟩ U ab (fun _ h=>by cases h) (fun _ h=>by cases h) ab ab ?_
 rintro r aK ⟨rfl,rfl⟩ _
 refine ⟨⟨rfl,(by intro ob aZ; simp only [List.mem_cons,List.not_mem_nil,or_false] at aZ; rcases aZ with rfl | rfl <;> rfl),.inl rfl⟩,(.an (.nil (.sr ?_)))⟩
 refine .mv ?_
 refine .fa mn ?_
 refine .ld bg ?_
 refine .mv ?_
 refine .b7 [0,1] [] xU (rN (gl:=cY ++ [(⟨5,(cw.getD (cx + 1) default).p,(cw.getD cx default).g⟩:Gate)]) (a:=(cw.getD (cx + 1) default).g) (b:=(cY.length:Int)) aJ) U (.named U U (.ai U U (.ai U U .nil))) ⟨U,U,trivial⟩ U ab (fun _ h=>by cases h) (fun _ h=>by cases h) ab ab ?_
 rintro r aK ⟨rfl,rfl⟩ _
 refine ⟨⟨rfl,(by intro ob aZ; simp only [List.mem_cons,List.not_mem_nil,or_false] at aZ; rcases aZ with rfl | rfl <;> rfl),.inl rfl⟩,(.an (.nil (.region ?_)))⟩
 refine .mv ?_
 refine .mv ?_
 refine .mv ?_
 refine .fa lp ?_
 refine .ld bg ?_
 refine .fa lp ?_
 refine .ld bg ?_
 refine .b7 [0,1] [] tj (gD (gl:=(cY ++ [(⟨5,(cw.getD (cx + 1) default).p,(cw.getD cx default).g⟩:Gate)]) ++ [(⟨6,(cw.getD (cx + 1) default).g,(cY.length:Int)⟩:Gate)]) (a:=(cw.getD (cx + 1) default).p) (b:=(cw.getD cx default).p) aJ) U (.named U U (.ai U U (.ai U U .nil))) ⟨U,U,trivial⟩ U ab (fun _ h=>by cases h) (fun _ h=>by cases h) ab ab ?_
 rintro r aK ⟨rfl,rfl⟩ _
 refine ⟨⟨rfl,(by intro ob aZ; simp only [List.mem_cons,List.not_mem_nil,or_false] at aZ; rcases aZ with rfl | rfl <;> rfl),.inl rfl⟩,(.vl (Y.qh BE jq U U U) (.buildSlice (([(⟨(((cY ++ [(⟨5,(cw.getD (cx + 1) default).p,(cw.getD cx default).g⟩:Gate)]).length:Nat):Int),((((cY ++ [(⟨5,(cw.getD (cx + 1) default).p,(cw.getD cx default).g⟩:Gate)]) ++ [(⟨6,(cw.getD (cx + 1) default).g,(cY.length:Int)⟩:Gate)]).length:Nat):Int)⟩:bm)]:List bm).map bm.row) eo jq U U U U U (aq (s:=2) (f:=bm.row) (fun _=>U)) U U U ab ?_))⟩
 refine .cJ bm.row (eX ++ ([(⟨(((cY ++ [(⟨5,(cw.getD (cx + 1) default).p,(cw.getD cx default).g⟩:Gate)]).length:Nat):Int),((((cY ++ [(⟨5,(cw.getD (cx + 1) default).p,(cw.getD cx default).g⟩:Gate)]) ++ [(⟨6,(cw.getD (cx + 1) default).g,(cY.length:Int)⟩:Gate)]).length:Nat):Int)⟩:bm)]:List bm)) eo jq U U U U (bh aJ) (aV aJ) (b8 aJ) aJ aJ ab ab ?_
 refine .an (.nil (.region ?_))
 refine .mv ?_
 refine .vl (Y.qb U U aJ) (.an ?_)
 refine .nil (⟨cx + 2,((cY ++ [(⟨5,(cw.getD (cx + 1) default).p,(cw.getD cx default).g⟩:Gate)]) ++ [(⟨6,(cw.getD (cx + 1) default).g,(cY.length:Int)⟩:Gate)]) ++ [(⟨5,(cw.getD (cx + 1) default).p,(cw.getD cx default).p⟩:Gate)],eX ++ ([(⟨(((cY ++ [(⟨5,(cw.getD (cx + 1) default).p,(cw.getD cx default).g⟩:Gate)]).length:Nat):Int),((((cY ++ [(⟨5,(cw.getD (cx + 1) default).p,(cw.getD cx default).g⟩:Gate)]) ++ [(⟨6,(cw.getD (cx + 1) default).g,(cY.length:Int)⟩:Gate)]).length:Nat):Int)⟩:bm)]:List bm),hJ.step om hex,om,Le.mk (.c2 (.cons (aM U om) (.cons (ak U aY) .nil))) (.cons (az U eS) (.c (.c .nil)))⟩)
 refine .exit (.iu (fun (ib:List bm)=>⟨[(0,.ptr 0 0 0 0),(14,.aN 114 2 0 ib.length)],[(0,.cells [.aN 1 3 0 cY.length]),(1,.rows 3 (cY.map Gate.row)),(114,.rows 2 (ib.map bm.row))]⟩) (fun ib=>BO c bc (fun ins=>if s then (A ins).slt (B ins) else (A ins).ult (B ins)) w (t + 30) cY ib /\ ib.length < cw.length) ?_ (fun ib PN=>?_))
 refine .seq ?_
 have T4:=hJ.hi; have oy:=hJ.len; have T5:=hJ.nl; have T6:=hJ.even
 refine .region (.mv ?_)
 refine .vl (Y.qw (n:=cw.length) eo U (congrArg some (List.length_map ..))) (.vl (Y.zr U U om) (.vl (Y.ql U U) (.nil (.aB U (fun Lt=>?_) (fun Lt=>?_)))))
 refine .region (.mv ?_)
 refine .mv ?_
 refine .mv ?_
 refine .vl (Y.qw (n:=cw.length) eo U (congrArg some (List.length_map ..))) (.vl (Y.wa U U aJ) (.vl (Y.qr (m:=((cw.length:Int) - 1).toNat) eo U U om (ao (d:=default) om)) (.vl (Y.za EU U U (aH U) U U) (.buildSlice (([(cw.getD (((cw.length:Int) - 1).toNat) default)]:List bm).map bm.row) eo jq U U U U U (aq (s:=2) (f:=bm.row) (fun _=>U)) U U U ab ?_))))
 refine .cJ bm.row (eX ++ ([(cw.getD (((cw.length:Int) - 1).toNat) default)]:List bm)) eo jq U U U U (bh aJ) (aV aJ) (b8 aJ) aJ aJ ab ab ?_
 refine .an ?_
 refine .nil (⟨eX ++ ([(cw.getD (((cw.length:Int) - 1).toNat) default)]:List bm),by have hx:=hI.OS hJ om om om; rw [show cw.length - 1 = ((cw.length:Int) - 1).toNat by omega] at hx; exact ⟨hx,by rw [List.length_append,List.length_singleton]; omega⟩,Le.mk (.c (.cons (aM U om) .nil)) (.c2 (.c .nil))⟩)
 refine .skip (⟨eX,⟨hI.pass hJ om om om,om⟩,Le.mk (.c (.cons (aM U om) .nil)) (.c2 (.c .nil))⟩)
 refine .sh (Sh.dL (d:=14) (o:=114) U U (aW om) ab) (.sh (Sh.cN (d:=14) (ib.map bm.row) U iX (cM.map bm.bE)) (.region (.mv ?_)))
 refine .an ?_
 refine .nil ⟨ib,cY,PN.1,by have:=PN.2; omega,Le.mk (.c (.c .nil)) (.cons (az U eS) (.c .nil))⟩
 refine .exit (.seq ?_)
 have TF:=hI.lo; have T9:=hI.len
 refine .region (.mv ?_)
 refine .vl (Y.qr (m:=0) eo U U aY (ao (d:=default) om)) (.fa mn ?_)
 refine .ld bg ?_
 refine .an (.nil (.ret ?_))
 exact ⟨_,_,U,U,_,_,hL.ext.trans hI.ext,by have:=hL.len; omega,hI.done om,U,U⟩
open Go Go.AW Go.Proofs
structure VT(n:ae):Prop where
 formed:bx n
 fit:Fit n
 acyclic:Acyclic n
 small:n.Small
 dm:n.cells.length <= 1000
 cO:n.aa.length <= 1000
 uv:∀ c ∈ n.cells,c.args.length <= 200
 vR:n.cH.length <= 1000
 bZ:n.streams.length <= 1000
 EC:n.ins.length <= 1000
theorem bx.ta{n:ae}(h:bx n):∀ w ∈ n.aa,dk w:=fun w hw=>by
 obtain ⟨i,hi,rfl⟩:=List.mem_iff_getElem.1 hw
 have:=h.wide i (by rw [List.length_append]; omega)
 rw [List.getD_eq_getElem?_getD,List.getElem?_append_left hi,List.getElem?_eq_getElem hi] at this
 exact this
theorem VT.sV{n:ae}(h:VT n){i:Nat}(hi:i < n.cells.length):0 <= sV n (n.cells.getD i default) /\ sV n (n.cells.getD i default) <= 400:=K5 h.formed.ta (h.uv _ (getD_in hi))
def lY(at_:List Int)(l:List Int):Int:=l.foldl (fun t w=>max t (at_.getD w.toNat 0)) 0
theorem AL{a b l:List Int}(h:∀ w ∈ l,a.getD w.toNat 0 = b.getD w.toNat 0):lY a l = lY b l:=by
 unfold lY
 have:∀ (t:Int) (l:List Int),(∀ w ∈ l,a.getD w.toNat 0 = b.getD w.toNat 0) -> l.foldl (fun t w=>max t (a.getD w.toNat 0)) t = l.foldl (fun t w=>max t (b.getD w.toNat 0)) t:=by
  intro t l
  induction l generalizing t with
  | nil=>intro _; rfl
  | cons x r ih =>
   intro h
   simp only [List.foldl_cons]
   rw [h x (List.mem_cons_self ..)]
   exact ih _ (fun w hw=>h w (List.mem_cons_of_mem _ hw))
 exact this 0 l h
theorem nP{at_ l:List Int}{B:Int}(hB:0 <= B)(h:∀ w ∈ l,at_.getD w.toNat 0 <= B):0 <= lY at_ l /\ lY at_ l <= B:=by
 unfold lY
 have:∀ (t:Int) (l:List Int),0 <= t -> t <= B -> (∀ w ∈ l,at_.getD w.toNat 0 <= B) -> 0 <= l.foldl (fun t w=>max t (at_.getD w.toNat 0)) t /\ l.foldl (fun t w=>max t (at_.getD w.toNat 0)) t <= B:=by
  intro t l
  induction l generalizing t with
  | nil=>intro h0 h1 _; exact ⟨h0,h1⟩
  | cons x r ih =>
   intro h0 h1 h
   simp only [List.foldl_cons]
   have:=h x (List.mem_cons_self ..)
   exact ih _ om om (fun w hw=>h w (List.mem_cons_of_mem _ hw))
 exact this 0 l (Int.le_refl _) hB h
theorem Ce{at_ l:List Int}{w:Int}(h:w ∈ l):at_.getD w.toNat 0 <= lY at_ l:=by
 unfold lY
 have mono:∀ (t:Int) (l:List Int),t <= l.foldl (fun t w=>max t (at_.getD w.toNat 0)) t:=by
  intro t l
  induction l generalizing t with
  | nil=>exact Int.le_refl _
  | cons x r ih=>simp only [List.foldl_cons]; have:=ih (max t (at_.getD x.toNat 0)); omega
 have:∀ (t:Int) (l:List Int),w ∈ l -> at_.getD w.toNat 0 <= l.foldl (fun t w=>max t (at_.getD w.toNat 0)) t:=by
  intro t l
  induction l generalizing t with
  | nil=>intro h; cases h
  | cons x r ih =>
   intro h
   simp only [List.foldl_cons]
   rcases List.mem_cons.1 h with rfl | h
   ·have:=mono (max t (at_.getD w.toNat 0)) r; omega
   ·exact ih _ h
 exact this 0 l h
def ou(n:ae)(at_:List Int)(c:Cell):Int:=(if cU c.kind then lY at_ c.args else 0) + sV n c
structure Gf(n:ae)(at_:List Int):Prop where
 len:at_.length = n.aa.length
 eq:∀ i w,cX n i w -> at_.getD w.toNat 0 = ou n at_ (n.cell i)
theorem Ord.lt{n:ae}{l:List Int}(ho:Ord n l){i x:Int}(hi:0 <= i /\ i < n.cells.length)(hc:cU (n.cell i).kind)(hx:x ∈ (n.cell i).args):∃ j,cX n j x /\ l.idxOf j < l.idxOf i:=by
 obtain ⟨p,s,hl,hn⟩:=List.eq_append_cons_of_mem (ho.mem hi)
 obtain ⟨j,hj,hd⟩:=ho.oe p i s hl hc x hx
 refine ⟨j,hd,?_⟩
 have h1:l.idxOf i = p.length:=by
  rw [hl,List.idxOf_append,if_neg hn]; simp
 have h2:l.idxOf j = p.idxOf j:=by rw [hl,List.idxOf_append,if_pos hj]
 rw [h1,h2]
 exact List.idxOf_lt_length_of_mem hj
theorem Gf.bound{n:ae}{l a:List Int}(hv:VT n)(ho:Ord n l)(ha:Gf n a):∀ i w,cX n i w -> 0 <= a.getD w.toNat 0 /\ a.getD w.toNat 0 <= 400 * ((l.idxOf i:Nat) + 1:Int):=by
 have key:∀ k:Nat,∀ i w,cX n i w -> l.idxOf i <= k -> 0 <= a.getD w.toNat 0 /\ a.getD w.toNat 0 <= 400 * ((l.idxOf i:Nat) + 1:Int):=by
  intro k
  induction k with
  | zero =>
   intro i w hd hk
   rw [ha.eq i w hd]
   have h1:=hd.1
   have Dc:=hv.sV (i:=i.toNat) om
   change 0 <= sV n (n.cell i) /\ sV n (n.cell i) <= 400 at Dc
   unfold ou
   by_cases hc:cU (n.cell i).kind
   ·rw [if_pos hc]
    have:=nP (at_:=a) (l:=(n.cell i).args) (B:=0) om (fun x hx=>by obtain ⟨j,_,h⟩:=ho.lt hd.1 hc hx; omega)
    omega
   ·rw [if_neg hc]; omega
  | succ k ih =>
   intro i w hd hk
   rw [ha.eq i w hd]
   have h1:=hd.1
   have Dc:=hv.sV (i:=i.toNat) om
   change 0 <= sV n (n.cell i) /\ sV n (n.cell i) <= 400 at Dc
   unfold ou
   by_cases hc:cU (n.cell i).kind
   ·rw [if_pos hc]
    have:=nP (at_:=a) (l:=(n.cell i).args) (B:=400 * (l.idxOf i:Int)) om (fun x hx=>by
     obtain ⟨j,hj,h⟩:=ho.lt hd.1 hc hx
     have:=(ih j x hj om).2
     omega)
    omega
   ·rw [if_neg hc]; omega
 exact fun i w hd=>key _ i w hd (Nat.le_refl _)
theorem Gf.vL{n:ae}{l a:List Int}(hv:VT n)(ho:Ord n l)(ha:Gf n a){w:Int}(hw:In w n.aa.length):0 <= a.getD w.toNat 0 /\ a.getD w.toNat 0 <= 400000:=by
 obtain ⟨i,hi⟩:=hv.formed.sj hw
 have h:=ha.bound hv ho i w hi
 have h1:l.idxOf i < l.length:=List.idxOf_lt_length_of_mem (ho.mem hi.1)
 have h2:=ho.len
 have h3:=hv.dm
 omega
open Go Go.AW Go.Proofs
theorem va{l:List Int}(hn:l.Nodup){k:Nat}(hk:k < l.length):l.idxOf (l.getD k 0) = k:=by
 have hm:l.getD k 0 ∈ l:=cg hk
 have h1:l.idxOf (l.getD k 0) < l.length:=List.idxOf_lt_length_of_mem hm
 have h2:l.getD (l.idxOf (l.getD k 0)) 0 = l.getD k 0:=by
  rw [List.getD_eq_getElem?_getD,List.getElem?_eq_getElem h1]
  exact List.getElem_idxOf h1
 exact Classical.byContradiction fun e=>e (u6 hn h1 hk h2)
structure pN(n:ae)(l:List Int)(k:Nat)(out:List Int):Prop where
 len:out.length = n.aa.length
 eq:∀ i w,cX n i w -> l.idxOf i < k -> out.getD w.toNat 0 = ou n out (n.cell i)
theorem pN.init{n:ae}{l:List Int}:pN n l 0 (List.replicate n.aa.length 0):=⟨by simp,fun i w _ h=>by omega⟩
theorem pN.skip{n:ae}{l out:List Int}{k:Nat}(ho:Ord n l)(h:pN n l k out)(hk:k < l.length)(h7:(n.cell (l.getD k 0)).kind = 7):pN n l (k + 1) out:=by
 refine ⟨h.len,fun i w hd gP=>?_⟩
 rcases Nat.lt_or_ge (l.idxOf i) k with h1 | h1
 ·exact h.eq i w hd h1
 ·exfalso
  have hm:=ho.mem hd.1
  have h2:l.idxOf i < l.length:=List.idxOf_lt_length_of_mem hm
  have h3:l.getD (l.idxOf i) 0 = i:=by
   rw [List.getD_eq_getElem?_getD,List.getElem?_eq_getElem h2]; exact List.getElem_idxOf h2
  rw [show l.idxOf i = k by omega] at h3
  rw [h3] at h7
  exact hd.2.1 h7
theorem pN.set{n:ae}{l out:List Int}{k:Nat}(hf:bx n)(ho:Ord n l)(h:pN n l k out)(hk:k < l.length){w:Int}(hd:cX n (l.getD k 0) w){v:Int}(hv:v = ou n out (n.cell (l.getD k 0))):pN n l (k + 1) (out.set w.toNat v):=by
 have hw:=hf.iQ hd
 unfold In at hw
 have hl:=h.len
 have TG:=va ho.nd hk
 have other:∀ j x,cX n j x -> l.idxOf j < k -> (out.set w.toNat v).getD x.toNat 0 = out.getD x.toNat 0:=by
  intro j x hx hj
  have PO:=hf.iQ hx
  unfold In at PO
  rw [bP,if_neg]
  intro e
  have:x = w:=by omega
  subst this
  have:=hf.unique hx hd
  rw [this] at hj; omega
 have args:∀ i:Int,0 <= i /\ i < n.cells.length -> l.idxOf i <= k -> ou n (out.set w.toNat v) (n.cell i) = ou n out (n.cell i):=by
  intro i hi Yk
  unfold ou
  by_cases hc:cU (n.cell i).kind
  ·rw [if_pos hc,if_pos hc]
   rw [AL (fun x hx=>by obtain ⟨j,hj,h1⟩:=ho.lt hi hc hx; exact other j x hj om)]
  ·rw [if_neg hc,if_neg hc]
 refine ⟨by rw [List.length_set]; exact hl,fun i x hx gP=>?_⟩
 rw [args i hx.1 om]
 rcases Nat.lt_or_ge (l.idxOf i) k with h1 | h1
 ·rw [other i x hx h1]; exact h.eq i x hx h1
 ·have hm:=ho.mem hx.1
  have h2:l.idxOf i < l.length:=List.idxOf_lt_length_of_mem hm
  have h3:l.getD (l.idxOf i) 0 = i:=by
   rw [List.getD_eq_getElem?_getD,List.getElem?_eq_getElem h2]; exact List.getElem_idxOf h2
  rw [show l.idxOf i = k by omega] at h3
  rw [<- h3] at hx ⊢
  have e:x = w:=hx.2.2.symm.trans hd.2.2
  subst e
  rw [bP,if_pos ⟨rfl,om⟩]; exact hv
theorem pN.done{n:ae}{l out:List Int}{k:Nat}(ho:Ord n l)(h:pN n l k out)(hk:k = l.length):Gf n out :=
 ⟨h.len,fun i w hd=>h.eq i w hd (by rw [hk]; exact List.idxOf_lt_length_of_mem (ho.mem hd.1))⟩
theorem pN.le{n:ae}{l out:List Int}{k:Nat}(hv:VT n)(ho:Ord n l)(h:pN n l k out){i w:Int}(hd:cX n i w)(hi:l.idxOf i < k):0 <= out.getD w.toNat 0 /\ out.getD w.toNat 0 <= 400 * ((l.idxOf i:Nat) + 1:Int):=by
 have key:∀ m:Nat,∀ i w,cX n i w -> l.idxOf i <= m -> l.idxOf i < k -> 0 <= out.getD w.toNat 0 /\ out.getD w.toNat 0 <= 400 * ((l.idxOf i:Nat) + 1:Int):=by
  intro m
  induction m with
  | zero =>
   intro i w hd hm hk
   rw [h.eq i w hd hk]
   have h1:=hd.1
   have Dc:=hv.sV (i:=i.toNat) om
   change 0 <= sV n (n.cell i) /\ sV n (n.cell i) <= 400 at Dc
   unfold ou
   by_cases hc:cU (n.cell i).kind
   ·rw [if_pos hc]
    have:=nP (at_:=out) (l:=(n.cell i).args) (B:=0) om (fun x hx=>by obtain ⟨j,_,h⟩:=ho.lt hd.1 hc hx; omega)
    omega
   ·rw [if_neg hc]; omega
  | succ m ih =>
   intro i w hd hm hk
   rw [h.eq i w hd hk]
   have h1:=hd.1
   have Dc:=hv.sV (i:=i.toNat) om
   change 0 <= sV n (n.cell i) /\ sV n (n.cell i) <= 400 at Dc
   unfold ou
   by_cases hc:cU (n.cell i).kind
   ·rw [if_pos hc]
    have:=nP (at_:=out) (l:=(n.cell i).args) (B:=400 * (l.idxOf i:Int)) om (fun x hx=>by
     obtain ⟨j,hj,h⟩:=ho.lt hd.1 hc hx
     have:=(ih j x hj om om).2
     omega)
    omega
   ·rw [if_neg hc]; omega
 exact key _ i w hd (Nat.le_refl _) hi
theorem pN.nP{n:ae}{l out:List Int}{k:Nat}(hv:VT n)(ho:Ord n l)(h:pN n l k out)(hk:k < l.length)(hc:cU (n.cell (l.getD k 0)).kind)(m:Nat):0 <= lY out ((n.cell (l.getD k 0)).args.take m) /\ lY out ((n.cell (l.getD k 0)).args.take m) <= 400000:=by
 refine Go.Proofs.Ytlimckldnjmabaa.nP om fun x hx=>?_
 have hr:=ho.vL _ (cg hk)
 have Nm:=List.mem_of_mem_take hx
 obtain ⟨j,hj,h1⟩:=ho.lt hr hc Nm
 rw [va ho.nd hk] at h1
 have h2:=(h.le hv ho hj h1).2
 have h3:=ho.len
 have h4:=hv.dm
 omega
open Go Go.AW Go.Proofs
def Port(k:Int):Prop:=k = 5 \/ k = 6 \/ k = 7
instance (w:Int):Decidable (Port w):=by unfold Port; infer_instance
abbrev rest(n:ae):List Int:=(([[n.done],n.cH,n.bD,n.data]:List (List Int)).flatten)
section
variable {n:ae} {k:Nat}
end
def TH(at_:List Int)(s:Int × Int)(e:Int × Int):Int × Int:=if s.2 < 0 \/ at_.getD e.1.toNat 0 + e.2 > s.1 then (at_.getD e.1.toNat 0 + e.2,e.1) else s
structure AM(at_:List Int)(L:List (Int × Int))(s:Int × Int):Prop where
 none:L = [] -> s = (0,-1)
 some:L ≠ [] -> ∃ e ∈ L,s = (at_.getD e.1.toNat 0 + e.2,e.1)
 max:∀ e ∈ L,at_.getD e.1.toNat 0 + e.2 <= s.1
theorem AM.step{at_:List Int}{L:List (Int × Int)}{s e:Int × Int}(h:AM at_ L s)(h0:∀ e ∈ L,0 <= e.1):AM at_ (L ++ [e]) (TH at_ s e) where
 none:=fun h=>by simp at h
 some:=fun _=>by
  unfold TH
  by_cases hc:s.2 < 0 \/ at_.getD e.1.toNat 0 + e.2 > s.1
  ·rw [if_pos hc]; exact ⟨e,by simp,rfl⟩
  ·rw [if_neg hc]
   by_cases hL:L = []
   ·rw [h.none hL] at hc; simp at hc
   ·obtain ⟨x,hx,hs⟩:=h.some hL
    exact ⟨x,List.mem_append.2 (.inl hx),hs⟩
 max:=fun x hx=>by
  unfold TH
  by_cases hc:s.2 < 0 \/ at_.getD e.1.toNat 0 + e.2 > s.1
  ·rw [if_pos hc]
   rcases List.mem_append.1 hx with hx | hx
   ·have h1:=h.max x hx
    rcases hc with hc | hc
    ·exfalso
     obtain ⟨y,hy,hs⟩:=h.some (List.ne_nil_of_mem hx)
     rw [hs] at hc
     have:=h0 y hy
     simp only at hc; omega
    ·show _ <= at_.getD e.1.toNat 0 + e.2; omega
   ·rw [List.mem_singleton.1 hx]; exact Int.le_refl _
  ·rw [if_neg hc]
   rcases List.mem_append.1 hx with hx | hx
   ·exact h.max x hx
   ·rw [List.mem_singleton.1 hx]; omega
open Go Go.AW Go.Proofs
section
variable {n:ae} {i k m:Nat} {ix X Z:List (Int × Int)} {b:Bool}
end
open Go Go.AW Go.Proofs
def Gg:ByteArray:=⟨(([0,1,2,2,3,3,3,3,4,4,4,4,4,4,4,4,5,5,5,5,5,5,5,5,5,5,5,5,5,5,5,5,6,6,6,6,6,6,6,6,6,6,6,6,6,6,6,6,6,6,6,6,6,6,6,6,6,6,6,6,6,6,6,6].append [7,7,7,7,7,7,7,7,7,7,7,7,7,7,7,7,7,7,7,7,7,7,7,7,7,7,7,7,7,7,7,7,7,7,7,7,7,7,7,7,7,7,7,7,7,7,7,7,7,7,7,7,7,7,7,7,7,7,7,7,7,7,7,7]).append ([8,8,8,8,8,8,8,8,8,8,8,8,8,8,8,8,8,8,8,8,8,8,8,8,8,8,8,8,8,8,8,8,8,8,8,8,8,8,8,8,8,8,8,8,8,8,8,8,8,8,8,8,8,8,8,8,8,8,8,8,8,8,8,8].append [8,8,8,8,8,8,8,8,8,8,8,8,8,8,8,8,8,8,8,8,8,8,8,8,8,8,8,8,8,8,8,8,8,8,8,8,8,8,8,8,8,8,8,8,8,8,8,8,8,8,8,8,8,8,8,8,8,8,8,8,8,8,8,8])).toArray⟩
theorem Gh:(List.range 256).all (fun m=>aL Gg m == dI (m + 1)) = true:=by kernel_rfl
theorem De:Gg.size = 256:=by kernel_rfl
theorem I4{m:Nat}(h:m < 256):aL Gg m = dI (m + 1):=by
 have:=List.all_eq_true.1 Gh m (List.mem_range.2 h)
 simpa using this
theorem Gi{n:Nat}(h:n <= 256):dI n <= 8:=nJ om
theorem Cf{x:Int}{k:Nat}(h0:1 <= x)(h1:x <= 64)(hk:k <= 8):0 <= 3 * x * (k:Int) /\ 3 * x * (k:Int) <= 1536 :=
 ⟨Int.mul_nonneg om om,Int.le_trans (Int.mul_le_mul (show 3 * x <= 192 by omega) (show (k:Int) <= 8 by omega) om om) ab⟩
structure TI(n:ae)(l:List Cell):Prop where
 len:l.length = n.aa.length
 at_:∀ i w,cX n i w -> l.getD w.toNat default = n.cell i
structure pY(n:ae)(k:Nat)(l:List Cell):Prop where
 len:l.length = n.aa.length
 at_:∀ i w,cX n i w -> i < k -> l.getD w.toNat default = n.cell i
theorem pY.init{n:ae}{z:Cell}:pY n 0 (List.replicate n.aa.length z):=⟨by simp,fun i w hd h=>by have:=hd.1; omega⟩
theorem pY.set{n:ae}{k:Nat}{l:List Cell}(hf:bx n)(h:pY n k l)(hk:k < n.cells.length)(h0:(n.cells.getD k default).out ≥ 0):pY n (k + 1) (l.set (n.cells.getD k default).out.toNat (n.cells.getD k default)):=by
 refine ⟨by rw [List.length_set]; exact h.len,fun i w hd hi=>?_⟩
 have hw:=hf.iQ hd
 unfold In at hw
 have hl:=h.len
 have h7:(n.cells.getD k default).kind ≠ 7:=fun e=>by have:=(hf.cells k hk).2.2.1 e; omega
 have Mf:cX n (k:Int) (n.cells.getD k default).out:=⟨⟨om,om⟩,h7,rfl⟩
 have S3:=hf.iQ Mf
 unfold In at S3
 rw [bP]
 by_cases e:(n.cells.getD k default).out = w
 ·rw [if_pos ⟨om,om⟩]
  rw [e] at Mf
  have:=hf.unique hd Mf
  subst this; rfl
 ·rw [if_neg om]
  refine h.at_ i w hd ?_
  rcases Int.lt_or_eq_of_le (show i <= k by omega) with h1 | h1
  ·exact h1
  ·subst h1; exact absurd hd.2.2 e
theorem pY.skip{n:ae}{k:Nat}{l:List Cell}(hf:bx n)(h:pY n k l)(hk:k < n.cells.length)(h0:¬ (n.cells.getD k default).out ≥ 0):pY n (k + 1) l:=by
 refine ⟨h.len,fun i w hd hi=>?_⟩
 refine h.at_ i w hd ?_
 rcases Int.lt_or_eq_of_le (show i <= k by omega) with h1 | h1
 ·exact h1
 ·subst h1
  have hw:=hf.iQ hd
  unfold In at hw
  have:n.cell (k:Int) = n.cells.getD k default:=rfl
  rw [<- this,hd.2.2] at h0
  omega
theorem pY.done{n:ae}{k:Nat}{l:List Cell}(h:pY n k l)(hk:k = n.cells.length):TI n l:=⟨h.len,fun i w hd=>h.at_ i w hd (by rw [hk]; exact hd.1.2)⟩
structure L6(l m:List Int)(i j:Int):Prop where
 len:m.length = l.length
 sum:i + j = (l.length:Int) - 1
 i0:0 <= i
 out:∀ k:Nat,k < l.length -> ((k:Int) < i \/ j < k) -> m.getD k 0 = l.getD (l.length - 1 - k) 0
 QT:∀ k:Nat,i <= k -> (k:Int) <= j -> m.getD k 0 = l.getD k 0
theorem L6.init(l:List Int):L6 l l 0 ((l.length:Int) - 1):=⟨rfl,om,om,fun k hk h=>by omega,fun _ _ _=>rfl⟩
theorem L6.step{l m:List Int}{i j:Int}(h:L6 l m i j)(QJ:i < j):L6 l ((m.set i.toNat (m.getD j.toNat 0)).set j.toNat (m.getD i.toNat 0)) (i + 1) (j - 1):=by
 have h1:=h.len; have h2:=h.sum; have h3:=h.i0
 refine ⟨by simp [h1],om,om,fun k hk hc=>?_,fun k ha hb=>?_⟩
 ·rw [bP,bP]
  by_cases e:j.toNat = k
  ·rw [if_pos ⟨e,by rw [List.length_set]; omega⟩,h.QT i.toNat om om]
   congr 1; omega
  ·rw [if_neg om]
   by_cases e2:i.toNat = k
   ·rw [if_pos ⟨e2,om⟩,h.QT j.toNat om om]
    congr 1; omega
   ·rw [if_neg om]
    exact h.out k hk om
 ·rw [bP,bP,if_neg om,if_neg om]
  exact h.QT k om om
theorem L6.done{l m:List Int}{i j:Int}(h:L6 l m i j)(QJ:¬ i < j):m = l.reverse:=by
 have h1:=h.len; have h2:=h.sum
 refine List.ext_getElem (by simp [h1]) fun k hk Bh=>?_
 have e:m.getD k 0 = l.getD (l.length - 1 - k) 0:=by
  by_cases e:(k:Int) < i \/ j < k
  ·exact h.out k om e
  ·rw [h.QT k om om]
   congr 1; omega
 rw [List.getD_eq_getElem?_getD,List.getElem?_eq_getElem hk,List.getD_eq_getElem?_getD,List.getElem?_eq_getElem om] at e
 rw [List.getElem_reverse]
 exact e
open Go Go.AW Go.Proofs
theorem AO{x:Int}(h0:0 <= x)(h1:x < 256):aw Try.prog 197 [.v (.int .u64 x)] [] [] (fun r o=>r = (vi ((dI (x.toNat + 1):Nat):Int)) /\ o = []):=by
 refine aw.of Try.func197 U U U (n:=25) ab (aH U) ?_
 have ZA:=De
 refine .sr (.an ?_)
 refine .nil (.seq (.sr (.mv ?_)))
 refine .vl (Y.qp U U) (.nil (.aB U (fun c4=>?_) (fun c4=>?_)))
 exfalso; omega
 refine .skip (.seq (.sr (.mv ?_)))
 refine .vl (Y.qp U U) (.nil (.aB U (fun c8=>?_) (fun c8=>?_)))
 exfalso; omega
 refine .skip (.seq (.sr (.mv ?_)))
 refine .vl (Y.qp U U) (.nil (.aB U (fun Ag=>?_) (fun Ag=>?_)))
 exfalso; omega
 refine .skip (.sr ?_)
 have ZB:=En Gg x.toNat
 refine .mv ?_
 refine .mv ?_
 refine .vl (Y.qk wE vS U (by first | rfl | exact IntWalk.u8_in _ om)) (.vl (Y.qv (b:=Gg) (m:=(x).toNat) Ku U U om om) (.vl (Y.qk vS r4 U yO) (.vl (Y.qb U U aJ) (.an (.nil (.ret ?_))))))
 exact .ri rfl (by rw [I4 om]; omega)
theorem Gn{x:Int}(h0:0 <= x)(h1:x < 256):aw Try.prog 194 [.v (.int .u64 x)] [] [] (fun r o=>r = (vi ((dI (x.toNat + 1):Nat):Int)) /\ o = []):=by
 refine aw.of Try.func194 U U U (n:=8) ab (aH U) (.sr (.an ?_))
 refine .nil (.seq (.cu U ?_))
 refine .skip (.sr (.mv ?_))
 refine .aR Ow (AO (x:=x) (om) (om)) U (.ai U U .nil) ab U ?_
 refine .an (.nil (.ret ?_))
 exact .ri rfl (rfl)
theorem kN{x:Int}(h0:0 <= x)(h1:x <= 256):aw Try.prog 174 [vi x] [] [] (fun r o=>r = (vi ((dI x.toNat:Nat):Int)) /\ o = []):=by
 refine aw.of Try.func174 U U U (n:=9) ab (aH U) (.sr (.an ?_))
 refine .nil (.seq (.sr (.mv ?_)))
 refine .vl (Y.zb U U) (.nil (.aB U (fun c4=>?_) (fun c4=>?_)))
 refine .sr (.an (.nil (.ret ?_)))
 exact .ri rfl (by unfold dI; rw [if_pos om]; rfl)
 refine .skip (.sr (.mv ?_))
 refine .vl (Y.wa U U aJ) (.vl (Y.qj r4 NT U (vH _ om)) (.aR Ov (Gn (x:=(((x - 1).toNat:Nat):Int)) (om) (om)) U (.ai U U .nil) ab U ?_))
 refine .an (.nil (.ret ?_))
 exact .ri rfl (by rw [show ((((x - 1).toNat:Nat):Int).toNat + 1) = x.toNat by omega])
open Go Go.AW Go.Proofs
theorem wZ{n:Nat}(h:n <= 256):aw Try.prog 174 [vi n] [] [] (fun r o=>r = (vi ((dI n:Nat):Int)) /\ o = []):=by
  have h1:=kN (x:=(n:Int)) om om
  rwa [Int.toNat_natCast] at h1
theorem qP{c:Int}{gl:List Gate}(hg:Good gl)(tJ:gl.length <= 30000000){left ar:Bool}(SC:left = true -> ar = false){w:Nat}{t:Int}{a b:List Int}{A B:List Bool -> BitVec w}(ha:Wd c gl a w A t)(hb:Wd c gl b w B t)(hw:1 <= w /\ w <= 64)(ht:0 <= t):aw Try.prog 129 [.ptr 0 0 0 0,.fz 1 (a.map ah),.fz 1 (b.map ah),.v (.bool left),.v (.bool ar)] [.cells [.aN 1 3 0 gl.length],.rows 3 (gl.map Gate.row)] [0] (fun r o=>∃ (l:List Gate) (out:List Int),Ext gl l /\ l.length <= gl.length + 1500 /\ Wd c l out w (fun ins=>HY left ar (A ins) (B ins)) (t + (if ar then 50 else 30) + 40 * (dI w:Int)) /\ r = .dK 1 (out.map ah) /\ o = [.cells [.aN 1 3 0 l.length],.rows 3 (l.map Gate.row)]):=by
 refine aw.of Try.func129 U U U (n:=129) ab (aH U) ?_
 have so:=ha.len; have Ln:=hb.len; have QF:dI a.length = dI w:=by rw [so]
 have QR:dI a.length <= 6:=nJ om
 have ZC:dI a.length <= a.length:=Fp
 refine .sr (.an (.nil (.sr ?_)))
 refine .mv ?_
 refine .vl (Y.qw (n:=a.length) a7 U (congrArg some (List.length_map ..))) (.an (.nil (.sr ?_)))
 refine .mv ?_
 refine .aR xR (wZ (n:=a.length) om) U (.ai U U .nil) ab U ?_
 refine .an (.nil (.sr ?_))
 refine .an (.nil ?_)
 refine .kY (fun (ep:Int) (nQ:List Gate)=>⟨[(0,.ptr 0 0 0 0),(1,.fz 1 (a.map ah)),(2,.fz 1 (b.map ah)),(3,.v (.bool left)),(4,.v (.bool ar)),(11,vi a.length),(12,vi ((dI a.length:Nat):Int)),(13,vi ep)],[(0,.cells [.aN 1 3 0 nQ.length]),(1,.rows 3 (nQ.map Gate.row))]⟩) (fun ep nQ=>Ext gl nQ /\ nQ.length <= gl.length + 1 /\ Wr c nQ ep (fun ins=>ar && (A ins).msb) t) ?_ (fun ep nQ V4=>?_)
 refine .sr (.mv ?_)
 refine .nil (.cond U (fun qW=>?_) (fun qW=>?_))
 refine .region (.mv ?_)
 refine .mv ?_
 refine .vl (Y.wa U U aJ) (.vl (Y.qr (m:=((a.length:Int) - 1).toNat) a7 U U om (ao (d:=0) om)) (.ld bg ?_))
 refine .an ?_
 refine .nil (⟨a.getD (((a.length:Int) - 1).toNat) 0,gl,⟨.refl hg,om,by rw [show ((a.length:Int) - 1).toNat = w - 1 by omega]; exact (ha.msb om).as fun ins=>by simp [qW]⟩,Le.mk (.c4 (.c2 (.c (.cons (ak U aY) .nil)))) (.cons (az U eS) (.c .nil))⟩)
 refine .region (.mv ?_)
 refine .b7 [0,1] [] ET (gH (gl:=gl) aJ) U (.named U U .nil) ⟨U,U,trivial⟩ U ab (fun _ h=>by cases h) (fun _ h=>by cases h) ab ab ?_
 rintro r aK ⟨rfl,rfl⟩ _
 refine ⟨⟨rfl,(by intro ob aZ; simp only [List.mem_cons,List.not_mem_nil,or_false] at aZ; rcases aZ with rfl | rfl <;> rfl),.inl rfl⟩,(.an ?_)⟩
 refine .nil (⟨(gl.length:Int),gl ++ [(⟨1,0,0⟩:Gate)],⟨Ext.Me hg ab,by simp,(Wr.zero ht).as fun ins=>by simp [qW]⟩,Le.mk (.c4 (.c2 (.c (.cons (ak U aY) .nil)))) (.cons (az U eS) (.c .nil))⟩)
 refine .seq ?_
 obtain ⟨hE,VV,hF⟩:=V4; have Yo:=hE.dZ
 refine .region (.mv ?_)
 refine .an ?_
 refine .nil (.seq (.sr (.mv ?_)))
 refine .mv ?_
 refine .nil (.block ?_)
 refine .e8 (fun (fD:List Int) (eA:Nat) (lS:List Gate)=>⟨[(0,.ptr 0 0 0 0),(2,.fz 1 (b.map ah)),(3,.v (.bool left)),(4,.v (.bool ar)),(11,vi a.length),(12,vi ((dI a.length:Nat):Int)),(13,vi ep),(14,.fz 1 (fD.map ah)),(39,vi ((dI a.length:Nat):Int)),(40,vi eA)],[(0,.cells [.aN 1 3 0 lS.length]),(1,.rows 3 (lS.map Gate.row))]⟩) (fun fD eA lS=>((eA:Int) <= ((dI a.length:Nat):Int)) /\ (HV c nQ left w A B (fun ins=>ar && (A ins).msb) t lS fD eA)) (fun fD eA lS=>(((dI a.length:Nat):Int) - (eA:Int)).toNat) a 0 nQ (⟨om,HV.init Yo (ha.ext hE)⟩) (Le.mk (.c8 (.c (.cons (ak U aY) .nil))) (.cons (az U eS) (.c .nil))) (fun fD eA lS Yp=>?_)
 obtain ⟨ZD,hS⟩:=Yp
 refine .sr (.vl (Y.zb U U) (.nil (.seq (.aB U (fun At=>?_) (fun At=>?_)))))
 refine .skip (.seq (.block (.sr (.mv ?_))))
 refine .an (.nil (.seq ?_))
 have TC:=hS.len; have Yq:=hS.xl; have Yr:(3 * w + 1) * eA <= 193 * 6:=Nat.mul_le_mul om om; have ZE:=KH (k:=eA) om; have TK:=((hb.bit eA om).ext hE).ext hS.ext; have eN:=Ext.not hS.ext.dZ TK; have nN:=TK.not (u:=t + 10) (Int.le_refl _)
 refine .region (.mv ?_)
 refine .mv ?_
 refine .vl (Y.qr (m:=eA) a7 U U aY (ao (d:=0) om)) (.ld bg ?_)
 refine .an (.nil (.sr ?_))
 refine .mv ?_
 refine .mv ?_
 refine .b7 [0,1] [] uy (ia (gl:=lS) (a:=b.getD eA 0) om) U (.named U U (.ai U U .nil)) ⟨U,U,trivial⟩ U ab (fun _ h=>by cases h) (fun _ h=>by cases h) ab ab ?_
 rintro r aK ⟨rfl,rfl⟩ _
 refine ⟨⟨rfl,(by intro ob aZ; simp only [List.mem_cons,List.not_mem_nil,or_false] at aZ; rcases aZ with rfl | rfl <;> rfl),.inl rfl⟩,(.an (.nil (.sr ?_)))⟩
 refine .an ?_
 refine .sh (Sh.nil (d:=18) 118 1 U ab) (.nil (.seq (.sr (.mv ?_))))
 refine .vl (Y.qw (n:=fD.length) a7 U (congrArg some (List.length_map ..))) (.mv ?_)
 refine .nil (.block ?_)
 refine .e8 (fun (gb:Nat) (iE:List Gate) (eG:List Int)=>⟨[(0,.ptr 0 0 0 0),(2,.fz 1 (b.map ah)),(3,.v (.bool left)),(4,.v (.bool ar)),(11,vi a.length),(12,vi ((dI a.length:Nat):Int)),(13,vi ep),(14,.fz 1 (fD.map ah)),(15,vi eA),(16,vi (b.getD eA 0)),(17,vi lS.length),(18,.aN 118 1 0 eG.length),(39,vi ((dI a.length:Nat):Int)),(40,vi eA),(51,vi fD.length),(52,vi gb)],[(0,.cells [.aN 1 3 0 iE.length]),(1,.rows 3 (iE.map Gate.row)),(118,.rows 1 (eG.map ah))]⟩) (fun gb iE eG=>((gb:Int) <= (fD.length:Int)) /\ (GL c (lS ++ [(⟨4,b.getD eA 0,0⟩:Gate)]) iE eG (QE left w A B (fun ins=>ar && (A ins).msb) eA) (t + 10 + 40 * ((eA:Int) + 1)) gb)) (fun gb iE eG=>((fD.length:Int) - (gb:Int)).toNat) 0 (lS ++ [(⟨4,b.getD eA 0,0⟩:Gate)]) ([]:List Int) (⟨pP,GL.init eN.dZ⟩) (Le.mk (.c8 (.c2 (.c (.cons (aM U aJ) (.c2 (.c (.cons (ak U aY) .nil))))))) (.cons (az U eS) (.c (.c .nil)))) (fun gb iE eG L2=>?_)
 obtain ⟨T2,hM⟩:=L2
 refine .sr (.vl (Y.zb U U) (.nil (.seq (.aB U (fun Ar=>?_) (fun Ar=>?_)))))
 refine .skip (.seq (.block (.seq ?_)))
 have MB:=hM.len; have TL:=hM.ol; have ZF:=eN.len; rw [List.length_append,List.length_singleton] at MB
 refine .region (.mv ?_)
 refine .an (.nil (.sr ?_))
 refine .mv ?_
 refine .mv ?_
 refine .vl (Y.zt U U om (BP (k:=eA) om)) (.vl (Y.qb U U aJ) (.an (.nil ?_)))
 refine .iu (fun (fJ:Int)=>⟨[(0,.ptr 0 0 0 0),(2,.fz 1 (b.map ah)),(3,.v (.bool left)),(4,.v (.bool ar)),(11,vi a.length),(12,vi ((dI a.length:Nat):Int)),(13,vi ep),(14,.fz 1 (fD.map ah)),(15,vi eA),(16,vi (b.getD eA 0)),(17,vi lS.length),(18,.aN 118 1 0 eG.length),(19,vi gb),(20,vi fJ),(39,vi ((dI a.length:Nat):Int)),(40,vi eA),(51,vi fD.length),(52,vi gb)],[(0,.cells [.aN 1 3 0 iE.length]),(1,.rows 3 (iE.map Gate.row)),(118,.rows 1 (eG.map ah))]⟩) (fun fJ=>fJ = OO left eA gb) ?_ (fun fJ Lk=>?_)
 refine .sr (.mv ?_)
 refine .nil (.cond U (fun TM=>?_) (fun TM=>?_))
 refine .region (.mv ?_)
 refine .mv ?_
 refine .vl (Y.zt U U om (BP (k:=eA) om)) (.vl (Y.wa U U aJ) (.an ?_))
 refine .nil ⟨(gb:Int) - ((p2 eA:Nat):Int),by unfold OO p2; simp [TM],Le.mk (.c8 (.c4 (.c (.cons (ak U aY) (.c2 (.c (.c .nil))))))) (.c2 (.c .nil))⟩
 refine .skip ⟨(gb:Int) + ((p2 eA:Nat):Int),by unfold OO p2; simp [TM],Le.mk (.c8 (.c4 (.c (.cons (ak U aY) (.c2 (.c (.c .nil))))))) (.c2 (.c .nil))⟩
 refine .sr (.mv ?_)
 refine .an (.nil ?_)
 refine .iu (fun (nR:Int)=>⟨[(0,.ptr 0 0 0 0),(2,.fz 1 (b.map ah)),(3,.v (.bool left)),(4,.v (.bool ar)),(11,vi a.length),(12,vi ((dI a.length:Nat):Int)),(13,vi ep),(14,.fz 1 (fD.map ah)),(15,vi eA),(16,vi (b.getD eA 0)),(17,vi lS.length),(18,.aN 118 1 0 eG.length),(19,vi gb),(21,vi nR),(39,vi ((dI a.length:Nat):Int)),(40,vi eA),(51,vi fD.length),(52,vi gb)],[(0,.cells [.aN 1 3 0 iE.length]),(1,.rows 3 (iE.map Gate.row)),(118,.rows 1 (eG.map ah))]⟩) (fun nR=>nR = (if 0 <= fJ /\ fJ < (a.length:Int) then fD.getD fJ.toNat 0 else ep)) ?_ (fun nR TN=>?_)
 refine .sr (.mv ?_)
 refine .vl (Y.qp U U) (.mv ?_)
 refine .a8 (d:=67) U (fun Lc=>?_) (fun Lc=>?_)
 refine .gw 67 (Y.zf U U) (.gw 67 (Y.zf U U) (.gw 67 (Y.zb U U) (.pk ?_)))
 refine .nil (.aB U (fun Mm=>?_) (fun Mm=>?_))
 refine .region (.mv ?_)
 refine .mv ?_
 refine .vl (Y.qr (m:=(fJ).toNat) a7 U U om (ao (d:=0) om)) (.ld bg ?_)
 refine .an ?_
 refine .nil ⟨fD.getD ((fJ).toNat) 0,by grind,Le.mk (.c8 (.c4 (.c (.cons (ak U aY) (.c2 (.c (.c .nil))))))) (.c2 (.c .nil))⟩
 refine .skip ⟨ep,by grind,Le.mk (.c8 (.c4 (.c (.cons (ak U aY) (.c2 (.c (.c .nil))))))) (.c2 (.c .nil))⟩
 refine .gz 67 (.gz 67 (.gz 67 (.pk ?_)))
 exact .nil (.cu U (.skip ⟨ep,by grind,Le.mk (.c8 (.c4 (.c (.cons (ak U aY) (.c2 (.c (.c .nil))))))) (.c2 (.c .nil))⟩))
 have Ys:=(hS.pick hF (i:=gb) (y:=nR) om fJ Lk (by rw [TN,so])).ext eN; have Yt:=(hS.ws.bit gb om).ext eN
 refine .region (.mv ?_)
 refine .mv ?_
 refine .mv ?_
 refine .mv ?_
 refine .mv ?_
 refine .mv ?_
 refine .mv ?_
 refine .vl (Y.qr (m:=gb) a7 U U aY (ao (d:=0) om)) (.ld bg ?_)
 refine .b7 [0,1] [] HG (choose_spec (gl:=iE) (s:=b.getD eA 0) (v:=(lS.length:Int)) (y:=nR) (n:=fD.getD gb 0) om) U (.named U U (.ai U U (.ai U U (.ai U U (.ai U U .nil))))) ⟨U,U,trivial⟩ U ab (fun _ h=>by cases h) (fun _ h=>by cases h) ab ab ?_
 rintro r aK ⟨rfl,rfl⟩ _
 refine ⟨⟨rfl,(by intro ob aZ; simp only [List.mem_cons,List.not_mem_nil,or_false] at aZ; rcases aZ with rfl | rfl <;> rfl),.inl rfl⟩,(.buildSlice (([((iE.length:Int) + 2)]:List Int).map ah) a7 dG U U U U U (aq (s:=1) (f:=ah) (fun _=>U)) U U U ab ?_)⟩
 refine .cJ ah (eG ++ ([((iE.length:Int) + 2)]:List Int)) a7 dG U U U U (bh aJ) (aV aJ) (b8 aJ) aJ aJ ab ab ?_
 refine .an (.nil (.region ?_))
 refine .vl (Y.qb U U aJ) (.mv ?_)
 refine .nil (⟨gb + 1,yd iE (b.getD eA 0) (lS.length:Int) nR (fD.getD gb 0),eG ++ ([((iE.length:Int) + 2)]:List Int),⟨om,hM.step (TK.ext eN) nN Ys Yt om om om om (fun ins=>KC om ins)⟩,om,Le.mk (.c8 (.c2 (.c (.cons (aM U om) (.c2 (.c (.cons (ak U aY) .nil))))))) (.cons (az U eS) (.c (.c .nil)))⟩)
 refine .exit (.sh (Sh.dL (d:=18) (o:=118) U U (aW om) ab) (.sh (Sh.cN (d:=18) (eG.map ah) U iX (cM.map aI)) (.region (.mv ?_))))
 refine .an (.nil (.region ?_))
 refine .vl (Y.qb U U aJ) (.mv ?_)
 refine .nil (⟨eG,eA + 1,iE,⟨om,hS.pass eN hM om⟩,om,Le.mk (.c8 (.c (.cons (ak U aY) .nil))) (.cons (az U eS) (.c .nil))⟩)
 refine .exit (.seq ?_)
 have TC:=hS.len; have Yq:=hS.xl; have IK:eA = dI w:=om; rw [IK] at hS; have Yr:(3 * w + 1) * eA <= 193 * 6:=Nat.mul_le_mul om om; have Yu:=(hb.ext hE).ext hS.ext; have T7:=hS.ext.dZ
 refine .region (.mv ?_)
 refine .mv ?_
 refine .mv ?_
 refine .vl (Y.zw (l:=dI a.length) (h:=(b.map ah).length) a7 U (.some U) (.none _) aJ aJ (by rw [List.take_length,<- List.map_drop])) (.b7 [0,1] [] ES (uZ (gl:=lS) T7 aJ (a:=b.drop (dI a.length)) (KD Yu (dI a.length) om) aJ aJ) U (.named U U (.ai U U .nil)) ⟨U,U,trivial⟩ U ab (fun _ h=>by cases h) (fun _ h=>by cases h) ab ab ?_)
 rintro r aK ⟨GP,JC,Gp,PR,TO,rfl,rfl⟩ _
 refine ⟨⟨rfl,(by intro ob aZ; simp only [List.mem_cons,List.not_mem_nil,or_false] at aZ; rcases aZ with rfl | rfl <;> rfl),.inl rfl⟩,(.an (.nil (.seq ?_)))⟩
 have hv:=TO.as (f':=Al B) (fun ins=>by unfold Al; rw [List.length_drop,Ln,QF]); have eF:=Ext.not Gp.dZ hv; have nF:=hv.not (u:=t + 10 + 20 * (dI w:Int)) (by have:=oM (show (b.drop (dI a.length)).length <= w by rw [List.length_drop]; omega); omega); have Rj:=oM (show (b.drop (dI a.length)).length <= w by rw [List.length_drop]; omega); have TP:=PR; rw [List.length_drop] at TP
 refine .region (.mv ?_)
 refine .mv ?_
 refine .b7 [0,1] [] uy (ia (gl:=GP) (a:=JC) aJ) U (.named U U (.ai U U .nil)) ⟨U,U,trivial⟩ U ab (fun _ h=>by cases h) (fun _ h=>by cases h) ab ab ?_
 rintro r aK ⟨rfl,rfl⟩ _
 refine ⟨⟨rfl,(by intro ob aZ; simp only [List.mem_cons,List.not_mem_nil,or_false] at aZ; rcases aZ with rfl | rfl <;> rfl),.inl rfl⟩,(.an (.nil (.sr ?_)))⟩
 refine .an ?_
 refine .sh (Sh.nil (d:=24) 124 1 U ab) (.nil (.seq (.sr (.mv ?_))))
 refine .vl (Y.qw (n:=fD.length) a7 U (congrArg some (List.length_map ..))) (.mv ?_)
 refine .nil (.block ?_)
 refine .e8 (fun (fg:Nat) (iF:List Gate) (iT:List Int)=>⟨[(0,.ptr 0 0 0 0),(4,.v (.bool ar)),(13,vi ep),(14,.fz 1 (fD.map ah)),(22,vi JC),(23,vi GP.length),(24,.aN 124 1 0 iT.length),(100,vi fD.length),(101,vi fg)],[(0,.cells [.aN 1 3 0 iF.length]),(1,.rows 3 (iF.map Gate.row)),(124,.rows 1 (iT.map ah))]⟩) (fun fg iF iT=>((fg:Int) <= (fD.length:Int)) /\ (xi c (GP ++ [(⟨4,JC,0⟩:Gate)]) iF iT (ye left ar w A B) (t + (if ar then 50 else 30) + 40 * (dI w:Int)) fg)) (fun fg iF iT=>((fD.length:Int) - (fg:Int)).toNat) 0 (GP ++ [(⟨4,JC,0⟩:Gate)]) ([]:List Int) (⟨pP,xi.init eF.dZ⟩) (Le.mk (.c4 (.c2 (.cons (aM U aJ) (.c (.cons (ak U aY) .nil))))) (.cons (az U eS) (.c (.c .nil)))) (fun fg iF iT TQ=>?_)
 obtain ⟨Yv,hM⟩:=TQ
 refine .sr (.vl (Y.zb U U) (.nil (.seq (.aB U (fun Ly=>?_) (fun Ly=>?_)))))
 refine .skip (.kY (fun (pC:List Gate) (l4:List Int)=>⟨[(0,.ptr 0 0 0 0),(4,.v (.bool ar)),(13,vi ep),(14,.fz 1 (fD.map ah)),(22,vi JC),(23,vi GP.length),(24,.aN 124 1 0 l4.length),(100,vi fD.length),(101,vi fg)],[(0,.cells [.aN 1 3 0 pC.length]),(1,.rows 3 (pC.map Gate.row)),(124,.rows 1 (l4.map ah))]⟩) (fun pC l4=>xi c (GP ++ [(⟨4,JC,0⟩:Gate)]) pC l4 (ye left ar w A B) (t + (if ar then 50 else 30) + 40 * (dI w:Int)) (fg + 1)) ?_ (fun pC l4 Iw=>?_))
 refine .block (.sr (.mv ?_))
 refine .an (.nil (.seq ?_))
 have MB:=hM.len; have TL:=hM.ol; rw [List.length_append,List.length_singleton] at MB
 refine .region (.mv ?_)
 refine .nil (.cond U (fun oP=>?_) (fun oP=>?_))
 refine .region (.mv ?_)
 refine .mv ?_
 refine .mv ?_
 refine .mv ?_
 refine .mv ?_
 refine .mv ?_
 refine .mv ?_
 refine .vl (Y.qr (m:=fg) a7 U U aY (ao (d:=0) om)) (.ld bg ?_)
 refine .b7 [0,1] [] HG (choose_spec (gl:=iF) (s:=JC) (v:=(GP.length:Int)) (y:=ep) (n:=fD.getD fg 0) om) U (.named U U (.ai U U (.ai U U (.ai U U (.ai U U .nil))))) ⟨U,U,trivial⟩ U ab (fun _ h=>by cases h) (fun _ h=>by cases h) ab ab ?_
 rintro r aK ⟨rfl,rfl⟩ _
 refine ⟨⟨rfl,(by intro ob aZ; simp only [List.mem_cons,List.not_mem_nil,or_false] at aZ; rcases aZ with rfl | rfl <;> rfl),.inl rfl⟩,(.buildSlice (([((iF.length:Int) + 2)]:List Int).map ah) a7 dG U U U U U (aq (s:=1) (f:=ah) (fun _=>U)) U U U ab ?_)⟩
 refine .cJ ah (iT ++ ([((iF.length:Int) + 2)]:List Int)) a7 dG U U U U (bh aJ) (aV aJ) (b8 aJ) aJ aJ ab ab ?_
 refine .an ?_
 refine .nil ⟨yd iF JC (GP.length:Int) ep (fD.getD fg 0),iT ++ ([((iF.length:Int) + 2)]:List Int),hM.choose (hv.ext eF) nF (((hF.ext hS.ext).ext Gp).ext eF) (((hS.ws.bit fg om).ext Gp).ext eF) (by rw [if_pos oP]; omega) (by rw [if_pos oP]; omega) (by rw [if_pos oP]; omega) (by rw [if_pos oP]; omega) (fun ins=>by simp [ye,oP]),Le.mk (.c4 (.c2 (.cons (aM U om) (.c (.c .nil))))) (.cons (az U eS) (.c (.c .nil)))⟩
 refine .region (.mv ?_)
 refine .mv ?_
 refine .mv ?_
 refine .mv ?_
 refine .mv ?_
 refine .vl (Y.qr (m:=fg) a7 U U aY (ao (d:=0) om)) (.ld bg ?_)
 refine .b7 [0,1] [] tj (gD (gl:=iF) (a:=(GP.length:Int)) (b:=fD.getD fg 0) om) U (.named U U (.ai U U (.ai U U .nil))) ⟨U,U,trivial⟩ U ab (fun _ h=>by cases h) (fun _ h=>by cases h) ab ab ?_
 rintro r aK ⟨rfl,rfl⟩ _
 refine ⟨⟨rfl,(by intro ob aZ; simp only [List.mem_cons,List.not_mem_nil,or_false] at aZ; rcases aZ with rfl | rfl <;> rfl),.inl rfl⟩,(.buildSlice (([(iF.length:Int)]:List Int).map ah) a7 dG U U U U U (aq (s:=1) (f:=ah) (fun _=>U)) U U U ab ?_)⟩
 refine .cJ ah (iT ++ ([(iF.length:Int)]:List Int)) a7 dG U U U U (bh aJ) (aV aJ) (b8 aJ) aJ aJ ab ab ?_
 refine .an ?_
 refine .nil (⟨iF ++ [(⟨5,(GP.length:Int),fD.getD fg 0⟩:Gate)],iT ++ ([(iF.length:Int)]:List Int),hM.and nF (((hS.ws.bit fg om).ext Gp).ext eF) (by rw [if_neg (by simp [oP])]; omega) (by rw [if_neg (by simp [oP])]; omega) (fun ins=>by simp [ye,oP]),Le.mk (.c4 (.c2 (.cons (aM U om) (.c (.c .nil))))) (.cons (az U eS) (.c (.c .nil)))⟩)
 refine .region (.vl (Y.qb U U aJ) (.mv ?_))
 refine .nil (⟨fg + 1,pC,l4,⟨om,Iw⟩,om,Le.mk (.c4 (.c2 (.cons (aM U om) (.c (.cons (ak U aY) .nil))))) (.cons (az U eS) (.c (.c .nil)))⟩)
 refine .exit (.sr (.mv ?_))
 refine .an ?_
 exact .sh (Sh.dL (d:=10) (o:=124) U U (aW om) ab) (.nil (.ret ⟨_,_,U,U,_,_,hE.trans (hS.ext.trans (Gp.trans (eF.trans hM.ext))),by have:=hM.len; rw [List.length_append,List.length_singleton] at this; omega,Am SC (by have:=hM.ol; omega) hM.ws,U,U⟩))
open Go Go.AW Go.Proofs
theorem y5{c:Int}{gl:List Gate}(hg:Good gl)(tJ:gl.length <= 40000000){w n:Nat}{sg:Bool}{t:Int}{a:List Int}{A:List Bool -> BitVec w}(ha:Wd c gl a w A t)(hw:1 <= w /\ w <= 64)(hn:1 <= n /\ n <= 64)(ht:0 <= t):aw Try.prog 132 [.ptr 0 0 0 0,.fz 1 (a.map ah),vi n,.v (.bool sg)] [.cells [.aN 1 3 0 gl.length],.rows 3 (gl.map Gate.row)] [0] (fun r o=>∃ (l:List Gate) (out:List Int),Ext gl l /\ l.length <= gl.length + 1 /\ Wd c l out n (fun ins=>wO sg n (A ins)) t /\ r = .dK 1 (out.map ah) /\ o = [.cells [.aN 1 3 0 l.length],.rows 3 (l.map Gate.row)]):=by
 refine aw.of Try.func132 U U U (n:=40) ab (aH U) ?_
 have so:=ha.len
 refine .sr (.an ?_)
 refine .nil (.seq (.sr (.mv ?_)))
 refine .mv ?_
 refine .vl (Y.qw (n:=a.length) a7 U (congrArg some (List.length_map ..))) (.vl (Y.qy U U) (.nil (.aB U (fun Ag=>?_) (fun Ag=>?_))))
 refine .sr (.mv ?_)
 refine .mv ?_
 refine .vl (Y.zw (l:=0) (h:=n) a7 U (.none _) (.some U) aJ aJ (by rw [List.drop_zero,<- List.map_take])) (.aR EF (mI (l:=(a.take n)) (by rw [List.length_take]; omega)) U (.ai U U .nil) ab U (.bX U ab (.nil (.ret ⟨_,_,U,U,_,_,.refl hg,om,HZ ha om,U,U⟩))))
 refine .skip (.sr (.mv ?_))
 refine .mv ?_
 refine .vl (Y.qw (n:=a.length) a7 U (congrArg some (List.length_map ..))) (.vl (Y.wa U U aJ) (.vl (Y.qr (m:=((a.length:Int) - 1).toNat) a7 U U om (ao (d:=0) om)) (.ld bg ?_)))
 refine .an (.nil ?_)
 refine .kY (fun (kO:Int) (mJ:List Gate)=>⟨[(1,.fz 1 (a.map ah)),(2,vi n),(9,vi kO)],[(0,.cells [.aN 1 3 0 mJ.length]),(1,.rows 3 (mJ.map Gate.row))]⟩) (fun kO mJ=>Ext gl mJ /\ mJ.length <= gl.length + 1 /\ Wr c mJ kO (fun ins=>sg && (A ins).msb) t) ?_ (fun kO mJ yY=>?_)
 refine .sr (.mv ?_)
 refine .vl (Y.zl U) (.nil (.cond U (fun Gq=>?_) (fun Gq=>?_)))
 replace Gq:sg = false:=by simpa using Gq
 refine .region (.mv ?_)
 refine .b7 [0,1] [] ET (gH (gl:=gl) aJ) U (.named U U .nil) ⟨U,U,trivial⟩ U ab (fun _ h=>by cases h) (fun _ h=>by cases h) ab ab ?_
 rintro r aK ⟨rfl,rfl⟩ _
 refine ⟨⟨rfl,(by intro ob aZ; simp only [List.mem_cons,List.not_mem_nil,or_false] at aZ; rcases aZ with rfl | rfl <;> rfl),.inl rfl⟩,(.an ?_)⟩
 refine .nil (⟨(gl.length:Int),gl ++ [(⟨1,0,0⟩:Gate)],⟨Ext.Me hg ab,by simp,(Wr.zero ht).as fun ins=>by simp [Gq]⟩,Le.mk (.c2 (.cons (ak U aY) .nil)) (.cons (az U eS) (.c .nil))⟩)
 replace Gq:sg = true:=by simpa using Gq
 refine .skip (⟨a.getD (((a.length:Int) - 1).toNat) 0,gl,⟨.refl hg,om,by rw [show ((a.length:Int) - 1).toNat = w - 1 by omega]; exact (ha.msb om).as fun ins=>by simp [Gq]⟩,Le.mk (.c2 (.cons (ak U aY) .nil)) (.cons (az U eS) (.c .nil))⟩)
 refine .seq ?_
 obtain ⟨hE,VV,hF⟩:=yY
 refine .region (.mv ?_)
 refine .aR EF (mI (l:=a) om) U (.ai U U .nil) ab U (.bX U ab (.sh (Sh.dD (d:=10) (n:=a.length) 110 (a.map ah) U iX (aW U) ab) (.nil (.seq (.block (.gS (fun (jc:List Int)=>⟨[(2,vi n),(9,vi kO),(10,.aN 110 1 0 jc.length)],[(0,.cells [.aN 1 3 0 mJ.length]),(1,.rows 3 (mJ.map Gate.row)),(110,.rows 1 (jc.map ah))]⟩) (fun jc=>(w <= jc.length /\ jc.length <= n /\ Ws c mJ jc (yf sg A) t)) (fun jc=>n - jc.length) a (⟨om,om,Fq (ha.ext hE)⟩) (Le.mk (.c2 (.cons (aM U om) .nil)) (.c2 (.c .nil))) (fun jc L0=>?_)))))))
 have hO:=L0
 refine .seq (.sr (.mv ?_))
 refine .vl (Y.qw (n:=jc.length) a7 U U) (.mv ?_)
 refine .vl (Y.zb U U) (.nil (.aB U (fun DC=>?_) (fun DC=>?_)))
 refine .skip (.block (.region (.mv ?_)))
 refine .mv ?_
 refine .buildSlice (([kO]:List Int).map ah) a7 dG U U U U U (aq (s:=1) (f:=ah) (fun _=>U)) U U U ab ?_
 refine .cJ ah (jc ++ ([kO]:List Int)) a7 dG U U U U (bh aJ) (aV aJ) (b8 aJ) aJ aJ ab ab ?_
 refine .an ?_
 refine .nil (⟨jc ++ ([kO]:List Int),⟨by rw [List.length_append,List.length_singleton]; omega,by rw [List.length_append,List.length_singleton]; omega,Fs hO.2.2 hO.1 hF⟩,by rw [List.length_append,List.length_singleton]; omega,Le.mk (.c2 (.cons (aM U om) .nil)) (.c2 (.c .nil))⟩)
 refine .exit (.sr (.mv ?_))
 refine .an ?_
 exact .sh (Sh.dL (d:=8) (o:=110) U U (aW om) ab) (.nil (.ret ⟨_,_,U,U,_,_,hE,VV,Ft hO.2.2 om om,U,U⟩))
theorem y6{gl:List Gate}(tJ:gl.length <= 40000000){n:Nat}(hn:n <= 64):aw Try.prog 78 [.ptr 0 0 0 0,vi n] [.cells [.aN 1 3 0 gl.length],.rows 3 (gl.map Gate.row)] [0] (fun r o=>r = .dK 1 ((p5 gl.length n).map ah) /\ o = [.cells [.aN 1 3 0 ((gl ++ p6 n).length)],.rows 3 ((gl ++ p6 n).map Gate.row)]):=by
 refine aw.of Try.func78 U U U (n:=16) ab (aH U) (.sr (.an (.nil (.sr ?_))))
 refine .an ?_
 refine .sh (Sh.nil (d:=5) 105 1 U ab) (.nil (.seq (.sr (.mv ?_))))
 refine .mv ?_
 refine .nil (.block (.e8 (fun (tm:Nat) (bc:List Gate) (bf:List Int)=>⟨[(0,.ptr 0 0 0 0),(5,.aN 105 1 0 bf.length),(6,vi n),(7,vi tm)],[(0,.cells [.aN 1 3 0 bc.length]),(1,.rows 3 (bc.map Gate.row)),(105,.rows 1 (bf.map ah))]⟩) (fun tm bc bf=>((tm:Int) <= (n:Int)) /\ (bc = gl ++ p6 tm /\ bf = p5 gl.length tm)) (fun tm bc bf=>((n:Int) - (tm:Int)).toNat) 0 gl ([]:List Int) (⟨pP,⟨by simp [p6],U⟩⟩) (Le.mk (.c (.cons (aM U aJ) (.c (.cons (ak U aY) .nil)))) (.cons (az U eS) (.c (.c .nil)))) (fun tm bc bf pK=>?_)))
 obtain ⟨CL,hO⟩:=pK
 refine .sr (.vl (Y.zb U U) (.nil (.seq (.aB U (fun c8=>?_) (fun c8=>?_)))))
 refine .skip (.seq (.block ?_))
 obtain ⟨GO,DF⟩:=hO; have sJ:bc.length = gl.length + tm:=(by rw [GO,List.length_append,kB]); have ZG:bf.length = tm:=(by rw [DF,mq])
 refine .region (.mv ?_)
 refine .mv ?_
 refine .b7 [0,1] [] sR (jx (gl:=bc) (k:=3) (a:=0) (b:=0) om) U (.named U U (.ai U U (.ai U U (.ai U U .nil)))) ⟨U,U,trivial⟩ U ab (fun _ h=>by cases h) (fun _ h=>by cases h) ab ab ?_
 rintro r aK ⟨rfl,rfl⟩ _
 refine ⟨⟨rfl,(by intro ob aZ; simp only [List.mem_cons,List.not_mem_nil,or_false] at aZ; rcases aZ with rfl | rfl <;> rfl),.inl rfl⟩,(.buildSlice (([(bc.length:Int)]:List Int).map ah) a7 dG U U U U U (aq (s:=1) (f:=ah) (fun _=>U)) U U U ab ?_)⟩
 refine .cJ ah (bf ++ ([(bc.length:Int)]:List Int)) a7 dG U U U U (bh aJ) (aV aJ) (b8 aJ) aJ aJ ab ab ?_
 refine .an (.nil (.region ?_))
 refine .vl (Y.qb U U aJ) (.mv ?_)
 refine .nil (⟨tm + 1,bc ++ [(⟨3,0,0⟩:Gate)],bf ++ ([(bc.length:Int)]:List Int),⟨om,⟨by rw [oN,GO,List.append_assoc],by rw [yg,<- DF,sJ]⟩⟩,om,Le.mk (.c (.cons (aM U om) (.c (.cons (ak U aY) .nil)))) (.cons (az U eS) (.c (.c .nil)))⟩)
 refine .exit (.sr (.mv ?_))
 refine .an ?_
 refine .sh (Sh.dL (d:=4) (o:=105) U U (aW om) ab) (.nil (.ret ?_))
 obtain ⟨GO,DF⟩:=hO; obtain rfl:tm = n:=om; exact ⟨_,_,rfl,rfl,(by rw [DF]; rfl),(by rw [GO]; rfl)⟩
open Go Go.AW Go.Proofs
theorem v3{c:Int}{gl:List Gate}(hg:Good gl)(tJ:gl.length <= 20000000){op:Int}{ws:List (List Int)}{w width:Nat}{xN yN zN:List Bool -> Nat}{t:Int}(hI:Ia c gl ws op w width xN yN zN t)(xy:ws.length <= 100):aw Try.prog 79 [.ptr 0 0 0 0,vi op,.fz 1 (ws.map ef),vi width] [.cells [.aN 1 3 0 gl.length],.rows 3 (gl.map Gate.row)] [0] (fun r o=>∃ (l:List Gate) (out:List Int),Ext gl l /\ l.length <= gl.length + 1600 /\ BU c l out op w width xN yN zN t /\ r = .dK 1 (out.map ah) /\ o = [.cells [.aN 1 3 0 l.length],.rows 3 (l.map Gate.row)]):=by
 refine aw.of Try.func79 U U U (n:=149) ab (aH U) ?_
 have hX:=hI.x; have pI:=hI.ok; have Lj:=hI.hw; have JA:=hI.hd; have VW:=hX.len
 refine .sr (.an (.nil (.sr ?_)))
 refine .mv ?_
 refine .vl (Y.qr (m:=0) ee U U aY (ao (d:=[]) aJ)) (.ld bn ?_)
 refine .an (.nil (.sr ?_))
 refine .an (.nil ?_)
 refine .iu (fun (eh:List Int)=>⟨[(0,.ptr 0 0 0 0),(1,vi op),(2,.fz 1 (ws.map ef)),(3,vi width),(9,.fz 1 ((ws.getD 0 []).map ah)),(10,.fz 1 (eh.map ah))],[(0,.cells [.aN 1 3 0 gl.length]),(1,.rows 3 (gl.map Gate.row))]⟩) (fun eh=>1 < ws.length -> eh = ws.getD 1 []) ?_ (fun eh Cd=>?_)
 refine .seq (.sh (Sh.R5 (d:=10) 1 U) (.region (.mv ?_)))
 refine .vl (Y.qw (n:=ws.length) ee U (congrArg some (List.length_map ..))) (.vl (Y.qq U U) (.nil (.aB U (fun r7=>?_) (fun r7=>?_))))
 refine .region (.mv ?_)
 refine .vl (Y.qr (m:=1) ee U U aY (ao (d:=[]) om)) (.ld bn ?_)
 refine .an ?_
 refine .nil ⟨ws.getD 1 [],fun _=>U,Le.mk (.c4 (.c (.c .nil))) (.c (.c .nil))⟩
 refine .skip ⟨([]:List Int),fun h=>absurd h om,Le.mk (.c4 (.c (.c .nil))) (.c (.c .nil))⟩
 refine .seq (.sr (.mv ?_))
 refine .nil (.block (.seq ?_))
 have qX:op < 21 -> Wk c gl eh w yN t:=fun h=>(by rw [Cd om]; have:=hI.y om; rwa [if_neg om] at this)
 have ZH:op < 21 -> eh.length = w:=fun h=>(qX h).len
 refine .region (.vl (Y.ql U U) (.an (.nil ?_)))
 refine .aB U (fun P9=>?_) (fun P9=>?_)
 refine .sr (.mv ?_)
 refine .mv ?_
 refine .mv ?_
 refine .b7 [0,1] [] O5 (Gc (gl:=gl) (a:=ws.getD 0 []) (b:=eh) hg om hX.wd (qX om).wd hI.hw hI.t0) U (.named U U (.ai U U (.ai U U .nil))) ⟨U,U,trivial⟩ U ab (fun _ h=>by cases h) (fun _ h=>by cases h) ab ab ?_
 rintro r aK ⟨ZI,VX,TR,VY,TS,rfl,rfl⟩ _
 exact ⟨⟨rfl,(by intro ob aZ; simp only [List.mem_cons,List.not_mem_nil,or_false] at aZ; rcases aZ with rfl | rfl <;> rfl),.inl rfl⟩,(.bX U ab (.nil (.ret ⟨_,_,U,U,_,_,TR,by have:=hX.len; omega,Ic TS om om,U,U⟩)))⟩
 refine .sr (.vl (Y.ql U U) (.an (.nil ?_)))
 refine .aB U (fun qW=>?_) (fun qW=>?_)
 refine .sr (.mv ?_)
 refine .mv ?_
 refine .mv ?_
 refine .b7 [0,1] [] O6 (Gd (gl:=gl) (a:=ws.getD 0 []) (b:=eh) hg om hX.wd (qX om).wd hI.hw hI.t0) U (.named U U (.ai U U (.ai U U .nil))) ⟨U,U,trivial⟩ U ab (fun _ h=>by cases h) (fun _ h=>by cases h) ab ab ?_
 rintro r aK ⟨ZJ,VZ,TT,Wa,TU,rfl,rfl⟩ _
 exact ⟨⟨rfl,(by intro ob aZ; simp only [List.mem_cons,List.not_mem_nil,or_false] at aZ; rcases aZ with rfl | rfl <;> rfl),.inl rfl⟩,(.bX U ab (.nil (.ret ⟨_,_,U,U,_,_,TT,by have:=hX.len; omega,Ie TU om om,U,U⟩)))⟩
 refine .sr (.vl (Y.ql U U) (.an (.nil ?_)))
 refine .aB U (fun vm=>?_) (fun vm=>?_)
 refine .sr (.mv ?_)
 refine .mv ?_
 refine .mv ?_
 refine .b7 [0,1] [] EP (s8 (gl:=gl) (k:=5) (a:=ws.getD 0 []) (b:=eh) (f:=fun k ins=>(xN ins).testBit k) (h:=fun k ins=>(yN ins).testBit k) (e:=fun i ins=>(if (5:Int) = 5 then xN ins &&& yN ins else if (5:Int) = 6 then xN ins ||| yN ins else xN ins ^^^ yN ins).testBit i) (t:=t) (u:=t + 20) hg om ab hX.ws (qX om).ws (by have:=hX.len; have:=(qX om).len; omega) (by have:=hX.len; omega) (Int.le_refl _) (fun i ins=>by simp)) U (.named U U (.ai U U (.ai U U (.ai U U .nil)))) ⟨U,U,trivial⟩ U ab (fun _ h=>by cases h) (fun _ h=>by cases h) ab ab ?_
 rintro r aK ⟨ZK,Wb,TV,Wc,We,TW,rfl,rfl⟩ _
 exact ⟨⟨rfl,(by intro ob aZ; simp only [List.mem_cons,List.not_mem_nil,or_false] at aZ; rcases aZ with rfl | rfl <;> rfl),.inl rfl⟩,(.bX U ab (.nil (.ret ⟨_,_,U,U,_,_,TV,by have:=hX.len; omega,wP TW (by have:=hX.len; omega) hX.lt (qX om).lt om om,U,U⟩)))⟩
 refine .sr (.vl (Y.ql U U) (.an (.nil ?_)))
 refine .aB U (fun xm=>?_) (fun xm=>?_)
 refine .sr (.mv ?_)
 refine .mv ?_
 refine .mv ?_
 refine .b7 [0,1] [] EP (s8 (gl:=gl) (k:=6) (a:=ws.getD 0 []) (b:=eh) (f:=fun k ins=>(xN ins).testBit k) (h:=fun k ins=>(yN ins).testBit k) (e:=fun i ins=>(if (6:Int) = 5 then xN ins &&& yN ins else if (6:Int) = 6 then xN ins ||| yN ins else xN ins ^^^ yN ins).testBit i) (t:=t) (u:=t + 20) hg om ab hX.ws (qX om).ws (by have:=hX.len; have:=(qX om).len; omega) (by have:=hX.len; omega) (Int.le_refl _) (fun i ins=>by simp)) U (.named U U (.ai U U (.ai U U (.ai U U .nil)))) ⟨U,U,trivial⟩ U ab (fun _ h=>by cases h) (fun _ h=>by cases h) ab ab ?_
 rintro r aK ⟨Yh,PH,L3,PI,PJ,L4,rfl,rfl⟩ _
 exact ⟨⟨rfl,(by intro ob aZ; simp only [List.mem_cons,List.not_mem_nil,or_false] at aZ; rcases aZ with rfl | rfl <;> rfl),.inl rfl⟩,(.bX U ab (.nil (.ret ⟨_,_,U,U,_,_,L3,by have:=hX.len; omega,wP L4 (by have:=hX.len; omega) hX.lt (qX om).lt om om,U,U⟩)))⟩
 refine .sr (.vl (Y.ql U U) (.an (.nil ?_)))
 refine .aB U (fun SR=>?_) (fun SR=>?_)
 refine .sr (.mv ?_)
 refine .mv ?_
 refine .mv ?_
 refine .b7 [0,1] [] EP (s8 (gl:=gl) (k:=7) (a:=ws.getD 0 []) (b:=eh) (f:=fun k ins=>(xN ins).testBit k) (h:=fun k ins=>(yN ins).testBit k) (e:=fun i ins=>(if (7:Int) = 5 then xN ins &&& yN ins else if (7:Int) = 6 then xN ins ||| yN ins else xN ins ^^^ yN ins).testBit i) (t:=t) (u:=t + 20) hg om ab hX.ws (qX om).ws (by have:=hX.len; have:=(qX om).len; omega) (by have:=hX.len; omega) (Int.le_refl _) (fun i ins=>by simp)) U (.named U U (.ai U U (.ai U U (.ai U U .nil)))) ⟨U,U,trivial⟩ U ab (fun _ h=>by cases h) (fun _ h=>by cases h) ab ab ?_
 rintro r aK ⟨ZL,Wf,TX,Wh,Wi,TZ,rfl,rfl⟩ _
 exact ⟨⟨rfl,(by intro ob aZ; simp only [List.mem_cons,List.not_mem_nil,or_false] at aZ; rcases aZ with rfl | rfl <;> rfl),.inl rfl⟩,(.bX U ab (.nil (.ret ⟨_,_,U,U,_,_,TX,by have:=hX.len; omega,wP TZ (by have:=hX.len; omega) hX.lt (qX om).lt om om,U,U⟩)))⟩
 refine .sr (.vl (Y.ql U U) (.an (.nil ?_)))
 refine .aB U (fun DB=>?_) (fun DB=>?_)
 refine .sr (.mv ?_)
 refine .mv ?_
 refine .mv ?_
 refine .b7 [0,1] [] ER (qP (gl:=gl) (left:=true) (ar:=false) (a:=ws.getD 0 []) (b:=eh) hg om ab hX.wd (qX om).wd hI.hw hI.t0) U (.named U U (.ai U U (.ai U U (.ai U U (.ai U U .nil))))) ⟨U,U,trivial⟩ U ab (fun _ h=>by cases h) (fun _ h=>by cases h) ab ab ?_
 rintro r aK ⟨ZM,Wj,Ua,Wl,Ub,rfl,rfl⟩ _
 exact ⟨⟨rfl,(by intro ob aZ; simp only [List.mem_cons,List.not_mem_nil,or_false] at aZ; rcases aZ with rfl | rfl <;> rfl),.inl rfl⟩,(.bX U ab (.nil (.ret ⟨_,_,U,U,_,_,Ua,by have:=hX.len; omega,An Ub (qX om).lt (by simp; omega) om,U,U⟩)))⟩
 refine .sr (.vl (Y.ql U U) (.an (.nil ?_)))
 refine .aB U (fun Yw=>?_) (fun Yw=>?_)
 refine .sr (.mv ?_)
 refine .mv ?_
 refine .mv ?_
 refine .b7 [0,1] [] ER (qP (gl:=gl) (left:=false) (ar:=false) (a:=ws.getD 0 []) (b:=eh) hg om ab hX.wd (qX om).wd hI.hw hI.t0) U (.named U U (.ai U U (.ai U U (.ai U U (.ai U U .nil))))) ⟨U,U,trivial⟩ U ab (fun _ h=>by cases h) (fun _ h=>by cases h) ab ab ?_
 rintro r aK ⟨ZN,Wm,Uc,Wo,Ud,rfl,rfl⟩ _
 exact ⟨⟨rfl,(by intro ob aZ; simp only [List.mem_cons,List.not_mem_nil,or_false] at aZ; rcases aZ with rfl | rfl <;> rfl),.inl rfl⟩,(.bX U ab (.nil (.ret ⟨_,_,U,U,_,_,Uc,by have:=hX.len; omega,An Ud (qX om).lt (by simp; omega) om,U,U⟩)))⟩
 refine .sr (.vl (Y.ql U U) (.an (.nil ?_)))
 refine .aB U (fun P8=>?_) (fun P8=>?_)
 refine .sr (.mv ?_)
 refine .mv ?_
 refine .mv ?_
 refine .b7 [0,1] [] ER (qP (gl:=gl) (left:=false) (ar:=true) (a:=ws.getD 0 []) (b:=eh) hg om ab hX.wd (qX om).wd hI.hw hI.t0) U (.named U U (.ai U U (.ai U U (.ai U U (.ai U U .nil))))) ⟨U,U,trivial⟩ U ab (fun _ h=>by cases h) (fun _ h=>by cases h) ab ab ?_
 rintro r aK ⟨ZO,Wq,Ue,Wt,Uf,rfl,rfl⟩ _
 exact ⟨⟨rfl,(by intro ob aZ; simp only [List.mem_cons,List.not_mem_nil,or_false] at aZ; rcases aZ with rfl | rfl <;> rfl),.inl rfl⟩,(.bX U ab (.nil (.ret ⟨_,_,U,U,_,_,Ue,by have:=hX.len; omega,An Uf (qX om).lt (by simp; omega) om,U,U⟩)))⟩
 refine .sr (.vl (Y.ql U U) (.an (.nil ?_)))
 refine .aB U (fun SS=>?_) (fun SS=>?_)
 refine .sr (.mv ?_)
 refine .mv ?_
 refine .mv ?_
 refine .mv ?_
 refine .b7 [0,1] [] Jk (sZ (gl:=gl) (a:=ws.getD 0 []) (b:=eh) hg om hX.wd (qX om).wd hI.hw hI.t0) U (.named U U (.ai U U (.ai U U .nil))) ⟨U,U,trivial⟩ U ab (fun _ h=>by cases h) (fun _ h=>by cases h) ab ab ?_
 rintro r aK ⟨Wu,Yx,PS,Wv,PT,rfl,rfl⟩ _
 refine ⟨⟨rfl,(by intro ob aZ; simp only [List.mem_cons,List.not_mem_nil,or_false] at aZ; rcases aZ with rfl | rfl <;> rfl),.inl rfl⟩,(.b7 [0,1] [] uy (ia (gl:=Wu) (a:=Yx) om) U (.named U U (.ai U U .nil)) ⟨U,U,trivial⟩ U ab (fun _ h=>by cases h) (fun _ h=>by cases h) ab ab ?_)⟩
 rintro r aK ⟨rfl,rfl⟩ _
 refine ⟨⟨rfl,(by intro ob aZ; simp only [List.mem_cons,List.not_mem_nil,or_false] at aZ; rcases aZ with rfl | rfl <;> rfl),.inl rfl⟩,(.buildSlice (([(Wu.length:Int)]:List Int).map ah) a7 dG U U U U U (aq (s:=1) (f:=ah) (fun _=>U)) U U U ab ?_)⟩
 exact .bX U ab (.nil (.ret ⟨_,_,U,U,_,_,PS.trans (Ext.not PS.dZ PT),by rw [List.length_append,List.length_singleton]; omega,KN (PT.not om) hX.lt (qX om).lt om om,U,U⟩))
 refine .sr (.vl (Y.ql U U) (.an (.nil ?_)))
 refine .aB U (fun GN=>?_) (fun GN=>?_)
 refine .sr (.mv ?_)
 refine .mv ?_
 refine .mv ?_
 refine .b7 [0,1] [] Jk (sZ (gl:=gl) (a:=ws.getD 0 []) (b:=eh) hg om hX.wd (qX om).wd hI.hw hI.t0) U (.named U U (.ai U U (.ai U U .nil))) ⟨U,U,trivial⟩ U ab (fun _ h=>by cases h) (fun _ h=>by cases h) ab ab ?_
 rintro r aK ⟨ZP,Yy,Ug,Ww,Uh,rfl,rfl⟩ _
 refine ⟨⟨rfl,(by intro ob aZ; simp only [List.mem_cons,List.not_mem_nil,or_false] at aZ; rcases aZ with rfl | rfl <;> rfl),.inl rfl⟩,(.buildSlice (([Yy]:List Int).map ah) a7 dG U U U U U (aq (s:=1) (f:=ah) (fun _=>U)) U U U ab ?_)⟩
 exact .bX U ab (.nil (.ret ⟨_,_,U,U,_,_,Ug,om,KM Uh hX.lt (qX om).lt om om,U,U⟩))
 refine .seq (.sr (.vl (Y.ql U U) (.an (.nil ?_))))
 refine .bt U (fun oh=>?_) (fun oh=>?_)
 refine .skip (.aQ U (.sr (.mv ?_)))
 refine .mv ?_
 refine .mv ?_
 refine .mv ?_
 refine .vl (Y.ql U U) (.b7 [0,1] [] BD (pB (gl:=gl) (s:=decide (op = 19)) (a:=ws.getD 0 []) (b:=eh) hg om hX.wd (qX om).wd hI.hw hI.t0) U (.named U U (.ai U U (.ai U U (.ai U U .nil)))) ⟨U,U,trivial⟩ U ab (fun _ h=>by cases h) (fun _ h=>by cases h) ab ab ?_)
 rintro r aK ⟨Yz,Ui,L8,PU,L9,rfl,rfl⟩ _
 refine ⟨⟨rfl,(by intro ob aZ; simp only [List.mem_cons,List.not_mem_nil,or_false] at aZ; rcases aZ with rfl | rfl <;> rfl),.inl rfl⟩,(.buildSlice (([Ui]:List Int).map ah) a7 dG U U U U U (aq (s:=1) (f:=ah) (fun _=>U)) U U U ab ?_)⟩
 exact .bX U ab (.nil (.ret ⟨_,_,U,U,_,_,L8,om,Fv L9 hX.lt (qX om).lt (by simp; omega) om,U,U⟩))
 refine .region (.vl (Y.ql U U) (.an (.nil ?_)))
 refine .bt U (fun oh=>?_) (fun oh=>?_)
 refine .sr (.mv ?_)
 refine .mv ?_
 refine .mv ?_
 refine .mv ?_
 refine .vl (Y.ql U U) (.b7 [0,1] [] BD (pB (gl:=gl) (s:=decide (op = 19)) (a:=ws.getD 0 []) (b:=eh) hg om hX.wd (qX om).wd hI.hw hI.t0) U (.named U U (.ai U U (.ai U U (.ai U U .nil)))) ⟨U,U,trivial⟩ U ab (fun _ h=>by cases h) (fun _ h=>by cases h) ab ab ?_)
 rintro r aK ⟨Yz,Ui,L8,PU,L9,rfl,rfl⟩ _
 refine ⟨⟨rfl,(by intro ob aZ; simp only [List.mem_cons,List.not_mem_nil,or_false] at aZ; rcases aZ with rfl | rfl <;> rfl),.inl rfl⟩,(.buildSlice (([Ui]:List Int).map ah) a7 dG U U U U U (aq (s:=1) (f:=ah) (fun _=>U)) U U U ab ?_)⟩
 exact .bX U ab (.nil (.ret ⟨_,_,U,U,_,_,L8,om,Fv L9 hX.lt (qX om).lt (by simp; omega) om,U,U⟩))
 refine .seq (.sr (.vl (Y.ql U U) (.an (.nil ?_))))
 refine .bt U (fun oo=>?_) (fun oo=>?_)
 refine .skip (.aQ U (.sr (.mv ?_)))
 refine .mv ?_
 refine .mv ?_
 refine .mv ?_
 refine .mv ?_
 refine .vl (Y.ql U U) (.b7 [0,1] [] BD (pB (gl:=gl) (s:=decide (op = 20)) (a:=eh) (b:=ws.getD 0 []) hg om (qX om).wd hX.wd hI.hw hI.t0) U (.named U U (.ai U U (.ai U U (.ai U U .nil)))) ⟨U,U,trivial⟩ U ab (fun _ h=>by cases h) (fun _ h=>by cases h) ab ab ?_)
 rintro r aK ⟨Gs,LA,y7,LC,y8,rfl,rfl⟩ _
 refine ⟨⟨rfl,(by intro ob aZ; simp only [List.mem_cons,List.not_mem_nil,or_false] at aZ; rcases aZ with rfl | rfl <;> rfl),.inl rfl⟩,(.b7 [0,1] [] uy (ia (gl:=Gs) (a:=LA) om) U (.named U U (.ai U U .nil)) ⟨U,U,trivial⟩ U ab (fun _ h=>by cases h) (fun _ h=>by cases h) ab ab ?_)⟩
 rintro r aK ⟨rfl,rfl⟩ _
 refine ⟨⟨rfl,(by intro ob aZ; simp only [List.mem_cons,List.not_mem_nil,or_false] at aZ; rcases aZ with rfl | rfl <;> rfl),.inl rfl⟩,(.buildSlice (([(Gs.length:Int)]:List Int).map ah) a7 dG U U U U U (aq (s:=1) (f:=ah) (fun _=>U)) U U U ab ?_)⟩
 exact .bX U ab (.nil (.ret ⟨_,_,U,U,_,_,y7.trans (Ext.not y7.dZ y8),by rw [List.length_append,List.length_singleton]; omega,Fw (y8.not om) hX.lt (qX om).lt (by simp; omega) om,U,U⟩))
 refine .region (.vl (Y.ql U U) (.an (.nil ?_)))
 refine .bt U (fun oo=>?_) (fun oo=>?_)
 refine .sr (.mv ?_)
 refine .mv ?_
 refine .mv ?_
 refine .mv ?_
 refine .mv ?_
 refine .vl (Y.ql U U) (.b7 [0,1] [] BD (pB (gl:=gl) (s:=decide (op = 20)) (a:=eh) (b:=ws.getD 0 []) hg om (qX om).wd hX.wd hI.hw hI.t0) U (.named U U (.ai U U (.ai U U (.ai U U .nil)))) ⟨U,U,trivial⟩ U ab (fun _ h=>by cases h) (fun _ h=>by cases h) ab ab ?_)
 rintro r aK ⟨Gs,LA,y7,LC,y8,rfl,rfl⟩ _
 refine ⟨⟨rfl,(by intro ob aZ; simp only [List.mem_cons,List.not_mem_nil,or_false] at aZ; rcases aZ with rfl | rfl <;> rfl),.inl rfl⟩,(.b7 [0,1] [] uy (ia (gl:=Gs) (a:=LA) om) U (.named U U (.ai U U .nil)) ⟨U,U,trivial⟩ U ab (fun _ h=>by cases h) (fun _ h=>by cases h) ab ab ?_)⟩
 rintro r aK ⟨rfl,rfl⟩ _
 refine ⟨⟨rfl,(by intro ob aZ; simp only [List.mem_cons,List.not_mem_nil,or_false] at aZ; rcases aZ with rfl | rfl <;> rfl),.inl rfl⟩,(.buildSlice (([(Gs.length:Int)]:List Int).map ah) a7 dG U U U U U (aq (s:=1) (f:=ah) (fun _=>U)) U U U ab ?_)⟩
 exact .bX U ab (.nil (.ret ⟨_,_,U,U,_,_,y7.trans (Ext.not y7.dZ y8),by rw [List.length_append,List.length_singleton]; omega,Fw (y8.not om) hX.lt (qX om).lt (by simp; omega) om,U,U⟩))
 refine .sr (.vl (Y.ql U U) (.an (.nil ?_)))
 refine .aB U (fun Aw=>?_) (fun Aw=>?_)
 refine .seq ?_
 have Uj:Wk c gl eh width yN t:=(by rw [Cd om]; have:=hI.y om; rwa [if_pos om] at this)
 have Uk:=hI.z om; have Y0:=Uj.len; have Y1:=Uk.len; have Ul:=hX.bit 0 om; have eN:=Ext.not hg Ul; have nN:=Ul.not (u:=t + 10) (Int.le_refl _)
 refine .region (.mv ?_)
 refine .mv ?_
 refine .vl (Y.qr (m:=0) a7 U U aY (ao (d:=0) om)) (.ld bg ?_)
 refine .b7 [0,1] [] uy (ia (gl:=gl) (a:=(ws.getD 0 []).getD 0 0) om) U (.named U U (.ai U U .nil)) ⟨U,U,trivial⟩ U ab (fun _ h=>by cases h) (fun _ h=>by cases h) ab ab ?_
 rintro r aK ⟨rfl,rfl⟩ _
 refine ⟨⟨rfl,(by intro ob aZ; simp only [List.mem_cons,List.not_mem_nil,or_false] at aZ; rcases aZ with rfl | rfl <;> rfl),.inl rfl⟩,(.an (.nil (.sr ?_)))⟩
 refine .an ?_
 refine .sh (Sh.nil (d:=12) 112 1 U ab) (.nil (.seq (.sr (.mv ?_))))
 refine .vl (Y.qw (n:=eh.length) a7 U (congrArg some (List.length_map ..))) (.mv ?_)
 refine .nil (.block ?_)
 refine .e8 (fun (fR:Nat) (lT:List Gate) (kP:List Int)=>⟨[(0,.ptr 0 0 0 0),(2,.fz 1 (ws.map ef)),(9,.fz 1 ((ws.getD 0 []).map ah)),(10,.fz 1 (eh.map ah)),(11,vi gl.length),(12,.aN 112 1 0 kP.length),(118,vi eh.length),(119,vi fR)],[(0,.cells [.aN 1 3 0 lT.length]),(1,.rows 3 (lT.map Gate.row)),(112,.rows 1 (kP.map ah))]⟩) (fun fR lT kP=>((fR:Int) <= (eh.length:Int)) /\ (GL c (gl ++ [(⟨4,(ws.getD 0 []).getD 0 0,0⟩:Gate)]) lT kP (fun i ins=>if (xN ins).testBit 0 then (yN ins).testBit i else (zN ins).testBit i) (t + 50) fR)) (fun fR lT kP=>((eh.length:Int) - (fR:Int)).toNat) 0 (gl ++ [(⟨4,(ws.getD 0 []).getD 0 0,0⟩:Gate)]) ([]:List Int) (⟨pP,GL.init eN.dZ⟩) (Le.mk (.c4 (.c (.cons (aM U aJ) (.c (.cons (ak U aY) .nil))))) (.cons (az U eS) (.c (.c .nil)))) (fun fR lT kP Lq=>?_)
 obtain ⟨Y2,hM⟩:=Lq
 refine .sr (.vl (Y.zb U U) (.nil (.seq (.aB U (fun Um=>?_) (fun Um=>?_)))))
 refine .skip (.seq (.block (.sr (.mv ?_))))
 refine .an (.nil ?_)
 have MB:=hM.len; have TL:=hM.ol; rw [List.length_append,List.length_singleton] at MB; have Un:=(Uj.bit fR om).ext eN; have Uo:=(Uk.bit fR om).ext eN
 refine .de U (.blind 0 U au (ax.move U U) ab (.br (n:=4) [1,2,3,4,5,6,7,8,9,10,11,12,13,14,15] [16,17,18,19] 16 U au ?_))
 refine .cn 1 U (Y.zf U U) (.cn 2 U (Y.zf U U) (.cn 3 U (Y.qr (m:=0) a7 U U aY (ao (d:=0) om)) (.cn 4 U (Y.qz bg U U U U) (.cn 5 U (Y.zf U U) (.cn 6 U (Y.zf U U) (.cn 7 U (Y.zf U U) (.cn 8 U (Y.qr (m:=fR) a7 U U aY (ao (d:=0) om)) (.cn 9 U (Y.qz bg U U U U) (.cn 10 U (Y.zf U U) (.cn 11 U (Y.qr (m:=2) ee U U aY (ao (d:=[]) om)) (.cn 12 U (Y.qz bn U U U U) (.cn 13 U (Y.zf U U) (.cn 14 U (Y.qr (m:=fR) a7 U U aY (ao (d:=0) om)) (.cn 15 U (Y.qz bg U U U U) (.nil (.one 16 U au ?_))))))))))))))))
 refine .b7 [0,1] [] HG (choose_spec (gl:=lT) (s:=(ws.getD 0 []).getD 0 0) (v:=(gl.length:Int)) (y:=eh.getD fR 0) (n:=(ws.getD 2 []).getD fR 0) om) U (.named U U (.ai U U (.ai U U (.ai U U (.ai U U .nil))))) ⟨U,U,trivial⟩ U ab (fun _ h=>by cases h) (fun _ h=>by cases h) ab ab ?_
 rintro r aK ⟨rfl,rfl⟩ _
 refine ⟨⟨rfl,(by intro ob aZ; simp only [List.mem_cons,List.not_mem_nil,or_false] at aZ; rcases aZ with rfl | rfl <;> rfl),.inl rfl⟩,(.nil ⟨U,(.one 17 U au (.buildSlice (([((lT.length:Int) + 2)]:List Int).map ah) a7 dG U U U U U (aq (s:=1) (f:=ah) (fun _=>U)) U U U ab ?_))⟩)⟩
 refine .nil ⟨U,(.one 18 U au (.cJ ah (kP ++ ([((lT.length:Int) + 2)]:List Int)) a7 dG U U U U (bh aJ) (aV aJ) (b8 aJ) aJ aJ ab ab ?_))⟩
 refine .nil ⟨U,(.br (n:=0) [19] [] 0 U au (.cn 19 U (Y.qf U U) (.nil (.done au (.region (.vl (Y.qb U U aJ) (.mv ?_)))))))⟩
 refine .nil (⟨fR + 1,yd lT ((ws.getD 0 []).getD 0 0) (gl.length:Int) (eh.getD fR 0) ((ws.getD 2 []).getD fR 0),kP ++ ([((lT.length:Int) + 2)]:List Int),⟨om,hM.step (Ul.ext eN) nN Un Uo om om om om (fun ins=>U)⟩,om,Le.mk (.c4 (.c (.cons (aM U om) (.c (.cons (ak U aY) .nil))))) (.cons (az U eS) (.c (.c .nil)))⟩)
 refine .exit (.sr (.mv ?_))
 refine .an ?_
 refine .sh (Sh.dL (d:=8) (o:=112) U U (aW om) ab) (.nil (.ret ?_))
 obtain rfl:w = 1:=om; exact ⟨_,_,rfl,rfl,_,_,eN.trans hM.ext,by have:=hM.len; rw [List.length_append,List.length_singleton] at this; omega,Ig hM.ws (by have:=hM.ol; omega) hX.lt Uj.lt Uk.lt om,rfl,rfl⟩
 refine .skip (.sr (.mv ?_))
 refine .mv ?_
 refine .mv ?_
 refine .mv ?_
 refine .vl (Y.ql U U) (.b7 [0,1] [] O7 (y5 (gl:=gl) (a:=ws.getD 0 []) (n:=width) (sg:=decide (op = 23)) hg om hX.wd hI.hw hI.hd hI.t0) U (.named U U (.ai U U (.ai U U (.ai U U .nil)))) ⟨U,U,trivial⟩ U ab (fun _ h=>by cases h) (fun _ h=>by cases h) ab ab ?_)
 rintro r aK ⟨Y3,Up,PV,Uq,PW,rfl,rfl⟩ _
 exact ⟨⟨rfl,(by intro ob aZ; simp only [List.mem_cons,List.not_mem_nil,or_false] at aZ; rcases aZ with rfl | rfl <;> rfl),.inl rfl⟩,(.bX U ab (.nil (.ret ⟨_,_,U,U,_,_,PV,om,Ih PW hX.lt (by simp; omega),U,U⟩)))⟩
open Go Go.AW Go.Proofs
theorem qQ{nm:ByteArray}{ws is:List Int}{cs:List Cell}{fz dn:Int}(Mc:ws.length <= 1048576)(te:cs.length <= 1048576){w:Int}:aw Try.prog 72 [.ptr 0 0 0 0,vi w] [.cells [.v (.string nm),.aN 1 1 0 ws.length,.aN 2 6 0 cs.length,.aN 3 1 0 is.length,.v (.slice none 0 0),.v (.slice none 0 0),.v (.slice none 0 0),.v (.slice none 0 0),vi fz,vi dn,.v (.slice none 0 0)],.rows 1 (ws.map ah),.rows 6 (cs.map Cell.row),.rows 1 (is.map ah)] [0] (fun r o=>r = (vi ws.length) /\ o = [.cells [.v (.string nm),.aN 1 1 0 ((ws ++ [w]).length),.aN 2 6 0 cs.length,.aN 3 1 0 is.length,.v (.slice none 0 0),.v (.slice none 0 0),.v (.slice none 0 0),.v (.slice none 0 0),vi fz,vi dn,.v (.slice none 0 0)],.rows 1 ((ws ++ [w]).map ah),.rows 6 (cs.map Cell.row),.rows 1 (is.map ah)]):=by
 refine aw.of Try.func72 U U U (n:=24) ab (aH U) (.sr (.an (.nil (.sr ?_))))
 refine .mv ?_
 refine .mv ?_
 refine .vl (Y.zk U U) (.fa ja ?_)
 refine .fa bB ?_
 refine .ld bn ?_
 refine .mv ?_
 refine .buildSlice (([w]:List Int).map ah) a7 dG U U U U U (aq (s:=1) (f:=ah) (fun _=>U)) U U U ab ?_
 refine .cJ ah (ws ++ ([w]:List Int)) a7 dG U U U U (bh aJ) (aV aJ) (b8 aJ) aJ aJ ab ab (.vl (Y.zk U U) (.fa ja ?_))
 refine .fa bB ?_
 refine .aj fG U U U U U U (aH U) U (.nil (.sr (.mv ?_)))
 refine .vl (Y.zk U U) (.fa ja ?_)
 refine .fa bB ?_
 refine .ld bn ?_
 refine .vl (Y.qw (n:=(ws ++ ([w]:List Int)).length) a7 U U) (.vl (Y.wa U U aJ) (.an (.nil (.ret ?_))))
 exact ⟨_,_,U,U,Eg (fun (z0:Int)=>X.v (.int .i64 z0)) (by simp:(((ws ++ ([w]:List Int)).length:Nat):Int) - 1 = (ws.length:Int)),U⟩
theorem pb{nm:ByteArray}{ws is:List Int}{cs:List Cell}{fz dn:Int}(Mc:ws.length <= 1048576)(te:cs.length <= 1048576){c:Cell}(hc:c.args.length <= 17592186043904):aw Try.prog 73 [.ptr 0 0 0 0,.agg (Cell.row c)] [.cells [.v (.string nm),.aN 1 1 0 ws.length,.aN 2 6 0 cs.length,.aN 3 1 0 is.length,.v (.slice none 0 0),.v (.slice none 0 0),.v (.slice none 0 0),.v (.slice none 0 0),vi fz,vi dn,.v (.slice none 0 0)],.rows 1 (ws.map ah),.rows 6 (cs.map Cell.row),.rows 1 (is.map ah)] [0] (fun r o=>r = .tup [] /\ o = [.cells [.v (.string nm),.aN 1 1 0 ws.length,.aN 2 6 0 ((cs ++ [c]).length),.aN 3 1 0 is.length,.v (.slice none 0 0),.v (.slice none 0 0),.v (.slice none 0 0),.v (.slice none 0 0),vi fz,vi dn,.v (.slice none 0 0)],.rows 1 (ws.map ah),.rows 6 ((cs ++ [c]).map Cell.row),.rows 1 (is.map ah)]):=by
 refine aw.of Try.func73 U U U (n:=20) ab (aH U) (.sr (.box 103 U U U U U ab ?_))
 refine .nil (.sr (.fa bT ?_))
 refine .ld bn ?_
 refine .aR EF (mI (l:=c.args) (om)) U (.ai U U .nil) ab U ?_
 refine .fa bT ?_
 refine .sh (Sh.cN (d:=6) (c.args.map ah) U iX (cM.map aI)) (.aj fG U U U U U U (aH U) U (.nil (.de U (.blind 0 U au (ax.move U U) ab (.blind 1 U au (ax.move U U) ab ?_)))))
 refine .blind 2 U au (ax.nilCheck U U) ab (.blind 3 U au (ax.fieldAddr ja U U) ab (.blind 4 U au (ax.fieldAddr bS U U) ab ?_))
 refine .two 5 6 U U au ?_ ?_
 refine .ld fU ?_
 refine .nil ⟨U,(.br (n:=6) [6] [7,8,9,10,11,12] 7 U au (.cn 6 U (Y.za fq U U (aH U) U U) (.nil (.one 7 U au (.buildSlice (([c]:List Cell).map Cell.row) dU ez U U U U U (aq (s:=6) (f:=Cell.row) (fun _=>U)) U U U ab ?_)))))⟩
 refine .nil ⟨U,(.one 8 U au (.cJ Cell.row (cs ++ ([c]:List Cell)) dU ez U U U U (bh aJ) (aV aJ) (b8 aJ) aJ aJ ab ab ?_))⟩
 refine .nil ⟨U,(.br (n:=1) [9,10,11] [12] 12 U au (.cn 9 U (Y.zk U U) (.cn 10 U (Y.qo ja U U) (.cn 11 U (Y.qo bS U U) (.nil (.one 12 U au (.aj ti U U U U U U (aH U) U ?_)))))))⟩
 refine .nil ⟨U,(.done au ⟨_,_,U,U,U,U⟩)⟩
 refine .vl (Y.za fq U U (aH U) U U) (.nil ⟨U,(.two 5 7 U U au ?_ ?_)⟩)
 refine .ld fU ?_
 refine .nil ⟨U,(.one 7 U au (.buildSlice (([c]:List Cell).map Cell.row) dU ez U U U U U (aq (s:=6) (f:=Cell.row) (fun _=>U)) U U U ab ?_))⟩
 refine .nil ⟨U,(.one 8 U au (.cJ Cell.row (cs ++ ([c]:List Cell)) dU ez U U U U (bh aJ) (aV aJ) (b8 aJ) aJ aJ ab ab ?_))⟩
 refine .nil ⟨U,(.br (n:=1) [9,10,11] [12] 12 U au (.cn 9 U (Y.zk U U) (.cn 10 U (Y.qo ja U U) (.cn 11 U (Y.qo bS U U) (.nil (.one 12 U au (.aj ti U U U U U U (aH U) U ?_)))))))⟩
 refine .nil ⟨U,(.done au ⟨_,_,U,U,U,U⟩)⟩
 refine .buildSlice (([c]:List Cell).map Cell.row) dU ez U U U U U (aq (s:=6) (f:=Cell.row) (fun _=>U)) U U U ab ?_
 refine .nil ⟨U,(.br (n:=5) [5] [8,9,10,11,12] 8 U au (.cn 5 U (Y.qz fU U U U U) (.nil (.one 8 U au (.cJ Cell.row (cs ++ ([c]:List Cell)) dU ez U U U U (bh aJ) (aV aJ) (b8 aJ) aJ aJ ab ab ?_)))))⟩
 refine .nil ⟨U,(.br (n:=1) [9,10,11] [12] 12 U au (.cn 9 U (Y.zk U U) (.cn 10 U (Y.qo ja U U) (.cn 11 U (Y.qo bS U U) (.nil (.one 12 U au (.aj ti U U U U U U (aH U) U ?_)))))))⟩
 refine .nil ⟨U,(.done au ⟨_,_,U,U,U,U⟩)⟩
theorem y9{nm:ByteArray}{ws is:List Int}{cs:List Cell}{fz dn:Int}(Mc:ws.length <= 1048000)(te:cs.length <= 1048000){w:Int}{x:Nat}(hx:x < 18446744073709551616):aw Try.prog 76 [.ptr 0 0 0 0,vi w,.v (.int .u64 (x:Int))] [.cells [.v (.string nm),.aN 1 1 0 ws.length,.aN 2 6 0 cs.length,.aN 3 1 0 is.length,.v (.slice none 0 0),.v (.slice none 0 0),.v (.slice none 0 0),.v (.slice none 0 0),vi fz,vi dn,.v (.slice none 0 0)],.rows 1 (ws.map ah),.rows 6 (cs.map Cell.row),.rows 1 (is.map ah)] [0] (fun r o=>r = (vi ws.length) /\ o = [.cells [.v (.string nm),.aN 1 1 0 ((ws ++ [w]).length),.aN 2 6 0 ((cs ++ [(⟨1,0,(ws.length:Int),[],gA w x,0⟩:Cell)]).length),.aN 3 1 0 is.length,.v (.slice none 0 0),.v (.slice none 0 0),.v (.slice none 0 0),.v (.slice none 0 0),vi fz,vi dn,.v (.slice none 0 0)],.rows 1 ((ws ++ [w]).map ah),.rows 6 ((cs ++ [(⟨1,0,(ws.length:Int),[],gA w x,0⟩:Cell)]).map Cell.row),.rows 1 (is.map ah)]):=by
 refine aw.of Try.func76 U U U (n:=19) ab (aH U) (.sr (.an (.nil (.sr ?_))))
 refine .mv ?_
 refine .mv ?_
 refine .b7 [0,1,2,3] [] Kr (qQ (w:=w) (ws:=ws) (cs:=cs) (is:=is) (nm:=nm) (fz:=fz) (dn:=dn) om om) U (.named U U (.ai U U .nil)) ⟨U,U,U,U,trivial⟩ U ab (fun _ h=>by cases h) (fun _ h=>by cases h) ab ab ?_
 rintro r aK ⟨rfl,rfl⟩ _
 refine ⟨⟨rfl,(by intro ob aZ; simp only [List.mem_cons,List.not_mem_nil,or_false] at aZ; rcases aZ with rfl | rfl | rfl | rfl <;> rfl),.inl rfl⟩,(.an (.nil (.sr ?_)))⟩
 refine .mv ?_
 refine .mv ?_
 refine .mv ?_
 refine .mv ?_
 refine .aR uw (ke (w:=w) (x:=x) (om)) U (.ai U U (.ai U U .nil)) ab U ?_
 refine .vl (Y.qh vu ez U U U) (.sh (Sh.Eo (d:=16) 1 3 U U) (.b7 [0,1,2,3] [] Ks (pb (c:=(⟨1,0,(((ws).length:Nat):Int),([]:List Int),gA w x,0⟩:Cell)) (ws:=ws ++ [w]) (cs:=cs) (is:=is) (nm:=nm) (fz:=fz) (dn:=dn) aJ aJ (by simp)) U (.named U U (.ai U U .nil)) ⟨U,U,U,U,trivial⟩ U ab (fun _ h=>by cases h) (fun _ h=>by cases h) ab ab ?_))
 rintro r aK ⟨rfl,rfl⟩ _
 refine ⟨⟨rfl,(by intro ob aZ; simp only [List.mem_cons,List.not_mem_nil,or_false] at aZ; rcases aZ with rfl | rfl | rfl | rfl <;> rfl),.inl rfl⟩,(.nil (.sr (.mv ?_)))⟩
 refine .an (.nil (.ret ?_))
 exact ⟨_,_,U,U,U,U⟩
theorem Di{nm:ByteArray}{ws is:List Int}{cs:List Cell}{fz dn:Int}(Mc:ws.length <= 1048000)(te:cs.length <= 1048000){op w:Int}{args:List Int}(hx:args.length <= 17592186043904):aw Try.prog 75 [.ptr 0 0 0 0,vi op,vi w,.fz 1 (args.map ah)] [.cells [.v (.string nm),.aN 1 1 0 ws.length,.aN 2 6 0 cs.length,.aN 3 1 0 is.length,.v (.slice none 0 0),.v (.slice none 0 0),.v (.slice none 0 0),.v (.slice none 0 0),vi fz,vi dn,.v (.slice none 0 0)],.rows 1 (ws.map ah),.rows 6 (cs.map Cell.row),.rows 1 (is.map ah)] [0] (fun r o=>r = (vi ws.length) /\ o = [.cells [.v (.string nm),.aN 1 1 0 ((ws ++ [w]).length),.aN 2 6 0 ((cs ++ [(⟨2,op,(ws.length:Int),args,0,0⟩:Cell)]).length),.aN 3 1 0 is.length,.v (.slice none 0 0),.v (.slice none 0 0),.v (.slice none 0 0),.v (.slice none 0 0),vi fz,vi dn,.v (.slice none 0 0)],.rows 1 ((ws ++ [w]).map ah),.rows 6 ((cs ++ [(⟨2,op,(ws.length:Int),args,0,0⟩:Cell)]).map Cell.row),.rows 1 (is.map ah)]):=by
 refine aw.of Try.func75 U U U (n:=20) ab (aH U) (.sr (.an (.nil (.sr ?_))))
 refine .mv ?_
 refine .mv ?_
 refine .b7 [0,1,2,3] [] Kr (qQ (w:=w) (ws:=ws) (cs:=cs) (is:=is) (nm:=nm) (fz:=fz) (dn:=dn) om om) U (.named U U (.ai U U .nil)) ⟨U,U,U,U,trivial⟩ U ab (fun _ h=>by cases h) (fun _ h=>by cases h) ab ab ?_
 rintro r aK ⟨rfl,rfl⟩ _
 refine ⟨⟨rfl,(by intro ob aZ; simp only [List.mem_cons,List.not_mem_nil,or_false] at aZ; rcases aZ with rfl | rfl | rfl | rfl <;> rfl),.inl rfl⟩,(.an (.nil (.sr ?_)))⟩
 refine .mv ?_
 refine .mv ?_
 refine .mv ?_
 refine .mv ?_
 refine .vl (Y.qh vu ez U U U) (.b7 [0,1,2,3] [] Ks (pb (c:=(⟨2,op,(((ws).length:Nat):Int),args,0,0⟩:Cell)) (ws:=ws ++ [w]) (cs:=cs) (is:=is) (nm:=nm) (fz:=fz) (dn:=dn) aJ aJ aJ) U (.named U U (.ai U U .nil)) ⟨U,U,U,U,trivial⟩ U ab (fun _ h=>by cases h) (fun _ h=>by cases h) ab ab ?_)
 rintro r aK ⟨rfl,rfl⟩ _
 refine ⟨⟨rfl,(by intro ob aZ; simp only [List.mem_cons,List.not_mem_nil,or_false] at aZ; rcases aZ with rfl | rfl | rfl | rfl <;> rfl),.inl rfl⟩,(.nil (.sr (.mv ?_)))⟩
 refine .an (.nil (.ret ?_))
 exact ⟨_,_,U,U,U,U⟩
open Go Go.AW Go.Proofs
theorem IA{op x:Int}(hp:Plain op)(h0:1 <= x)(h1:x <= 64):aw Try.prog 124 [vi op,vi x] [] [] (fun r o=>∃ c:Int,r = .tup [.agg [vi 0,vi x,vi (bo op x.toNat),vi 0,vi 0,vi c],vi 0] /\ o = []):=by
 refine aw.of Try.func124 U U U (n:=184) ab (aH U) ?_
 have LF:=hp; unfold Plain Eu Seq Unary at LF; have zA:=Gi (n:=x.toNat) om; have PX:=Gi (n:=(x + 1).toNat) om; have hle:(x + 1).toNat = x.toNat + 1:=om; have Wx:=Cf h0 h1 zA; have Ur:=Cf h0 h1 PX
 refine .sr (.alloc 104 mi U U ab ?_)
 refine .an ?_
 refine .nil (.seq (.sr (.mv ?_)))
 refine .vl (Y.qy U U) (.mv ?_)
 refine .a8 (d:=12) U (fun yX=>?_) (fun yX=>?_)
 refine .gz 12 (.gz 12 (.pk ?_))
 refine .nil (.aQ U (.sr (.vl (Y.qh sP mi U U U) (.aj cR U U U U U U (aH U) U ?_))))
 refine .an (.nil (.ret ?_))
 first | (exfalso; omega) | exact ⟨_,_,rfl,rfl,0,by rw [show bo op x.toNat = 0 by (try rw [hle]); unfold bo; (repeat' split) <;> omega]; rfl,rfl⟩
 refine .gw 12 (Y.zf U U) (.gw 12 (Y.qp U U) (.pk ?_))
 refine .nil (.aB U (fun tD=>?_) (fun tD=>?_))
 refine .sr (.vl (Y.qh sP mi U U U) (.aj cR U U U U U U (aH U) U ?_))
 refine .an (.nil (.ret ?_))
 first | (exfalso; omega) | exact ⟨_,_,rfl,rfl,0,by rw [show bo op x.toNat = 0 by (try rw [hle]); unfold bo; (repeat' split) <;> omega]; rfl,rfl⟩
 refine .skip (.seq (.sr (.mv ?_)))
 refine .vl (Y.zb U U) (.mv ?_)
 refine .a8 (d:=19) U (fun r7=>?_) (fun r7=>?_)
 refine .gz 19 (.gz 19 (.pk ?_))
 refine .nil (.aQ U (.sr (.vl (Y.qh sP mi U U U) (.aj cR U U U U U U (aH U) U ?_))))
 refine .an (.nil (.ret ?_))
 first | (exfalso; omega) | exact ⟨_,_,rfl,rfl,0,by rw [show bo op x.toNat = 0 by (try rw [hle]); unfold bo; (repeat' split) <;> omega]; rfl,rfl⟩
 refine .gw 19 (Y.zf U U) (.gw 19 (Y.qq U U) (.pk ?_))
 refine .nil (.aB U (fun pU=>?_) (fun pU=>?_))
 refine .sr (.vl (Y.qh sP mi U U U) (.aj cR U U U U U U (aH U) U ?_))
 refine .an (.nil (.ret ?_))
 first | (exfalso; omega) | exact ⟨_,_,rfl,rfl,0,by rw [show bo op x.toNat = 0 by (try rw [hle]); unfold bo; (repeat' split) <;> omega]; rfl,rfl⟩
 refine .skip (.sr (.mv ?_))
 refine .mv ?_
 refine .aR xR (kN (x:=x) (om) (om)) U (.ai U U .nil) ab U ?_
 refine .mv ?_
 refine .vl (Y.qb U U aJ) (.aR xR (kN (x:=(x + 1)) (om) (om)) U (.ai U U .nil) ab U ?_)
 refine .an ?_
 refine .an ?_
 refine .an (.nil (.sr ?_))
 refine .mv ?_
 refine .vl (Y.qh sP mi U U U) (.alloc 109 mi U U ab (.aj cR U U U U U U (aH U) U ?_))
 refine .nil (.seq (.sr (.mv ?_)))
 refine .nil (.block (.seq (.sr (.vl (Y.ql U U) (.an (.nil ?_))))))
 refine .bt U (fun CX=>?_) (fun CX=>?_)
 refine .skip (.aQ U (.region (.mv ?_)))
 refine .fa cS ?_
 refine .aj dT U U U U U U (aH U) U ?_
 refine .fa bU ?_
 refine .aj dT U U U U U U (aH U) U (.nil (.sr (.vl (Y.za dJ U U (aH U) U U) (.aj cR U U U U U U (aH U) U ?_))))
 refine .an (.nil (.ret ?_))
 first | (exfalso; omega) | exact ⟨_,_,rfl,rfl,x,by rw [show bo op x.toNat = 20 by (try rw [hle]); unfold bo; (repeat' split) <;> omega]; rfl,rfl⟩
 refine .sr (.vl (Y.ql U U) (.an (.nil ?_)))
 refine .bt U (fun CX=>?_) (fun CX=>?_)
 refine .skip (.aQ U (.region (.mv ?_)))
 refine .fa cS ?_
 refine .aj dT U U U U U U (aH U) U ?_
 refine .fa bU ?_
 refine .aj dT U U U U U U (aH U) U (.nil (.sr (.vl (Y.za dJ U U (aH U) U U) (.aj cR U U U U U U (aH U) U ?_))))
 refine .an (.nil (.ret ?_))
 first | (exfalso; omega) | exact ⟨_,_,rfl,rfl,x,by rw [show bo op x.toNat = 20 by (try rw [hle]); unfold bo; (repeat' split) <;> omega]; rfl,rfl⟩
 refine .region (.vl (Y.ql U U) (.an (.nil ?_)))
 refine .bt U (fun CX=>?_) (fun CX=>?_)
 refine .region (.mv ?_)
 refine .fa cS ?_
 refine .aj dT U U U U U U (aH U) U ?_
 refine .fa bU ?_
 refine .aj dT U U U U U U (aH U) U (.nil (.sr (.vl (Y.za dJ U U (aH U) U U) (.aj cR U U U U U U (aH U) U ?_))))
 refine .an (.nil (.ret ?_))
 first | (exfalso; omega) | exact ⟨_,_,rfl,rfl,x,by rw [show bo op x.toNat = 20 by (try rw [hle]); unfold bo; (repeat' split) <;> omega]; rfl,rfl⟩
 refine .sr (.vl (Y.ql U U) (.an (.nil ?_)))
 refine .aB U (fun r8=>?_) (fun r8=>?_)
 refine .region (.mv ?_)
 refine .vl (Y.zh U U om) (.vl (Y.qb U U aJ) (.mv ?_))
 refine .vl (Y.zh U U om) (.mv ?_)
 refine .vl (Y.zh U U om) (.mv ?_)
 refine .vl (Y.zh U U om) (.vl (Y.qb U U aJ) (.fa cS ?_))
 refine .aj dT U U U U U U (aH U) U ?_
 refine .fa bU ?_
 refine .aj dT U U U U U U (aH U) U (.nil (.sr (.vl (Y.za dJ U U (aH U) U U) (.aj cR U U U U U U (aH U) U ?_))))
 refine .an (.nil (.ret ?_))
 first | (exfalso; omega) | exact ⟨_,_,rfl,rfl,(3 * x) + ((3 * x) * ((dI x.toNat:Nat):Int)),by rw [show bo op x.toNat = 40 + (40 * ((dI x.toNat:Nat):Int)) by (try rw [hle]); unfold bo; (repeat' split) <;> omega]; rfl,rfl⟩
 refine .sr (.vl (Y.ql U U) (.an (.nil ?_)))
 refine .aB U (fun DB=>?_) (fun DB=>?_)
 refine .region (.mv ?_)
 refine .vl (Y.zh U U om) (.vl (Y.qb U U aJ) (.mv ?_))
 refine .vl (Y.zh U U om) (.mv ?_)
 refine .vl (Y.zh U U om) (.mv ?_)
 refine .vl (Y.zh U U om) (.vl (Y.qb U U aJ) (.fa cS ?_))
 refine .aj dT U U U U U U (aH U) U ?_
 refine .fa bU ?_
 refine .aj dT U U U U U U (aH U) U (.nil (.sr (.vl (Y.za dJ U U (aH U) U U) (.aj cR U U U U U U (aH U) U ?_))))
 refine .an (.nil (.ret ?_))
 first | (exfalso; omega) | exact ⟨_,_,rfl,rfl,(4 * x) + ((3 * x) * ((dI x.toNat:Nat):Int)),by rw [show bo op x.toNat = 50 + (40 * ((dI x.toNat:Nat):Int)) by (try rw [hle]); unfold bo; (repeat' split) <;> omega]; rfl,rfl⟩
 refine .seq (.sr (.vl (Y.ql U U) (.an (.nil ?_))))
 refine .bt U (fun Cc=>?_) (fun Cc=>?_)
 refine .skip (.aQ U (.region (.mv ?_)))
 refine .vl (Y.zh U U om) (.vl (Y.qb U U aJ) (.mv ?_))
 refine .vl (Y.zh U U om) (.fa cS ?_)
 refine .aj dT U U U U U U (aH U) U ?_
 refine .fa bU ?_
 refine .aj dT U U U U U U (aH U) U (.nil (.sr (.vl (Y.za dJ U U (aH U) U U) (.aj cR U U U U U U (aH U) U ?_))))
 refine .an (.nil (.ret ?_))
 first | (exfalso; omega) | exact ⟨_,_,rfl,rfl,2 * x,by rw [show bo op x.toNat = 30 + (20 * ((dI x.toNat:Nat):Int)) by (try rw [hle]); unfold bo; (repeat' split) <;> omega]; rfl,rfl⟩
 refine .region (.vl (Y.ql U U) (.an (.nil ?_)))
 refine .bt U (fun Cc=>?_) (fun Cc=>?_)
 refine .region (.mv ?_)
 refine .vl (Y.zh U U om) (.vl (Y.qb U U aJ) (.mv ?_))
 refine .vl (Y.zh U U om) (.fa cS ?_)
 refine .aj dT U U U U U U (aH U) U ?_
 refine .fa bU ?_
 refine .aj dT U U U U U U (aH U) U (.nil (.sr (.vl (Y.za dJ U U (aH U) U U) (.aj cR U U U U U U (aH U) U ?_))))
 refine .an (.nil (.ret ?_))
 first | (exfalso; omega) | exact ⟨_,_,rfl,rfl,2 * x,by rw [show bo op x.toNat = 30 + (20 * ((dI x.toNat:Nat):Int)) by (try rw [hle]); unfold bo; (repeat' split) <;> omega]; rfl,rfl⟩
 refine .seq (.sr (.vl (Y.ql U U) (.an (.nil ?_))))
 refine .bt U (fun FN=>?_) (fun FN=>?_)
 refine .skip (.aQ U (.region (.mv ?_)))
 refine .vl (Y.zh U U om) (.vl (Y.qb U U aJ) (.mv ?_))
 refine .vl (Y.zh U U om) (.mv ?_)
 refine .vl (Y.zh U U om) (.mv ?_)
 refine .vl (Y.zh U U om) (.vl (Y.qb U U aJ) (.fa cS ?_))
 refine .aj dT U U U U U U (aH U) U ?_
 refine .fa bU ?_
 refine .aj dT U U U U U U (aH U) U (.nil (.sr (.vl (Y.za dJ U U (aH U) U U) (.aj cR U U U U U U (aH U) U ?_))))
 refine .an (.nil (.ret ?_))
 first | (exfalso; omega) | exact ⟨_,_,rfl,rfl,(4 * x) + ((3 * x) * ((dI (x + 1).toNat:Nat):Int)),by rw [show bo op x.toNat = 40 + (40 * ((dI (x + 1).toNat:Nat):Int)) by (try rw [hle]); unfold bo; (repeat' split) <;> omega]; rfl,rfl⟩
 refine .region (.vl (Y.ql U U) (.an (.nil ?_)))
 refine .bt U (fun FN=>?_) (fun FN=>?_)
 refine .region (.mv ?_)
 refine .vl (Y.zh U U om) (.vl (Y.qb U U aJ) (.mv ?_))
 refine .vl (Y.zh U U om) (.mv ?_)
 refine .vl (Y.zh U U om) (.mv ?_)
 refine .vl (Y.zh U U om) (.vl (Y.qb U U aJ) (.fa cS ?_))
 refine .aj dT U U U U U U (aH U) U ?_
 refine .fa bU ?_
 refine .aj dT U U U U U U (aH U) U (.nil (.sr (.vl (Y.za dJ U U (aH U) U U) (.aj cR U U U U U U (aH U) U ?_))))
 refine .an (.nil (.ret ?_))
 first | (exfalso; omega) | exact ⟨_,_,rfl,rfl,(4 * x) + ((3 * x) * ((dI (x + 1).toNat:Nat):Int)),by rw [show bo op x.toNat = 40 + (40 * ((dI (x + 1).toNat:Nat):Int)) by (try rw [hle]); unfold bo; (repeat' split) <;> omega]; rfl,rfl⟩
 refine .seq (.sr (.vl (Y.ql U U) (.an (.nil ?_))))
 refine .bt U (fun yW=>?_) (fun yW=>?_)
 refine .skip (.aQ U (.region (.mv ?_)))
 refine .vl (Y.zh U U om) (.vl (Y.qb U U aJ) (.mv ?_))
 refine .vl (Y.zh U U om) (.mv ?_)
 refine .vl (Y.zh U U om) (.mv ?_)
 refine .vl (Y.zh U U om) (.vl (Y.qb U U aJ) (.vl (Y.qb U U aJ) (.fa cS ?_)))
 refine .aj dT U U U U U U (aH U) U ?_
 refine .fa bU ?_
 refine .aj dT U U U U U U (aH U) U (.nil (.sr (.vl (Y.za dJ U U (aH U) U U) (.aj cR U U U U U U (aH U) U ?_))))
 refine .an (.nil (.ret ?_))
 first | (exfalso; omega) | exact ⟨_,_,rfl,rfl,((4 * x) + ((3 * x) * ((dI (x + 1).toNat:Nat):Int))) + 2,by rw [show bo op x.toNat = 50 + (40 * ((dI (x + 1).toNat:Nat):Int)) by (try rw [hle]); unfold bo; (repeat' split) <;> omega]; rfl,rfl⟩
 refine .region (.vl (Y.ql U U) (.an (.nil ?_)))
 refine .bt U (fun yW=>?_) (fun yW=>?_)
 refine .region (.mv ?_)
 refine .vl (Y.zh U U om) (.vl (Y.qb U U aJ) (.mv ?_))
 refine .vl (Y.zh U U om) (.mv ?_)
 refine .vl (Y.zh U U om) (.mv ?_)
 refine .vl (Y.zh U U om) (.vl (Y.qb U U aJ) (.vl (Y.qb U U aJ) (.fa cS ?_)))
 refine .aj dT U U U U U U (aH U) U ?_
 refine .fa bU ?_
 refine .aj dT U U U U U U (aH U) U (.nil (.sr (.vl (Y.za dJ U U (aH U) U U) (.aj cR U U U U U U (aH U) U ?_))))
 refine .an (.nil (.ret ?_))
 first | (exfalso; omega) | exact ⟨_,_,rfl,rfl,((4 * x) + ((3 * x) * ((dI (x + 1).toNat:Nat):Int))) + 2,by rw [show bo op x.toNat = 50 + (40 * ((dI (x + 1).toNat:Nat):Int)) by (try rw [hle]); unfold bo; (repeat' split) <;> omega]; rfl,rfl⟩
 refine .sr (.vl (Y.ql U U) (.an (.nil ?_)))
 refine .aB U (fun LG=>?_) (fun LG=>?_)
 refine .region (.mv ?_)
 refine .vl (Y.zh U U om) (.vl (Y.qb U U aJ) (.fa cS ?_))
 refine .aj dT U U U U U U (aH U) U ?_
 refine .fa bU ?_
 refine .aj dT U U U U U U (aH U) U (.nil (.sr (.vl (Y.za dJ U U (aH U) U U) (.aj cR U U U U U U (aH U) U ?_))))
 refine .an (.nil (.ret ?_))
 first | (exfalso; omega) | exact ⟨_,_,rfl,rfl,(3 * x) + 1,by rw [show bo op x.toNat = 50 by (try rw [hle]); unfold bo; (repeat' split) <;> omega]; rfl,rfl⟩
 refine .seq (.sr (.vl (Y.ql U U) (.an (.nil ?_))))
 refine .bt U (fun vc=>?_) (fun vc=>?_)
 refine .skip (.aQ U (.region (.mv ?_)))
 refine .vl (Y.zh U U om) (.vl (Y.qb U U aJ) (.mv ?_))
 refine .vl (Y.zh U U om) (.mv ?_)
 refine .vl (Y.zh U U om) (.mv ?_)
 refine .vl (Y.zh U U om) (.vl (Y.qb U U aJ) (.fa cS ?_))
 refine .aj dT U U U U U U (aH U) U ?_
 refine .fa bU ?_
 refine .aj dT U U U U U U (aH U) U (.nil (.sr (.vl (Y.za dJ U U (aH U) U U) (.aj cR U U U U U U (aH U) U ?_))))
 refine .an (.nil (.ret ?_))
 first | (exfalso; omega) | exact ⟨_,_,rfl,rfl,(2 * x) + ((3 * x) * ((dI x.toNat:Nat):Int)),by rw [show bo op x.toNat = 30 + (40 * ((dI x.toNat:Nat):Int)) by (try rw [hle]); unfold bo; (repeat' split) <;> omega]; rfl,rfl⟩
 refine .region (.vl (Y.ql U U) (.an (.nil ?_)))
 refine .bt U (fun vc=>?_) (fun vc=>?_)
 refine .region (.mv ?_)
 refine .vl (Y.zh U U om) (.vl (Y.qb U U aJ) (.mv ?_))
 refine .vl (Y.zh U U om) (.mv ?_)
 refine .vl (Y.zh U U om) (.mv ?_)
 refine .vl (Y.zh U U om) (.vl (Y.qb U U aJ) (.fa cS ?_))
 refine .aj dT U U U U U U (aH U) U ?_
 refine .fa bU ?_
 refine .aj dT U U U U U U (aH U) U (.nil (.sr (.vl (Y.za dJ U U (aH U) U U) (.aj cR U U U U U U (aH U) U ?_))))
 refine .an (.nil (.ret ?_))
 first | (exfalso; omega) | exact ⟨_,_,rfl,rfl,(2 * x) + ((3 * x) * ((dI x.toNat:Nat):Int)),by rw [show bo op x.toNat = 30 + (40 * ((dI x.toNat:Nat):Int)) by (try rw [hle]); unfold bo; (repeat' split) <;> omega]; rfl,rfl⟩
 refine .sr (.vl (Y.ql U U) (.an (.nil ?_)))
 refine .aB U (fun oR=>?_) (fun oR=>?_)
 refine .region (.mv ?_)
 refine .vl (Y.zh U U om) (.vl (Y.qb U U aJ) (.mv ?_))
 refine .vl (Y.zh U U om) (.mv ?_)
 refine .vl (Y.zh U U om) (.mv ?_)
 refine .vl (Y.zh U U om) (.vl (Y.qb U U aJ) (.fa cS ?_))
 refine .aj dT U U U U U U (aH U) U ?_
 refine .fa bU ?_
 refine .aj dT U U U U U U (aH U) U (.nil (.sr (.vl (Y.za dJ U U (aH U) U U) (.aj cR U U U U U U (aH U) U ?_))))
 refine .an (.nil (.ret ?_))
 first | (exfalso; omega) | exact ⟨_,_,rfl,rfl,(4 * x) + ((3 * x) * ((dI x.toNat:Nat):Int)),by rw [show bo op x.toNat = 50 + (40 * ((dI x.toNat:Nat):Int)) by (try rw [hle]); unfold bo; (repeat' split) <;> omega]; rfl,rfl⟩
 refine .sr (.vl (Y.ql U U) (.an (.nil ?_)))
 refine .aB U (fun AP=>?_) (fun AP=>?_)
 refine .region (.mv ?_)
 refine .vl (Y.qb U U aJ) (.vl (Y.zo U U om) (.vl (Y.qb U U aJ) (.mv ?_)))
 refine .vl (Y.zh U U om) (.mv ?_)
 refine .vl (Y.zh U U om) (.fa iZ ?_)
 refine .aj dT U U U U U U (aH U) U ?_
 refine .fa kz ?_
 refine .aj dT U U U U U U (aH U) U ?_
 refine .fa kA ?_
 refine .aj dT U U U U U U (aH U) U ?_
 refine .fa bU ?_
 refine .aj dT U U U U U U (aH U) U (.nil (.sr (.vl (Y.za dJ U U (aH U) U U) (.aj cR U U U U U U (aH U) U ?_))))
 refine .an (.nil (.ret ?_))
 first | (exfalso; omega) | exact ⟨_,_,rfl,rfl,(6 * x) * x,by rw [show bo op x.toNat = 0 by (try rw [hle]); unfold bo; (repeat' split) <;> omega]; rfl,rfl⟩
 refine .seq (.sr (.vl (Y.ql U U) (.an (.nil ?_))))
 refine .bt U (fun kl=>?_) (fun kl=>?_)
 refine .skip (.aQ U (.sr (.mv ?_)))
 refine .vl (Y.qb U U aJ) (.vl (Y.wa U U aJ) (.fa iZ ?_))
 refine .aj dT U U U U U U (aH U) U (.nil (.region (.mv ?_)))
 refine .vl (Y.qb U U aJ) (.vl (Y.zo U U om) (.vl (Y.qb U U aJ) (.mv ?_)))
 refine .vl (Y.qb U U aJ) (.vl (Y.zo U U om) (.vl (Y.qb U U aJ) (.mv ?_)))
 refine .vl (Y.zh U U om) (.mv ?_)
 refine .vl (Y.zh U U om) (.fa kz ?_)
 refine .aj dT U U U U U U (aH U) U ?_
 refine .fa kA ?_
 refine .aj dT U U U U U U (aH U) U ?_
 refine .fa bU ?_
 refine .aj dT U U U U U U (aH U) U (.nil (.sr (.vl (Y.za dJ U U (aH U) U U) (.aj cR U U U U U U (aH U) U ?_))))
 refine .an (.nil (.ret ?_))
 first | (exfalso; omega) | exact ⟨_,_,rfl,rfl,(8 * x) * x,by rw [show bo op x.toNat = 0 by (try rw [hle]); unfold bo; (repeat' split) <;> omega]; rfl,rfl⟩
 refine .sr (.vl (Y.ql U U) (.an (.nil ?_)))
 refine .bt U (fun kl=>?_) (fun kl=>?_)
 refine .skip (.aQ U (.sr (.mv ?_)))
 refine .vl (Y.qb U U aJ) (.vl (Y.wa U U aJ) (.fa iZ ?_))
 refine .aj dT U U U U U U (aH U) U (.nil (.region (.mv ?_)))
 refine .vl (Y.qb U U aJ) (.vl (Y.zo U U om) (.vl (Y.qb U U aJ) (.mv ?_)))
 refine .vl (Y.qb U U aJ) (.vl (Y.zo U U om) (.vl (Y.qb U U aJ) (.mv ?_)))
 refine .vl (Y.zh U U om) (.mv ?_)
 refine .vl (Y.zh U U om) (.fa kz ?_)
 refine .aj dT U U U U U U (aH U) U ?_
 refine .fa kA ?_
 refine .aj dT U U U U U U (aH U) U ?_
 refine .fa bU ?_
 refine .aj dT U U U U U U (aH U) U (.nil (.sr (.vl (Y.za dJ U U (aH U) U U) (.aj cR U U U U U U (aH U) U ?_))))
 refine .an (.nil (.ret ?_))
 first | (exfalso; omega) | exact ⟨_,_,rfl,rfl,(8 * x) * x,by rw [show bo op x.toNat = 0 by (try rw [hle]); unfold bo; (repeat' split) <;> omega]; rfl,rfl⟩
 refine .sr (.vl (Y.ql U U) (.an (.nil ?_)))
 refine .bt U (fun kl=>?_) (fun kl=>?_)
 refine .skip (.aQ U (.sr (.mv ?_)))
 refine .vl (Y.qb U U aJ) (.vl (Y.wa U U aJ) (.fa iZ ?_))
 refine .aj dT U U U U U U (aH U) U (.nil (.region (.mv ?_)))
 refine .vl (Y.qb U U aJ) (.vl (Y.zo U U om) (.vl (Y.qb U U aJ) (.mv ?_)))
 refine .vl (Y.qb U U aJ) (.vl (Y.zo U U om) (.vl (Y.qb U U aJ) (.mv ?_)))
 refine .vl (Y.zh U U om) (.mv ?_)
 refine .vl (Y.zh U U om) (.fa kz ?_)
 refine .aj dT U U U U U U (aH U) U ?_
 refine .fa kA ?_
 refine .aj dT U U U U U U (aH U) U ?_
 refine .fa bU ?_
 refine .aj dT U U U U U U (aH U) U (.nil (.sr (.vl (Y.za dJ U U (aH U) U U) (.aj cR U U U U U U (aH U) U ?_))))
 refine .an (.nil (.ret ?_))
 first | (exfalso; omega) | exact ⟨_,_,rfl,rfl,(8 * x) * x,by rw [show bo op x.toNat = 0 by (try rw [hle]); unfold bo; (repeat' split) <;> omega]; rfl,rfl⟩
 refine .region (.vl (Y.ql U U) (.an (.nil ?_)))
 refine .bt U (fun kl=>?_) (fun kl=>?_)
 refine .sr (.mv ?_)
 refine .vl (Y.qb U U aJ) (.vl (Y.wa U U aJ) (.fa iZ ?_))
 refine .aj dT U U U U U U (aH U) U (.nil (.region (.mv ?_)))
 refine .vl (Y.qb U U aJ) (.vl (Y.zo U U om) (.vl (Y.qb U U aJ) (.mv ?_)))
 refine .vl (Y.qb U U aJ) (.vl (Y.zo U U om) (.vl (Y.qb U U aJ) (.mv ?_)))
 refine .vl (Y.zh U U om) (.mv ?_)
 refine .vl (Y.zh U U om) (.fa kz ?_)
 refine .aj dT U U U U U U (aH U) U ?_
 refine .fa kA ?_
 refine .aj dT U U U U U U (aH U) U ?_
 refine .fa bU ?_
 refine .aj dT U U U U U U (aH U) U (.nil (.sr (.vl (Y.za dJ U U (aH U) U U) (.aj cR U U U U U U (aH U) U ?_))))
 refine .an (.nil (.ret ?_))
 first | (exfalso; omega) | exact ⟨_,_,rfl,rfl,(8 * x) * x,by rw [show bo op x.toNat = 0 by (try rw [hle]); unfold bo; (repeat' split) <;> omega]; rfl,rfl⟩
 refine .skip (.sr (.vl (Y.za dJ U U (aH U) U U) (.aj cR U U U U U U (aH U) U ?_)))
 refine .an (.nil (.ret ?_))
 first | (exfalso; omega) | exact ⟨_,_,rfl,rfl,0,by rw [show bo op x.toNat = 0 by (try rw [hle]); unfold bo; (repeat' split) <;> omega]; rfl,rfl⟩
open Go Go.AW Go.Proofs
theorem Gt{op:Int}(hp:¬ Plain op):aw Try.prog 124 [vi op,vi 1] [] [] (fun r o=>∃ a b c d e f k:Int,(k ≠ 0 \/ a ≠ 0) /\ r = .tup [.agg [vi a,vi b,vi c,vi d,vi e,vi f],vi k] /\ o = []):=by
 refine aw.of Try.func124 U U U (n:=184) ab (aH U) ?_
 have LF:=hp; unfold Plain Eu Seq Unary at LF; have zA:dI (Int.toNat 1) = 0:=rfl; have PX:dI (Int.toNat 2) = 1:=rfl
 refine .sr (.alloc 104 mi U U ab ?_)
 refine .an ?_
 refine .nil (.seq (.sr (.mv ?_)))
 refine .vl (Y.qy U U) (.mv ?_)
 refine .a8 (d:=12) U (fun yX=>?_) (fun yX=>?_)
 refine .gz 12 (.gz 12 (.pk ?_))
 refine .nil (.aQ U (.sr (.vl (Y.qh sP mi U U U) (.aj cR U U U U U U (aH U) U ?_))))
 refine .an (.nil (.ret ?_))
 first | (exfalso; omega) | exact ⟨_,_,rfl,rfl,_,_,_,_,_,_,_,om,rfl,rfl⟩
 refine .gw 12 (Y.zf U U) (.gw 12 (Y.qp U U) (.pk ?_))
 refine .nil (.aB U (fun tD=>?_) (fun tD=>?_))
 refine .sr (.vl (Y.qh sP mi U U U) (.aj cR U U U U U U (aH U) U ?_))
 refine .an (.nil (.ret ?_))
 first | (exfalso; omega) | exact ⟨_,_,rfl,rfl,_,_,_,_,_,_,_,om,rfl,rfl⟩
 refine .skip (.seq (.sr (.mv ?_)))
 refine .vl (Y.zb U U) (.mv ?_)
 refine .gw 19 (Y.zf U U) (.gw 19 (Y.qq U U) (.pk ?_))
 refine .nil (.cu U (.skip (.sr (.mv ?_))))
 refine .mv ?_
 refine .aR xR (kN (x:=1) (om) (om)) U (.ai U U .nil) ab U ?_
 refine .mv ?_
 refine .vl (Y.qb U U aJ) (.aR xR (kN (x:=(1 + 1)) (om) (om)) U (.ai U U .nil) ab U ?_)
 refine .an ?_
 refine .an ?_
 refine .an (.nil (.sr ?_))
 refine .mv ?_
 refine .vl (Y.qh sP mi U U U) (.alloc 109 mi U U ab (.aj cR U U U U U U (aH U) U ?_))
 refine .nil (.seq (.sr (.mv ?_)))
 refine .nil (.block (.seq (.sr (.vl (Y.ql U U) (.an (.nil ?_))))))
 refine .bt U (fun CX=>?_) (fun CX=>?_)
 refine .skip (.aQ U (.region (.mv ?_)))
 refine .fa cS ?_
 refine .aj dT U U U U U U (aH U) U ?_
 refine .fa bU ?_
 refine .aj dT U U U U U U (aH U) U (.nil (.sr (.vl (Y.za dJ U U (aH U) U U) (.aj cR U U U U U U (aH U) U ?_))))
 refine .an (.nil (.ret ?_))
 first | (exfalso; omega) | exact ⟨_,_,rfl,rfl,_,_,_,_,_,_,_,om,rfl,rfl⟩
 refine .sr (.vl (Y.ql U U) (.an (.nil ?_)))
 refine .bt U (fun CX=>?_) (fun CX=>?_)
 refine .skip (.aQ U (.region (.mv ?_)))
 refine .fa cS ?_
 refine .aj dT U U U U U U (aH U) U ?_
 refine .fa bU ?_
 refine .aj dT U U U U U U (aH U) U (.nil (.sr (.vl (Y.za dJ U U (aH U) U U) (.aj cR U U U U U U (aH U) U ?_))))
 refine .an (.nil (.ret ?_))
 first | (exfalso; omega) | exact ⟨_,_,rfl,rfl,_,_,_,_,_,_,_,om,rfl,rfl⟩
 refine .region (.vl (Y.ql U U) (.an (.nil ?_)))
 refine .bt U (fun CX=>?_) (fun CX=>?_)
 refine .region (.mv ?_)
 refine .fa cS ?_
 refine .aj dT U U U U U U (aH U) U ?_
 refine .fa bU ?_
 refine .aj dT U U U U U U (aH U) U (.nil (.sr (.vl (Y.za dJ U U (aH U) U U) (.aj cR U U U U U U (aH U) U ?_))))
 refine .an (.nil (.ret ?_))
 first | (exfalso; omega) | exact ⟨_,_,rfl,rfl,_,_,_,_,_,_,_,om,rfl,rfl⟩
 refine .sr (.vl (Y.ql U U) (.an (.nil ?_)))
 refine .aB U (fun r8=>?_) (fun r8=>?_)
 refine .region (.mv ?_)
 refine .vl (Y.zh U U om) (.vl (Y.qb U U aJ) (.mv ?_))
 refine .vl (Y.zh U U om) (.mv ?_)
 refine .vl (Y.zh U U om) (.mv ?_)
 refine .vl (Y.zh U U om) (.vl (Y.qb U U aJ) (.fa cS ?_))
 refine .aj dT U U U U U U (aH U) U ?_
 refine .fa bU ?_
 refine .aj dT U U U U U U (aH U) U (.nil (.sr (.vl (Y.za dJ U U (aH U) U U) (.aj cR U U U U U U (aH U) U ?_))))
 refine .an (.nil (.ret ?_))
 first | (exfalso; omega) | exact ⟨_,_,rfl,rfl,_,_,_,_,_,_,_,om,rfl,rfl⟩
 refine .sr (.vl (Y.ql U U) (.an (.nil ?_)))
 refine .aB U (fun DB=>?_) (fun DB=>?_)
 refine .region (.mv ?_)
 refine .vl (Y.zh U U om) (.vl (Y.qb U U aJ) (.mv ?_))
 refine .vl (Y.zh U U om) (.mv ?_)
 refine .vl (Y.zh U U om) (.mv ?_)
 refine .vl (Y.zh U U om) (.vl (Y.qb U U aJ) (.fa cS ?_))
 refine .aj dT U U U U U U (aH U) U ?_
 refine .fa bU ?_
 refine .aj dT U U U U U U (aH U) U (.nil (.sr (.vl (Y.za dJ U U (aH U) U U) (.aj cR U U U U U U (aH U) U ?_))))
 refine .an (.nil (.ret ?_))
 first | (exfalso; omega) | exact ⟨_,_,rfl,rfl,_,_,_,_,_,_,_,om,rfl,rfl⟩
 refine .seq (.sr (.vl (Y.ql U U) (.an (.nil ?_))))
 refine .bt U (fun Cc=>?_) (fun Cc=>?_)
 refine .skip (.aQ U (.region (.mv ?_)))
 refine .vl (Y.zh U U om) (.vl (Y.qb U U aJ) (.mv ?_))
 refine .vl (Y.zh U U om) (.fa cS ?_)
 refine .aj dT U U U U U U (aH U) U ?_
 refine .fa bU ?_
 refine .aj dT U U U U U U (aH U) U (.nil (.sr (.vl (Y.za dJ U U (aH U) U U) (.aj cR U U U U U U (aH U) U ?_))))
 refine .an (.nil (.ret ?_))
 first | (exfalso; omega) | exact ⟨_,_,rfl,rfl,_,_,_,_,_,_,_,om,rfl,rfl⟩
 refine .region (.vl (Y.ql U U) (.an (.nil ?_)))
 refine .bt U (fun Cc=>?_) (fun Cc=>?_)
 refine .region (.mv ?_)
 refine .vl (Y.zh U U om) (.vl (Y.qb U U aJ) (.mv ?_))
 refine .vl (Y.zh U U om) (.fa cS ?_)
 refine .aj dT U U U U U U (aH U) U ?_
 refine .fa bU ?_
 refine .aj dT U U U U U U (aH U) U (.nil (.sr (.vl (Y.za dJ U U (aH U) U U) (.aj cR U U U U U U (aH U) U ?_))))
 refine .an (.nil (.ret ?_))
 first | (exfalso; omega) | exact ⟨_,_,rfl,rfl,_,_,_,_,_,_,_,om,rfl,rfl⟩
 refine .seq (.sr (.vl (Y.ql U U) (.an (.nil ?_))))
 refine .bt U (fun FN=>?_) (fun FN=>?_)
 refine .skip (.aQ U (.region (.mv ?_)))
 refine .vl (Y.zh U U om) (.vl (Y.qb U U aJ) (.mv ?_))
 refine .vl (Y.zh U U om) (.mv ?_)
 refine .vl (Y.zh U U om) (.mv ?_)
 refine .vl (Y.zh U U om) (.vl (Y.qb U U aJ) (.fa cS ?_))
 refine .aj dT U U U U U U (aH U) U ?_
 refine .fa bU ?_
 refine .aj dT U U U U U U (aH U) U (.nil (.sr (.vl (Y.za dJ U U (aH U) U U) (.aj cR U U U U U U (aH U) U ?_))))
 refine .an (.nil (.ret ?_))
 first | (exfalso; omega) | exact ⟨_,_,rfl,rfl,_,_,_,_,_,_,_,om,rfl,rfl⟩
 refine .region (.vl (Y.ql U U) (.an (.nil ?_)))
 refine .bt U (fun FN=>?_) (fun FN=>?_)
 refine .region (.mv ?_)
 refine .vl (Y.zh U U om) (.vl (Y.qb U U aJ) (.mv ?_))
 refine .vl (Y.zh U U om) (.mv ?_)
 refine .vl (Y.zh U U om) (.mv ?_)
 refine .vl (Y.zh U U om) (.vl (Y.qb U U aJ) (.fa cS ?_))
 refine .aj dT U U U U U U (aH U) U ?_
 refine .fa bU ?_
 refine .aj dT U U U U U U (aH U) U (.nil (.sr (.vl (Y.za dJ U U (aH U) U U) (.aj cR U U U U U U (aH U) U ?_))))
 refine .an (.nil (.ret ?_))
 first | (exfalso; omega) | exact ⟨_,_,rfl,rfl,_,_,_,_,_,_,_,om,rfl,rfl⟩
 refine .seq (.sr (.vl (Y.ql U U) (.an (.nil ?_))))
 refine .bt U (fun yW=>?_) (fun yW=>?_)
 refine .skip (.aQ U (.region (.mv ?_)))
 refine .vl (Y.zh U U om) (.vl (Y.qb U U aJ) (.mv ?_))
 refine .vl (Y.zh U U om) (.mv ?_)
 refine .vl (Y.zh U U om) (.mv ?_)
 refine .vl (Y.zh U U om) (.vl (Y.qb U U aJ) (.vl (Y.qb U U aJ) (.fa cS ?_)))
 refine .aj dT U U U U U U (aH U) U ?_
 refine .fa bU ?_
 refine .aj dT U U U U U U (aH U) U (.nil (.sr (.vl (Y.za dJ U U (aH U) U U) (.aj cR U U U U U U (aH U) U ?_))))
 refine .an (.nil (.ret ?_))
 first | (exfalso; omega) | exact ⟨_,_,rfl,rfl,_,_,_,_,_,_,_,om,rfl,rfl⟩
 refine .region (.vl (Y.ql U U) (.an (.nil ?_)))
 refine .bt U (fun yW=>?_) (fun yW=>?_)
 refine .region (.mv ?_)
 refine .vl (Y.zh U U om) (.vl (Y.qb U U aJ) (.mv ?_))
 refine .vl (Y.zh U U om) (.mv ?_)
 refine .vl (Y.zh U U om) (.mv ?_)
 refine .vl (Y.zh U U om) (.vl (Y.qb U U aJ) (.vl (Y.qb U U aJ) (.fa cS ?_)))
 refine .aj dT U U U U U U (aH U) U ?_
 refine .fa bU ?_
 refine .aj dT U U U U U U (aH U) U (.nil (.sr (.vl (Y.za dJ U U (aH U) U U) (.aj cR U U U U U U (aH U) U ?_))))
 refine .an (.nil (.ret ?_))
 first | (exfalso; omega) | exact ⟨_,_,rfl,rfl,_,_,_,_,_,_,_,om,rfl,rfl⟩
 refine .sr (.vl (Y.ql U U) (.an (.nil ?_)))
 refine .aB U (fun LG=>?_) (fun LG=>?_)
 refine .region (.mv ?_)
 refine .vl (Y.zh U U om) (.vl (Y.qb U U aJ) (.fa cS ?_))
 refine .aj dT U U U U U U (aH U) U ?_
 refine .fa bU ?_
 refine .aj dT U U U U U U (aH U) U (.nil (.sr (.vl (Y.za dJ U U (aH U) U U) (.aj cR U U U U U U (aH U) U ?_))))
 refine .an (.nil (.ret ?_))
 first | (exfalso; omega) | exact ⟨_,_,rfl,rfl,_,_,_,_,_,_,_,om,rfl,rfl⟩
 refine .seq (.sr (.vl (Y.ql U U) (.an (.nil ?_))))
 refine .bt U (fun vc=>?_) (fun vc=>?_)
 refine .skip (.aQ U (.region (.mv ?_)))
 refine .vl (Y.zh U U om) (.vl (Y.qb U U aJ) (.mv ?_))
 refine .vl (Y.zh U U om) (.mv ?_)
 refine .vl (Y.zh U U om) (.mv ?_)
 refine .vl (Y.zh U U om) (.vl (Y.qb U U aJ) (.fa cS ?_))
 refine .aj dT U U U U U U (aH U) U ?_
 refine .fa bU ?_
 refine .aj dT U U U U U U (aH U) U (.nil (.sr (.vl (Y.za dJ U U (aH U) U U) (.aj cR U U U U U U (aH U) U ?_))))
 refine .an (.nil (.ret ?_))
 first | (exfalso; omega) | exact ⟨_,_,rfl,rfl,_,_,_,_,_,_,_,om,rfl,rfl⟩
 refine .region (.vl (Y.ql U U) (.an (.nil ?_)))
 refine .bt U (fun vc=>?_) (fun vc=>?_)
 refine .region (.mv ?_)
 refine .vl (Y.zh U U om) (.vl (Y.qb U U aJ) (.mv ?_))
 refine .vl (Y.zh U U om) (.mv ?_)
 refine .vl (Y.zh U U om) (.mv ?_)
 refine .vl (Y.zh U U om) (.vl (Y.qb U U aJ) (.fa cS ?_))
 refine .aj dT U U U U U U (aH U) U ?_
 refine .fa bU ?_
 refine .aj dT U U U U U U (aH U) U (.nil (.sr (.vl (Y.za dJ U U (aH U) U U) (.aj cR U U U U U U (aH U) U ?_))))
 refine .an (.nil (.ret ?_))
 first | (exfalso; omega) | exact ⟨_,_,rfl,rfl,_,_,_,_,_,_,_,om,rfl,rfl⟩
 refine .sr (.vl (Y.ql U U) (.an (.nil ?_)))
 refine .aB U (fun oR=>?_) (fun oR=>?_)
 refine .region (.mv ?_)
 refine .vl (Y.zh U U om) (.vl (Y.qb U U aJ) (.mv ?_))
 refine .vl (Y.zh U U om) (.mv ?_)
 refine .vl (Y.zh U U om) (.mv ?_)
 refine .vl (Y.zh U U om) (.vl (Y.qb U U aJ) (.fa cS ?_))
 refine .aj dT U U U U U U (aH U) U ?_
 refine .fa bU ?_
 refine .aj dT U U U U U U (aH U) U (.nil (.sr (.vl (Y.za dJ U U (aH U) U U) (.aj cR U U U U U U (aH U) U ?_))))
 refine .an (.nil (.ret ?_))
 first | (exfalso; omega) | exact ⟨_,_,rfl,rfl,_,_,_,_,_,_,_,om,rfl,rfl⟩
 refine .sr (.vl (Y.ql U U) (.an (.nil ?_)))
 refine .aB U (fun AP=>?_) (fun AP=>?_)
 refine .region (.mv ?_)
 refine .vl (Y.qb U U aJ) (.vl (Y.zo U U om) (.vl (Y.qb U U aJ) (.mv ?_)))
 refine .vl (Y.zh U U om) (.mv ?_)
 refine .vl (Y.zh U U om) (.fa iZ ?_)
 refine .aj dT U U U U U U (aH U) U ?_
 refine .fa kz ?_
 refine .aj dT U U U U U U (aH U) U ?_
 refine .fa kA ?_
 refine .aj dT U U U U U U (aH U) U ?_
 refine .fa bU ?_
 refine .aj dT U U U U U U (aH U) U (.nil (.sr (.vl (Y.za dJ U U (aH U) U U) (.aj cR U U U U U U (aH U) U ?_))))
 refine .an (.nil (.ret ?_))
 first | (exfalso; omega) | exact ⟨_,_,rfl,rfl,_,_,_,_,_,_,_,om,rfl,rfl⟩
 refine .seq (.sr (.vl (Y.ql U U) (.an (.nil ?_))))
 refine .bt U (fun kl=>?_) (fun kl=>?_)
 refine .skip (.aQ U (.sr (.mv ?_)))
 refine .vl (Y.qb U U aJ) (.vl (Y.wa U U aJ) (.fa iZ ?_))
 refine .aj dT U U U U U U (aH U) U (.nil (.region (.mv ?_)))
 refine .vl (Y.qb U U aJ) (.vl (Y.zo U U om) (.vl (Y.qb U U aJ) (.mv ?_)))
 refine .vl (Y.qb U U aJ) (.vl (Y.zo U U om) (.vl (Y.qb U U aJ) (.mv ?_)))
 refine .vl (Y.zh U U om) (.mv ?_)
 refine .vl (Y.zh U U om) (.fa kz ?_)
 refine .aj dT U U U U U U (aH U) U ?_
 refine .fa kA ?_
 refine .aj dT U U U U U U (aH U) U ?_
 refine .fa bU ?_
 refine .aj dT U U U U U U (aH U) U (.nil (.sr (.vl (Y.za dJ U U (aH U) U U) (.aj cR U U U U U U (aH U) U ?_))))
 refine .an (.nil (.ret ?_))
 first | (exfalso; omega) | exact ⟨_,_,rfl,rfl,_,_,_,_,_,_,_,om,rfl,rfl⟩
 refine .sr (.vl (Y.ql U U) (.an (.nil ?_)))
 refine .bt U (fun kl=>?_) (fun kl=>?_)
 refine .skip (.aQ U (.sr (.mv ?_)))
 refine .vl (Y.qb U U aJ) (.vl (Y.wa U U aJ) (.fa iZ ?_))
 refine .aj dT U U U U U U (aH U) U (.nil (.region (.mv ?_)))
 refine .vl (Y.qb U U aJ) (.vl (Y.zo U U om) (.vl (Y.qb U U aJ) (.mv ?_)))
 refine .vl (Y.qb U U aJ) (.vl (Y.zo U U om) (.vl (Y.qb U U aJ) (.mv ?_)))
 refine .vl (Y.zh U U om) (.mv ?_)
 refine .vl (Y.zh U U om) (.fa kz ?_)
 refine .aj dT U U U U U U (aH U) U ?_
 refine .fa kA ?_
 refine .aj dT U U U U U U (aH U) U ?_
 refine .fa bU ?_
 refine .aj dT U U U U U U (aH U) U (.nil (.sr (.vl (Y.za dJ U U (aH U) U U) (.aj cR U U U U U U (aH U) U ?_))))
 refine .an (.nil (.ret ?_))
 first | (exfalso; omega) | exact ⟨_,_,rfl,rfl,_,_,_,_,_,_,_,om,rfl,rfl⟩
 refine .sr (.vl (Y.ql U U) (.an (.nil ?_)))
 refine .bt U (fun kl=>?_) (fun kl=>?_)
 refine .skip (.aQ U (.sr (.mv ?_)))
 refine .vl (Y.qb U U aJ) (.vl (Y.wa U U aJ) (.fa iZ ?_))
 refine .aj dT U U U U U U (aH U) U (.nil (.region (.mv ?_)))
 refine .vl (Y.qb U U aJ) (.vl (Y.zo U U om) (.vl (Y.qb U U aJ) (.mv ?_)))
 refine .vl (Y.qb U U aJ) (.vl (Y.zo U U om) (.vl (Y.qb U U aJ) (.mv ?_)))
 refine .vl (Y.zh U U om) (.mv ?_)
 refine .vl (Y.zh U U om) (.fa kz ?_)
 refine .aj dT U U U U U U (aH U) U ?_
 refine .fa kA ?_
 refine .aj dT U U U U U U (aH U) U ?_
 refine .fa bU ?_
 refine .aj dT U U U U U U (aH U) U (.nil (.sr (.vl (Y.za dJ U U (aH U) U U) (.aj cR U U U U U U (aH U) U ?_))))
 refine .an (.nil (.ret ?_))
 first | (exfalso; omega) | exact ⟨_,_,rfl,rfl,_,_,_,_,_,_,_,om,rfl,rfl⟩
 refine .region (.vl (Y.ql U U) (.an (.nil ?_)))
 refine .bt U (fun kl=>?_) (fun kl=>?_)
 refine .sr (.mv ?_)
 refine .vl (Y.qb U U aJ) (.vl (Y.wa U U aJ) (.fa iZ ?_))
 refine .aj dT U U U U U U (aH U) U (.nil (.region (.mv ?_)))
 refine .vl (Y.qb U U aJ) (.vl (Y.zo U U om) (.vl (Y.qb U U aJ) (.mv ?_)))
 refine .vl (Y.qb U U aJ) (.vl (Y.zo U U om) (.vl (Y.qb U U aJ) (.mv ?_)))
 refine .vl (Y.zh U U om) (.mv ?_)
 refine .vl (Y.zh U U om) (.fa kz ?_)
 refine .aj dT U U U U U U (aH U) U ?_
 refine .fa kA ?_
 refine .aj dT U U U U U U (aH U) U ?_
 refine .fa bU ?_
 refine .aj dT U U U U U U (aH U) U (.nil (.sr (.vl (Y.za dJ U U (aH U) U U) (.aj cR U U U U U U (aH U) U ?_))))
 refine .an (.nil (.ret ?_))
 first | (exfalso; omega) | exact ⟨_,_,rfl,rfl,_,_,_,_,_,_,_,om,rfl,rfl⟩
 refine .skip (.sr (.vl (Y.za dJ U U (aH U) U U) (.aj cR U U U U U U (aH U) U ?_)))
 refine .an (.nil (.ret ?_))
 first | (exfalso; omega) | exact ⟨_,_,rfl,rfl,_,_,_,_,_,_,_,om,rfl,rfl⟩
open Go Go.AW Go.Proofs
theorem xa{op:Int}(hp:Plain op):aw Try.prog 74 [vi op] [] [] (fun r o=>r = .v (.bool true) /\ o = []):=by
 refine aw.of Try.func74 U U U (n:=17) ab (aH U) (.sr (.an (.nil (.sr ?_))))
 refine .mv ?_
 refine .rk Jj (IA (op:=op) (x:=1) hp ab ab) U (.ai U U (.ai U U .nil)) ab ?_
 rintro _ ⟨ZQ,rfl,_⟩
 refine ⟨U,(.mv ?_)⟩
 refine .vl (Y.qn U U U) (.vl (Y.qn U U U) (.alloc 103 mi U U ab ?_))
 refine .aj cR U U U U U U (aH U) U ?_
 refine .an (.nil (.sr ?_))
 refine .mv ?_
 refine .vl (Y.ql U U) (.mv ?_)
 refine .gw 12 (Y.qo iZ U U) (.gw 12 (Y.qz bg U U U U) (.gw 12 (Y.ql U U) (.pk ?_)))
 refine .an (.nil (.ret ?_))
 exact .rb rfl (rfl)
theorem yA{op:Int}(hp:¬ Plain op):aw Try.prog 74 [vi op] [] [] (fun r o=>r = .v (.bool false) /\ o = []):=by
 refine aw.of Try.func74 U U U (n:=17) ab (aH U) (.sr (.an (.nil (.sr ?_))))
 refine .mv ?_
 refine .rk Jj (Gt (op:=op) hp) U (.ai U U (.ai U U .nil)) ab ?_
 rintro _ ⟨ZR,ZS,ZT,ZU,ZV,ZW,ZX,ZY,rfl,_⟩
 refine ⟨U,(.mv ?_)⟩
 refine .vl (Y.qn U U U) (.vl (Y.qn U U U) (.alloc 103 mi U U ab ?_))
 refine .aj cR U U U U U U (aH U) U ?_
 refine .an (.nil (.sr ?_))
 refine .mv ?_
 refine .vl (Y.ql U U) (.mv ?_)
 refine .a8 (d:=12) U (fun yX=>?_) (fun yX=>?_)
 refine .gw 12 (Y.qo iZ U U) (.gw 12 (Y.qz bg U U U U) (.gw 12 (Y.ql U U) (.pk ?_)))
 refine .an (.nil (.ret ?_))
 exact .rb rfl (decide_eq_false om)
 refine .gz 12 (.gz 12 (.gz 12 (.pk ?_)))
 refine .an (.nil (.ret ?_))
 exact .rb rfl (rfl)
theorem v5{op:Int}:aw Try.prog 74 [vi op] [] [] (fun r o=>r = .v (.bool (decide (Plain op))) /\ o = []):=by
  by_cases h:Plain op
  · rw [decide_eq_true h]; exact xa h
  · rw [decide_eq_false h]; exact yA h
open Go Go.AW Go.Proofs
theorem rP{gl:List Gate}(tJ:gl.length <= 40000000){x:Int}(hx:0 <= x /\ x <= 64):aw Try.prog 78 [.ptr 0 0 0 0,vi x] [.cells [.aN 1 3 0 gl.length],.rows 3 (gl.map Gate.row)] [0] (fun r o=>r = .dK 1 ((p5 gl.length x.toNat).map ah) /\ o = [.cells [.aN 1 3 0 (gl ++ p6 x.toNat).length],.rows 3 ((gl ++ p6 x.toNat).map Gate.row)]):=by
  obtain ⟨n,rfl⟩:∃ n:Nat,x = (n:Int):=⟨x.toNat,om⟩
  rw [Int.toNat_natCast]; exact y6 tJ om
theorem pc{c : Int}{gl : List Gate}(hg : Good gl)(tJ : gl.length ≤ 20000000){op : Int}{ws : List (List Int)}{w : Nat}{width : Int}{xN yN zN : List Bool → Nat}{t : Int}(hI : Ia c gl ws op w width.toNat xN yN zN t)(xy : ws.length ≤ 100)(h0 : 0 ≤ width) :
    aw Try.prog 79 [.ptr 0 0 0 0,.v (.int .i64 op),.fz 1 (ws.map ef),.v (.int .i64 width)] [.cells [.aN 1 3 0 gl.length],.rows 3 (gl.map Gate.row)] [0] (fun r o=>∃ (l:List Gate) (out:List Int),Ext gl l /\ l.length <= gl.length + 1600 /\ BU c l out op w width.toNat xN yN zN t /\ r = .dK 1 (out.map ah) /\ o = [.cells [.aN 1 3 0 l.length],.rows 3 (l.map Gate.row)]):=by
  have h:=v3 (c:=c) hg tJ hI xy
  rwa [Int.toNat_of_nonneg h0] at h
theorem Gu{op width:Int}{ws:List Int}(hk:ws.length <= 5):aw Try.prog 32 [vi op,.fz 1 (ws.map ah),vi width] [] [] (fun r o=>∃ (l:List Gate) (out:List Int) (e:Int),nZ op ws width l out e /\ r = .tup [.dK 3 (l.map Gate.row),.dK 1 (out.map ah),vi e] /\ o = []):=by
 refine aw.of Try.func32 U U U (n:=106) ab (aH U) (.sr (.an ?_))
 refine .an ?_
 refine .an ?_
 refine .nil (.sr (.vl (Y.qh OD OH U U U) (.box 119 U U U U U ab ?_)))
 refine .an ?_
 refine .nil (.seq (.sh (Sh.ew 119 301 1 1 U U U U ab) (.sh (Sh.ew 119 302 6 2 U U U U ab) (.sh (Sh.ew 119 303 1 3 U U U U ab) (.region (.an ?_))))))
 refine .sh (Sh.nil (d:=10) 110 1 U ab) (.nil (.seq (.sr (.mv ?_))))
 refine .vl (Y.qw (n:=ws.length) a7 U (congrArg some (List.length_map ..))) (.mv ?_)
 refine .nil (.block ?_)
 refine .Ny (fun (fO:Nat) (da:List Int) (cd:List Int) (fv:List Cell) (fc:List Int)=>⟨[(0,vi op),(1,.fz 1 (ws.map ah)),(2,vi width),(9,.ptr 119 0 0 0),(10,.aN 110 1 0 da.length),(20,.fz 1 (ws.map ah)),(21,vi ws.length),(22,vi fO)],[(110,.rows 1 (da.map ah)),(119,.cells [.v (.string ByteArray.empty),.aN 301 1 0 cd.length,.aN 302 6 0 fv.length,.aN 303 1 0 fc.length,.v (.slice none 0 0),.v (.slice none 0 0),.v (.slice none 0 0),.v (.slice none 0 0),vi 0,vi 0,.v (.slice none 0 0)]),(301,.rows 1 (cd.map ah)),(302,.rows 6 (fv.map Cell.row)),(303,.rows 1 (fc.map ah))]⟩) (fun fO da cd fv fc=>((fO:Int) <= (ws.length:Int)) /\ (cd = ws.take fO /\ fv = Dz fO /\ fc = ws.take fO /\ da = p5 0 fO)) (fun fO da cd fv fc=>((ws.length:Int) - (fO:Int)).toNat) 0 ([]:List Int) ([]:List Int) ([]:List Cell) ([]:List Int) (⟨pP,⟨U,U,U,U⟩⟩) (Le.mk (.c4 (.cons (aM U aJ) (.c2 (.cons (ak U aY) .nil)))) (.c (.cons (az U eS) (.c2 (.c .nil))))) (fun fO da cd fv fc Au=>?_)
 obtain ⟨FM,hP⟩:=Au
 refine .sr (.vl (Y.zb U U) (.nil (.seq (.aB U (fun oK=>?_) (fun oK=>?_)))))
 refine .skip (.seq (.block (.seq ?_)))
 obtain ⟨Wy,Wz,WA,WB⟩:=hP; have Us:cd.length = fO:=(by rw [Wy,List.length_take]; omega); have Y4:fv.length = fO:=(by rw [Wz,lr]); have Y5:fc.length = fO:=(by rw [WA,List.length_take]; omega); have WC:da.length = fO:=(by rw [WB,mq])
 refine .region (.mv ?_)
 refine .vl (Y.qr (m:=fO) a7 U U aY (ao (d:=0) om)) (.ld bg ?_)
 refine .an ?_
 refine .an (.nil (.sr ?_))
 refine .mv ?_
 refine .mv ?_
 refine .mv ?_
 refine .b7 [119,301,302,303] [] Kr (qQ (w:=ws.getD fO 0) (ws:=cd) (cs:=fv) (is:=fc) (nm:=ByteArray.empty) (fz:=0) (dn:=0) om om) U (.named U U (.ai U U .nil)) ⟨U,U,U,U,trivial⟩ U ab (fun _ h=>by cases h) (fun _ h=>by cases h) ab ab ?_
 rintro r aK ⟨rfl,rfl⟩ _
 refine ⟨⟨rfl,(by intro ob aZ; simp only [List.mem_cons,List.not_mem_nil,or_false] at aZ; rcases aZ with rfl | rfl | rfl | rfl <;> rfl),.inl rfl⟩,(.buildSlice (([(((cd).length:Nat):Int)]:List Int).map ah) a7 dG U U U U U (aq (s:=1) (f:=ah) (fun _=>U)) U U U ab ?_)⟩
 refine .cJ ah (da ++ ([(((cd).length:Nat):Int)]:List Int)) a7 dG U U U U (bh aJ) (aV aJ) (b8 aJ) aJ aJ ab ab ?_
 refine .an (.nil (.sr ?_))
 refine .mv ?_
 refine .mv ?_
 refine .mv ?_
 refine .vl (Y.qs (m:=fO) a7 U U aY aJ) (.vl (Y.qz bg U (aO (d:=0) aJ) U U) (.mv ?_))
 refine .vl (Y.qk r4 wE U (by first | rfl | exact IntWalk.u64_in _ om)) (.vl (Y.qh vu ez U U U) (.sh (Sh.Eo (d:=40) 1 3 U U) (.b7 [119,301,302,303] [] Ks (pb (c:=(⟨8,0,(da ++ ([(((cd).length:Nat):Int)]:List Int)).getD fO 0,([]:List Int),fO,0⟩:Cell)) (ws:=cd ++ [ws.getD fO 0]) (cs:=fv) (is:=fc) (nm:=ByteArray.empty) (fz:=0) (dn:=0) aJ aJ (by simp)) U (.named U U (.ai U U .nil)) ⟨U,U,U,U,trivial⟩ U ab (fun _ h=>by cases h) (fun _ h=>by cases h) ab ab ?_)))
 rintro r aK ⟨rfl,rfl⟩ _
 refine ⟨⟨rfl,(by intro ob aZ; simp only [List.mem_cons,List.not_mem_nil,or_false] at aZ; rcases aZ with rfl | rfl | rfl | rfl <;> rfl),.inl rfl⟩,(.nil (.region (.mv ?_)))⟩
 refine .mv ?_
 refine .vl (Y.zk U U) (.fa ja ?_)
 refine .fa jf ?_
 refine .ld bn ?_
 refine .mv ?_
 refine .buildSlice (([ws.getD fO 0]:List Int).map ah) a7 dG U U U U U (aq (s:=1) (f:=ah) (fun _=>U)) U U U ab ?_
 refine .cJ ah (fc ++ ([ws.getD fO 0]:List Int)) a7 dG U U U U (bh aJ) (aV aJ) (b8 aJ) aJ aJ ab ab (.vl (Y.zk U U) (.fa ja ?_))
 refine .fa jf ?_
 refine .aj fG U U U U U U (aH U) U (.nil (.region (.vl (Y.qb U U aJ) (.mv ?_))))
 refine .nil (⟨fO + 1,da ++ ([(((cd).length:Nat):Int)]:List Int),(cd ++ [ws.getD fO 0]),fv ++ [(⟨8,0,(da ++ ([(((cd).length:Nat):Int)]:List Int)).getD fO 0,([]:List Int),fO,0⟩:Cell)],fc ++ ([ws.getD fO 0]:List Int),⟨om,⟨by rw [Wy]; exact (take_one om).symm,by rw [yh,lx WC.symm,Us,<- Wz],by rw [WA]; exact (take_one om).symm,by rw [yg,<- WB,Us,Nat.zero_add]⟩⟩,om,Le.mk (.c4 (.cons (aM U om) (.c2 (.cons (ak U aY) .nil)))) (.c (.cons (az U eS) (.c2 (.c .nil))))⟩)
 refine .exit (.le (ba:=⟨[(0,vi op),(1,.fz 1 (ws.map ah)),(2,vi width),(9,.ptr 119 0 0 0),(10,.aN 110 1 0 da.length)],[(110,.rows 1 (da.map ah)),(119,.cells [.v (.string ByteArray.empty),.aN 301 1 0 cd.length,.aN 302 6 0 fv.length,.aN 303 1 0 fc.length,.v (.slice none 0 0),.v (.slice none 0 0),.v (.slice none 0 0),.v (.slice none 0 0),vi 0,vi 0,.v (.slice none 0 0)]),(301,.rows 1 (cd.map ah)),(302,.rows 6 (fv.map Cell.row)),(303,.rows 1 (fc.map ah))]⟩) (Le.mk (.c4 (.c .nil)) (.c4 (.c .nil))) ?_)
 refine .seq (.seq ?_)
 have Us:cd.length = ws.length:=(by rw [hP.1,List.length_take]; omega); have Y4:fv.length = ws.length:=(by rw [hP.2.1,lr]; omega); have Y5:fc.length = ws.length:=(by rw [hP.2.2.1,List.length_take]; omega); have WC:da.length = ws.length:=(by rw [hP.2.2.2,mq]; omega)
 refine .region (.mv ?_)
 refine .aR Sv (v5 (op:=op)) U (.ai U U .nil) ab U (.vl (Y.zl U) (.nil (.dX U (fun DD=>?_) (fun DD=>?_))))
 refine .sr (.an ?_)
 refine .an ?_
 refine .an ?_
 refine .nil (.sh (Sh.vr (d:=6) 3 U) (.sh (Sh.vr (d:=7) 1 U) (.ret (⟨_,_,U,U,[],[],1,.inl ⟨by simpa using DD,U⟩,U,U⟩))))
 refine .skip (.le (ba:=⟨[(0,vi op),(1,.fz 1 (ws.map ah)),(2,vi width),(9,.ptr 119 0 0 0),(10,.aN 110 1 0 da.length)],[(110,.rows 1 (da.map ah)),(119,.cells [.v (.string ByteArray.empty),.aN 301 1 0 cd.length,.aN 302 6 0 fv.length,.aN 303 1 0 fc.length,.v (.slice none 0 0),.v (.slice none 0 0),.v (.slice none 0 0),.v (.slice none 0 0),vi 0,vi 0,.v (.slice none 0 0)]),(301,.rows 1 (cd.map ah)),(302,.rows 6 (fv.map Cell.row)),(303,.rows 1 (fc.map ah))]⟩) (Le.mk (.c4 (.c .nil)) (.c4 (.c .nil))) (.seq (.sh (Sh.dL (d:=10) (o:=110) U U (aW om) ab) (.sh (Sh.cN (d:=10) (da.map ah) U iX (cM.map aI)) (.region (.mv ?_))))))
 refine .mv ?_
 refine .mv ?_
 refine .mv ?_
 refine .b7 [119,301,302,303] [] Sw (Di (op:=op) (w:=width) (args:=da) (ws:=cd) (cs:=fv) (is:=fc) (nm:=ByteArray.empty) (fz:=0) (dn:=0) om om om) U (.named U U (.ai U U (.ai U U (.ai U U .nil)))) ⟨U,U,U,U,trivial⟩ U ab (fun _ h=>by cases h) (fun _ h=>by cases h) ab ab ?_
 rintro r aK ⟨rfl,rfl⟩ _
 refine ⟨⟨rfl,(by intro ob aZ; simp only [List.mem_cons,List.not_mem_nil,or_false] at aZ; rcases aZ with rfl | rfl | rfl | rfl <;> rfl),.inl rfl⟩,(.nil (.sr (.mv ?_)))⟩
 refine .b7 [119,301,302,303] [] Sx (y9 (w:=1) (x:=0) (ws:=cd ++ [width]) (cs:=fv ++ [(⟨2,op,((cd).length:Int),da,0,0⟩:Cell)]) (is:=fc) (nm:=ByteArray.empty) (fz:=0) (dn:=0) aJ aJ ab) U (.named U U (.ai U U (.ai U U .nil))) ⟨U,U,U,U,trivial⟩ U ab (fun _ h=>by cases h) (fun _ h=>by cases h) ab ab ?_
 rintro r aK ⟨rfl,rfl⟩ _
 refine ⟨⟨rfl,(by intro ob aZ; simp only [List.mem_cons,List.not_mem_nil,or_false] at aZ; rcases aZ with rfl | rfl | rfl | rfl <;> rfl),.inl rfl⟩,(.an (.nil (.sr ?_)))⟩
 refine .mv ?_
 refine .mv ?_
 refine .mv ?_
 refine .mv ?_
 refine .vl (Y.zk U U) (.fa ja ?_)
 refine .fa qF ?_
 refine .aj dT U U U U U U (aH U) U (.vl (Y.zk U U) (.fa ja ?_))
 refine .fa sq ?_
 refine .aj dT U U U U U U (aH U) U (.nil ?_)
 refine .le (ba:=⟨[(0,vi op),(1,.fz 1 (ws.map ah)),(2,vi width),(9,.ptr 119 0 0 0)],[(119,.cells [.v (.string ByteArray.empty),.aN 301 1 0 (((cd ++ [width]) ++ [1]).length),.aN 302 6 0 (((fv ++ [(⟨2,op,((cd).length:Int),da,0,0⟩:Cell)]) ++ [(⟨1,0,(((cd ++ [width])).length:Int),[],gA 1 0,0⟩:Cell)]).length),.aN 303 1 0 fc.length,.v (.slice none 0 0),.v (.slice none 0 0),.v (.slice none 0 0),.v (.slice none 0 0),vi (((cd ++ [width]).length:Nat):Int),vi (((cd ++ [width]).length:Nat):Int),.v (.slice none 0 0)]),(301,.rows 1 (((cd ++ [width]) ++ [1]).map ah)),(302,.rows 6 (((fv ++ [(⟨2,op,((cd).length:Int),da,0,0⟩:Cell)]) ++ [(⟨1,0,(((cd ++ [width])).length:Int),[],gA 1 0,0⟩:Cell)]).map Cell.row)),(303,.rows 1 (fc.map ah))]⟩) (Le.mk (.c2 (.c (.c .nil))) (.c2 (.c (.c .nil)))) ?_
 refine .seq (.seq (.sh (Sh.oO 119 301 1 U U U (aW aJ) (cM.map aI) ab U U U) (.sh (Sh.oO 119 302 2 U U U (aW om) (cM.map Cell.bE) ab U U U) (.sh (Sh.oO 119 303 3 U U U (aW om) (cM.map aI) ab U U U) (.sh (Sh.uf 119 5 4 U U U) (.sh (Sh.uf 119 3 5 U U U) (.sh (Sh.uf 119 1 6 U U U) (.sh (Sh.uf 119 1 7 U U U) (.sh (Sh.uf 119 1 10 U U U) ?_)))))))))
 have hN:(⟨ByteArray.empty,(cd ++ [width]) ++ [1],(fv ++ [(⟨2,op,((cd).length:Int),da,0,0⟩:Cell)]) ++ [(⟨1,0,(((cd ++ [width])).length:Int),[],gA 1 0,0⟩:Cell)],fc,([]:List eQ),([]:List bI),([]:List Int),([]:List Int),(((cd ++ [width]).length:Nat):Int),(((cd ++ [width]).length:Nat):Int),([]:List Int)⟩:ae) = jr op ws width:=by obtain ⟨h1,h2,h3,h4⟩:=hP; rw [h1,h2,h3,h4,show fO = ws.length by omega,List.take_length]; simp [jr,uC,lr,gA]
 refine .region (.mv ?_)
 refine .vl (Y.zk U U) (.fa ja ?_)
 refine .vl (Y.za fF U U (aH U) U U) (.aR Sy (AE (n:=(⟨ByteArray.empty,(cd ++ [width]) ++ [1],(fv ++ [(⟨2,op,((cd).length:Int),da,0,0⟩:Cell)]) ++ [(⟨1,0,(((cd ++ [width])).length:Int),[],gA 1 0,0⟩:Cell)],fc,([]:List eQ),([]:List bI),([]:List Int),([]:List Int),(((cd ++ [width]).length:Nat):Int),(((cd ++ [width]).length:Nat):Int),([]:List Int)⟩:ae)) (by rw [hN]; exact FA hk) (by rw [hN]; simp [jr]; omega)) U (.ai U U .nil) ab U ?_)
 refine .vl (Y.zj U U) (.nil (.le (ba:=⟨[(0,vi op),(1,.fz 1 (ws.map ah)),(2,vi width),(80,.v (.bool (decide ((jU (⟨ByteArray.empty,(cd ++ [width]) ++ [1],(fv ++ [(⟨2,op,((cd).length:Int),da,0,0⟩:Cell)]) ++ [(⟨1,0,(((cd ++ [width])).length:Int),[],gA 1 0,0⟩:Cell)],fc,([]:List eQ),([]:List bI),([]:List Int),([]:List Int),(((cd ++ [width]).length:Nat):Int),(((cd ++ [width]).length:Nat):Int),([]:List Int)⟩:ae)) ≠ 0))))],[]⟩) (Le.mk (.c2 (.c (.c .nil))) .nil) ?_))
 refine .aB U (fun QU=>?_) (fun QU=>?_)
 have hC:¬ CV op ws width:=fun h=>QU (by rw [hN]; exact OV hk h)
 refine .sr (.an ?_)
 refine .an ?_
 refine .an ?_
 refine .nil (.sh (Sh.vr (d:=6) 3 U) (.sh (Sh.vr (d:=7) 1 U) (.ret (⟨_,_,U,U,[],[],13,.inr (.inl ⟨by simpa using DD,hC,U⟩),U,U⟩))))
 have hC:CV op ws width:=Ik (by rw [hN] at QU; exact Classical.not_not.1 QU)
 refine .skip (.le (ba:=⟨[(0,.v (.int .i64 op)),(1,.fz 1 (ws.map ah)),(2,.v (.int .i64 width))],[]⟩) (Le.mk (.c2 (.c .nil)) .nil) (.sr (.vl (Y.qh Jn Jo U U U) (.box 182 U U U U U ab ?_))))
 refine .an ?_
 refine .nil (.seq (.sh (Sh.ew 182 401 3 0 U U U U ab) (.region (.an ?_))))
 refine .sh (Sh.nil (d:=15) 115 1 U ab) (.nil (.le (ba:=⟨[(0,vi op),(1,.fz 1 (ws.map ah)),(2,vi width),(14,.ptr 182 0 0 0),(15,.aN 115 1 0 0)],[(115,.rows 1 (([]:List (List Int)).map ef)),(182,.cells [.aN 401 3 0 0]),(401,.rows 3 (([]:List Gate).map Gate.row))]⟩) (Le.mk (.c4 (.c .nil)) (.c2 (.c .nil))) ?_))
 refine .seq (.sr (.mv ?_))
 refine .vl (Y.qw (n:=ws.length) a7 U (congrArg some (List.length_map ..))) (.mv ?_)
 refine .nil (.block (.e8 (fun (fK:Nat) (dN:List (List Int)) (aA:List Gate)=>⟨[(0,vi op),(2,vi width),(14,.ptr 182 0 0 0),(15,.aN 115 1 0 dN.length),(83,.fz 1 (ws.map ah)),(84,vi ws.length),(85,vi fK)],[(115,.rows 1 (dN.map ef)),(182,.cells [.aN 401 3 0 aA.length]),(401,.rows 3 (aA.map Gate.row))]⟩) (fun fK dN aA=>((fK:Int) <= (ws.length:Int)) /\ (aA = p6 (gN ws fK) /\ dN = wL ws fK)) (fun fK dN aA=>((ws.length:Int) - (fK:Int)).toNat) 0 ([]:List (List Int)) ([]:List Gate) (⟨pP,⟨U,U⟩⟩) (Le.mk (.c2 (.c (.cons (aM U aJ) (.c2 (.cons (ak U aY) .nil))))) (.c (.cons (az U eS) (.c .nil)))) (fun fK dN aA LH=>?_)))
 obtain ⟨Ut,hQ⟩:=LH
 refine .sr (.vl (Y.zb U U) (.nil (.seq (.aB U (fun P3=>?_) (fun P3=>?_)))))
 refine .skip (.seq (.block (.sr (.vl (Y.qr (m:=fK) a7 U U aY (ao (d:=0) om)) (.ld bg ?_)))))
 refine .an (.nil ?_)
 have Mn:=hC.1 (ws.getD fK 0) (getD_in om); unfold dk at Mn; have Du:=FB hC; have ZZ:=p9 (ws:=ws) (i:=fK) (j:=ws.length) om; have Uu:aA.length = gN ws fK:=(by rw [hQ.1,kB]); have Y6:dN.length = fK:=(by rw [hQ.2,uD])
 refine .region (.mv ?_)
 refine .mv ?_
 refine .mv ?_
 refine .b7 [182,401] [] OA (rP (gl:=aA) (x:=ws.getD fK 0) om om) U (.named U U (.ai U U .nil)) ⟨U,U,trivial⟩ U ab (fun _ h=>by cases h) (fun _ h=>by cases h) ab ab ?_
 rintro r aK ⟨rfl,rfl⟩ _
 refine ⟨⟨rfl,(by intro ob aZ; simp only [List.mem_cons,List.not_mem_nil,or_false] at aZ; rcases aZ with rfl | rfl <;> rfl),.inl rfl⟩,(.sh (Sh.cN (d:=92) ((p5 aA.length (ws.getD fK 0).toNat).map ah) U iX (cM.map aI)) (.buildSlice (([p5 aA.length (ws.getD fK 0).toNat]:List (List Int)).map ef) ee pJ U U U U U (aq (s:=1) (f:=ef) (fun _=>U)) U U U ab ?_))⟩
 refine .cJ ef (dN ++ ([p5 aA.length (ws.getD fK 0).toNat]:List (List Int))) ee pJ U U U U (bh aJ) (aV aJ) (b8 aJ) aJ aJ ab ab ?_
 refine .an (.nil (.region ?_))
 refine .vl (Y.qb U U aJ) (.mv ?_)
 refine .nil (⟨fK + 1,dN ++ ([p5 aA.length (ws.getD fK 0).toNat]:List (List Int)),aA ++ p6 (ws.getD fK 0).toNat,⟨om,⟨by rw [hQ.1,BR]; rfl,by rw [Il,<- hQ.2,Uu]⟩⟩,om,Le.mk (.c2 (.c (.cons (aM U om) (.c2 (.cons (ak U aY) .nil))))) (.c (.cons (az U eS) (.c .nil)))⟩)
 refine .exit (.le (ba:=⟨[(0,vi op),(2,vi width),(14,.ptr 182 0 0 0),(15,.aN 115 1 0 dN.length)],[(115,.rows 1 (dN.map ef)),(182,.cells [.aN 401 3 0 aA.length]),(401,.rows 3 (aA.map Gate.row))]⟩) (Le.mk (.c2 (.c (.c .nil))) (.c2 (.c .nil))) (.seq (.sh (Sh.dL (d:=15) (o:=115) U U (aW om) ab) (.sh (Sh.cN (d:=15) (dN.map ef) U iX (cM.map nD)) ?_))))
 have Q5:fK = ws.length:=om; have QV:aA = p6 (gN ws ws.length):=(by rw [hQ.1,Q5]); have SD:dN = wL ws ws.length:=(by rw [hQ.2,Q5]); have hIn:=OW (c:=0) hC ab; rw [<- QV,<- SD] at hIn; have vk:=hC.2.1; unfold dk at vk; have Du:=FB hC; have Uu:aA.length = gN ws ws.length:=(by rw [QV,kB]); have Y6:dN.length = ws.length:=(by rw [SD,uD])
 refine .region (.mv ?_)
 refine .mv ?_
 refine .mv ?_
 refine .mv ?_
 refine .b7 [182,401] [] OB (pc (c:=0) (gl:=aA) (op:=op) (ws:=dN) (width:=width) (by rw [QV]; exact rG _) om hIn om om) U (.named U U (.ai U U (.ai U U (.ai U U .nil)))) ⟨U,U,trivial⟩ U ab (fun _ h=>by cases h) (fun _ h=>by cases h) ab ab ?_
 rintro r aK ⟨Uv,LI,PY,Uw,PZ,rfl,rfl⟩ _
 refine ⟨⟨rfl,(by intro ob aZ; simp only [List.mem_cons,List.not_mem_nil,or_false] at aZ; rcases aZ with rfl | rfl <;> rfl),.inl rfl⟩,(.bX U ab (.nil (.sr (.mv ?_))))⟩
 refine .vl (Y.zk U U) (.fa nH ?_)
 refine .ld CH ?_
 refine .oE U ab ?_
 refine .an ?_
 refine .sh (Sh.dL (d:=6) (o:=401) U U (aW om) ab) (.bX U ab ?_)
 refine .an (.nil (.ret ?_))
 exact ⟨_,_,U,U,Uv,LI,0,.inr (.inr ⟨by simpa using DD,hC,U,by rw [<- QV]; exact PY,om,PZ⟩),U,U⟩
open Go Go.AW Go.Proofs
theorem Dj{l:List Gate}(hl:l.length <= 1000000):aw Try.prog 37 [.fz 3 (l.map Gate.row)] [] [] (fun r o=>r = (vi ((mY l:Nat):Int)) /\ o = []):=by
 refine aw.of Try.func37 U U U (n:=20) ab (aH U) (.sr (.an (.nil (.sr ?_))))
 refine .an ?_
 refine .nil (.seq (.sr (.an (.nil (.block ?_)))))
 refine .gT (fun (AR:Nat) (dh:Nat)=>⟨[(0,.fz 3 (l.map Gate.row)),(3,vi AR),(4,vi dh)],[]⟩) (fun AR dh=>((dh:Int) <= (l.length:Int)) /\ (AR = mY (l.take dh))) (fun AR dh=>((l.length:Int) - (dh:Int)).toNat) 0 0 (⟨om,U⟩) (Le.mk (.c (.cons (ak U aY) (.cons (ak U aY) .nil))) .nil) (fun AR dh pK=>?_)
 obtain ⟨CL,hn⟩:=pK
 refine .seq (.sr (.mv ?_))
 refine .mv ?_
 refine .vl (Y.qw (n:=l.length) xV U (congrArg some (List.length_map ..))) (.vl (Y.zb U U) (.nil (.aB U (fun c8=>?_) (fun c8=>?_))))
 refine .skip (.iu (fun (yB:Nat)=>⟨[(0,.fz 3 (l.map Gate.row)),(3,vi yB),(4,vi dh)],[]⟩) (fun yB=>yB = mY (l.take (dh + 1))) ?_ (fun yB xk=>?_))
 refine .block (.seq ?_)
 have Dv:=Kx (l.take dh); rw [List.length_take] at Dv
 refine .region (.mv ?_)
 refine .mv ?_
 refine .vl (Y.qr (m:=dh) xV U U aY (ao (d:=default) om)) (.fa HF ?_)
 refine .ld bg ?_
 refine .vl (Y.ql U U) (.nil (.aB U (fun px=>?_) (fun px=>?_)))
 refine .region (.mv ?_)
 refine .vl (Y.qb U U aJ) (.an ?_)
 refine .nil ⟨AR + 1,by rw [yi om,if_pos bO,hn],Le.mk (.c (.cons (ak U aY) (.c .nil))) .nil⟩
 refine .skip ⟨AR,by rw [yi om,if_neg bO,hn,Nat.add_zero],Le.mk (.c (.cons (ak U aY) (.c .nil))) .nil⟩
 refine .region (.mv ?_)
 refine .vl (Y.qb U U aJ) (.an ?_)
 refine .nil (⟨yB,dh + 1,⟨om,xk⟩,om,Le.mk (.c (.cons (ak U aY) (.cons (ak U aY) .nil))) .nil⟩)
 refine .exit (.sr (.mv ?_))
 refine .an (.nil (.ret ?_))
 exact ⟨_,_,U,U,by rw [hn,show dh = l.length by omega,List.take_length]; rfl,U⟩
theorem nS :aw Try.prog 30 [] [] [] (fun r o=>r = .v (.bool true) /\ o = []):=by
 refine aw.of Try.func30 U U U (n:=36) ab (Nat.zero_le _) (.sr (.an (.nil (.sr ?_))))
 refine .buildSlice (([1,1]:List Int).map ah) a7 dG U U U U U (aq (s:=1) (f:=ah) (fun _=>U)) U U U ab ?_
 refine .sh (Sh.cN (d:=5) (([1,1]:List Int).map ah) U iX (cM.map aI)) (.rk Sq (Gu (op:=11) (ws:=([1,1]:List Int)) (width:=1) ab) U (.ai U U (.ai U U (.ai U U .nil))) ab ?_)
 rintro _ ⟨l6,Qa,e6,Y7,rfl,_⟩
 refine ⟨U,(.oE U ab (.iO U U ab (.iO U U ab ?_)))⟩
 refine .vl (Y.qn U U U) (.bX U ab (.sh (Sh.cN (d:=1) (l6.map Gate.row) U iX (cM.map Gate.bE)) (.bX U ab (.sh (Sh.cN (d:=2) (Qa.map ah) U iX (cM.map aI)) (.an (.nil (.seq ?_)))))))
 have hw:=FC Y7; have WD:=hw.2.2.1; have xy:=hw.2.2.2.2
 refine .region (.mv ?_)
 refine .vl (Y.ql U U) (.mv ?_)
 refine .a8 (d:=12) U (fun yX=>?_) (fun yX=>?_)
 refine .gw 12 (Y.zf U U) (.gw 12 (Y.qw (n:=Qa.length) a7 U (congrArg some (List.length_map ..))) (.gw 12 (Y.ql U U) (.pk ?_)))
 refine .mv ?_
 refine .a8 (d:=17) U (fun J8=>?_) (fun J8=>?_)
 refine .gw 17 (Y.zf U U) (.gw 17 (Y.qr (m:=0) a7 U U aY (ao (d:=0) om)) (.gw 17 (Y.qz bg U U U U) (.gw 17 (Y.qp U U) (.pk ?_))))
 refine .mv ?_
 refine .a8 (d:=23) U (fun oK=>?_) (fun oK=>?_)
 refine .gw 23 (Y.zf U U) (.gw 23 (Y.qr (m:=0) a7 U U aY (ao (d:=0) om)) (.gw 23 (Y.qz bg U U U U) (.gw 23 (Y.zf U U) (.gw 23 (Y.qw (n:=l6.length) xV U (congrArg some (List.length_map ..))) (.gw 23 (Y.zb U U) (.pk ?_))))))
 refine .mv ?_
 refine .a8 (d:=31) U (fun tE=>?_) (fun tE=>?_)
 refine .gw 31 (Y.zf U U) (.aC (d:=31) U ab U ?_)
 refine .aR Sr (Dj (l:=l6) (om)) U (.ai U U .nil) ab U (.gw 31 (Y.ql U U) (.pk ?_))
 refine .an (.nil (.ret ?_))
 exact .rb rfl (decide_eq_true (by rw [hw.2.2.2.1]; rfl))
 exact absurd WD.2 tE
 exact absurd WD.1 oK
 exact absurd (by rw [hw.2.1]; rfl) J8
 exact absurd hw.1 yX
open Go Go.AW Go.Proofs
end Go.Proofs.Ytlimckldnjmabaa
namespace Go.Proofs.Ytlimckldnjmabaa
open Go Go.AW Go.Proofs
open Go Go.AW Go.Proofs
end Go.Proofs.Ytlimckldnjmabaa
namespace Go.Proofs.Ytlimckldnjmabaa
open Go Go.AW
theorem solve{α : Type}[Inhabited α]{n : ae}{l : List Int}(hf : bx n)(ho : Ord n l)(F : Int → (Int → α) → α)
    (hF:∀ i f g,(cU (n.cell i).kind -> ∀ x ∈ (n.cell i).args,f x = g x) -> F i f = F i g):∃ f:Int -> α,∀ i w,cX n i w -> f w = F i f:=by
  have step:∀ k,k <= l.length -> ∃ f:Int -> α,∀ i w,cX n i w -> l.idxOf i < k -> f w = F i f:=by
    intro k
    induction k with
    | zero=>intro _; exact ⟨fun _=>default,fun _ _ _ h=>by omega⟩
    | succ k ih =>
      intro hk
      obtain ⟨f,h⟩:=ih om
      have TG:=va ho.nd (k:=k) om
      let f':Int -> α:=fun w=>@ite _ (cX n (l.getD k 0) w) (Classical.propDecidable _) (F (l.getD k 0) f) (f w)
      have other:∀ j x,cX n j x -> l.idxOf j < k -> f' x = f x:=fun j x hx hj=>if_neg fun e=>by
        have:=hf.unique hx e
        rw [this] at hj; omega
      have args:∀ i:Int,0 <= i /\ i < n.cells.length -> l.idxOf i <= k -> F i f' = F i f:=fun i hi Yk =>
        hF i f' f fun hc x hx=>by obtain ⟨j,hj,h1⟩:=ho.lt hi hc hx; exact other j x hj om
      refine ⟨f',fun i x hx gP=>?_⟩
      rw [args i hx.1 om]
      rcases Nat.lt_or_ge (l.idxOf i) k with h1 | h1
      · rw [other i x hx h1]; exact h i x hx h1
      · have hm:=ho.mem hx.1
        have h2:l.idxOf i < l.length:=List.idxOf_lt_length_of_mem hm
        have h3:l.getD (l.idxOf i) 0 = i:=by
          rw [List.getD_eq_getElem?_getD,List.getElem?_eq_getElem h2]; exact List.getElem_idxOf h2
        rw [show l.idxOf i = k by omega] at h3
        rw [<- h3] at hx ⊢
        exact if_pos hx
  obtain ⟨f,h⟩:=step l.length (Nat.le_refl _)
  exact ⟨f,fun i w hd=>h i w hd (List.idxOf_lt_length_of_mem (ho.mem hd.1))⟩
theorem LJ{n:ae}{l:List Int}(hf:bx n)(ho:Ord n l):∃ at_,Gf n at_:=by
  have step:∀ k,k <= l.length -> ∃ out,pN n l k out:=by
    intro k
    induction k with
    | zero=>intro _; exact ⟨_,pN.init⟩
    | succ k ih =>
      intro hk
      obtain ⟨out,h⟩:=ih om
      by_cases h7:(n.cell (l.getD k 0)).kind = 7
      · exact ⟨out,h.skip ho om h7⟩
      · have hr:=ho.vL (l.getD k 0) (cg om)
        exact ⟨_,h.set hf ho om (w:=(n.cell (l.getD k 0)).out) ⟨hr,h7,rfl⟩ rfl⟩
  obtain ⟨out,h⟩:=step l.length (Nat.le_refl _)
  exact ⟨out,h.done ho rfl⟩
def Src(k:Int):Prop:=k = 4 \/ k = 5 \/ k = 6 \/ k = 8 \/ k = 9 \/ k = 10
instance (k:Int):Decidable (Src k):=by unfold Src; infer_instance
def mK(n : ae) : Nat → Nat
  | 0=>0
  | i + 1=>mK n i + (if Src (n.cells.getD i default).kind then (n.wd (n.cells.getD i default).out).toNat else 0)
theorem wo{n : ae}{i : Nat} : ∀ {j}, i ≤ j → mK n i ≤ mK n j
  | 0, h => by have : i = 0 := by omega
               subst this; exact Nat.le_refl _
  | j + 1,h=>by
    rcases Nat.lt_or_ge j i with h1 | h1
    · have:i = j + 1:=by omega
      subst this; exact Nat.le_refl _
    · have:=wo (n:=n) h1
      simp only [mK]; omega
theorem Qb{n:ae}(h:∀ w ∈ n.aa,dk w)(x:Int):(n.wd x).toNat <= 64:=by
  unfold ae.wd
  rw [List.getD_eq_getElem?_getD]
  cases h1:n.aa[x.toNat]? with
  | none=>simp
  | some v =>
    have:=h v (List.mem_of_getElem? h1)
    unfold dk at this
    simp only [Option.getD_some]; omega
theorem Ch{n : ae}(h : ∀ w ∈ n.aa, dk w) : ∀ i, mK n i ≤ 64 * i
  | 0=>by simp [mK]
  | i + 1=>by
    have h1:=Ch h i
    have h2:=Qb h (n.cells.getD i default).out
    simp only [mK]; split <;> omega
def rQ(V : Int → Nat) : List Int → Nat
  | s :: d :: r=>(if V s = 1 then V d else 0) ||| rQ V r
  | _=>0
theorem vd{V W : Int → Nat} : ∀ {l : List Int}, (∀ x ∈ l, V x = W x) → rQ V l = rQ W l
  | [],_=>rfl
  | [_],_=>rfl
  | s :: d :: r,h=>by
    rw [rQ,rQ,h s (by simp),h d (by simp),vd (l:=r) fun x hx=>h x (by simp [hx])]
def lf(n:ae)(c:Cell)(V:Int -> Nat):Nat :=
  if c.kind = 1 then c.num else if c.kind = 2 then rU c.op (n.av c 0).toNat (n.ow c).toNat (if 0 < c.args.length then V (c.args.getD 0 0) else 0) (if 1 < c.args.length then V (c.args.getD 1 0) else 0) (if 2 < c.args.length then V (c.args.getD 2 0) else 0) else rQ V c.args
theorem yC{n:ae}{c:Cell}{V W:Int -> Nat}(h:∀ x ∈ c.args,V x = W x):lf n c V = lf n c W:=by
  have g:∀ k,(if k < c.args.length then V (c.args.getD k 0) else 0) = if k < c.args.length then W (c.args.getD k 0) else 0:=fun k=>by
    by_cases hk:k < c.args.length
    · rw [if_pos hk,if_pos hk,h _ (cg hk)]
    · rw [if_neg hk,if_neg hk]
  unfold lf
  rw [g 0,g 1,g 2,vd h]
structure WV(n:ae)(S:Int -> Nat)(V:Int -> Nat):Prop where
  eq:∀ i w,cX n i w -> V w = if cU (n.cell i).kind then lf n (n.cell i) V else S i
theorem WV.ex{n:ae}{l:List Int}(hf:bx n)(ho:Ord n l)(S:Int -> Nat):∃ V,WV n S V:=by
  obtain ⟨f,h⟩:=solve hf ho (fun i V=>if cU (n.cell i).kind then lf n (n.cell i) V else S i) fun i f g Y8=>by
    by_cases hc:cU (n.cell i).kind
    · simp only [if_pos hc]; exact yC (Y8 hc)
    · simp only [if_neg hc]
  exact ⟨f,⟨h⟩⟩
def LK(n:ae)(ins:List Bool)(i:Int):Nat:=CT (mK n i.toNat) (n.wd (n.cell i).out).toNat ins
def VI(n:ae)(V:List Bool -> Int -> Nat):Prop:=∀ ins,WV n (LK n ins) (V ins)
theorem VI.ex{n:ae}{l:List Int}(hf:bx n)(ho:Ord n l):∃ V,VI n V:=by
  have h:=fun ins=>WV.ex hf ho (LK n ins)
  exact ⟨fun ins=>Classical.choose (h ins),fun ins=>Classical.choose_spec (h ins)⟩
open Go Go.AW
structure CI(n:ae)(c:Cell)(gl:List Gate)(bits:List (List Int))(V:List Bool -> Int -> Nat)(at_:List Int):Prop where
 ta:∀ w ∈ n.aa,dk w
 comb:cU c.kind
 ok:jC n c
 fit:Fits n c
 al:c.args.length <= 6
 bl:bits.length = n.aa.length
 wk:∀ x ∈ c.args,Wk 30 gl (bits.getD x.toNat []) (n.wd x).toNat (fun ins=>V ins x) (at_.getD x.toNat 0)
 nn:∀ x ∈ c.args,0 <= at_.getD x.toNat 0 /\ at_.getD x.toNat 0 <= 400000
section
variable {n:ae} {c:Cell} {gl g1 g0:List Gate} {bits:List (List Int)} {V:List Bool -> Int -> Nat} {at_:List Int}
theorem CI.out(h:CI n c gl bits V at_):(0 <= c.out /\ c.out < n.aa.length) /\ dk (n.wd c.out) /\ n.ow c = n.wd c.out:=by
 have h7:c.kind ≠ 7:=by have:=h.comb; unfold cU at this; omega
 have h1:=h.ok.2.2.2 h7
 refine ⟨h1,?_,by unfold ae.ow; rw [if_pos h1.1]⟩
 exact h.ta _ (getD_in (by unfold In at h1; omega))
theorem CI.arg(h:CI n c gl bits V at_){k:Nat}(hk:k < c.args.length):(0 <= c.args.getD k 0 /\ c.args.getD k 0 < n.aa.length) /\ c.args.getD k 0 ∈ c.args /\ dk (n.av c k):=by
 have hm:=cg (l:=c.args) hk
 have h1:=h.ok.1 _ hm
 exact ⟨h1,hm,h.ta _ (getD_in (by unfold In at h1; omega))⟩
theorem CI.T(h:CI n c gl bits V at_):0 <= lY at_ c.args /\ lY at_ c.args <= 400000:=nP om fun x hx=>(h.nn x hx).2
theorem CI.bit(h : CI n c gl bits V at_){k j : Nat}(hk : k < c.args.length)(hj : j < (n.av c k).toNat) :
  (bits.getD (c.args.getD k 0).toNat []).length = (n.av c k).toNat /\ Wr 30 gl ((bits.getD (c.args.getD k 0).toNat []).getD j 0) (fun ins=>(V ins (c.args.getD k 0)).testBit j) (lY at_ c.args):=by
 have hm:=(h.arg hk).2.1
 have h1:=h.wk _ hm
 exact ⟨h1.len,(h1.bit j hj).late (Ce hm)⟩
theorem CI.res{l:List Gate}{out:List Int}(h:CI n c gl bits V at_){t:Int}(hw:Wk 30 l out (n.ow c).toNat (fun ins=>lf n c (V ins)) t)(ht:t <= lY at_ c.args + sV n c):Wk 30 l out (n.ow c).toNat (fun ins=>lf n c (V ins)) (ou n at_ c):=by
 unfold ou
 rw [if_pos h.comb]
 exact hw.late ht
-- constants
theorem xi.Me{N : Nat}{r : List Int}{t kd : Int}{i : Nat}(k : xi 30 g0 gl r (fun k _ => N.testBit k) t i)(ht : 0 ≤ t)(hk : kd = 1 + (((N.testBit i).toNat : Nat) : Int)) :
  xi 30 g0 (gl ++ [⟨kd,0,0⟩]) (r ++ [(gl.length:Int)]) (fun k _=>N.testBit k) t (i + 1):=by
 have e:Ext gl (gl ++ [⟨kd,0,0⟩]):=Ext.Me k.ext.dZ (by subst hk; cases N.testBit i <;> decide)
 have hl:=k.len
 refine ⟨k.ext.trans e,by rw [List.length_append,List.length_singleton]; omega,by rw [List.length_append,k.ol]; rfl,(k.ws.ext e).snoc ?_⟩
 rw [k.ol]
 cases hb:N.testBit i
 ·rw [hb] at hk; rw [show kd = 1 from hk]; exact Wr.zero ht
 ·rw [hb] at hk; rw [show kd = 2 from hk]; exact Wr.one ht
theorem CI.const{l : List Gate}{out : List Int}(h : CI n c gl bits V at_)(h1 : c.kind = 1)(hM : xi 30 gl l out (fun k _ => c.num.testBit k) 0 (n.ow c).toNat) :
  Ext gl l /\ l.length <= gl.length + 1700 /\ Wk 30 l out (n.ow c).toNat (fun ins=>lf n c (V ins)) (ou n at_ c):=by
 obtain ⟨_,hw,ho⟩:=h.out
 have hl:=hM.len
 unfold dk at hw
 have hf:gA (n.ow c) c.num = c.num:=by
  have hf:=h.fit
  simp only [Fits,h1,Int.reduceEq,false_and,true_and,false_or,or_false] at hf; exact hf
 have gP:=tu (n.ow c) c.num
 rw [hf,ho,pA hw,<- ho] at gP
 have hT:=h.T
 have hd:sV n c = 0:=by unfold sV; rw [if_pos h1]
 refine ⟨hM.ext,om,h.res (t:=0) ((Ws.wk (N:=fun _=>c.num) hM.ws hM.ol (fun _=>gP)).as fun ins=>by unfold lf; rw [if_pos h1]) om⟩
-- multiplexers
theorem yD{V : Int → Nat}{k : Nat} : ∀ {l : List Int}, l.length % 2 = 0 → ((rQ V l).testBit k = true ↔ ∃ j, j < l.length / 2 ∧ V (l.getD (2 * j) 0) = 1 ∧ (V (l.getD (2 * j + 1) 0)).testBit k = true)
 | [],_=>by simp [rQ]
 | [_],h=>by simp at h
 | s :: d :: r,h=>by
  have ih:=yD (V:=V) (k:=k) (l:=r) (by simp at h; omega)
  rw [rQ,Nat.testBit_or,Bool.or_eq_true,ih]
  constructor
  ·rintro (h1 | ⟨j,hj,h1,h2⟩)
   ·by_cases hs:V s = 1
    ·rw [if_pos hs] at h1
     exact ⟨0,by simp,hs,h1⟩
    ·rw [if_neg hs,Nat.zero_testBit] at h1; cases h1
   ·exact ⟨j + 1,by simp; omega,by simpa [Nat.mul_add] using h1,by simpa [Nat.mul_add] using h2⟩
  ·rintro ⟨j,hj,h1,h2⟩
   cases j with
   | zero=>left; simp at h1 h2; rw [if_pos h1]; exact h2
   | succ j=>right; exact ⟨j,by simp at hj; omega,by simpa [Nat.mul_add] using h1,by simpa [Nat.mul_add] using h2⟩
theorem Gv{V:Int -> Nat}{l:List Int}{k:Nat}(h:l.length % 2 = 0):kh (fun j=>decide (V (l.getD (2 * j) 0) = 1) && (V (l.getD (2 * j + 1) 0)).testBit k) (l.length / 2) = (rQ V l).testBit k:=by
 rw [Bool.eq_iff_iff,lM,yD h]
 simp
theorem Ci{V : Int → Nat}{w : Nat} : ∀ {l : List Int}, (∀ j, 2 * j + 1 < l.length → V (l.getD (2 * j + 1) 0) < 2 ^ w) → rQ V l < 2 ^ w
 | [],_=>Nat.two_pow_pos w
 | [_],_=>Nat.two_pow_pos w
 | s :: d :: r,h=>by
  rw [rQ]
  refine Nat.or_lt_two_pow ?_ (Ci (l:=r) fun j hj=>by have:=h (j + 1) (by simp; omega); simpa [Nat.mul_add] using this)
  split
  ·exact h 0 (by simp)
  ·exact Nat.two_pow_pos w
structure GQ(n:ae)(c:Cell)(V:List Bool -> Int -> Nat)(at_:List Int)(k:Nat)(g1 gl:List Gate)(l:List Int)(i:Nat):Prop where
 ext:Ext g1 gl
 len:gl.length = g1.length + i / 2
 ev:i % 2 = 0
 il:i <= c.args.length
 ll:l.length = i / 2
 ws:Ws 30 gl l (fun j ins=>decide (V ins (c.args.getD (2 * j) 0) = 1) && (V ins (c.args.getD (2 * j + 1) 0)).testBit k) (lY at_ c.args + 20)
theorem CI.Cj(h:CI n c gl bits V at_)(h3:c.kind = 3):c.args.length % 2 = 0 /\ 2 <= c.args.length /\ ∀ k,k < c.args.length -> (k % 2 = 0 -> n.av c k = 1) /\ (k % 2 = 1 -> n.av c k = n.ow c):=by
 have hf:=h.fit
 have Lb:=h.ok.2.1.k3 h3
 have Pp:∀ k,k < c.args.length -> fo n c k:=by
  simp only [Fits,h3,Int.reduceEq,false_and,true_and,false_or,or_false] at hf; exact hf
 refine ⟨Lb.2,Lb.1,fun k hk=>?_⟩
 have:=Pp k hk
 unfold fo at this
 omega
theorem GQ.init{k:Nat}(hg:Good g1):GQ n c V at_ k g1 g1 [] 0:=⟨.refl hg,by simp,rfl,om,rfl,.nil⟩
theorem GQ.facts{l : List Int}{k i : Nat}(h : CI n c g0 bits V at_)(h3 : c.kind = 3)(hx : GQ n c V at_ k g1 gl l i)(hi : i < c.args.length)(hk : k < (n.ow c).toNat) :
  (i + 1 < c.args.length /\ (0 <= c.args.getD i 0 /\ c.args.getD i 0 < (bits.length:Int)) /\ 0 <= c.args.getD (i + 1) 0 /\ c.args.getD (i + 1) 0 < (bits.length:Int)) /\ (bits.getD (c.args.getD i 0).toNat []).length = 1 /\ (bits.getD (c.args.getD (i + 1) 0).toNat []).length = (n.ow c).toNat:=by
 obtain ⟨he,_,hm⟩:=h.Cj h3
 have Ux:=hx.ev
 have a0:=h.arg hi
 have a1:=h.arg (k:=i + 1) om
 have m0:=(hm i hi).1 Ux
 have m1:=(hm (i + 1) om).2 om
 have b0:=(h.bit (k:=i) (j:=0) hi om).1
 have b1:=(h.bit (k:=i + 1) (j:=k) om om).1
 rw [h.bl]
 exact ⟨⟨om,a0.1,a1.1⟩,by rw [b0,m0]; rfl,by rw [b1,m1]⟩
theorem GQ.step{l : List Int}{k i : Nat}(h : CI n c g0 bits V at_)(h0 : Ext g0 g1)(h3 : c.kind = 3)(hx : GQ n c V at_ k g1 gl l i)(hi : i < c.args.length)(hk : k < (n.ow c).toNat) :
  GQ n c V at_ k g1 (gl ++ [⟨5,(bits.getD (c.args.getD i 0).toNat []).getD 0 0,(bits.getD (c.args.getD (i + 1) 0).toNat []).getD k 0⟩]) (l ++ [(gl.length:Int)]) (i + 2):=by
 obtain ⟨he,_,hm⟩:=h.Cj h3
 have Ux:=hx.ev
 have m0:=(hm i hi).1 Ux
 have m1:=(hm (i + 1) om).2 om
 have b0:=((h.bit (k:=i) (j:=0) hi om).2.ext h0).ext hx.ext
 have b1:=((h.bit (k:=i + 1) (j:=k) om om).2.ext h0).ext hx.ext
 have gP:∀ ins,V ins (c.args.getD i 0) < 2 ^ 1:=fun ins=>by
  have:=(h.wk _ (h.arg hi).2.1).lt ins
  have e:(n.wd (c.args.getD i 0)).toNat = 1:=by show (n.av c i).toNat = 1; rw [m0]; rfl
  rwa [e] at this
 have e:=Ext.two (k:=5) hx.ext.dZ ab b0 b1
 have w:=(b0.as fun ins=>Fx (gP ins)).and (u:=lY at_ c.args + 20) b1 (Int.le_refl _) (Int.le_refl _)
 have hl:=hx.len
 have Y9:=hx.ll
 refine ⟨hx.ext.trans e,by rw [List.length_append,List.length_singleton]; omega,om,om,by rw [List.length_append,List.length_singleton]; omega,(hx.ws.ext e).snoc ?_⟩
 rw [Y9,show 2 * (i / 2) = i by omega]
 exact w
structure GR(n:ae)(c:Cell)(V:List Bool -> Int -> Nat)(at_:List Int)(g0 gl:List Gate)(out:List Int)(k:Nat):Prop where
 ext:Ext g0 gl
 len:gl.length <= g0.length + 7 * k
 ol:out.length = k
 ws:Ws 30 gl out (fun j ins=>(rQ (V ins) c.args).testBit j) (lY at_ c.args + 20 + 20 * (dI (c.args.length / 2):Int))
theorem GR.init(hg:Good g0):GR n c V at_ g0 g0 [] 0:=⟨.refl hg,om,rfl,.nil⟩
theorem GR.step{out l : List Int}{k i : Nat}{g2 : List Gate}{x : Int}(h : CI n c g0 bits V at_)(h3 : c.kind = 3)(ho : GR n c V at_ g0 g1 out k)(hx : GQ n c V at_ k g1 gl l i)(hi : i = c.args.length)(he : Ext gl g2)(hl : g2.length ≤ gl.length + l.length + 1)
  (hw:Wr 30 g2 x (fun ins=>kh (fun j=>decide (V ins (c.args.getD (2 * j) 0) = 1) && (V ins (c.args.getD (2 * j + 1) 0)).testBit k) l.length) (lY at_ c.args + 20 + 20 * (dI l.length:Int))):GR n c V at_ g0 g2 (out ++ [x]) (k + 1):=by
 have h1:=hx.len
 have h2:=hx.ll
 have h4:=ho.len
 have h5:=h.al
 subst hi
 refine ⟨(ho.ext.trans hx.ext).trans he,om,by rw [List.length_append,ho.ol]; rfl,((ho.ws.ext hx.ext).ext he).snoc ?_⟩
 rw [ho.ol]
 rw [h2] at hw
 exact hw.as fun ins=>Gv (h.Cj h3).1
theorem GR.done{l : List Gate}{out : List Int}(h : CI n c gl bits V at_)(h3 : c.kind = 3)(ho : GR n c V at_ gl l out (n.ow c).toNat) :
  Ext gl l /\ l.length <= gl.length + 1700 /\ Wk 30 l out (n.ow c).toNat (fun ins=>lf n c (V ins)) (ou n at_ c):=by
 obtain ⟨_,hw,LL⟩:=h.out
 have hl:=ho.len
 unfold dk at hw
 obtain ⟨he,_,hm⟩:=h.Cj h3
 have hd:sV n c = 20 + 20 * (dI (c.args.length / 2):Int):=by unfold sV; rw [if_neg om,if_neg om,if_pos h3]
 refine ⟨ho.ext,om,h.res ((Ws.wk (N:=fun ins=>rQ (V ins) c.args) ho.ws ho.ol fun ins=>Ci fun j hj=>?_).as fun ins=>by unfold lf; rw [if_neg (show ¬ c.kind = 1 by omega),if_neg (show ¬ c.kind = 2 by omega)]) om⟩
 have h1:=(h.wk _ (h.arg hj).2.1).lt ins
 have e:(n.wd (c.args.getD (2 * j + 1) 0)).toNat = (n.ow c).toNat:=by show (n.av c (2 * j + 1)).toNat = _; rw [(hm (2 * j + 1) hj).2 om]
 rwa [e] at h1
-- operators
def sD(bits:List (List Int))(l:List Int):List (List Int):=l.map fun x=>bits.getD x.toNat []
theorem Dk{l:List Int}{x:Int}:sD bits (l ++ [x]) = sD bits l ++ [bits.getD x.toNat []]:=by simp [sD]
theorem Dl{l:List Int}{k:Nat}(hk:k < l.length):sD bits (l.take (k + 1)) = sD bits (l.take k) ++ [bits.getD (l.getD k 0).toNat []]:=by
 rw [take_one (d:=(0:Int)) hk,Dk]
theorem pd(l:List Int):(sD bits l).length = l.length:=by simp [sD]
theorem Gw{l:List Int}{k:Nat}(hk:k < l.length):(sD bits l).getD k [] = bits.getD (l.getD k 0).toNat []:=by
 unfold sD
 rw [List.getD_eq_getElem?_getD,List.getElem?_map,List.getElem?_eq_getElem hk,List.getD_eq_getElem?_getD (l:=l),List.getElem?_eq_getElem hk]; rfl
def IB(c:Cell)(V:List Bool -> Int -> Nat)(k:Nat)(ins:List Bool):Nat:=if k < c.args.length then V ins (c.args.getD k 0) else 0
theorem CI.Uy(h:CI n c gl bits V at_)(h2:c.kind = 2):Ia 30 gl (sD bits c.args) c.op (n.av c 0).toNat (n.ow c).toNat (IB c V 0) (IB c V 1) (IB c V 2) (lY at_ c.args):=by
 obtain ⟨_,vk,LL⟩:=h.out
 have hs:=h.ok.2.1
 have hf:=h.fit
 simp only [Shaped,h2,Int.reduceEq,false_and,true_and,false_or,or_false] at hs
 have h0:cy c.op ≠ 0 /\ (c.args.length:Int) = cy c.op:=⟨hs.1,hs.2.1⟩
 have QL:bR c.op (n.av c 0) (n.av c 1) (n.av c 2) (n.ow c):=by
  simp only [Fits,h2,Int.reduceEq,false_and,true_and,false_or,or_false] at hf; exact hf
 clear hs hf
 have so:=uE h0.1 h0.2
 have w0:=(h.arg (k:=0) om).2.2
 have uF:∀ {j},j < c.args.length -> Wk 30 gl ((sD bits c.args).getD j []) (n.av c j).toNat (IB c V j) (lY at_ c.args):=fun {j} hj=>by
  have hm:=(h.arg hj).2.1
  rw [Gw hj]
  exact ((h.wk _ hm).late (Ce hm)).as fun ins=>by unfold IB; rw [if_pos hj]
 rw [<- LL] at vk
 unfold dk at w0 vk
 unfold bR eY at QL
 have hT:=h.T
 refine ⟨uF om,fun g=>?_,fun g=>?_,?_,om,om,hT.1⟩
 ·rw [pd] at g
  have hy:=uF (j:=1) om
  have e:(n.av c 1).toNat = if c.op = 21 then (n.ow c).toNat else (n.av c 0).toNat:=by
   by_cases Mb:c.op = 21
   ·rw [if_pos Mb]; omega
   ·rw [if_neg Mb]; omega
  rw [<- e]; exact hy
 ·rw [pd] at g
  have hz:=uF (j:=2) om
  have e:(n.av c 2).toNat = (n.ow c).toNat:=by omega
  rw [e] at hz; exact hz
 ·rw [pd]; omega
theorem CI.Qc{l : List Gate}{out : List Int}(h : CI n c gl bits V at_)(h2 : c.kind = 2)(hr : BU 30 l out c.op (n.av c 0).toNat (n.ow c).toNat (IB c V 0) (IB c V 1) (IB c V 2) (lY at_ c.args)) :
  Wk 30 l out (n.ow c).toNat (fun ins=>lf n c (V ins)) (ou n at_ c):=by
 refine h.res (hr.as fun ins=>?_) (Int.le_of_eq ?_)
 ·show _ = lf n c (V ins)
  unfold lf IB; rw [if_neg (show ¬ c.kind = 1 by omega),if_pos h2]
 ·obtain ⟨_,_,LL⟩:=h.out
  have e:(if eY c.op then n.av c 0 else n.ow c).toNat = if eY c.op then (n.av c 0).toNat else (n.ow c).toNat:=by split <;> rfl
  unfold sV
  rw [if_neg (show ¬ c.kind = 1 by omega),if_pos h2,<- LL,e]
end
end Go.Proofs.Ytlimckldnjmabaa
