/- The walk of cell. -/
import Derived.Test.YtlimckldnjmabaaSynx3
import Derived.Test.YtlimckldnjmabaaSynx0
import Derived.Test.YtlimckldnjmabaaAWx2
import Derived.Test.YtlimckldnjmabaaSynx2
import Derived.Test.YtlimckldnjmabaaSynx1
set_option linter.unusedSimpArgs false
set_option linter.unusedVariables false
set_option linter.unusedSectionVars false
set_option maxRecDepth 4000
set_option maxHeartbeats 8000000
namespace Go.Proofs.Ytlimckldnjmabaa
open Go Go.AW Go.Proofs
theorem AS{gl:List Gate}(hg:Good gl)(tJ:gl.length <= 10000000){n:ae}{c:Cell}{bits:List (List Int)}{V:List Bool -> Int -> Nat}{at_:List Int}(hI:CI n c gl bits V at_)(YA:n.aa.length <= 1000)(NN:c.num < 18446744073709551616):aw Try.prog 94 [.ptr 0 0 0 0,.agg (ae.row n),.agg (Cell.row c),.fz 1 (bits.map ef)] [.cells [.aN 1 3 0 gl.length],.rows 3 (gl.map Gate.row)] [0] (fun r o=>∃ (l:List Gate) (out:List Int),(Ext gl l /\ l.length <= gl.length + 1700 /\ Wk 30 l out (n.ow c).toNat (fun ins=>lf n c (V ins)) (ou n at_ c)) /\ r = .dK 1 (out.map ah) /\ o = [.cells [.aN 1 3 0 l.length],.rows 3 (l.map Gate.row)]):=by
 refine aw.of Try.func94 U U U (n:=116) ab (aH U) ?_
 obtain ⟨QW,YB,LL⟩:=hI.out; have hT:=hI.T; have Ln:=hI.bl; have so:=hI.al; unfold dk at YB; have vk:n.aa.getD c.out.toNat 0 = n.wd c.out:=rfl
 refine .sr (.box 105 U U U U U ab (.box 106 U U U U U ab ?_))
 refine .an ?_
 refine .nil (.seq (.sh (Sh.iY 105 U U) (.sh (Sh.iY 106 U U) (.region (.fa bB ?_)))))
 refine .ld bn ?_
 refine .fa eg ?_
 refine .ld bg ?_
 refine .vl (Y.qr (m:=(c.out).toNat) a7 U U om (ao (d:=0) om)) (.ld bg ?_)
 refine .an ?_
 refine .nil (.seq (.sr (.fa ck ?_)))
 refine .ld bg ?_
 refine .nil (.block (.sr (.vl (Y.ql U U) (.an (.nil ?_)))))
 refine .aB U (fun yS=>?_) (fun yS=>?_)
 refine .sr (.an ?_)
 refine .sh (Sh.nil (d:=10) 110 1 U ab) (.nil (.seq (.sr (.mv ?_))))
 refine .mv ?_
 refine .nil (.block (.e8 (fun (mw:Nat) (fZ:List Gate) (mx:List Int)=>⟨[(0,.ptr 0 0 0 0),(6,.fp (Cell.row c) 0),(10,.aN 110 1 0 mx.length),(29,vi (n.aa.getD ((c.out).toNat) 0)),(30,vi mw)],[(0,.cells [.aN 1 3 0 fZ.length]),(1,.rows 3 (fZ.map Gate.row)),(110,.rows 1 (mx.map ah))]⟩) (fun mw fZ mx=>((mw:Int) <= (n.aa.getD ((c.out).toNat) 0)) /\ (xi 30 gl fZ mx (fun k _=>c.num.testBit k) 0 mw)) (fun mw fZ mx=>((n.aa.getD ((c.out).toNat) 0) - (mw:Int)).toNat) 0 gl ([]:List Int) (⟨pP,xi.init hg⟩) (Le.mk (.c2 (.cons (aM U aJ) (.c (.cons (ak U aY) .nil)))) (.cons (az U eS) (.c (.c .nil)))) (fun mw fZ mx Pt=>?_)))
 obtain ⟨XP,hM⟩:=Pt
 refine .sr (.vl (Y.zb U U) (.nil (.seq (.aB U (fun tE=>?_) (fun tE=>?_)))))
 refine .skip (.seq (.block (.sr (.mv ?_))))
 refine .an (.nil ?_)
 have MB:=hM.len; have TL:=hM.ol; have Xa:=Nat.div_le_self c.num (2 ^ mw)
 refine .region (.mv ?_)
 refine .mv ?_
 refine .fa dE ?_
 refine .ld fV ?_
 refine .mv ?_
 refine .vl (Y.zv (a:=c.num) mw U U aY om) (.vl (Y.qe (a:=(c.num / 2 ^ mw)) (b:=1) U U aJ) (.vl (Y.qk wE r4 U (by first | rfl | exact IntWalk.i64_in _ aJ)) (.vl (Y.qb U U aJ) (.b7 [0,1] [] sR (jx (gl:=fZ) (k:=1 + (((c.num / 2 ^ mw) &&& 1:Nat):Int)) (a:=0) (b:=0) om) U (.named U U (.ai U U (.ai U U (.ai U U .nil)))) ⟨U,U,trivial⟩ U ab (fun _ h=>by cases h) (fun _ h=>by cases h) ab ab ?_))))
 rintro r aK ⟨rfl,rfl⟩ _
 refine ⟨⟨rfl,(by intro ob aZ; simp only [List.mem_cons,List.not_mem_nil,or_false] at aZ; rcases aZ with rfl | rfl <;> rfl),.inl rfl⟩,(.buildSlice (([(fZ.length:Int)]:List Int).map ah) a7 dG U U U U U (aq (s:=1) (f:=ah) (fun _=>U)) U U U ab ?_)⟩
 refine .cJ ah (mx ++ ([(fZ.length:Int)]:List Int)) a7 dG U U U U (bh aJ) (aV aJ) (b8 aJ) aJ aJ ab ab ?_
 refine .an (.nil (.region ?_))
 refine .vl (Y.qb U U aJ) (.mv ?_)
 refine .nil (⟨mw + 1,fZ ++ [(⟨1 + (((c.num / 2 ^ mw) &&& 1:Nat):Int),0,0⟩:Gate)],mx ++ ([(fZ.length:Int)]:List Int),⟨om,hM.Me (Int.le_refl _) (by rw [Nat.and_one_is_mod,Nat.toNat_testBit])⟩,om,Le.mk (.c2 (.cons (aM U om) (.c (.cons (ak U aY) .nil)))) (.cons (az U eS) (.c (.c .nil)))⟩)
 refine .exit (.sr (.mv ?_))
 refine .an ?_
 exact .sh (Sh.dL (d:=8) (o:=110) U U (aW om) ab) (.nil (.ret ⟨_,_,U,U,_,_,hI.const yS (by rw [show (n.ow c).toNat = mw by omega]; exact hM),U,U⟩))
 refine .sr (.vl (Y.ql U U) (.an (.nil ?_)))
 refine .aB U (fun I1=>?_) (fun I1=>?_)
 have h3:c.kind = 3:=I1
 refine .sr (.an ?_)
 refine .sh (Sh.nil (d:=12) 112 1 U ab) (.nil (.seq (.sr (.mv ?_))))
 refine .mv ?_
 refine .nil (.block (.e8 (fun (jk:Nat) (cY:List Gate) (iU:List Int)=>⟨[(0,.ptr 0 0 0 0),(3,.fz 1 (bits.map ef)),(6,.fp (Cell.row c) 0),(12,.aN 112 1 0 iU.length),(49,vi (n.aa.getD ((c.out).toNat) 0)),(50,vi jk)],[(0,.cells [.aN 1 3 0 cY.length]),(1,.rows 3 (cY.map Gate.row)),(112,.rows 1 (iU.map ah))]⟩) (fun jk cY iU=>((jk:Int) <= (n.aa.getD ((c.out).toNat) 0)) /\ (GR n c V at_ gl cY iU jk)) (fun jk cY iU=>((n.aa.getD ((c.out).toNat) 0) - (jk:Int)).toNat) 0 gl ([]:List Int) (⟨pP,GR.init hg⟩) (Le.mk (.c2 (.c (.cons (aM U aJ) (.c (.cons (ak U aY) .nil))))) (.cons (az U eS) (.c (.c .nil)))) (fun jk cY iU L5=>?_)))
 obtain ⟨YC,hO⟩:=L5
 refine .sr (.vl (Y.zb U U) (.nil (.seq (.aB U (fun Tr=>?_) (fun Tr=>?_)))))
 refine .skip (.seq (.block (.seq ?_)))
 have hOl:=hO.len; have hOo:=hO.ol
 refine .region (.mv ?_)
 refine .an (.nil (.sr ?_))
 refine .an ?_
 refine .sh (Sh.nil (d:=14) 114 1 U ab) (.nil (.seq (.sr (.an (.nil (.block ?_))))))
 refine .e8 (fun (iG:Nat) (kW:List Gate) (mL:List Int)=>⟨[(0,.ptr 0 0 0 0),(3,.fz 1 (bits.map ef)),(6,.fp (Cell.row c) 0),(12,.aN 112 1 0 iU.length),(13,vi jk),(14,.aN 114 1 0 mL.length),(15,vi iG),(49,vi (n.aa.getD ((c.out).toNat) 0)),(50,vi jk)],[(0,.cells [.aN 1 3 0 kW.length]),(1,.rows 3 (kW.map Gate.row)),(112,.rows 1 (iU.map ah)),(114,.rows 1 (mL.map ah))]⟩) (fun iG kW mL=>((iG:Int) <= (c.args.length:Int)) /\ (GQ n c V at_ jk cY kW mL iG)) (fun iG kW mL=>((c.args.length:Int) - (iG:Int)).toNat) 0 cY ([]:List Int) (⟨pP,GQ.init hO.ext.dZ⟩) (Le.mk (.c4 (.c (.cons (aM U aJ) (.cons (ak U aY) (.c (.c .nil)))))) (.cons (az U eS) (.c2 (.c .nil)))) (fun iG kW mL Uz=>?_)
 obtain ⟨YD,hX⟩:=Uz
 refine .seq (.sr (.mv ?_))
 refine .fa bT ?_
 refine .ld bn ?_
 refine .vl (Y.qw (n:=c.args.length) a7 U (congrArg some (List.length_map ..))) (.vl (Y.zb U U) (.nil (.aB U (fun DD=>?_) (fun DD=>?_))))
 refine .skip (.seq (.block ?_))
 have VW:=hX.len; have U6:=hX.ll; obtain ⟨⟨Ma,SL,KX⟩,xe,hb1⟩:=hX.facts hI h3 om om
 refine .de U (.blind 0 U au (ax.move U U) ab (.br (n:=4) [1,2,3,4,5,6,7,8,9,10,11,12,13,14,15,16,17,18,19,20,21,22,23] [24,25,26,27] 24 U au ?_))
 refine .cn 1 U (Y.zf U U) (.cn 2 U (Y.zf U U) (.cn 3 U (Y.qo bT U U) (.cn 4 U (Y.qz bn U U U U) (.cn 5 U (Y.zf U U) (.cn 6 U (Y.qr (m:=iG) a7 U U aY (ao (d:=0) om)) (.cn 7 U (Y.qz bg U U U U) (.cn 8 U (Y.qr (m:=(c.args.getD iG 0).toNat) ee U U om (ao (d:=[]) om)) (.cn 9 U (Y.qz bn U U U U) (.cn 10 U (Y.qr (m:=0) a7 U U aY (ao (d:=0) om)) (.cn 11 U (Y.qz bg U U U U) (.cn 12 U (Y.zf U U) (.cn 13 U (Y.qo bT U U) (.cn 14 U (Y.qz bn U U U U) (.cn 15 U (Y.zf U U) (.cn 16 U (Y.qb U U om) (.cn 17 U (Y.qr (m:=iG + 1) a7 U U aY (ao (d:=0) om)) (.cn 18 U (Y.qz bg U U U U) (.cn 19 U (Y.qr (m:=(c.args.getD (iG + 1) 0).toNat) ee U U om (ao (d:=[]) om)) ?_))))))))))))))))))
 refine .cn 20 U (Y.qz bn U U U U) (.cn 21 U (Y.zf U U) (.cn 22 U (Y.qr (m:=jk) a7 U U aY (ao (d:=0) om)) (.cn 23 U (Y.qz bg U U U U) (.nil (.one 24 U au (.b7 [0,1] [] tj (gD (gl:=kW) (a:=(bits.getD ((c.args.getD iG 0).toNat) []).getD 0 0) (b:=(bits.getD ((c.args.getD (iG + 1) 0).toNat) []).getD jk 0) om) U (.named U U (.ai U U (.ai U U .nil))) ⟨U,U,trivial⟩ U ab (fun _ h=>by cases h) (fun _ h=>by cases h) ab ab ?_))))))
 rintro r aK ⟨rfl,rfl⟩ _
 refine ⟨⟨rfl,(by intro ob aZ; simp only [List.mem_cons,List.not_mem_nil,or_false] at aZ; rcases aZ with rfl | rfl <;> rfl),.inl rfl⟩,(.nil ⟨U,(.one 25 U au (.buildSlice (([(kW.length:Int)]:List Int).map ah) a7 dG U U U U U (aq (s:=1) (f:=ah) (fun _=>U)) U U U ab ?_))⟩)⟩
 refine .nil ⟨U,(.one 26 U au (.cJ ah (mL ++ ([(kW.length:Int)]:List Int)) a7 dG U U U U (bh aJ) (aV aJ) (b8 aJ) aJ aJ ab ab ?_))⟩
 refine .nil ⟨U,(.br (n:=0) [27] [] 0 U au (.cn 27 U (Y.qf U U) (.nil (.done au (.region (.mv ?_))))))⟩
 refine .vl (Y.qb U U aJ) (.an ?_)
 refine .nil (⟨iG + 2,kW ++ [(⟨5,(bits.getD ((c.args.getD iG 0).toNat) []).getD 0 0,(bits.getD ((c.args.getD (iG + 1) 0).toNat) []).getD jk 0⟩:Gate)],mL ++ ([(kW.length:Int)]:List Int),⟨om,hX.step hI hO.ext h3 om om⟩,om,Le.mk (.c4 (.c (.cons (aM U om) (.cons (ak U aY) (.c (.c .nil)))))) (.cons (az U eS) (.c2 (.c .nil)))⟩)
 refine .exit (.sh (Sh.dL (d:=14) (o:=114) U U (aW om) ab) (.sh (Sh.cN (d:=14) (mL.map ah) U iX (cM.map aI)) ?_))
 have VW:=hX.len; have U6:=hX.ll; have YE:=hX.il; have hXg:=hX.ext.dZ
 refine .region (.mv ?_)
 refine .mv ?_
 refine .mv ?_
 refine .b7 [0,1] [] ES (uZ (gl:=kW) hX.ext.dZ om (a:=mL) hX.ws om om) U (.named U U (.ai U U .nil)) ⟨U,U,trivial⟩ U ab (fun _ h=>by cases h) (fun _ h=>by cases h) ab ab ?_
 rintro r aK ⟨YF,U7,U8,Qd,U9,rfl,rfl⟩ _
 refine ⟨⟨rfl,(by intro ob aZ; simp only [List.mem_cons,List.not_mem_nil,or_false] at aZ; rcases aZ with rfl | rfl <;> rfl),.inl rfl⟩,(.buildSlice (([U7]:List Int).map ah) a7 dG U U U U U (aq (s:=1) (f:=ah) (fun _=>U)) U U U ab ?_)⟩
 refine .cJ ah (iU ++ ([U7]:List Int)) a7 dG U U U U (bh aJ) (aV aJ) (b8 aJ) aJ aJ ab ab ?_
 refine .an (.nil (.region ?_))
 refine .vl (Y.qb U U aJ) (.mv ?_)
 refine .nil (⟨jk + 1,YF,iU ++ ([U7]:List Int),⟨om,hO.step hI h3 hX om U8 Qd U9⟩,om,Le.mk (.c2 (.c (.cons (aM U om) (.c (.cons (ak U aY) .nil))))) (.cons (az U eS) (.c (.c .nil)))⟩)
 refine .exit (.sr (.mv ?_))
 refine .an ?_
 exact .sh (Sh.dL (d:=8) (o:=112) U U (aW om) ab) (.nil (.ret ⟨_,_,U,U,_,_,GR.done hI h3 (by rw [show (n.ow c).toNat = jk by omega]; exact hO),U,U⟩))
 refine .skip (.seq ?_)
 have h2:c.kind = 2:=(by have:=hI.comb; unfold cU at this; omega)
 refine .region (.an ?_)
 refine .sh (Sh.nil (d:=16) 116 1 U ab) (.nil (.seq (.sr (.fa bT ?_))))
 refine .ld bn ?_
 refine .vl (Y.qw (n:=c.args.length) a7 U (congrArg some (List.length_map ..))) (.mv ?_)
 refine .nil (.block (.gT (fun (jm:Nat) (gd:List (List Int))=>⟨[(0,.ptr 0 0 0 0),(3,.fz 1 (bits.map ef)),(6,.fp (Cell.row c) 0),(9,vi (n.aa.getD ((c.out).toNat) 0)),(16,.aN 116 1 0 gd.length),(96,.fz 1 (c.args.map ah)),(97,vi c.args.length),(98,vi jm)],[(0,.cells [.aN 1 3 0 gl.length]),(1,.rows 3 (gl.map Gate.row)),(116,.rows 1 (gd.map ef))]⟩) (fun jm gd=>((jm:Int) <= (c.args.length:Int)) /\ (gd = sD bits (c.args.take jm))) (fun jm gd=>((c.args.length:Int) - (jm:Int)).toNat) 0 ([]:List (List Int)) (⟨pP,U⟩) (Le.mk (.c4 (.cons (aM U aJ) (.c2 (.cons (ak U aY) .nil)))) (.c2 (.c .nil))) (fun jm gd Lg=>?_)))
 obtain ⟨SX,hA⟩:=Lg
 refine .sr (.vl (Y.zb U U) (.nil (.seq (.aB U (fun SO=>?_) (fun SO=>?_)))))
 refine .skip (.seq (.block (.seq ?_)))
 have YG:=hI.ok.1 _ (cg (l:=c.args) (i:=jm) om); unfold In at YG; have UA:=pd (bits:=bits) (c.args.take jm); rw [<- hA,List.length_take] at UA
 refine .region (.vl (Y.qr (m:=jm) a7 U U aY (ao (d:=0) om)) (.ld bg ?_))
 refine .an (.nil (.region ?_))
 refine .mv ?_
 refine .mv ?_
 refine .mv ?_
 refine .vl (Y.qr (m:=(c.args.getD jm 0).toNat) ee U U om (ao (d:=[]) om)) (.ld bn ?_)
 refine .buildSlice (([bits.getD ((c.args.getD jm 0).toNat) []]:List (List Int)).map ef) ee pJ U U U U U (aq (s:=1) (f:=ef) (fun _=>U)) U U U ab ?_
 refine .cJ ef (gd ++ ([bits.getD ((c.args.getD jm 0).toNat) []]:List (List Int))) ee pJ U U U U (bh aJ) (aV aJ) (b8 aJ) aJ aJ ab ab ?_
 refine .an (.nil (.region ?_))
 refine .vl (Y.qb U U aJ) (.mv ?_)
 refine .nil (⟨jm + 1,gd ++ ([bits.getD ((c.args.getD jm 0).toNat) []]:List (List Int)),⟨om,by rw [hA,Dl om]⟩,om,Le.mk (.c4 (.cons (aM U om) (.c2 (.cons (ak U aY) .nil)))) (.c2 (.c .nil))⟩)
 refine .exit (.seq (.sh (Sh.dL (d:=16) (o:=116) U U (aW om) ab) (.sh (Sh.cN (d:=16) (gd.map ef) U iX (cM.map nD)) ?_)))
 have WE:gd = sD bits c.args:=(by rw [hA,List.take_of_length_le om]); have hIn:=hI.Uy h2; rw [<- WE,LL] at hIn; have UA:=pd (bits:=bits) c.args; rw [<- WE] at UA
 refine .region (.mv ?_)
 refine .fa cL ?_
 refine .ld bg ?_
 refine .mv ?_
 refine .mv ?_
 refine .b7 [0,1] [] OB (pc (c:=30) (gl:=gl) (op:=c.op) (ws:=gd) (width:=n.aa.getD ((c.out).toNat) 0) hg om hIn om om) U (.named U U (.ai U U (.ai U U (.ai U U .nil)))) ⟨U,U,trivial⟩ U ab (fun _ h=>by cases h) (fun _ h=>by cases h) ab ab ?_
 rintro r aK ⟨YH,UB,Qe,UC,Qf,rfl,rfl⟩ _
 exact ⟨⟨rfl,(by intro ob aZ; simp only [List.mem_cons,List.not_mem_nil,or_false] at aZ; rcases aZ with rfl | rfl <;> rfl),.inl rfl⟩,(.bX U ab (.nil (.ret (⟨_,_,U,U,_,_,⟨Qe,om,hI.Qc h2 (by rw [LL]; exact Qf)⟩,U,U⟩))))⟩
open Go Go.AW
theorem xb{n:ae}(hf:bx n){i:Int}(h:0 <= i /\ i < n.cells.length):Src (n.cell i).kind ↔ ¬ cU (n.cell i).kind /\ (n.cell i).kind ≠ 7:=by
 have h1:=(hf.cellAt h).2.1.kind
 unfold Src cU; omega
theorem wu{n:ae}{i:Nat}(h:Src (n.cells.getD i default).kind):mK n (i + 1) = mK n i + (n.wd (n.cells.getD i default).out).toNat:=by rw [mK,if_pos h]
theorem Dm{n:ae}{i:Nat}(h:¬ Src (n.cells.getD i default).kind):mK n (i + 1) = mK n i:=by rw [mK,if_neg h]; rfl
structure pO(n:ae)(gl:List Gate)(bits:List (List Int))(i:Nat):Prop where
 gl:gl = p6 (mK n i)
 bl:bits.length = n.aa.length
 eq:∀ j x,cX n j x -> Src (n.cell j).kind -> j < i -> bits.getD x.toNat [] = p5 (mK n j.toNat) (n.wd x).toNat
section
variable {n:ae} {gl l' g0 g1:List Gate} {bits nx IC:List (List Int)} {i k:Nat} {l:List Int} {V:List Bool -> Int -> Nat} {at_:List Int}
theorem pO.init:pO n [] (List.replicate n.aa.length []) 0:=⟨rfl,by simp,fun j x hd _ h=>by have:=hd.1; omega⟩
theorem pO.skip(h:pO n gl bits i)(hk:¬ Src (n.cells.getD i default).kind):pO n gl bits (i + 1) :=
 ⟨by rw [h.gl,Dm hk],h.bl,fun j x hd hs hj=>h.eq j x hd hs (by
  by_cases e:j = i
  ·subst e; exact absurd hs hk
  ·omega)⟩
theorem pO.set(hf : bx n)(h : pO n gl bits i)(hi : i < n.cells.length)(hk : Src (n.cells.getD i default).kind){w : Nat}(hw : w = (n.wd (n.cells.getD i default).out).toNat) :
  pO n (gl ++ p6 w) (bits.set (n.cells.getD i default).out.toNat (p5 gl.length w)) (i + 1):=by
 have Qg:cX n (i:Int) (n.cells.getD i default).out:=⟨om,((xb hf (i:=(i:Int)) om).1 hk).2,rfl⟩
 have pG:=hf.iQ Qg
 unfold In at pG
 refine ⟨by rw [h.gl,BR,wu hk,hw],by rw [List.length_set]; exact h.bl,fun j x hd hs hj=>?_⟩
 have PO:=hf.iQ hd
 unfold In at PO
 by_cases e:x = (n.cells.getD i default).out
 ·subst e
  have e2:=hf.unique hd Qg
  subst e2
  rw [bP,if_pos ⟨rfl,by rw [h.bl]; omega⟩,h.gl,kB,hw,Int.toNat_natCast]
 ·have fN:j ≠ (i:Int):=fun e2=>by subst e2; exact e hd.2.2.symm
  rw [bP,if_neg om]
  exact h.eq j x hd hs om
theorem pO.len(hf:bx n)(h:pO n gl bits i):gl.length <= 64 * i:=by rw [h.gl,kB]; exact Ch hf.ta i
theorem pO.dZ(h:pO n gl bits i):Good gl:=by rw [h.gl]; exact rG _
structure qR(n:ae)(l:List Int)(V:List Bool -> Int -> Nat)(at_:List Int)(gl:List Gate)(bits:List (List Int))(k:Nat):Prop where
 ext:Ext (p6 (mK n n.cells.length)) gl
 len:gl.length <= 64 * n.cells.length + 1700 * k
 bl:bits.length = n.aa.length
 wk:∀ j x,cX n j x -> (cU (n.cell j).kind -> l.idxOf j < k) -> Wk 30 gl (bits.getD x.toNat []) (n.wd x).toNat (fun ins=>V ins x) (at_.getD x.toNat 0)
theorem qR.init(hf:bx n)(hV:VI n V)(hA:Gf n at_)(h:pO n gl bits n.cells.length):qR n l V at_ gl bits 0:=by
 refine ⟨by rw [h.gl]; exact .refl (rG _),by have:=h.len hf; omega,h.bl,fun j x hd hc=>?_⟩
 have Qh:¬ cU (n.cell j).kind:=fun e=>by have:=hc e; omega
 have hs:Src (n.cell j).kind:=(xb hf hd.1).2 ⟨Qh,hd.2.1⟩
 have hj:=hd.1
 have MH:Src (n.cells.getD j.toNat default).kind:=hs
 have hw:(n.cells.getD j.toNat default).out = x:=hd.2.2
 have h1:=wu MH
 have h2:=wo (n:=n) (i:=j.toNat + 1) (j:=n.cells.length) om
 rw [hw] at h1
 have h3:=Jt (c:=30) (s:=mK n j.toNat) (w:=(n.wd x).toNat) (n:=mK n n.cells.length) om
 rw [h.eq j x hd hs om,h.gl]
 have h4:at_.getD x.toNat 0 = 30:=by
  rw [hA.eq j x hd]
  have UD:=Qh
  unfold cU at UD
  unfold ou sV
  rw [if_neg Qh,if_neg om,if_neg om,if_neg om]; rfl
 rw [h4]
 refine h3.as fun ins=>?_
 rw [(hV ins).eq j x hd,if_neg Qh]
 unfold LK
 rw [show (n.cell j).out = x from hw]
theorem qR.skip(ho:Ord n l)(h:qR n l V at_ gl bits k)(hk:k < l.length)(hc:¬ cU (n.cell (l.getD k 0)).kind):qR n l V at_ gl bits (k + 1):=by
 refine ⟨h.ext,by have:=h.len; omega,h.bl,fun j x hd hj=>h.wk j x hd fun JX=>?_⟩
 have h1:=hj JX
 rcases Nat.lt_or_ge (l.idxOf j) k with h2 | h2
 ·exact h2
 ·exfalso
  have gP:l.idxOf j < l.length:=List.idxOf_lt_length_of_mem (ho.mem hd.1)
  have h3:l.getD (l.idxOf j) 0 = j:=by rw [List.getD_eq_getElem?_getD,List.getElem?_eq_getElem gP]; exact List.getElem_idxOf gP
  rw [show l.idxOf j = k by omega] at h3
  rw [h3] at hc; exact hc JX
theorem qR.ci(hv:VT n)(ha:∀ c ∈ n.cells,c.args.length <= 6)(ho:Ord n l)(hA:Gf n at_)(h:qR n l V at_ gl bits k)(hk:k < l.length)(hc:cU (n.cell (l.getD k 0)).kind):CI n (n.cell (l.getD k 0)) gl bits V at_:=by
 have hr:=ho.vL _ (cg hk)
 have pG:n.cell (l.getD k 0) ∈ n.cells:=getD_in om
 refine ⟨hv.formed.ta,hc,hv.formed.cellAt hr,hv.fit.cells _ om,ha _ pG,h.bl,fun x hx=>?_,fun x hx=>?_⟩
 ·obtain ⟨j,hj,h1⟩:=ho.lt hr hc hx
  rw [va ho.nd hk] at h1
  exact h.wk j x hj fun _=>h1
 ·obtain ⟨j,hj,h1⟩:=ho.lt hr hc hx
  rw [va ho.nd hk] at h1
  have h2:=hA.bound hv ho j x hj
  have h3:=ho.len
  have h4:=hv.dm
  omega
theorem qR.set(hf : bx n)(ho : Ord n l)(hV : VI n V)(hA : Gf n at_)(h : qR n l V at_ gl bits k)(hk : k < l.length)(hc : cU (n.cell (l.getD k 0)).kind){out : List Int}
  (he:Ext gl l') (hl:l'.length <= gl.length + 1700) (hw:Wk 30 l' out (n.ow (n.cell (l.getD k 0))).toNat (fun ins=>lf n (n.cell (l.getD k 0)) (V ins)) (ou n at_ (n.cell (l.getD k 0)))) :
  qR n l V at_ l' (bits.set (n.cell (l.getD k 0)).out.toNat out) (k + 1):=by
 have hr:=ho.vL _ (cg hk)
 have Qg:cX n (l.getD k 0) (n.cell (l.getD k 0)).out:=⟨hr,fun h7=>by unfold cU at hc; omega,rfl⟩
 have pG:=hf.iQ Qg
 unfold In at pG
 refine ⟨h.ext.trans he,Nat.le_trans hl (Nat.le_trans (Nat.add_le_add_right h.len _) (by rw [Nat.mul_add]; exact Nat.le_of_eq (Nat.add_assoc ..))),by rw [List.length_set]; exact h.bl,fun j x hd hj=>?_⟩
 have PO:=hf.iQ hd
 unfold In at PO
 by_cases e:x = (n.cell (l.getD k 0)).out
 ·subst e
  have e2:=hf.unique hd Qg
  subst e2
  rw [bP,if_pos ⟨rfl,by rw [h.bl]; omega⟩,hA.eq _ _ hd]
  have e3:n.ow (n.cell (l.getD k 0)) = n.wd (n.cell (l.getD k 0)).out:=by unfold ae.ow; rw [if_pos pG.1]
  rw [e3] at hw
  refine hw.as fun ins=>?_
  rw [(hV ins).eq _ _ hd,if_pos hc]
 ·have fN:j ≠ l.getD k 0:=fun e2=>by subst e2; exact e hd.2.2.symm
  rw [bP,if_neg om]
  refine (h.wk j x hd fun JX=>?_).ext he
  have h1:=hj JX
  rcases Nat.lt_or_ge (l.idxOf j) k with h2 | h2
  ·exact h2
  ·exfalso
   have gP:l.idxOf j < l.length:=List.idxOf_lt_length_of_mem (ho.mem hd.1)
   have h3:l.getD (l.idxOf j) 0 = j:=by rw [List.getD_eq_getElem?_getD,List.getElem?_eq_getElem gP]; exact List.getElem_idxOf gP
   rw [show l.idxOf j = k by omega] at h3
   exact fN h3.symm
structure Gx(n:ae)(V:List Bool -> Int -> Nat)(at_:List Int)(gl:List Gate)(bits:List (List Int)):Prop where
 ext:Ext (p6 (mK n n.cells.length)) gl
 len:gl.length <= 1764 * n.cells.length
 bl:bits.length = n.aa.length
 wk:∀ x,In x n.aa.length -> Wk 30 gl (bits.getD x.toNat []) (n.wd x).toNat (fun ins=>V ins x) (at_.getD x.toNat 0)
theorem qR.done(hf:bx n)(ho:Ord n l)(h:qR n l V at_ gl bits k)(hk:k = l.length):Gx n V at_ gl bits :=
 ⟨h.ext,by have:=h.len; have:=ho.len; omega,h.bl,fun x hx=>by
  obtain ⟨j,hj⟩:=hf.sj hx
  exact h.wk j x hj fun _=>by rw [hk]; exact List.idxOf_lt_length_of_mem (ho.mem hj.1)⟩
def Qi(n:ae)(V:List Bool -> Int -> Nat)(c:Cell)(ins:List Bool):Nat:=if V ins (c.args.getD 0 0) = 1 /\ V ins n.freeze ≠ 1 then V ins (c.args.getD 1 0) else V ins c.out
def Dn(n:ae)(at_:List Int)(c:Cell):Int:=max (max (at_.getD (c.args.getD 1 0).toNat 0 + 40) (at_.getD (c.args.getD 0 0).toNat 0 + 80)) (max (at_.getD n.freeze.toNat 0 + 80) (at_.getD c.out.toNat 0 + 40))
structure yE(n:ae)(V:List Bool -> Int -> Nat)(at_:List Int)(gl:List Gate)(bits:List (List Int))(c:Cell):Prop where
 al:c.args.length = 2
 WG:In (c.args.getD 0 0) n.aa.length /\ In (c.args.getD 1 0) n.aa.length
 out:In c.out n.aa.length
 wide:dk (n.wd c.out)
 w1:n.wd (c.args.getD 1 0) = n.wd c.out
 sl:(bits.getD (c.args.getD 0 0).toNat []).length = 1
 yl:(bits.getD (c.args.getD 1 0).toNat []).length = (n.wd c.out).toNat
 ol:(bits.getD c.out.toNat []).length = (n.wd c.out).toNat
 s:Wr 30 gl ((bits.getD (c.args.getD 0 0).toNat []).getD 0 0) (fun ins=>decide (V ins (c.args.getD 0 0) = 1)) (at_.getD (c.args.getD 0 0).toNat 0)
 y:∀ k,k < (n.wd c.out).toNat -> Wr 30 gl ((bits.getD (c.args.getD 1 0).toNat []).getD k 0) (fun ins=>(V ins (c.args.getD 1 0)).testBit k) (at_.getD (c.args.getD 1 0).toNat 0)
 o:∀ k,k < (n.wd c.out).toNat -> Wr 30 gl ((bits.getD c.out.toNat []).getD k 0) (fun ins=>(V ins c.out).testBit k) (at_.getD c.out.toNat 0)
 y2:∀ ins,V ins (c.args.getD 1 0) < 2 ^ (n.wd c.out).toNat
 o2:∀ ins,V ins c.out < 2 ^ (n.wd c.out).toNat
theorem Wk.Fx{c:Int}{a:List Int}{w:Nat}{N:List Bool -> Nat}{t:Int}(h:Wk c gl a w N t)(hw:w = 1):a.length = 1 /\ Wr c gl (a.getD 0 0) (fun ins=>decide (N ins = 1)) t:=by
 subst hw
 refine ⟨h.len,(h.bit 0 om).as fun ins=>?_⟩
 have h1:=h.lt ins
 have h2:N ins = 0 \/ N ins = 1:=by omega
 rcases h2 with h2 | h2 <;> rw [h2] <;> rfl
theorem Gx.YI(hf:bx n)(ht:Fit n)(h:Gx n V at_ gl bits)(hi:i < n.cells.length)(h4:(n.cells.getD i default).kind = 4):yE n V at_ gl bits (n.cells.getD i default):=by
 have pI:=hf.cells i hi
 have so:(n.cells.getD i default).args.length = 2:=pI.2.1.k4 h4
 have a0:=pI.1 _ (cg (l:=(n.cells.getD i default).args) (i:=0) om)
 have a1:=pI.1 _ (cg (l:=(n.cells.getD i default).args) (i:=1) om)
 have mz:=pI.2.2.2 om
 have o4:=ht.cells i hi
 simp only [Fits,h4,Int.reduceEq,false_and,true_and,false_or,or_false] at o4
 have e3:n.ow (n.cells.getD i default) = n.wd (n.cells.getD i default).out:=by unfold ae.ow; rw [if_pos mz.1]
 rw [e3] at o4
 have k0:=h.wk _ a0
 have k1:=h.wk _ a1
 have ko:=h.wk _ mz
 have e0:(n.wd ((n.cells.getD i default).args.getD 0 0)).toNat = 1:=by rw [show n.wd ((n.cells.getD i default).args.getD 0 0) = 1 from o4.1]; rfl
 have e1:n.wd ((n.cells.getD i default).args.getD 1 0) = n.wd (n.cells.getD i default).out:=o4.2.1
 rw [e1] at k1
 obtain ⟨b1,b2⟩:=k0.Fx e0
 exact ⟨so,⟨a0,a1⟩,mz,hf.ta _ (getD_in (by unfold In at mz; omega)),e1,b1,k1.len,ko.len,b2,k1.bit,ko.bit,k1.lt,ko.lt⟩
structure Ck(n:ae)(V:List Bool -> Int -> Nat)(at_:List Int)(g0 gl:List Gate)(nx:List (List Int))(i:Nat):Prop where
 ext:Ext g0 gl
 len:gl.length <= g0.length + 200 * i
 nl:nx.length = n.cells.length
 eq:∀ j,j < i -> if (n.cells.getD j default).kind = 4 then Wk 30 gl (nx.getD j []) (n.wd (n.cells.getD j default).out).toNat (Qi n V (n.cells.getD j default)) (Dn n at_ (n.cells.getD j default)) else nx.getD j [] = []
 emp:∀ j,i <= j -> nx.getD j [] = []
theorem ID{m j:Nat}:(List.replicate m ([]:List Int)).getD j [] = []:=by
 rw [List.getD_eq_getElem?_getD,List.getElem?_replicate]; split <;> rfl
theorem Ck.init(hg:Good g0):Ck n V at_ g0 g0 (List.replicate n.cells.length []) 0:=⟨.refl hg,om,by simp,fun j hj=>by omega,fun j _=>ID⟩
theorem Ck.skip(h:Ck n V at_ g0 gl nx i)(hk:(n.cells.getD i default).kind ≠ 4):Ck n V at_ g0 gl nx (i + 1) :=
 ⟨h.ext,by have:=h.len; omega,h.nl,fun j hj=>by
  by_cases e:j = i
  ·subst e; rw [if_neg hk]; exact h.emp j (Nat.le_refl _)
  ·exact h.eq j om,fun j hj=>h.emp j om⟩
structure GS(n:ae)(V:List Bool -> Int -> Nat)(at_:List Int)(i:Nat)(nx:List (List Int))(g1 gl:List Gate)(IC:List (List Int))(k:Nat):Prop where
 ml:xi 30 g1 gl (IC.getD i []) (fun k ins=>(Qi n V (n.cells.getD i default) ins).testBit k) (Dn n at_ (n.cells.getD i default)) k
 nl:IC.length = nx.length
 ot:∀ j,j ≠ i -> IC.getD j [] = nx.getD j []
theorem GS.init(h:Ck n V at_ g0 gl nx i)(hg:Good g1):GS n V at_ i nx g1 g1 nx 0:=⟨by rw [h.emp i (Nat.le_refl _)]; exact .init hg,rfl,fun _ _=>rfl⟩
theorem GS.step{c : Cell}{s v : Int}{row : List Int}(hr : yE n V at_ g0 bits c)(he : Ext g0 g1)(hc : n.cells.getD i default = c)(hi : i < nx.length)(h : GS n V at_ i nx g1 gl IC k)(hk : k < (n.wd c.out).toNat)
  (hs:Wr 30 g1 s (fun ins=>decide (V ins (c.args.getD 0 0) = 1) && !decide (V ins n.freeze = 1)) (Dn n at_ c - 50)) (hv:Wr 30 g1 v (fun ins=>!(decide (V ins (c.args.getD 0 0) = 1) && !decide (V ins n.freeze = 1))) (Dn n at_ c - 40))
  (q5:row = IC.getD i [] ++ [(gl.length:Int) + 2]) :
  GS n V at_ i nx g1 (yd gl s v ((bits.getD (c.args.getD 1 0).toNat []).getD k 0) ((bits.getD c.out.toNat []).getD k 0)) (IC.set i row) (k + 1):=by
 subst hc q5
 refine ⟨?_,by rw [List.length_set]; exact h.nl,fun j hj=>by rw [bP,if_neg om]; exact h.ot j hj⟩
 rw [bP,if_pos ⟨rfl,by rw [h.nl]; exact hi⟩]
 refine h.ml.choose hs hv ((hr.y k hk).ext he) ((hr.o k hk).ext he) om om (by unfold Dn; omega) (by unfold Dn; omega) fun ins=>?_
 unfold Qi
 by_cases h1:V ins ((n.cells.getD i default).args.getD 0 0) = 1 <;> by_cases h2:V ins n.freeze = 1 <;> simp only [h1,h2,true_and,false_and,ne_eq,not_true_eq_false,not_false_eq_true,if_true,if_false,decide_true,decide_false,Bool.not_true,Bool.not_false,Bool.and_true,Bool.and_false,Bool.false_eq_true]
theorem GS.done(h : Ck n V at_ g0 gl nx i)(hi : i < n.cells.length)(h4 : (n.cells.getD i default).kind = 4)(hr : yE n V at_ g1 bits (n.cells.getD i default))(he : Ext gl g1)(hl : g1.length ≤ gl.length + 2)(hj : GS n V at_ i nx g1 l' IC k)(hk : k = (n.wd (n.cells.getD i default).out).toNat) :
  Ck n V at_ g0 l' IC (i + 1):=by
 have hw:=hr.wide
 unfold dk at hw
 have M0:=hj.ml.len
 have WH:=hj.ml.ext
 refine ⟨(h.ext.trans he).trans WH,by have:=h.len; omega,hj.nl.trans h.nl,fun j oy=>?_,fun j oy=>?_⟩
 ·by_cases e:j = i
  ·subst e
   rw [if_pos h4]
   refine Ws.wk hj.ml.ws (by rw [hj.ml.ol,hk]) fun ins=>?_
   unfold Qi
   split
   ·exact hr.y2 ins
   ·exact hr.o2 ins
  ·have h1:=h.eq j om
   rw [hj.ot j e]
   by_cases h5:(n.cells.getD j default).kind = 4
   ·rw [if_pos h5] at h1 ⊢; exact h1.ext (he.trans WH)
   ·rw [if_neg h5] at h1 ⊢; exact h1
 ·rw [hj.ot j om]; exact h.emp j om
theorem yE.ext{c:Cell}(h:yE n V at_ gl bits c)(he:Ext gl g1):yE n V at_ g1 bits c:=⟨h.al,h.WG,h.out,h.wide,h.w1,h.sl,h.yl,h.ol,h.s.ext he,fun k hk=>(h.y k hk).ext he,fun k hk=>(h.o k hk).ext he,h.y2,h.o2⟩
theorem yE.en{c : Cell}{th : Int}(h : yE n V at_ gl bits c)(hg : Good gl)(ht : Wr 30 gl th (fun ins => !decide (V ins n.freeze = 1)) (at_.getD n.freeze.toNat 0 + 10)) :
  Ext gl (gl ++ [⟨5,(bits.getD (c.args.getD 0 0).toNat []).getD 0 0,th⟩]) /\ Ext (gl ++ [⟨5,(bits.getD (c.args.getD 0 0).toNat []).getD 0 0,th⟩]) ((gl ++ [⟨5,(bits.getD (c.args.getD 0 0).toNat []).getD 0 0,th⟩]) ++ [⟨4,(gl.length:Int),0⟩]) /\
  Wr 30 ((gl ++ [⟨5,(bits.getD (c.args.getD 0 0).toNat []).getD 0 0,th⟩]) ++ [⟨4,(gl.length:Int),0⟩]) (gl.length:Int) (fun ins=>decide (V ins (c.args.getD 0 0) = 1) && !decide (V ins n.freeze = 1)) (Dn n at_ c - 50) /\
  Wr 30 ((gl ++ [⟨5,(bits.getD (c.args.getD 0 0).toNat []).getD 0 0,th⟩]) ++ [⟨4,(gl.length:Int),0⟩]) (((gl ++ [(⟨5,(bits.getD (c.args.getD 0 0).toNat []).getD 0 0,th⟩:Gate)]).length:Nat):Int) (fun ins=>!(decide (V ins (c.args.getD 0 0) = 1) && !decide (V ins n.freeze = 1))) (Dn n at_ c - 40):=by
 have e1:=Ext.two (k:=5) hg ab h.s ht
 have w1:=h.s.and (u:=Dn n at_ c - 50) ht (by unfold Dn; omega) (by unfold Dn; omega)
 have e2:=Ext.not e1.dZ w1
 have w2:=w1.not (u:=Dn n at_ c - 40) om
 exact ⟨e1,e2,w1.ext e2,w2⟩
structure JD(n:ae)(V:List Bool -> Int -> Nat)(at_:List Int)(gl:List Gate)(bits nx:List (List Int)):Prop where
 ord:∃ l,Ord n l
 vi:VI n V
 arv:Gf n at_
 ext:Ext (p6 (mK n n.cells.length)) gl
 len:gl.length <= 1000000
 bl:bits.length = n.aa.length
 wk:∀ x,In x n.aa.length -> Wk 30 gl (bits.getD x.toNat []) (n.wd x).toNat (fun ins=>V ins x) (at_.getD x.toNat 0)
 nl:nx.length = n.cells.length
 nx:∀ j,j < n.cells.length -> if (n.cells.getD j default).kind = 4 then Wk 30 gl (nx.getD j []) (n.wd (n.cells.getD j default).out).toNat (Qi n V (n.cells.getD j default)) (Dn n at_ (n.cells.getD j default)) else nx.getD j [] = []
theorem Ck.done(ho:Ord n l)(hV:VI n V)(hA:Gf n at_)(hf:Gx n V at_ g0 bits)(he:Ext g0 g1)(h1:g1.length <= g0.length + 1)(h:Ck n V at_ g1 gl nx i)(hi:i = n.cells.length)(hn:n.cells.length <= 100):JD n V at_ gl bits nx :=
 ⟨⟨l,ho⟩,hV,hA,(hf.ext.trans he).trans h.ext,by have:=hf.len; have:=h.len; omega,hf.bl,fun x hx=>(hf.wk x hx).ext (he.trans h.ext),h.nl,fun j hj=>h.eq j om⟩
end
theorem lJ.zero{n:ae}{l:List Int}{e:Int}(h:lJ n l e)(he:e = 0):bx n /\ Fit n /\ Acyclic n /\ Ord n l:=by
 rcases h with ⟨_,_,h⟩ | ⟨_,_,_,h⟩ | ⟨_,_,_,_,h⟩ | ⟨h1,h2,h3,h4,_⟩
 ·omega
 ·omega
 ·omega
 ·exact ⟨h1,h2,h3,h4⟩
structure ve where
 iv:List Gate
 bits:List (List Int)
 next:List (List Int)
instance:Inhabited ve:=⟨⟨[],[],[]⟩⟩
def ve.row(m:ve):List X:=[.fz 3 (m.iv.map Gate.row),.fz 1 (m.bits.map ef),.fz 1 (m.next.map ef)]
def ve.own(m:ve):List X:=[.dK 3 (m.iv.map Gate.row),.dK 1 (m.bits.map ef),.dK 1 (m.next.map ij)]
theorem ve.bE(m:ve):X.b6 m.row = true:=rfl
def xc(n:ae)(m:ve)(e:Int):Prop:=(jU n ≠ 0 /\ e = jU n) \/ (jU n = 0 /\ e = 0 /\ ∃ V at_,JD n V at_ m.iv m.bits m.next)
theorem xc.err{n:ae}{m:ve}{e:Int}(h:xc n m e):e = jU n:=by
 rcases h with ⟨_,h⟩ | ⟨h1,h2,_⟩
 ·exact h
 ·rw [h1,h2]
open Go Go.AW Go.Proofs
theorem AT{w:Int}:aw Try.prog 92 [vi w] [] [] (fun r o=>r = .v (.bool (decide (Src w))) /\ o = []):=by
 refine aw.of Try.func92 U U U (n:=11) ab (aH U) (.sr (.an ?_))
 refine .nil (.seq (.sr (.mv ?_)))
 refine .nil (.block (.seq (.sr (.vl (Y.ql U U) (.an (.nil ?_))))))
 refine .bt U (fun c4=>?_) (fun c4=>?_)
 refine .skip (.aQ U (.sr (.an (.nil (.ret ?_)))))
 exact .rb rfl (dt (by (simp only [Src]) <;> (first | omega | grind)))
 refine .sr (.vl (Y.ql U U) (.an (.nil ?_)))
 refine .bt U (fun c4=>?_) (fun c4=>?_)
 refine .skip (.aQ U (.sr (.an (.nil (.ret ?_)))))
 exact .rb rfl (dt (by (simp only [Src]) <;> (first | omega | grind)))
 refine .sr (.vl (Y.ql U U) (.an (.nil ?_)))
 refine .bt U (fun c4=>?_) (fun c4=>?_)
 refine .skip (.aQ U (.sr (.an (.nil (.ret ?_)))))
 exact .rb rfl (dt (by (simp only [Src]) <;> (first | omega | grind)))
 refine .sr (.vl (Y.ql U U) (.an (.nil ?_)))
 refine .bt U (fun c4=>?_) (fun c4=>?_)
 refine .skip (.aQ U (.sr (.an (.nil (.ret ?_)))))
 exact .rb rfl (dt (by (simp only [Src]) <;> (first | omega | grind)))
 refine .sr (.vl (Y.ql U U) (.an (.nil ?_)))
 refine .bt U (fun c4=>?_) (fun c4=>?_)
 refine .skip (.aQ U (.sr (.an (.nil (.ret ?_)))))
 exact .rb rfl (dt (by (simp only [Src]) <;> (first | omega | grind)))
 refine .region (.vl (Y.ql U U) (.an (.nil ?_)))
 refine .bt U (fun c4=>?_) (fun c4=>?_)
 refine .sr (.an (.nil (.ret ?_)))
 exact .rb rfl (dt (by (simp only [Src]) <;> (first | omega | grind)))
 refine .skip (.sr (.an (.nil (.ret ?_))))
 exact .rb rfl (df (by (simp only [Src]) <;> (first | omega | grind)))
theorem xd{n:ae}(hs:n.Small)(Mn:n.aa.length + n.ins.length <= 17592186044416)(hn:n.cells.length <= 100 /\ n.aa.length <= 1000 /\ n.cH.length <= 1000 /\ n.streams.length <= 1000 /\ n.ins.length <= 1000)(QX:∀ c ∈ n.cells,c.args.length <= 6):aw Try.prog 47 [.agg (ae.row n)] [] [] (fun r o=>∃ (m:ve) (e:Int),xc n m e /\ r = .tup [.agg (ve.own m),vi e] /\ o = []):=by
 refine aw.QH Try.func47 U U U (n:=188) ab (aH U) (.sr (.box 101 U U U U U ab ?_))
 refine .alloc 102 jV U U ab ?_
 refine .an ?_
 refine .nil (.seq (.sh (Sh.iY 101 U U) (.region (.vl (Y.za fF U U (aH U) U U) (.rk Oy (uR (n:=n) hs Mn) U (.ai U U .nil) ab ?_)))))
 rintro _ ⟨vg,YJ,LM,rfl,_⟩
 refine ⟨U,(.oE U ab (.iO U U ab (.vl (Y.qn U U U) (.bX U ab (.sh (Sh.cN (d:=4) (vg.map ah) U iX (cM.map aI)) (.an ?_))))))⟩
 refine .nil (.seq (.sr (.mv ?_)))
 refine .vl (Y.zj U U) (.nil (.aB U (fun Gq=>?_) (fun Gq=>?_)))
 refine .sr (.vl (Y.qh r5 jV U U U) (.sh (Sh.JW (d:=27) 600 3 [] [.v (.slice none 0 0),.v (.slice none 0 0)] U U U U) (.sh (Sh.JW (d:=27) 601 1 [.aN 600 3 0 0] [.v (.slice none 0 0)] U U U U) (.sh (Sh.JW (d:=27) 602 1 [.aN 600 3 0 0,.aN 601 1 0 0] [] U U U U) (.mv ?_)))))
 refine .aj oJ U U U U U U (aH U) U ?_
 refine .an (.nil (.ret ?_))
 exact ⟨_,U,_,_,_,(((Sh.kJ (d:=0) 0 600 U U U U rS U ab).then (Sh.kJ (d:=0) 1 601 U U U U rS U ab)).then (Sh.kJ (d:=0) 2 602 U U U U rS U ab)),U,U,⟨[],[],[]⟩,YJ,.inl ⟨by rw [<- LM.err]; exact Gq,LM.err⟩,U,U⟩
 obtain ⟨hf,ht,WJ,ho⟩:=LM.zero (by simpa using Gq); obtain ⟨V,hV⟩:=VI.ex hf ho; obtain ⟨at_,hA⟩:=LJ hf ho; have hv:VT n:=⟨hf,ht,WJ,hs,om,om,fun c hc=>by have:=QX c hc; omega,om,om,om⟩
 refine .skip (.sr (.vl (Y.qh Jn Jo U U U) (.box 130 U U U U U ab ?_)))
 refine .an ?_
 refine .nil (.seq (.sh (Sh.ew 130 701 3 0 U U U U ab) (.ea (⟨[(1,.fp (ae.row n) 0),(2,.ptr 102 0 0 0),(4,.fz 1 (vg.map ah)),(6,.ptr 130 0 0 0),(7,.ptr 107 0 0 0)],[(102,.cells [.v (.slice none 0 0),.v (.slice none 0 0),.v (.slice none 0 0)]),(107,.cells [.fz 3 (([]:List Gate).map Gate.row),.aN 134 1 0 ((List.replicate n.aa.length ([]:List Int)).length),.aN 138 1 0 ((List.replicate n.cells.length ([]:List Int)).length)]),(130,.cells [.aN 701 3 0 0]),(134,.rows 1 ((List.replicate n.aa.length ([]:List Int)).map ef)),(138,.rows 1 ((List.replicate n.cells.length ([]:List Int)).map ij)),(701,.rows 3 (([]:List Gate).map Gate.row))]⟩) U ?_ ?_)))
 refine .blind 0 U au (ax.fieldAddr bB U U) ab (.load 1 U au bn U U U U U ab (.blind 2 U au (ax.len (n:=n.aa.length) a7 U (congrArg some (List.length_map ..))) ab ?_))
 refine .blind 4 U au (ax.fieldAddr bS U U) ab (.load 5 U au fU U U U U U ab (.blind 6 U au (ax.len (n:=n.cells.length) dU U (congrArg some (List.length_map ..))) ab ?_))
 refine .yn ?_
 refine .three 3 7 9 U U U au ?_ ?_ ?_
 refine .makeSlice (n:=n.aa.length) ee pJ U U U U aJ aJ ab ?_
 refine .sh (Sh.Ql (d:=34) (z':=ef []) U U U (.yG .nil)) (.sh (Sh.dD (d:=34) (n:=(List.replicate n.aa.length ([]:List Int)).length) 134 ((List.replicate n.aa.length ([]:List Int)).map ef) U iX (aW U) ab) (.nil ⟨U,(.two 7 9 U U au ?_ ?_)⟩))
 refine .makeSlice (n:=n.cells.length) ee pJ U U U U om om ab ?_
 refine .sh (Sh.po (d:=38) 1 U) (.sh (Sh.dD (d:=38) (n:=(List.replicate n.cells.length ([]:List Int)).length) 138 ((List.replicate n.cells.length ([]:List Int)).map ij) U iX (aW U) ab) (.nil ⟨U,(.two 8 9 U U au ?_ ?_)⟩))
 refine .vl (Y.qh r5 jV U U U) (.sh (Sh.Eo (d:=39) 3 0 U U) (.nil ⟨U,(.one 9 U au (.alloc 107 jV U U ab ?_))⟩))
 refine .nil ⟨U,(.one 10 U au (.aj oJ U U U U U U (aH U) U ?_))⟩
 exact .nil ⟨U,(.done au (Le.mk (.c4 (.c .nil)) (.c4 (.c (.c .nil)))))⟩
 refine .alloc 107 jV U U ab ?_
 refine .nil ⟨U,(.one 8 U au (.vl (Y.qh r5 jV U U U) (.sh (Sh.Eo (d:=39) 3 0 U U) (.nil ⟨U,(.one 10 U au (.aj oJ U U U U U U (aH U) U ?_))⟩))))⟩
 exact .nil ⟨U,(.done au (Le.mk (.c4 (.c .nil)) (.c4 (.c (.c .nil)))))⟩
 refine .alloc 107 jV U U ab ?_
 refine .nil ⟨U,(.one 7 U au (.makeSlice (n:=n.cells.length) ee pJ U U U U om om ab ?_))⟩
 refine .sh (Sh.po (d:=38) 1 U) (.sh (Sh.dD (d:=38) (n:=(List.replicate n.cells.length ([]:List Int)).length) 138 ((List.replicate n.cells.length ([]:List Int)).map ij) U iX (aW U) ab) (.nil ⟨U,(.one 8 U au (.vl (Y.qh r5 jV U U U) (.sh (Sh.Eo (d:=39) 3 0 U U) (.nil ⟨U,(.one 10 U au (.aj oJ U U U U U U (aH U) U ?_))⟩))))⟩))
 exact .nil ⟨U,(.done au (Le.mk (.c4 (.c .nil)) (.c4 (.c (.c .nil)))))⟩
 refine .makeSlice (n:=n.cells.length) ee pJ U U U U om om ab ?_
 refine .sh (Sh.po (d:=38) 1 U) (.sh (Sh.dD (d:=38) (n:=(List.replicate n.cells.length ([]:List Int)).length) 138 ((List.replicate n.cells.length ([]:List Int)).map ij) U iX (aW U) ab) (.nil ⟨U,(.two 3 9 U U au ?_ ?_)⟩))
 refine .makeSlice (n:=n.aa.length) ee pJ U U U U aJ aJ ab ?_
 refine .sh (Sh.Ql (d:=34) (z':=ef []) U U U (.yG .nil)) (.sh (Sh.dD (d:=34) (n:=(List.replicate n.aa.length ([]:List Int)).length) 134 ((List.replicate n.aa.length ([]:List Int)).map ef) U iX (aW U) ab) (.nil ⟨U,(.two 8 9 U U au ?_ ?_)⟩))
 refine .vl (Y.qh r5 jV U U U) (.sh (Sh.Eo (d:=39) 3 0 U U) (.nil ⟨U,(.one 9 U au (.alloc 107 jV U U ab ?_))⟩))
 refine .nil ⟨U,(.one 10 U au (.aj oJ U U U U U U (aH U) U ?_))⟩
 exact .nil ⟨U,(.done au (Le.mk (.c4 (.c .nil)) (.c4 (.c (.c .nil)))))⟩
 refine .alloc 107 jV U U ab ?_
 refine .nil ⟨U,(.one 8 U au (.vl (Y.qh r5 jV U U U) (.sh (Sh.Eo (d:=39) 3 0 U U) (.nil ⟨U,(.one 10 U au (.aj oJ U U U U U U (aH U) U ?_))⟩))))⟩
 exact .nil ⟨U,(.done au (Le.mk (.c4 (.c .nil)) (.c4 (.c (.c .nil)))))⟩
 refine .alloc 107 jV U U ab ?_
 refine .nil ⟨U,(.one 3 U au (.makeSlice (n:=n.aa.length) ee pJ U U U U aJ aJ ab ?_))⟩
 refine .sh (Sh.Ql (d:=34) (z':=ef []) U U U (.yG .nil)) (.sh (Sh.dD (d:=34) (n:=(List.replicate n.aa.length ([]:List Int)).length) 134 ((List.replicate n.aa.length ([]:List Int)).map ef) U iX (aW U) ab) (.nil ⟨U,(.one 8 U au (.vl (Y.qh r5 jV U U U) (.sh (Sh.Eo (d:=39) 3 0 U U) (.nil ⟨U,(.one 10 U au (.aj oJ U U U U U U (aH U) U ?_))⟩))))⟩))
 exact .nil ⟨U,(.done au (Le.mk (.c4 (.c .nil)) (.c4 (.c (.c .nil)))))⟩
 refine .alloc 107 jV U U ab ?_
 refine .nil ⟨U,(.two 3 7 U U au ?_ ?_)⟩
 refine .makeSlice (n:=n.aa.length) ee pJ U U U U aJ aJ ab ?_
 refine .sh (Sh.Ql (d:=34) (z':=ef []) U U U (.yG .nil)) (.sh (Sh.dD (d:=34) (n:=(List.replicate n.aa.length ([]:List Int)).length) 134 ((List.replicate n.aa.length ([]:List Int)).map ef) U iX (aW U) ab) (.nil ⟨U,(.one 7 U au (.makeSlice (n:=n.cells.length) ee pJ U U U U om om ab ?_))⟩))
 refine .sh (Sh.po (d:=38) 1 U) (.sh (Sh.dD (d:=38) (n:=(List.replicate n.cells.length ([]:List Int)).length) 138 ((List.replicate n.cells.length ([]:List Int)).map ij) U iX (aW U) ab) (.nil ⟨U,(.one 8 U au (.vl (Y.qh r5 jV U U U) (.sh (Sh.Eo (d:=39) 3 0 U U) (.nil ⟨U,(.one 10 U au (.aj oJ U U U U U U (aH U) U ?_))⟩))))⟩))
 exact .nil ⟨U,(.done au (Le.mk (.c4 (.c .nil)) (.c4 (.c (.c .nil)))))⟩
 refine .makeSlice (n:=n.cells.length) ee pJ U U U U om om ab ?_
 refine .sh (Sh.po (d:=38) 1 U) (.sh (Sh.dD (d:=38) (n:=(List.replicate n.cells.length ([]:List Int)).length) 138 ((List.replicate n.cells.length ([]:List Int)).map ij) U iX (aW U) ab) (.nil ⟨U,(.one 3 U au (.makeSlice (n:=n.aa.length) ee pJ U U U U aJ aJ ab ?_))⟩))
 refine .sh (Sh.Ql (d:=34) (z':=ef []) U U U (.yG .nil)) (.sh (Sh.dD (d:=34) (n:=(List.replicate n.aa.length ([]:List Int)).length) 134 ((List.replicate n.aa.length ([]:List Int)).map ef) U iX (aW U) ab) (.nil ⟨U,(.one 8 U au (.vl (Y.qh r5 jV U U U) (.sh (Sh.Eo (d:=39) 3 0 U U) (.nil ⟨U,(.one 10 U au (.aj oJ U U U U U U (aH U) U ?_))⟩))))⟩))
 exact .nil ⟨U,(.done au (Le.mk (.c4 (.c .nil)) (.c4 (.c (.c .nil)))))⟩
 refine .seq (.sr (.fa bS ?_))
 refine .ld fU ?_
 refine .vl (Y.qw (n:=n.cells.length) dU U (congrArg some (List.length_map ..))) (.mv ?_)
 refine .nil (.block ?_)
 refine .e8 (fun (gu:Nat) (pZ:List (List Int)) (ku:List Gate)=>⟨[(1,.fp (ae.row n) 0),(2,.ptr 102 0 0 0),(4,.fz 1 (vg.map ah)),(6,.ptr 130 0 0 0),(7,.ptr 107 0 0 0),(41,.fz 6 (n.cells.map Cell.row)),(42,vi n.cells.length),(43,vi gu)],[(102,.cells [.v (.slice none 0 0),.v (.slice none 0 0),.v (.slice none 0 0)]),(107,.cells [.fz 3 (([]:List Gate).map Gate.row),.aN 134 1 0 ((List.replicate n.aa.length ([]:List Int)).length),.aN 138 1 0 ((List.replicate n.cells.length ([]:List Int)).length)]),(130,.cells [.aN 701 3 0 ku.length]),(134,.rows 1 (pZ.map ef)),(138,.rows 1 ((List.replicate n.cells.length ([]:List Int)).map ij)),(701,.rows 3 (ku.map Gate.row))]⟩) (fun gu pZ ku=>(pZ.length = (List.replicate n.aa.length ([]:List Int)).length) /\ ((gu:Int) <= (n.cells.length:Int)) /\ (pO n ku pZ gu)) (fun gu pZ ku=>((n.cells.length:Int) - (gu:Int)).toNat) 0 (List.replicate n.aa.length ([]:List Int)) ([]:List Gate) (⟨om,om,pO.init⟩) (Le.mk (.c4 (.c2 (.c (.cons (ak U aY) .nil)))) (.c2 (.cons (az U eS) (.c2 (.c .nil))))) (fun gu pZ ku L0=>?_)
 obtain ⟨Qm,VH,hS⟩:=L0
 refine .sr (.vl (Y.zb U U) (.nil (.seq (.aB U (fun KW=>?_) (fun KW=>?_)))))
 refine .skip ?_
 refine .kY (fun (pD:List (List Int)) (nq:List Gate)=>⟨[(1,.fp (ae.row n) 0),(2,.ptr 102 0 0 0),(4,.fz 1 (vg.map ah)),(6,.ptr 130 0 0 0),(7,.ptr 107 0 0 0),(41,.fz 6 (n.cells.map Cell.row)),(42,vi n.cells.length),(43,vi gu)],[(102,.cells [.v (.slice none 0 0),.v (.slice none 0 0),.v (.slice none 0 0)]),(107,.cells [.fz 3 (([]:List Gate).map Gate.row),.aN 134 1 0 ((List.replicate n.aa.length ([]:List Int)).length),.aN 138 1 0 ((List.replicate n.cells.length ([]:List Int)).length)]),(130,.cells [.aN 701 3 0 nq.length]),(134,.rows 1 (pD.map ef)),(138,.rows 1 ((List.replicate n.cells.length ([]:List Int)).map ij)),(701,.rows 3 (nq.map Gate.row))]⟩) (fun pD nq=>(pD.length = (List.replicate n.aa.length ([]:List Int)).length) /\ (pO n nq pD (gu + 1))) ?_ (fun pD nq FZ=>?_)
 refine .block (.sr (.vl (Y.qr (m:=gu) dU U U aY (ao (d:=default) om)) (.vl (Y.za fq U U (aH U) U U) (.alloc 109 ez U U ab (.aj gi U U U U U U (aH U) U ?_)))))
 refine .nil (.sr (.fa ck ?_))
 refine .ld bg ?_
 refine .aR S0 (AT (w:=((n.cells.getD gu default).kind))) U (.ai U U .nil) ab U (.nil (.aB U (fun My=>?_) (fun My=>?_)))
 have pG:=hf.iQ (i:=(gu:Int)) (w:=(n.cells.getD gu default).out) ⟨om,((xb hf (i:=(gu:Int)) om).1 My).2,rfl⟩; unfold In at pG; have vk:=hf.ta _ (getD_in (l:=n.aa) (i:=(n.cells.getD gu default).out.toNat) (d:=0) om); unfold dk at vk; have TC:=hS.len hf; have hSb:=hS.bl
 refine .jh [107,109] [107,109,134,138] U (.blind 0 U au (ax.fieldAddr nG U U) ab (.load 1 U au r6 U U U U U ab ?_))
 refine .blind 2 U au (ax.fieldAddr eg U U) ab (.load 3 U au bg U U U U U ab (.blind 4 U au (ax.move U U) ab ?_))
 refine .blind 5 U au (ax.fieldAddr bB U U) ab (.load 6 U au bn U U U U U ab (.blind 7 U au (ax.fieldAddr eg U U) ab ?_))
 refine .load 8 U au bg U U U U U ab (.blind 9 U au (ax.kj (m:=((n.cells.getD gu default).out).toNat) a7 U U om (ao (d:=0) om)) ab ?_)
 refine .load 10 U au bg U U U U U ab (.J2 U U (cv.cells U U U (cv.cells U U U cv.nil)) (.one 11 U au (.b7 [130,701] [] OA (rP (gl:=ku) (x:=n.aa.getD (((n.cells.getD gu default).out).toNat) 0) aJ om) U (.named U U (.ai U U .nil)) ⟨U,U,trivial⟩ U ab (fun _ h=>by cases h) (fun _ h=>by cases h) ab ab ?_)))
 rintro r aK ⟨rfl,rfl⟩ _
 refine ⟨⟨rfl,(by intro ob aZ; simp only [List.mem_cons,List.not_mem_nil,or_false] at aZ; rcases aZ with rfl | rfl <;> rfl),.inl rfl⟩,(.nil ⟨U,(.one 12 U au (.vl (Y.qs (m:=((n.cells.getD gu default).out).toNat) ee U U om om) (.nil ⟨U,(.one 13 U au (.sh (Sh.cN (d:=61) ((p5 ku.length (n.aa.getD (((n.cells.getD gu default).out).toNat) 0).toNat).map ah) U iX (cM.map aI)) (.iB ((pZ.set (((n.cells.getD gu default).out).toNat) (p5 ku.length (n.aa.getD (((n.cells.getD gu default).out).toNat) 0).toNat)).map ef) fG U U U U U U U (aO (d:=[]) om) (aH U) (eO U) ?_)))⟩)))⟩)⟩
 refine .nil ⟨U,(.done au (⟨pZ.set (((n.cells.getD gu default).out).toNat) (p5 ku.length (n.aa.getD (((n.cells.getD gu default).out).toNat) 0).toNat),ku ++ p6 (n.aa.getD (((n.cells.getD gu default).out).toNat) 0).toNat,⟨pP,hS.set hf om My U⟩,Le.mk (.c4 (.c2 (.c (.c .nil)))) (.c2 (.cons (az U eS) (.c2 (.c .nil))))⟩))⟩
 refine .skip (⟨pZ,ku,⟨om,hS.skip My⟩,Le.mk (.c4 (.c2 (.c (.c .nil)))) (.c2 (.cons (az U eS) (.c2 (.c .nil))))⟩)
 obtain ⟨MC,vy⟩:=FZ
 refine .region (.vl (Y.qb U U aJ) (.mv ?_))
 refine .nil (⟨gu + 1,pD,nq,⟨om,om,vy⟩,om,Le.mk (.c4 (.c2 (.c (.cons (ak U aY) .nil)))) (.c2 (.cons (az U eS) (.c2 (.c .nil))))⟩)
 refine .exit (.seq (.sr (.mv ?_)))
 refine .vl (Y.qw (n:=vg.length) a7 U (congrArg some (List.length_map ..))) (.mv ?_)
 refine .nil (.block ?_)
 refine .e8 (fun (fL:Nat) (dr:List (List Int)) (ec:List Gate)=>⟨[(1,.fp (ae.row n) 0),(2,.ptr 102 0 0 0),(6,.ptr 130 0 0 0),(7,.ptr 107 0 0 0),(64,.fz 1 (vg.map ah)),(65,vi vg.length),(66,vi fL)],[(102,.cells [.v (.slice none 0 0),.v (.slice none 0 0),.v (.slice none 0 0)]),(107,.cells [.fz 3 (([]:List Gate).map Gate.row),.aN 134 1 0 ((List.replicate n.aa.length ([]:List Int)).length),.aN 138 1 0 ((List.replicate n.cells.length ([]:List Int)).length)]),(130,.cells [.aN 701 3 0 ec.length]),(134,.rows 1 (dr.map ef)),(138,.rows 1 ((List.replicate n.cells.length ([]:List Int)).map ij)),(701,.rows 3 (ec.map Gate.row))]⟩) (fun fL dr ec=>(dr.length = (List.replicate n.aa.length ([]:List Int)).length) /\ ((fL:Int) <= (vg.length:Int)) /\ (qR n vg V at_ ec dr fL)) (fun fL dr ec=>((vg.length:Int) - (fL:Int)).toNat) 0 pZ ku (⟨om,om,qR.init hf hV hA (by rw [show n.cells.length = gu by omega]; exact hS)⟩) (Le.mk (.c4 (.c2 (.cons (ak U aY) .nil))) (.c2 (.cons (az U eS) (.c2 (.c .nil))))) (fun fL dr ec UH=>?_)
 obtain ⟨Qm,YK,hK⟩:=UH
 refine .sr (.vl (Y.zb U U) (.nil (.seq (.aB U (fun Lc=>?_) (fun Lc=>?_)))))
 refine .skip (.seq (.block (.seq ?_)))
 have hr:=ho.vL _ (cg (l:=vg) (i:=fL) om); have sJ:=ho.len; have hKb:=hK.bl; have hKl:=hK.len
 refine .region (.vl (Y.qr (m:=fL) a7 U U aY (ao (d:=0) om)) (.ld bg ?_))
 refine .an (.nil (.sr ?_))
 refine .fa bS ?_
 refine .ld fU ?_
 refine .mv ?_
 refine .vl (Y.qr (m:=(vg.getD fL 0).toNat) dU U U om (ao (d:=default) om)) (.vl (Y.za fq U U (aH U) U U) (.alloc 112 ez U U ab (.aj gi U U U U U U (aH U) U ?_)))
 refine .nil ?_
 refine .kY (fun (pE:List (List Int)) (lU:List Gate)=>⟨[(1,.fp (ae.row n) 0),(2,.ptr 102 0 0 0),(6,.ptr 130 0 0 0),(7,.ptr 107 0 0 0),(64,.fz 1 (vg.map ah)),(65,vi vg.length),(66,vi fL)],[(102,.cells [.v (.slice none 0 0),.v (.slice none 0 0),.v (.slice none 0 0)]),(107,.cells [.fz 3 (([]:List Gate).map Gate.row),.aN 134 1 0 ((List.replicate n.aa.length ([]:List Int)).length),.aN 138 1 0 ((List.replicate n.cells.length ([]:List Int)).length)]),(130,.cells [.aN 701 3 0 lU.length]),(134,.rows 1 (pE.map ef)),(138,.rows 1 ((List.replicate n.cells.length ([]:List Int)).map ij)),(701,.rows 3 (lU.map Gate.row))]⟩) (fun pE lU=>(pE.length = (List.replicate n.aa.length ([]:List Int)).length) /\ (qR n vg V at_ lU pE (fL + 1))) ?_ (fun pE lU Qn=>?_)
 refine .sr (.fa ck ?_)
 refine .ld bg ?_
 refine .aR Hx (py (w:=((n.cells.getD ((vg.getD fL 0).toNat) default).kind))) U (.ai U U .nil) ab U (.nil (.aB U (fun FL=>?_) (fun FL=>?_)))
 have YL:=hf.iQ (i:=vg.getD fL 0) (w:=(n.cells.getD ((vg.getD fL 0).toNat) default).out) ⟨hr,fun h7=>by have h8:=FL; unfold cU at h8; have h9:(n.cells.getD ((vg.getD fL 0).toNat) default).kind = 7:=h7; omega,rfl⟩; unfold In at YL
 refine .jh [107,112] [107,112,134,138] U (.blind 0 U au (ax.fieldAddr nG U U) ab (.load 1 U au r6 U U U U U ab ?_))
 refine .blind 2 U au (ax.fieldAddr eg U U) ab (.load 3 U au bg U U U U U ab (.blind 4 U au (ax.move U U) ab ?_))
 refine .fW 5 U au fF U U U (aH U) U U ab (.fW 6 U au fq U U U (aH U) U U ab (.blind 7 U au (ax.fieldAddr nG U U) ab ?_))
 refine .load 8 U au r6 U U U U U ab (.J2 U U (cv.cells U U U (cv.cells U U U cv.nil)) (.one 9 U au (.b7 [130,701] [134] S1 (AS (gl:=ec) (n:=n) (c:=(n.cells.getD ((vg.getD fL 0).toNat) default)) (bits:=dr) (V:=V) (at_:=at_) hK.ext.dZ aJ (hK.ci hv QX ho hA om FL) om (hs.zP _ (getD_in om))) U (.named U U (.ai U U (.ai U U (.cE U U (bz aJ) (b5 aJ) .nil)))) ⟨U,U,trivial⟩ U ab ab (jA U (bj nD)) ab ab ?_)))
 rintro r aK ⟨YM,Gy,LN,rfl,rfl⟩ _
 refine ⟨⟨rfl,(by intro ob aZ; simp only [List.mem_cons,List.not_mem_nil,or_false] at aZ; rcases aZ with rfl | rfl <;> rfl),.inr ⟨(lC oF _),(by intro ob aZ; simp only [List.mem_cons,List.not_mem_nil,or_false] at aZ; rcases aZ with rfl | rfl; exact ⟨trivial,trivial⟩; exact lC Gate.lG _)⟩⟩,(.nil ⟨U,(.one 10 U au (.vl (Y.qs (m:=((n.cells.getD ((vg.getD fL 0).toNat) default).out).toNat) ee U U om om) (.nil ⟨U,(.one 11 U au (.sh (Sh.cN (d:=87) (Gy.map ah) U iX (cM.map aI)) (.iB ((dr.set (((n.cells.getD ((vg.getD fL 0).toNat) default).out).toNat) Gy).map ef) fG U U U U U U U (aO (d:=[]) om) (aH U) (eO U) ?_)))⟩)))⟩)⟩
 refine .nil ⟨U,(.done au (⟨dr.set (((n.cells.getD ((vg.getD fL 0).toNat) default).out).toNat) Gy,YM,⟨pP,hK.set hf ho hV hA om FL LN.1 LN.2.1 LN.2.2⟩,Le.mk (.c4 (.c2 (.c .nil))) (.c2 (.cons (az U eS) (.c2 (.c .nil))))⟩))⟩
 refine .skip (⟨dr,ec,⟨om,hK.skip ho om FL⟩,Le.mk (.c4 (.c2 (.c .nil))) (.c2 (.cons (az U eS) (.c2 (.c .nil))))⟩)
 obtain ⟨MD,Qo⟩:=Qn
 refine .seq ?_
 have Ye:=Qo.len; have sJ:=ho.len
 refine .region (.mv ?_)
 refine .vl (Y.zk U U) (.fa nH ?_)
 refine .ld CH ?_
 refine .vl (Y.qw (n:=lU.length) xV U U) (.vl (Y.qq U U) (.nil (.aB U (fun pM=>?_) (fun pM=>?_))))
 exfalso; omega
 refine .skip (.region (.vl (Y.qb U U aJ) (.mv ?_)))
 refine .nil (⟨fL + 1,pE,lU,⟨om,om,Qo⟩,om,Le.mk (.c4 (.c2 (.cons (ak U aY) .nil))) (.c2 (.cons (az U eS) (.c2 (.c .nil))))⟩)
 refine .exit (.seq ?_)
 have hF:Gx n V at_ ec dr:=hK.done hf ho om; have hFb:=hF.bl; have hFl:=hF.len; have Mk:=hf.freeze; unfold In at Mk; obtain ⟨Qy,MQ⟩:=(hF.wk n.freeze hf.freeze).Fx (by rw [show n.wd n.freeze = 1 from ht.freeze]; rfl); have YN:=MQ.not (u:=at_.getD n.freeze.toNat 0 + 10) (Int.le_refl _); have UI:=Ext.not hF.ext.dZ MQ
 refine .region (.mv ?_)
 refine .fa nG ?_
 refine .ld r6 ?_
 refine .fa qF ?_
 refine .ld bg ?_
 refine .vl (Y.qs (m:=(n.freeze).toNat) ee U U om om) (.vl (Y.qz bn U (aO (d:=[]) om) U U) (.vl (Y.qr (m:=0) a7 U U aY (ao (d:=0) om)) (.ld bg ?_)))
 refine .b7 [130,701] [] uy (ia (gl:=ec) (a:=(dr.getD ((n.freeze).toNat) []).getD 0 0) om) U (.named U U (.ai U U .nil)) ⟨U,U,trivial⟩ U ab (fun _ h=>by cases h) (fun _ h=>by cases h) ab ab ?_
 rintro r aK ⟨rfl,rfl⟩ _
 refine ⟨⟨rfl,(by intro ob aZ; simp only [List.mem_cons,List.not_mem_nil,or_false] at aZ; rcases aZ with rfl | rfl <;> rfl),.inl rfl⟩,(.an ?_)⟩
 refine .nil (.seq (.sr (.fa bS ?_)))
 refine .ld fU ?_
 refine .vl (Y.qw (n:=n.cells.length) dU U (congrArg some (List.length_map ..))) (.mv ?_)
 refine .nil (.block ?_)
 refine .e8 (fun (b9:Nat) (mM:List (List Int)) (ej:List Gate)=>⟨[(2,.ptr 102 0 0 0),(6,.ptr 130 0 0 0),(7,.ptr 107 0 0 0),(13,vi ec.length),(108,.fz 6 (n.cells.map Cell.row)),(109,vi n.cells.length),(110,vi b9)],[(102,.cells [.v (.slice none 0 0),.v (.slice none 0 0),.v (.slice none 0 0)]),(107,.cells [.fz 3 (([]:List Gate).map Gate.row),.aN 134 1 0 ((List.replicate n.aa.length ([]:List Int)).length),.aN 138 1 0 ((List.replicate n.cells.length ([]:List Int)).length)]),(130,.cells [.aN 701 3 0 ej.length]),(134,.rows 1 (dr.map ef)),(138,.rows 1 (mM.map ij)),(701,.rows 3 (ej.map Gate.row))]⟩) (fun b9 mM ej=>(mM.length = (List.replicate n.cells.length ([]:List Int)).length) /\ ((b9:Int) <= (n.cells.length:Int)) /\ (Ck n V at_ (ec ++ [(⟨4,(dr.getD ((n.freeze).toNat) []).getD 0 0,0⟩:Gate)]) ej mM b9)) (fun b9 mM ej=>((n.cells.length:Int) - (b9:Int)).toNat) 0 (List.replicate n.cells.length ([]:List Int)) (ec ++ [(⟨4,(dr.getD ((n.freeze).toNat) []).getD 0 0,0⟩:Gate)]) (⟨om,om,Ck.init UI.dZ⟩) (Le.mk (.c4 (.c2 (.cons (ak U aY) .nil))) (.c2 (.cons (az U eS) (.c2 (.c .nil))))) (fun b9 mM ej Ll=>?_)
 obtain ⟨Qp,Tm,hN⟩:=Ll
 refine .sr (.vl (Y.zb U U) (.nil (.seq (.aB U (fun uI=>?_) (fun uI=>?_)))))
 refine .skip ?_
 refine .kY (fun (pF:List (List Int)) (nt:List Gate)=>⟨[(2,.ptr 102 0 0 0),(6,.ptr 130 0 0 0),(7,.ptr 107 0 0 0),(13,vi ec.length),(108,.fz 6 (n.cells.map Cell.row)),(109,vi n.cells.length),(110,vi b9)],[(102,.cells [.v (.slice none 0 0),.v (.slice none 0 0),.v (.slice none 0 0)]),(107,.cells [.fz 3 (([]:List Gate).map Gate.row),.aN 134 1 0 ((List.replicate n.aa.length ([]:List Int)).length),.aN 138 1 0 ((List.replicate n.cells.length ([]:List Int)).length)]),(130,.cells [.aN 701 3 0 nt.length]),(134,.rows 1 (dr.map ef)),(138,.rows 1 (pF.map ij)),(701,.rows 3 (nt.map Gate.row))]⟩) (fun pF nt=>(pF.length = (List.replicate n.cells.length ([]:List Int)).length) /\ (Ck n V at_ (ec ++ [(⟨4,(dr.getD ((n.freeze).toNat) []).getD 0 0,0⟩:Gate)]) nt pF (b9 + 1))) ?_ (fun pF nt Qq=>?_)
 refine .block (.sr (.mv ?_))
 refine .vl (Y.qr (m:=b9) dU U U aY (ao (d:=default) om)) (.vl (Y.za fq U U (aH U) U U) (.alloc 115 ez U U ab ?_))
 refine .an ?_
 refine .aj gi U U U U U U (aH U) U (.nil (.seq (.sr (.fa ck ?_))))
 refine .ld bg ?_
 refine .vl (Y.zj U U) (.nil (.aB U (fun na=>?_) (fun na=>?_)))
 refine .exit (⟨mM,ej,⟨om,hN.skip na⟩,Le.mk (.c4 (.c2 (.c .nil))) (.c2 (.cons (az U eS) (.c2 (.c .nil))))⟩)
 have h4:(n.cells.getD b9 default).kind = 4:=Classical.not_not.1 na; have DW:=hF.YI hf ht om h4; have hR:=DW.ext (UI.trans hN.ext); have hRa:=hR.al; have YO:=hR.WG; unfold In at YO; have UF:=hR.out; unfold In at UF; have Q4:=hR.sl; have hRy:=hR.yl; have hRl:=hR.ol; have YP:=hR.wide; unfold dk at YP; have UJ:=hN.len; simp only [List.length_append,List.length_singleton] at UJ; have hNn:=hN.nl; obtain ⟨e1,e2,w1,w2⟩:=hR.en hN.ext.dZ (YN.ext hN.ext)
 refine .skip (.seq (.kx 12 U au ?_))
 refine .val (Y.zf U U) ab (.val (Y.qo nG U U) ab (.val (Y.qz r6 U U U U) ab (.val (Y.qo bT U U) ab (.val (Y.qz bn U U U U) ab (.val (Y.qr (m:=0) a7 U U aY (ao (d:=0) om)) ab (.val (Y.qz bg U U U U) ab (.val (Y.qs (m:=(((n.cells.getD b9 default).args).getD 0 0).toNat) ee U U om om) ab (.val (Y.qz bn U (aO (d:=[]) om) U U) ab (.val (Y.qr (m:=0) a7 U U aY (ao (d:=0) om)) ab (.val (Y.qz bg U U U U) ab (.val (Y.zf U U) ab (.nil ?_))))))))))))
 refine .b7 [130,701] [] tj (gD (gl:=ej) (a:=(dr.getD ((((n.cells.getD b9 default).args).getD 0 0).toNat) []).getD 0 0) (b:=(ec.length:Int)) om) U (.named U U (.ai U U (.ai U U .nil))) ⟨U,U,trivial⟩ U ab (fun _ h=>by cases h) (fun _ h=>by cases h) ab ab ?_
 rintro r aK ⟨rfl,rfl⟩ _
 refine ⟨⟨rfl,(by intro ob aZ; simp only [List.mem_cons,List.not_mem_nil,or_false] at aZ; rcases aZ with rfl | rfl <;> rfl),.inl rfl⟩,(.an (.nil (.sr ?_)))⟩
 refine .mv ?_
 refine .mv ?_
 refine .b7 [130,701] [] uy (ia (gl:=ej ++ [(⟨5,(dr.getD ((((n.cells.getD b9 default).args).getD 0 0).toNat) []).getD 0 0,(ec.length:Int)⟩:Gate)]) (a:=(ej.length:Int)) aJ) U (.named U U (.ai U U .nil)) ⟨U,U,trivial⟩ U ab (fun _ h=>by cases h) (fun _ h=>by cases h) ab ab ?_
 rintro r aK ⟨rfl,rfl⟩ _
 refine ⟨⟨rfl,(by intro ob aZ; simp only [List.mem_cons,List.not_mem_nil,or_false] at aZ; rcases aZ with rfl | rfl <;> rfl),.inl rfl⟩,(.an (.nil (.sr ?_)))⟩
 refine .fa nG ?_
 refine .ld r6 ?_
 refine .fa eg ?_
 refine .ld bg ?_
 refine .vl (Y.qs (m:=((n.cells.getD b9 default).out).toNat) ee U U om om) (.vl (Y.qz bn U (aO (d:=[]) om) U U) (.vl (Y.qw (n:=(dr.getD (((n.cells.getD b9 default).out).toNat) []).length) a7 U (congrArg some (List.length_map ..))) (.mv ?_)))
 refine .nil (.block ?_)
 refine .e8 (fun (gM:Nat) (jL:List (List Int)) (iq:List Gate)=>⟨[(2,.ptr 102 0 0 0),(6,.ptr 130 0 0 0),(7,.ptr 107 0 0 0),(13,vi ec.length),(14,vi b9),(15,.ptr 115 0 0 0),(16,vi ej.length),(17,vi (((ej ++ [(⟨5,(dr.getD ((((n.cells.getD b9 default).args).getD 0 0).toNat) []).getD 0 0,(ec.length:Int)⟩:Gate)]).length:Nat):Int)),(108,.fz 6 (n.cells.map Cell.row)),(109,vi n.cells.length),(110,vi b9),(139,.fz 1 ((dr.getD (((n.cells.getD b9 default).out).toNat) []).map ah)),(140,vi (((dr.getD (((n.cells.getD b9 default).out).toNat) []).length:Nat):Int)),(141,vi gM)],[(102,.cells [.v (.slice none 0 0),.v (.slice none 0 0),.v (.slice none 0 0)]),(107,.cells [.fz 3 (([]:List Gate).map Gate.row),.aN 134 1 0 ((List.replicate n.aa.length ([]:List Int)).length),.aN 138 1 0 ((List.replicate n.cells.length ([]:List Int)).length)]),(115,.cells [vi ((n.cells.getD b9 default).kind),vi ((n.cells.getD b9 default).op),vi ((n.cells.getD b9 default).out),.fz 1 (((n.cells.getD b9 default).args).map ah),.v (.int .u64 (((n.cells.getD b9 default).num:Nat):Int)),vi ((n.cells.getD b9 default).mem)]),(130,.cells [.aN 701 3 0 iq.length]),(134,.rows 1 (dr.map ef)),(138,.rows 1 (jL.map ij)),(701,.rows 3 (iq.map Gate.row))]⟩) (fun gM jL iq=>(jL.length = (List.replicate n.cells.length ([]:List Int)).length) /\ ((gM:Int) <= (((dr.getD (((n.cells.getD b9 default).out).toNat) []).length:Nat):Int)) /\ (GS n V at_ b9 mM ((ej ++ [(⟨5,(dr.getD ((((n.cells.getD b9 default).args).getD 0 0).toNat) []).getD 0 0,(ec.length:Int)⟩:Gate)]) ++ [(⟨4,(ej.length:Int),0⟩:Gate)]) iq jL gM)) (fun gM jL iq=>((((dr.getD (((n.cells.getD b9 default).out).toNat) []).length:Nat):Int) - (gM:Int)).toNat) 0 mM ((ej ++ [(⟨5,(dr.getD ((((n.cells.getD b9 default).args).getD 0 0).toNat) []).getD 0 0,(ec.length:Int)⟩:Gate)]) ++ [(⟨4,(ej.length:Int),0⟩:Gate)]) (⟨om,om,GS.init hN e2.dZ⟩) (Le.mk (.c8 (.c4 (.c (.cons (ak U aY) .nil)))) (.c2 (.c (.cons (az U eS) (.c2 (.c .nil)))))) (fun gM jL iq LO=>?_)
 obtain ⟨Qp,UK,hq⟩:=LO
 refine .sr (.vl (Y.zb U U) (.nil (.seq (.aB U (fun Ay=>?_) (fun Ay=>?_)))))
 refine .skip (.seq (.block (.sr (.mv ?_))))
 refine .vl (Y.qr (m:=gM) a7 U U aY (ao (d:=0) om)) (.ld bg ?_)
 refine .an ?_
 refine .an (.nil ?_)
 have Uu:=hq.ml.ol; have YQ:=hq.ml.len; simp only [List.length_append,List.length_singleton] at YQ
 refine .sh (Sh.Qj 138 801 (0 + b9) (n:=(jL.getD b9 []).length) ((jL.map ij).set (0 + b9) [.no]) U (aO (d:=[]) om) U (aW U) U U) (.Aq [27] [107,115,134,138] [107,115,134,138] U (dH.blind 0 U au au (ax.fieldAddr BC U U) ab (dH.load 1 U au au r6 U U U U U ab ?_)))
 refine .blind 2 U au au (ax.move U U) ab (dH.blind 3 U au au (ax.fieldAddr BC U U) ab (dH.load 4 U au au r6 U U U U U ab ?_))
 refine .blind 5 U au au (ax.move U U) ab (.blind 6 U au au (ax.wQ (m:=b9) ee U U aY om) ab ?_)
 refine .load 7 U au au bn U U (yZ U) U U ab (dH.blind 8 U au au (ax.move U U) ab (dH.blind 9 U au au (ax.move U U) ab ?_))
 refine .blind 10 U au au (ax.move U U) ab (dH.blind 11 U au au (ax.fieldAddr nG U U) ab (dH.load 12 U au au r6 U U U U U ab ?_))
 refine .blind 13 U au au (ax.fieldAddr bT U U) ab (dH.load 14 U au au bn U U U U U ab ?_)
 refine .blind 15 U au au (ax.kj (m:=1) a7 U U aY (ao (d:=0) om)) ab (.load 16 U au au bg U U U U U ab (.blind 17 U au au (ax.wQ (m:=(((n.cells.getD b9 default).args).getD 1 0).toNat) ee U U om om) ab (.load 18 U au au bn U U (aO (d:=[]) om) U U ab (.blind 19 U au au (ax.move U U) ab (.blind 20 U au au (ax.kj (m:=gM) a7 U U aY (ao (d:=0) om)) ab ?_)))))
 refine .load 21 U au au bg U U U U U ab (dH.blind 22 U au au (ax.move U U) ab (dH.vf 138 U ?_))
 refine .J2 U U (cv.cells U U U (cv.cells U U U (cv.rows U (cv.rows U cv.nil)))) (gI.one 23 U au ?_)
 refine .b7 [130,701] [] HG (choose_spec (gl:=iq) (s:=(ej.length:Int)) (v:=(((ej ++ [(⟨5,(dr.getD ((((n.cells.getD b9 default).args).getD 0 0).toNat) []).getD 0 0,(ec.length:Int)⟩:Gate)]).length:Nat):Int)) (y:=(dr.getD ((((n.cells.getD b9 default).args).getD 1 0).toNat) []).getD gM 0) (n:=(dr.getD (((n.cells.getD b9 default).out).toNat) []).getD gM 0) aJ) U (.named U U (.ai U U (.ai U U (.ai U U (.ai U U .nil))))) ⟨U,U,trivial⟩ U ab (fun _ h=>by cases h) (fun _ h=>by cases h) ab ab ?_
 rintro r aK ⟨rfl,rfl⟩ _
 refine ⟨⟨rfl,(by intro ob aZ; simp only [List.mem_cons,List.not_mem_nil,or_false] at aZ; rcases aZ with rfl | rfl <;> rfl),.inl rfl⟩,(.nil ⟨U,(.one 24 U au (.buildSlice (([((iq.length:Int) + 2)]:List Int).map ah) a7 dG U U U U U (aq (s:=1) (f:=ah) (fun _=>U)) U U U ab ?_))⟩)⟩
 refine .nil ⟨U,(.one 25 U au (.cJ ah ((jL.getD b9 []) ++ ([((iq.length:Int) + 2)]:List Int)) a7 dG U U U U (bh aJ) (aV aJ) (b8 aJ) aJ aJ ab ab ?_))⟩
 refine .nil ⟨U,(.one 26 U au (.vl (Y.qs (m:=b9) ee U U aY om) (.nil ⟨U,(.late U (.one 27 U au (.sh (Sh.dL (d:=171) (o:=801) U U (aW om) ab) (.Bn ((jL.set b9 ((jL.getD b9 []) ++ ([((iq.length:Int) + 2)]:List Int))).map ij) fG U U U (Bo om) ab (xF U) ?_))))⟩)))⟩
 refine .nil ⟨U,(.done au (.region (.vl (Y.qb U U aJ) (.mv ?_))))⟩
 refine .nil (⟨gM + 1,jL.set b9 ((jL.getD b9 []) ++ ([((iq.length:Int) + 2)]:List Int)),yd iq (ej.length:Int) (((ej ++ [(⟨5,(dr.getD ((((n.cells.getD b9 default).args).getD 0 0).toNat) []).getD 0 0,(ec.length:Int)⟩:Gate)]).length:Nat):Int) ((dr.getD ((((n.cells.getD b9 default).args).getD 1 0).toNat) []).getD gM 0) ((dr.getD (((n.cells.getD b9 default).out).toNat) []).getD gM 0),⟨pP,pP,hq.step hR (e1.trans e2) U om om w1 w2 U⟩,om,Le.mk (.c8 (.c4 (.c (.cons (ak U aY) .nil)))) (.c2 (.c (.cons (az U eS) (.c2 (.c .nil)))))⟩)
 refine .exit (⟨jL,iq,⟨om,GS.done hN om h4 (hR.ext (e1.trans e2)) (e1.trans e2) (by simp) hq om⟩,Le.mk (.c4 (.c2 (.c .nil))) (.c2 (.cons (az U eS) (.c2 (.c .nil))))⟩)
 obtain ⟨ME,FJ⟩:=Qq
 refine .region (.vl (Y.qb U U aJ) (.mv ?_))
 refine .nil (⟨b9 + 1,pF,nt,⟨om,om,FJ⟩,om,Le.mk (.c4 (.c2 (.cons (ak U aY) .nil))) (.c2 (.cons (az U eS) (.c2 (.c .nil))))⟩)
 refine .exit (.seq (.seq ?_))
 have UJ:=hN.len; simp only [List.length_append,List.length_singleton] at UJ
 refine .region (.mv ?_)
 refine .vl (Y.zk U U) (.fa nH ?_)
 refine .ld CH ?_
 refine .vl (Y.qw (n:=ej.length) xV U U) (.vl (Y.qq U U) (.nil (.aB U (fun Da=>?_) (fun Da=>?_))))
 exfalso; omega
 refine .skip (.sr (.mv ?_))
 refine .vl (Y.zk U U) (.fa nH ?_)
 refine .ld CH ?_
 refine .fa HE ?_
 refine .aj OG U U U U U U (aH U) U (.nil (.sr (.vl (Y.za OE U U (aH U) U U) (.aj oJ U U U U U U (aH U) U ?_))))
 refine .an (.nil (.ret ?_))
 exact ⟨_,U,_,_,_,(((Sh.kJ (d:=0) 0 701 U U U U rS U ab).then (Sh.kJ (d:=0) 1 134 U U U U rS U ab)).then (Sh.kJ (d:=0) 2 138 U U U U rS U ab)),U,U,⟨ej,dr,mM⟩,0,.inr ⟨yb hf ht WJ,U,V,at_,Ck.done ho hV hA hF UI (by simp) hN om om⟩,U,U⟩
open Go Go.AW
theorem Cl : ∀ {l : List Cell}, (∀ c ∈ l, c.args.length ≤ 6) → (l.map (fun c => c.args.length)).sum ≤ 6 * l.length
 | [],_=>by simp
 | c :: r,h=>by
  have h1:=h c (by simp)
  have h2:=Cl (l:=r) (fun c hc=>h c (List.mem_cons_of_mem _ hc))
  simp only [List.map_cons,List.sum_cons,List.length_cons]; omega
theorem Bu.UL{n : ae}(h : Bu n){c : Cell}{k : Nat}(hl : c.args.length ≤ 6)(hn : c.num < 18446744073709551616) :
  (⟨n.name,n.aa,n.cells.set k c,n.ins,n.aD,n.streams,n.bD,n.data,n.freeze,n.done,n.cH⟩:ae).Small:=by
 have hs:=h.small
 have ha:∀ x ∈ n.cells.set k c,x.args.length <= 6:=fun x hx=>by
  rcases List.mem_or_eq_of_mem_set hx with h1 | h1
  ·have:=h.uv x h1; omega
  ·subst h1; exact hl
 refine ⟨hs.name,hs.aa,by show (n.cells.set k c).length <= _; rw [List.length_set]; exact hs.cells,fun x hx=>by have:=ha x hx; omega,?_,fun x hx=>?_,hs.mT,hs.mU,hs.ins,hs.aD,hs.streams,hs.bD,hs.data,hs.cH⟩
 ·have h1:=Cl ha
  have h2:=h.dm
  rw [List.length_set] at h1
  show ((n.cells.set k c).map (fun c=>c.args.length)).sum <= _
  omega
 ·rcases List.mem_or_eq_of_mem_set hx with h1 | h1
  ·exact hs.zP x h1
  ·subst h1; exact hn
open Go Go.AW Go.Proofs
theorem fM{k:Nat}:aw Try.prog 64 [.v (.int .u8 (k:Int))] [] [] (fun r o=>r = (vi (a9 k)) /\ o = []):=by
 refine aw.of Try.func64 U U U (n:=8) ab (aH U) (.sr (.an (.nil (.sr ?_))))
 refine .buildSlice (([1,2,4,7,8,13,33,64]:List Int).map ah) a7 dG U U U U U (aq (s:=1) (f:=ah) (fun _=>U)) U U U ab ?_
 refine .mv ?_
 refine .vl (Y.zr U U aJ) (.sh (Sh.cN (d:=3) (([1,2,4,7,8,13,33,64]:List Int).map ah) U iX (cM.map aI)) (.vl (Y.qr (m:=k % 8) a7 U U aY (ao (d:=0) aJ)) (.ld bg ?_)))
 refine .an (.nil (.ret ?_))
 exact .ri rfl (rfl)
theorem cq{n:ae}{w:Int}{k:Nat}(hn:n.aa.length <= 1048576)(hk:k < 256):aw Try.prog 67 [.agg (ae.ry n),vi w,.v (.int .u8 (k:Int))] [] [] (fun r o=>r = (vi (aE n.aa w k)) /\ o = []):=by
 refine aw.of Try.func67 U U U (n:=38) ab (aH U) ?_
 have Gz:=vM n.aa w
 refine .sr (.box 103 U U U U U ab ?_)
 refine .an (.nil (.sr ?_))
 refine .an ?_
 refine .sh (Sh.nil (d:=7) 107 1 U ab) (.nil (.seq (.sr (.an (.nil (.block ?_))))))
 refine .gT (fun (pe:Nat) (qS:List Int)=>⟨[(1,vi w),(2,.v (.int .u8 (k:Int))),(3,.ptr 103 0 0 0),(7,.aN 107 1 0 qS.length),(8,vi pe)],[(103,.cells (ae.ry n)),(107,.rows 1 (qS.map ah))]⟩) (fun pe qS=>((pe:Int) <= (n.aa.length:Int)) /\ (qS = jo n.aa w pe)) (fun pe qS=>((n.aa.length:Int) - (pe:Int)).toNat) 0 ([]:List Int) (⟨pP,U⟩) (Le.mk (.c2 (.c (.cons (aM U aJ) (.cons (ak U aY) .nil)))) (.c (.c .nil))) (fun pe qS pK=>?_)
 obtain ⟨CL,hl⟩:=pK
 refine .seq (.sr (.mv ?_))
 refine .fa bB ?_
 refine .ld bn ?_
 refine .vl (Y.qw (n:=n.aa.length) a7 U dY) (.vl (Y.zb U U) (.nil (.aB U (fun yV=>?_) (fun yV=>?_))))
 refine .skip (.iu (fun (sE:List Int)=>⟨[(1,vi w),(2,.v (.int .u8 (k:Int))),(3,.ptr 103 0 0 0),(7,.aN 107 1 0 sE.length),(8,vi pe)],[(103,.cells (ae.ry n)),(107,.rows 1 (sE.map ah))]⟩) (fun sE=>sE = jo n.aa w (pe + 1)) ?_ (fun sE xk=>?_))
 refine .block (.seq ?_)
 have LP:=Gz pe; rw [<- hl] at LP
 refine .region (.fa bB ?_)
 refine .ld bn ?_
 refine .mv ?_
 refine .vl (Y.qr (m:=pe) a7 U U aY (ao (d:=0) om)) (.ld bg ?_)
 refine .mv ?_
 refine .vl (Y.ql U U) (.nil (.aB U (fun pU=>?_) (fun pU=>?_)))
 refine .region (.mv ?_)
 refine .mv ?_
 refine .buildSlice (([(pe:Int)]:List Int).map ah) a7 dG U U U U U (aq (s:=1) (f:=ah) (fun _=>U)) U U U ab ?_
 refine .cJ ah (qS ++ ([(pe:Int)]:List Int)) a7 dG U U U U (bh aJ) (aV aJ) (b8 aJ) aJ aJ ab ab ?_
 refine .an ?_
 refine .nil ⟨qS ++ ([(pe:Int)]:List Int),by first | (rw [hl]; exact (pv bO).symm) | exact hl.trans (rz bO).symm,Le.mk (.c2 (.c (.cons (aM U om) (.c .nil)))) (.c (.c .nil))⟩
 refine .skip ⟨qS,by first | (rw [hl]; exact (pv bO).symm) | exact hl.trans (rz bO).symm,Le.mk (.c2 (.c (.cons (aM U om) (.c .nil)))) (.c (.c .nil))⟩
 refine .region (.mv ?_)
 refine .vl (Y.qb U U aJ) (.an ?_)
 refine .nil (⟨pe + 1,sE,⟨om,xk⟩,om,Le.mk (.c2 (.c (.cons (aM U om) (.cons (ak U aY) .nil)))) (.c (.c .nil))⟩)
 refine .exit (.seq (.seq ?_))
 have he:qS = jo n.aa w n.aa.length:=by rw [hl,show pe = n.aa.length by omega]
 have LP:=Gz pe; rw [<- hl] at LP
 refine .region (.mv ?_)
 refine .vl (Y.qw (n:=qS.length) a7 U U) (.vl (Y.ql U U) (.nil (.aB U (fun FK=>?_) (fun FK=>?_))))
 refine .sr (.an (.nil (.ret ?_)))
 exact .ri rfl (by unfold aE; rw [<- he,if_pos om])
 refine .skip (.seq ?_)
 have UM:k % qS.length < qS.length:=Nat.mod_lt _ om
 refine .region (.mv ?_)
 refine .mv ?_
 refine .vl (Y.qk vS r4 U yO) (.mv ?_)
 refine .vl (Y.qw (n:=qS.length) a7 U U) (.vl (Y.zr U U aJ) (.vl (Y.qs (m:=k % qS.length) a7 U U aY om) (.vl (Y.qz bg U (aO (d:=0) om) U U) (.an (.nil (.ret ?_))))))
 exact .ri rfl (by unfold aE; rw [<- he,if_neg om])
theorem kv{n:ae}{w:Int}{k:Nat}(hn:n.aa.length <= 1048576)(hk:k < 256):aw Try.prog 67 [.agg (ae.row n),vi w,.v (.int .u8 (k:Int))] [] [] (fun r o=>r = (vi (aE n.aa w k)) /\ o = []):=by
 refine aw.of Try.func67 U U U (n:=38) ab (aH U) ?_
 have Gz:=vM n.aa w
 refine .sr (.box 103 U U U U U ab ?_)
 refine .an (.nil (.sr ?_))
 refine .an ?_
 refine .sh (Sh.nil (d:=7) 107 1 U ab) (.nil (.seq (.sr (.an (.nil (.block ?_))))))
 refine .gT (fun (pe:Nat) (qS:List Int)=>⟨[(1,vi w),(2,.v (.int .u8 (k:Int))),(3,.ptr 103 0 0 0),(7,.aN 107 1 0 qS.length),(8,vi pe)],[(103,.cells (ae.row n)),(107,.rows 1 (qS.map ah))]⟩) (fun pe qS=>((pe:Int) <= (n.aa.length:Int)) /\ (qS = jo n.aa w pe)) (fun pe qS=>((n.aa.length:Int) - (pe:Int)).toNat) 0 ([]:List Int) (⟨pP,U⟩) (Le.mk (.c2 (.c (.cons (aM U aJ) (.cons (ak U aY) .nil)))) (.c (.c .nil))) (fun pe qS pK=>?_)
 obtain ⟨CL,hl⟩:=pK
 refine .seq (.sr (.mv ?_))
 refine .fa bB ?_
 refine .ld bn ?_
 refine .vl (Y.qw (n:=n.aa.length) a7 U dY) (.vl (Y.zb U U) (.nil (.aB U (fun yV=>?_) (fun yV=>?_))))
 refine .skip (.iu (fun (sE:List Int)=>⟨[(1,vi w),(2,.v (.int .u8 (k:Int))),(3,.ptr 103 0 0 0),(7,.aN 107 1 0 sE.length),(8,vi pe)],[(103,.cells (ae.row n)),(107,.rows 1 (sE.map ah))]⟩) (fun sE=>sE = jo n.aa w (pe + 1)) ?_ (fun sE xk=>?_))
 refine .block (.seq ?_)
 have LP:=Gz pe; rw [<- hl] at LP
 refine .region (.fa bB ?_)
 refine .ld bn ?_
 refine .mv ?_
 refine .vl (Y.qr (m:=pe) a7 U U aY (ao (d:=0) om)) (.ld bg ?_)
 refine .mv ?_
 refine .vl (Y.ql U U) (.nil (.aB U (fun pU=>?_) (fun pU=>?_)))
 refine .region (.mv ?_)
 refine .mv ?_
 refine .buildSlice (([(pe:Int)]:List Int).map ah) a7 dG U U U U U (aq (s:=1) (f:=ah) (fun _=>U)) U U U ab ?_
 refine .cJ ah (qS ++ ([(pe:Int)]:List Int)) a7 dG U U U U (bh aJ) (aV aJ) (b8 aJ) aJ aJ ab ab ?_
 refine .an ?_
 refine .nil ⟨qS ++ ([(pe:Int)]:List Int),by first | (rw [hl]; exact (pv bO).symm) | exact hl.trans (rz bO).symm,Le.mk (.c2 (.c (.cons (aM U om) (.c .nil)))) (.c (.c .nil))⟩
 refine .skip ⟨qS,by first | (rw [hl]; exact (pv bO).symm) | exact hl.trans (rz bO).symm,Le.mk (.c2 (.c (.cons (aM U om) (.c .nil)))) (.c (.c .nil))⟩
 refine .region (.mv ?_)
 refine .vl (Y.qb U U aJ) (.an ?_)
 refine .nil (⟨pe + 1,sE,⟨om,xk⟩,om,Le.mk (.c2 (.c (.cons (aM U om) (.cons (ak U aY) .nil)))) (.c (.c .nil))⟩)
 refine .exit (.seq (.seq ?_))
 have he:qS = jo n.aa w n.aa.length:=by rw [hl,show pe = n.aa.length by omega]
 have LP:=Gz pe; rw [<- hl] at LP
 refine .region (.mv ?_)
 refine .vl (Y.qw (n:=qS.length) a7 U U) (.vl (Y.ql U U) (.nil (.aB U (fun FK=>?_) (fun FK=>?_))))
 refine .sr (.an (.nil (.ret ?_)))
 exact .ri rfl (by unfold aE; rw [<- he,if_pos om])
 refine .skip (.seq ?_)
 have UM:k % qS.length < qS.length:=Nat.mod_lt _ om
 refine .region (.mv ?_)
 refine .mv ?_
 refine .vl (Y.qk vS r4 U yO) (.mv ?_)
 refine .vl (Y.qw (n:=qS.length) a7 U U) (.vl (Y.zr U U aJ) (.vl (Y.qs (m:=k % qS.length) a7 U U aY om) (.vl (Y.qz bg U (aO (d:=0) om) U U) (.an (.nil (.ret ?_))))))
 exact .ri rfl (by unfold aE; rw [<- he,if_neg om])
open Go Go.AW Go.Proofs
theorem AU{n:ae}{p:rT}(hn:n.aa.length <= 1048576)(h0:0 < n.aa.length)(hp:p.Ok)(hg:Ground n)(hi:n.ins.length <= 1048576):aw Try.prog 119 [.agg (ae.ry n),.agg (rT.row p)] [] [] (fun r o=>∃ c w,lK n c w /\ r = .tup [.agg (Cell.ij c),vi w] /\ o = []):=by
 refine aw.QH Try.func119 U U U (n:=96) ab (aH U) ?_
 have YR:=hp.kind; have LF:=hp.op; have YS:=hp.width; have WK:=hp.a; have YT:=hp.b; have QS:=hp.d; have YU:=hp.num; have Wx:=Nat.mod_lt p.a h0; have Ur:=Nat.mod_lt p.b h0
 refine .sr (.box 102 U U U U U ab (.box 103 U U U U U ab ?_))
 refine .alloc 104 ez U U ab ?_
 refine .an ?_
 refine .nil (.seq (.sh (Sh.iY 102 U U) (.sh (Sh.iY 103 U U) (.region (.buildSlice (([2,3,9,10,11,12,13,14,15,16,17,18,19,20,21,22,23,24]:List Int).map ah) a7 dG U U U U U (aq (s:=1) (f:=ah) (fun _=>U)) U U U ab ?_)))))
 refine .bX U ab (.sh (Sh.cN (d:=6) (([2,3,9,10,11,12,13,14,15,16,17,18,19,20,21,22,23,24]:List Int).map ah) U iX (cM.map aI)) (.nil (.le (ba:=⟨[(2,.fp (ae.ry n) 0),(3,.fp (rT.row p) 0),(4,.ptr 104 0 0 0),(6,.fz 1 (([2,3,9,10,11,12,13,14,15,16,17,18,19,20,21,22,23,24]:List Int).map ah))],[(104,.cells [vi 0,vi 0,vi 0,vn,.v (.int .u64 0),vi 0])]⟩) (Le.mk (.c2 (.c (.c .nil))) (.c .nil)) (.sr (.mv ?_)))))
 refine .fa pw ?_
 refine .ld sQ ?_
 refine .vl (Y.qk vS r4 U yO) (.mv ?_)
 refine .vl (Y.qw (n:=([2,3,9,10,11,12,13,14,15,16,17,18,19,20,21,22,23,24]:List Int).length) a7 U dY) (.vl (Y.zr U U aJ) (.vl (Y.qr (m:=p.op % (([2,3,9,10,11,12,13,14,15,16,17,18,19,20,21,22,23,24]:List Int).length)) a7 U U aY (ao (d:=0) aJ)) (.ld bg ?_)))
 refine .an (.nil (.sr ?_))
 refine .fa BB ?_
 refine .ld sQ ?_
 refine .aR vv (fM (k:=p.width)) U (.ai U U .nil) ab U ?_
 refine .an (.nil (.sr ?_))
 refine .mv ?_
 refine .vl (Y.qh vu ez U U U) (.alloc 109 ez U U ab (.aj gi U U U U U U (aH U) U ?_))
 refine .nil (.seq (.block (.sr (.mv ?_))))
 refine .vl (Y.ql U U) (.an (.nil ?_))
 refine .aB U (fun xm=>?_) (fun xm=>?_)
 refine .gq U (.fW 0 U au fF U U U (aH U) U U ab (.blind 1 U au (ax.fieldAddr jF U U) ab ?_))
 refine .blind 2 U au (ax.lN oI U U (m:=0) U om U) ab (.load 3 U au sQ U U U U U ab (.fW 5 U au fF U U U (aH U) U U ab ?_))
 refine .blind 6 U au (ax.move U U) ab (.blind 7 U au (ax.fieldAddr jF U U) ab (.blind 8 U au (ax.lN oI U U (m:=1) U om U) ab ?_))
 refine .load 9 U au sQ U U U U U ab (.fW 11 U au fF U U U (aH U) U U ab (.blind 12 U au (ax.move U U) ab ?_))
 refine .blind 13 U au (ax.fieldAddr jF U U) ab (.blind 14 U au (ax.lN oI U U (m:=2) U om U) ab (.load 15 U au sQ U U U U U ab ?_))
 refine .yn (.one 4 U au (.aR jg (cq (n:=(⟨n.name,n.aa,n.cells,n.ins,n.aD,n.streams,[],[],n.freeze,n.done,[]⟩:ae)) (w:=1) (k:=p.a) (by show (n.aa).length <= 1048576; omega) om) U (.ai U U (.ai U U (.ai U U .nil))) ab U ?_))
 refine .nil ⟨U,(.one 10 U au (.aR jg (cq (n:=(⟨n.name,n.aa,n.cells,n.ins,n.aD,n.streams,[],[],n.freeze,n.done,[]⟩:ae)) (w:=(a9 p.width)) (k:=p.b) (by show (n.aa).length <= 1048576; omega) om) U (.ai U U (.ai U U (.ai U U .nil))) ab U ?_))⟩
 refine .nil ⟨U,(.one 16 U au (.aR jg (cq (n:=(⟨n.name,n.aa,n.cells,n.ins,n.aD,n.streams,[],[],n.freeze,n.done,[]⟩:ae)) (w:=(a9 p.width)) (k:=p.d) (by show (n.aa).length <= 1048576; omega) om) U (.ai U U (.ai U U (.ai U U .nil))) ab U ?_))⟩
 refine .nil ⟨U,(.one 17 U au (.buildSlice (([aE n.aa 1 p.a,aE n.aa (a9 p.width) p.b,aE n.aa (a9 p.width) p.d]:List Int).map ah) a7 dG U U U U U (aq (s:=1) (f:=ah) (fun _=>U)) U U U ab ?_))⟩
 refine .nil ⟨U,(.one 18 U au (.fa bT ?_))⟩
 refine .nil ⟨U,(.one 19 U au (.sh (Sh.dD (d:=62) (n:=([aE n.aa 1 p.a,aE n.aa (a9 p.width) p.b,aE n.aa (a9 p.width) p.d]:List Int).length) 162 (([aE n.aa 1 p.a,aE n.aa (a9 p.width) p.b,aE n.aa (a9 p.width) p.d]:List Int).map ah) U iX (aW U) ab) (.aj fG U U U U U U (aH U) U ?_)))⟩
 refine .nil ⟨U,(.done au (.le (ba:=⟨[(4,.ptr 104 0 0 0),(8,vi (a9 p.width)),(9,.ptr 109 0 0 0)],[(104,.cells [vi 0,vi 0,vi 0,vn,.v (.int .u64 0),vi 0]),(109,.cells [vi 2,vi (([2,3,9,10,11,12,13,14,15,16,17,18,19,20,21,22,23,24]:List Int).getD (p.op % (([2,3,9,10,11,12,13,14,15,16,17,18,19,20,21,22,23,24]:List Int).length)) 0),vi 0,.aN 162 1 0 (([aE n.aa 1 p.a,aE n.aa (a9 p.width) p.b,aE n.aa (a9 p.width) p.d]:List Int).length),.v (.int .u64 0),vi 0]),(162,.rows 1 (([aE n.aa 1 p.a,aE n.aa (a9 p.width) p.b,aE n.aa (a9 p.width) p.d]:List Int).map ah))]⟩) (Le.mk (.c2 (.c .nil)) (.c2 (.c .nil))) ?_))⟩
 refine .sr (.vl (Y.za fq U U (aH U) U U) (.mv ?_))
 refine .aj gi U U U U U U (aH U) U ?_
 refine .an (.nil (.ret ?_))
 exact ⟨_,U,_,_,_,Sh.kJ (d:=0) 3 162 U U U U rS U ab,U,U,(⟨2,([2,3,9,10,11,12,13,14,15,16,17,18,19,20,21,22,23,24]:List Int).getD (p.op % (([2,3,9,10,11,12,13,14,15,16,17,18,19,20,21,22,23,24]:List Int).length)) 0,0,([aE n.aa 1 p.a,aE n.aa (a9 p.width) p.b,aE n.aa (a9 p.width) p.d]:List Int),0,0⟩:Cell),_,Ki hg xm,U,U⟩
 refine .sr (.mv ?_)
 refine .aR wF (g5 (w:=(([2,3,9,10,11,12,13,14,15,16,17,18,19,20,21,22,23,24]:List Int).getD (p.op % (([2,3,9,10,11,12,13,14,15,16,17,18,19,20,21,22,23,24]:List Int).length)) 0))) U (.ai U U .nil) ab U ?_
 refine .an (.nil ?_)
 refine .aB U (fun GM=>?_) (fun GM=>?_)
 refine .sr (.fa jF ?_)
 refine .vl (Y.qt oI U U (m:=0) U om U) (.ld sQ ?_)
 refine .vl (Y.qk vS r4 U yO) (.fa bB ?_)
 refine .ld bn ?_
 refine .vl (Y.qw (n:=n.aa.length) a7 U dY) (.vl (Y.zr U U aJ) (.an (.nil ?_)))
 refine .iu (fun (sF:Int)=>⟨[(4,.ptr 104 0 0 0),(8,vi sF),(9,.ptr 109 0 0 0),(10,vi ((p.a:Int) % (n.aa.length:Int)))],[(104,.cells [vi 0,vi 0,vi 0,vn,.v (.int .u64 0),vi 0]),(109,.cells [vi 2,vi (([2,3,9,10,11,12,13,14,15,16,17,18,19,20,21,22,23,24]:List Int).getD (p.op % (([2,3,9,10,11,12,13,14,15,16,17,18,19,20,21,22,23,24]:List Int).length)) 0),vi 0,vn,.v (.int .u64 0),vi 0])]⟩) (fun sF=>(((([2,3,9,10,11,12,13,14,15,16,17,18,19,20,21,22,23,24]:List Int).getD (p.op % (([2,3,9,10,11,12,13,14,15,16,17,18,19,20,21,22,23,24]:List Int).length)) 0) = 24) /\ (sF = (if (n.aa.getD (p.a % n.aa.length) 0) < (a9 p.width) then (n.aa.getD (p.a % n.aa.length) 0) else (a9 p.width)))) \/ ((¬ ((([2,3,9,10,11,12,13,14,15,16,17,18,19,20,21,22,23,24]:List Int).getD (p.op % (([2,3,9,10,11,12,13,14,15,16,17,18,19,20,21,22,23,24]:List Int).length)) 0) = 24)) /\ (sF = (if (n.aa.getD (p.a % n.aa.length) 0) > (a9 p.width) then (n.aa.getD (p.a % n.aa.length) 0) else (a9 p.width))))) ?_ (fun sF UN=>?_)
 refine .sr (.mv ?_)
 refine .vl (Y.ql U U) (.nil (.aB U (fun FH=>?_) (fun FH=>?_)))
 refine .region (.mv ?_)
 refine .fa bB ?_
 refine .ld bn ?_
 refine .mv ?_
 refine .vl (Y.qr (m:=p.a % n.aa.length) a7 U U aY (ao (d:=0) om)) (.ld bg ?_)
 refine .vl (Y.ze U U U) (.an ?_)
 refine .nil (⟨if (n.aa.getD (p.a % n.aa.length) 0) < (a9 p.width) then (n.aa.getD (p.a % n.aa.length) 0) else (a9 p.width),.inl ⟨FH,U⟩,Le.mk (.c (.cons (ak U aY) (.c (.c .nil)))) (.c (.c .nil))⟩)
 refine .region (.mv ?_)
 refine .fa bB ?_
 refine .ld bn ?_
 refine .mv ?_
 refine .vl (Y.qr (m:=p.a % n.aa.length) a7 U U aY (ao (d:=0) om)) (.ld bg ?_)
 refine .vl (Y.zd U U U) (.an ?_)
 refine .nil (⟨if (n.aa.getD (p.a % n.aa.length) 0) > (a9 p.width) then (n.aa.getD (p.a % n.aa.length) 0) else (a9 p.width),.inr (⟨FH,U⟩),Le.mk (.c (.cons (ak U aY) (.c (.c .nil)))) (.c (.c .nil))⟩)
 refine .region (.mv ?_)
 refine .buildSlice (([(p.a:Int) % (n.aa.length:Int)]:List Int).map ah) a7 dG U U U U U (aq (s:=1) (f:=ah) (fun _=>U)) U U U ab ?_
 refine .fa bT ?_
 refine .sh (Sh.dD (d:=92) (n:=([(p.a:Int) % (n.aa.length:Int)]:List Int).length) 192 (([(p.a:Int) % (n.aa.length:Int)]:List Int).map ah) U iX (aW U) ab) (.aj fG U U U U U U (aH U) U (.nil ?_))
 refine .le (ba:=⟨[(4,.ptr 104 0 0 0),(8,vi sF),(9,.ptr 109 0 0 0)],[(104,.cells [vi 0,vi 0,vi 0,vn,.v (.int .u64 0),vi 0]),(109,.cells [vi 2,vi (([2,3,9,10,11,12,13,14,15,16,17,18,19,20,21,22,23,24]:List Int).getD (p.op % (([2,3,9,10,11,12,13,14,15,16,17,18,19,20,21,22,23,24]:List Int).length)) 0),vi 0,.aN 192 1 0 (([(p.a:Int) % (n.aa.length:Int)]:List Int).length),.v (.int .u64 0),vi 0]),(192,.rows 1 (([(p.a:Int) % (n.aa.length:Int)]:List Int).map ah))]⟩) (Le.mk (.c2 (.c .nil)) (.c2 (.c .nil))) ?_
 refine .sr (.vl (Y.za fq U U (aH U) U U) (.mv ?_))
 refine .aj gi U U U U U U (aH U) U ?_
 refine .an (.nil (.ret ?_))
 exact ⟨_,U,_,_,_,Sh.kJ (d:=0) 3 192 U U U U rS U ab,U,U,(⟨2,([2,3,9,10,11,12,13,14,15,16,17,18,19,20,21,22,23,24]:List Int).getD (p.op % (([2,3,9,10,11,12,13,14,15,16,17,18,19,20,21,22,23,24]:List Int).length)) 0,0,([(p.a:Int) % (n.aa.length:Int)]:List Int),0,0⟩:Cell),_,NM hg h0 GM UN,U,U⟩
 refine .seq (.gq U (.fW 0 U au fF U U U (aH U) U U ab ?_))
 refine .blind 1 U au (ax.move U U) ab (.blind 2 U au (ax.fieldAddr jF U U) ab (.blind 3 U au (ax.lN oI U U (m:=0) U om U) ab ?_))
 refine .load 4 U au sQ U U U U U ab (.fW 6 U au fF U U U (aH U) U U ab (.blind 7 U au (ax.move U U) ab ?_))
 refine .blind 8 U au (ax.fieldAddr jF U U) ab (.blind 9 U au (ax.lN oI U U (m:=1) U om U) ab (.load 10 U au sQ U U U U U ab ?_))
 refine .yn (.one 5 U au (.aR jg (cq (n:=(⟨n.name,n.aa,n.cells,n.ins,n.aD,n.streams,[],[],n.freeze,n.done,[]⟩:ae)) (w:=(a9 p.width)) (k:=p.a) (by show (n.aa).length <= 1048576; omega) om) U (.ai U U (.ai U U (.ai U U .nil))) ab U ?_))
 refine .nil ⟨U,(.one 11 U au (.aR jg (cq (n:=(⟨n.name,n.aa,n.cells,n.ins,n.aD,n.streams,[],[],n.freeze,n.done,[]⟩:ae)) (w:=(a9 p.width)) (k:=p.b) (by show (n.aa).length <= 1048576; omega) om) U (.ai U U (.ai U U (.ai U U .nil))) ab U ?_))⟩
 refine .nil ⟨U,(.one 12 U au (.buildSlice (([aE n.aa (a9 p.width) p.a,aE n.aa (a9 p.width) p.b]:List Int).map ah) a7 dG U U U U U (aq (s:=1) (f:=ah) (fun _=>U)) U U U ab ?_))⟩
 refine .nil ⟨U,(.one 13 U au (.fa bT ?_))⟩
 refine .nil ⟨U,(.one 14 U au (.sh (Sh.dD (d:=38) (n:=([aE n.aa (a9 p.width) p.a,aE n.aa (a9 p.width) p.b]:List Int).length) 138 (([aE n.aa (a9 p.width) p.a,aE n.aa (a9 p.width) p.b]:List Int).map ah) U iX (aW U) ab) (.aj fG U U U U U U (aH U) U ?_)))⟩
 refine .nil ⟨U,?_⟩
 refine .done au (.le (ba:=⟨[(4,.ptr 104 0 0 0),(7,vi (([2,3,9,10,11,12,13,14,15,16,17,18,19,20,21,22,23,24]:List Int).getD (p.op % (([2,3,9,10,11,12,13,14,15,16,17,18,19,20,21,22,23,24]:List Int).length)) 0)),(8,vi (a9 p.width)),(9,.ptr 109 0 0 0)],[(104,.cells [vi 0,vi 0,vi 0,vn,.v (.int .u64 0),vi 0]),(109,.cells [vi 2,vi (([2,3,9,10,11,12,13,14,15,16,17,18,19,20,21,22,23,24]:List Int).getD (p.op % (([2,3,9,10,11,12,13,14,15,16,17,18,19,20,21,22,23,24]:List Int).length)) 0),vi 0,.aN 138 1 0 (([aE n.aa (a9 p.width) p.a,aE n.aa (a9 p.width) p.b]:List Int).length),.v (.int .u64 0),vi 0]),(138,.rows 1 (([aE n.aa (a9 p.width) p.a,aE n.aa (a9 p.width) p.b]:List Int).map ah))]⟩) (Le.mk (.c2 (.c (.c .nil))) (.c2 (.c .nil))) (.sr ?_))
 refine .mv ?_
 refine .aR Ox (mo (w:=(([2,3,9,10,11,12,13,14,15,16,17,18,19,20,21,22,23,24]:List Int).getD (p.op % (([2,3,9,10,11,12,13,14,15,16,17,18,19,20,21,22,23,24]:List Int).length)) 0))) U (.ai U U .nil) ab U (.nil (.aB U (fun At=>?_) (fun At=>?_)))
 refine .region (.an ?_)
 refine .nil (.le (ba:=⟨[(4,.ptr 104 0 0 0),(8,vi 1),(9,.ptr 109 0 0 0)],[(104,.cells [vi 0,vi 0,vi 0,vn,.v (.int .u64 0),vi 0]),(109,.cells [vi 2,vi (([2,3,9,10,11,12,13,14,15,16,17,18,19,20,21,22,23,24]:List Int).getD (p.op % (([2,3,9,10,11,12,13,14,15,16,17,18,19,20,21,22,23,24]:List Int).length)) 0),vi 0,.aN 138 1 0 (([aE n.aa (a9 p.width) p.a,aE n.aa (a9 p.width) p.b]:List Int).length),.v (.int .u64 0),vi 0]),(138,.rows 1 (([aE n.aa (a9 p.width) p.a,aE n.aa (a9 p.width) p.b]:List Int).map ah))]⟩) (Le.mk (.c2 (.c .nil)) (.c2 (.c .nil))) ?_)
 refine .sr (.vl (Y.za fq U U (aH U) U U) (.mv ?_))
 refine .aj gi U U U U U U (aH U) U ?_
 refine .an (.nil (.ret ?_))
 exact ⟨_,U,_,_,_,Sh.kJ (d:=0) 3 138 U U U U rS U ab,U,U,(⟨2,([2,3,9,10,11,12,13,14,15,16,17,18,19,20,21,22,23,24]:List Int).getD (p.op % (([2,3,9,10,11,12,13,14,15,16,17,18,19,20,21,22,23,24]:List Int).length)) 0,0,([aE n.aa (a9 p.width) p.a,aE n.aa (a9 p.width) p.b]:List Int),0,0⟩:Cell),_,E7 hg (E6 _) xm GM (.inl ⟨At,U⟩),U,U⟩
 refine .skip (.le (ba:=⟨[(4,.ptr 104 0 0 0),(8,vi (a9 p.width)),(9,.ptr 109 0 0 0)],[(104,.cells [vi 0,vi 0,vi 0,vn,.v (.int .u64 0),vi 0]),(109,.cells [vi 2,vi (([2,3,9,10,11,12,13,14,15,16,17,18,19,20,21,22,23,24]:List Int).getD (p.op % (([2,3,9,10,11,12,13,14,15,16,17,18,19,20,21,22,23,24]:List Int).length)) 0),vi 0,.aN 138 1 0 (([aE n.aa (a9 p.width) p.a,aE n.aa (a9 p.width) p.b]:List Int).length),.v (.int .u64 0),vi 0]),(138,.rows 1 (([aE n.aa (a9 p.width) p.a,aE n.aa (a9 p.width) p.b]:List Int).map ah))]⟩) (Le.mk (.c2 (.c .nil)) (.c2 (.c .nil))) ?_)
 refine .sr (.vl (Y.za fq U U (aH U) U U) (.mv ?_))
 refine .aj gi U U U U U U (aH U) U ?_
 refine .an (.nil (.ret ?_))
 exact ⟨_,U,_,_,_,Sh.kJ (d:=0) 3 138 U U U U rS U ab,U,U,(⟨2,([2,3,9,10,11,12,13,14,15,16,17,18,19,20,21,22,23,24]:List Int).getD (p.op % (([2,3,9,10,11,12,13,14,15,16,17,18,19,20,21,22,23,24]:List Int).length)) 0,0,([aE n.aa (a9 p.width) p.a,aE n.aa (a9 p.width) p.b]:List Int),0,0⟩:Cell),_,E7 hg (E6 _) xm GM (.inr ⟨At,U⟩),U,U⟩
theorem wx{n:ae}{p:rT}(hn:n.aa.length <= 1048576)(h0:0 < n.aa.length)(hp:p.Ok)(hg:Ground n)(hi:n.ins.length <= 1048576):aw Try.prog 65 [.agg (ae.ry n),.agg (rT.row p)] [] [] (fun r o=>∃ c w,lK n c w /\ r = .tup [.agg (Cell.ij c),vi w] /\ o = []):=by
 refine aw.QH Try.func65 U U U (n:=208) ab (aH U) ?_
 have YR:=hp.kind; have LF:=hp.op; have YS:=hp.width; have WK:=hp.a; have YT:=hp.b; have QS:=hp.d; have YU:=hp.num; have Wx:=Nat.mod_lt p.a h0; have Ur:=Nat.mod_lt p.b h0
 refine .sr (.box 102 U U U U U ab (.box 103 U U U U U ab ?_))
 refine .alloc 104 ez U U ab ?_
 refine .an ?_
 refine .nil (.seq (.sh (Sh.iY 102 U U) (.sh (Sh.iY 103 U U) (.region (.fa BB ?_)))))
 refine .ld sQ ?_
 refine .aR vv (fM (k:=p.width)) U (.ai U U .nil) ab U ?_
 refine .an (.nil (.sr ?_))
 refine .fa Hz ?_
 refine .ld sQ ?_
 refine .vl (Y.zr U U aJ) (.vl (Y.qk vS r4 U yO) (.vl (Y.qb U U aJ) (.vl (Y.qh vu ez U U U) (.alloc 107 ez U U ab (.aj gi U U U U U U (aH U) U ?_)))))
 refine .nil (.seq (.j9 U au ?_))
 refine .val (Y.qo jF U U) ab (.val (Y.qt oI U U (m:=0) U om U) ab (.val (Y.qz sQ U U U U) ab (.val (Y.qo jF U U) ab (.val (Y.qt oI U U (m:=1) U om U) ab (.val (Y.qz sQ U U U U) ab (.val (Y.qo jF U U) ab (.val (Y.qt oI U U (m:=2) U om U) ab (.val (Y.qz sQ U U U U) ab (.val (Y.qf U U) ab (.val (Y.qf U U) ab (.val (Y.qf U U) ab ?_)))))))))))
 refine .nil (.le (ba:=⟨[(2,.fp (ae.ry n) 0),(3,.fp (rT.row p) 0),(4,.ptr 104 0 0 0),(6,vi (a9 p.width)),(7,.ptr 107 0 0 0),(8,.v (.int .u8 (p.a:Int))),(9,.v (.int .u8 (p.b:Int))),(10,.v (.int .u8 (p.d:Int)))],[(104,.cells [vi 0,vi 0,vi 0,vn,.v (.int .u64 0),vi 0]),(107,.cells [vi (1 + ((p.kind:Int) % 10)),vi 0,vi (-1),vn,.v (.int .u64 0),vi 0])]⟩) (Le.mk (.c4 (.c2 (.c (.c .nil)))) (.c (.c .nil))) ?_)
 refine .seq (.sr (.fa ck ?_))
 refine .ld bg ?_
 refine .nil (.block (.sr (.vl (Y.ql U U) (.an (.nil ?_)))))
 refine .aB U (fun Lc=>?_) (fun Lc=>?_)
 refine .region (.mv ?_)
 refine .fa tC ?_
 refine .ld fV ?_
 refine .aR O3 (vV (w:=(a9 p.width)) (x:=p.num) (om)) U (.ai U U (.ai U U .nil)) ab U ?_
 refine .fa dE ?_
 refine .aj HC U U U U U U (aH U) U (.nil (.le (ba:=⟨[(4,.ptr 104 0 0 0),(6,vi (a9 p.width)),(7,.ptr 107 0 0 0)],[(104,.cells [vi 0,vi 0,vi 0,vn,.v (.int .u64 0),vi 0]),(107,.cells [vi (1 + ((p.kind:Int) % 10)),vi 0,vi (-1),vn,.v (.int .u64 ((gA (a9 p.width) p.num:Nat):Int)),vi 0])]⟩) (Le.mk (.c2 (.c .nil)) (.c (.c .nil))) ?_))
 refine .sr (.vl (Y.za fq U U (aH U) U U) (.mv ?_))
 refine .aj gi U U U U U U (aH U) U ?_
 refine .an ?_
 exact .nil (.sh (Sh.ew 104 399 1 3 U U U U ab) (.ret (⟨_,U,_,_,_,Sh.kJ (d:=0) 3 399 U U U U rS U ab,U,U,(⟨1 + ((p.kind:Int) % 10),0,-1,([]:List Int),gA (a9 p.width) p.num,0⟩:Cell),_,E8 hg om,U,U⟩)))
 refine .sr (.vl (Y.ql U U) (.an (.nil ?_)))
 refine .aB U (fun yw=>?_) (fun yw=>?_)
 refine .sr (.vl (Y.za fF U U (aH U) U U) (.vl (Y.za EO U U (aH U) U U) (.rk O2 (AU (n:=n) (p:=p) hn h0 hp hg hi) U (.ai U U (.ai U U .nil)) ab ?_)))
 rintro _ ⟨Qr,YV,UO,rfl,_⟩
 refine ⟨U,(.iO U U ab (.vl (Y.qn U U U) (.sh (Sh.wh (d:=79) 3 2083 Qr.args.length U U U ab (aW U)) (.aj gi U U U U U U (aH U) U ?_))))⟩
 refine .an (.nil (.ret ?_))
 exact ⟨_,U,_,_,_,Sh.kJ (d:=0) 3 2083 U U U U rS U ab,U,U,Qr,_,UO,U,U⟩
 refine .sr (.vl (Y.ql U U) (.an (.nil ?_)))
 refine .aB U (fun GN=>?_) (fun GN=>?_)
 refine .gq U (.fW 0 U au fF U U U (aH U) U U ab (.blind 1 U au (ax.move U U) ab ?_))
 refine .fW 3 U au fF U U U (aH U) U U ab (.blind 4 U au (ax.move U U) ab (.blind 5 U au (ax.move U U) ab ?_))
 refine .fW 7 U au fF U U U (aH U) U U ab (.blind 8 U au (ax.move U U) ab (.fW 10 U au fF U U U (aH U) U U ab ?_))
 refine .blind 11 U au (ax.move U U) ab (.blind 12 U au (ax.fieldAddr pw U U) ab (.load 13 U au sQ U U U U U ab ?_))
 refine .yn (.one 2 U au (.aR jg (cq (n:=(⟨n.name,n.aa,n.cells,n.ins,n.aD,n.streams,[],[],n.freeze,n.done,[]⟩:ae)) (w:=1) (k:=p.a) (by show (n.aa).length <= 1048576; omega) om) U (.ai U U (.ai U U (.ai U U .nil))) ab U ?_))
 refine .nil ⟨U,(.one 6 U au (.aR jg (cq (n:=(⟨n.name,n.aa,n.cells,n.ins,n.aD,n.streams,[],[],n.freeze,n.done,[]⟩:ae)) (w:=(a9 p.width)) (k:=p.b) (by show (n.aa).length <= 1048576; omega) om) U (.ai U U (.ai U U (.ai U U .nil))) ab U ?_))⟩
 refine .nil ⟨U,(.one 9 U au (.aR jg (cq (n:=(⟨n.name,n.aa,n.cells,n.ins,n.aD,n.streams,[],[],n.freeze,n.done,[]⟩:ae)) (w:=1) (k:=p.d) (by show (n.aa).length <= 1048576; omega) om) U (.ai U U (.ai U U (.ai U U .nil))) ab U ?_))⟩
 refine .nil ⟨U,(.one 14 U au (.aR jg (cq (n:=(⟨n.name,n.aa,n.cells,n.ins,n.aD,n.streams,[],[],n.freeze,n.done,[]⟩:ae)) (w:=(a9 p.width)) (k:=p.op) (by show (n.aa).length <= 1048576; omega) om) U (.ai U U (.ai U U (.ai U U .nil))) ab U ?_))⟩
 refine .nil ⟨U,(.one 15 U au (.buildSlice (([aE n.aa 1 p.a,aE n.aa (a9 p.width) p.b,aE n.aa 1 p.d,aE n.aa (a9 p.width) p.op]:List Int).map ah) a7 dG U U U U U (aq (s:=1) (f:=ah) (fun _=>U)) U U U ab ?_))⟩
 refine .nil ⟨U,(.one 16 U au (.fa bT ?_))⟩
 refine .nil ⟨U,(.one 17 U au (.sh (Sh.dD (d:=98) (n:=([aE n.aa 1 p.a,aE n.aa (a9 p.width) p.b,aE n.aa 1 p.d,aE n.aa (a9 p.width) p.op]:List Int).length) 198 (([aE n.aa 1 p.a,aE n.aa (a9 p.width) p.b,aE n.aa 1 p.d,aE n.aa (a9 p.width) p.op]:List Int).map ah) U iX (aW U) ab) (.aj fG U U U U U U (aH U) U ?_)))⟩
 refine .nil ⟨U,(.done au (.le (ba:=⟨[(4,.ptr 104 0 0 0),(6,vi (a9 p.width)),(7,.ptr 107 0 0 0)],[(104,.cells [vi 0,vi 0,vi 0,vn,.v (.int .u64 0),vi 0]),(107,.cells [vi (1 + ((p.kind:Int) % 10)),vi 0,vi (-1),.aN 198 1 0 (([aE n.aa 1 p.a,aE n.aa (a9 p.width) p.b,aE n.aa 1 p.d,aE n.aa (a9 p.width) p.op]:List Int).length),.v (.int .u64 0),vi 0]),(198,.rows 1 (([aE n.aa 1 p.a,aE n.aa (a9 p.width) p.b,aE n.aa 1 p.d,aE n.aa (a9 p.width) p.op]:List Int).map ah))]⟩) (Le.mk (.c2 (.c .nil)) (.c2 (.c .nil))) ?_))⟩
 refine .sr (.vl (Y.za fq U U (aH U) U U) (.mv ?_))
 refine .aj gi U U U U U U (aH U) U ?_
 refine .an (.nil (.ret ?_))
 exact ⟨_,U,_,_,_,Sh.kJ (d:=0) 3 198 U U U U rS U ab,U,U,(⟨1 + ((p.kind:Int) % 10),0,-1,([aE n.aa 1 p.a,aE n.aa (a9 p.width) p.b,aE n.aa 1 p.d,aE n.aa (a9 p.width) p.op]:List Int),0,0⟩:Cell),_,Kk hg om,U,U⟩
 refine .sr (.vl (Y.ql U U) (.an (.nil ?_)))
 refine .aB U (fun FY=>?_) (fun FY=>?_)
 refine .sr (.mv ?_)
 refine .fa tC ?_
 refine .ld fV ?_
 refine .aR O3 (vV (w:=(a9 p.width)) (x:=p.num) (om)) U (.ai U U (.ai U U .nil)) ab U ?_
 refine .fa dE ?_
 refine .aj HC U U U U U U (aH U) U (.nil (.le (ba:=⟨[(2,.fp (ae.ry n) 0),(4,.ptr 104 0 0 0),(6,vi (a9 p.width)),(7,.ptr 107 0 0 0),(8,.v (.int .u8 (p.a:Int))),(9,.v (.int .u8 (p.b:Int)))],[(104,.cells [vi 0,vi 0,vi 0,vn,.v (.int .u64 0),vi 0]),(107,.cells [vi (1 + ((p.kind:Int) % 10)),vi 0,vi (-1),vn,.v (.int .u64 ((gA (a9 p.width) p.num:Nat):Int)),vi 0])]⟩) (Le.mk (.c4 (.c (.c .nil))) (.c (.c .nil))) ?_))
 refine .gq U (.fW 0 U au fF U U U (aH U) U U ab (.blind 1 U au (ax.move U U) ab ?_))
 refine .fW 3 U au fF U U U (aH U) U U ab (.blind 4 U au (ax.move U U) ab (.blind 5 U au (ax.move U U) ab ?_))
 refine .yn (.one 2 U au (.aR jg (cq (n:=(⟨n.name,n.aa,n.cells,n.ins,n.aD,n.streams,[],[],n.freeze,n.done,[]⟩:ae)) (w:=1) (k:=p.a) (by show (n.aa).length <= 1048576; omega) om) U (.ai U U (.ai U U (.ai U U .nil))) ab U ?_))
 refine .nil ⟨U,(.one 6 U au (.aR jg (cq (n:=(⟨n.name,n.aa,n.cells,n.ins,n.aD,n.streams,[],[],n.freeze,n.done,[]⟩:ae)) (w:=(a9 p.width)) (k:=p.b) (by show (n.aa).length <= 1048576; omega) om) U (.ai U U (.ai U U (.ai U U .nil))) ab U ?_))⟩
 refine .nil ⟨U,(.one 7 U au (.buildSlice (([aE n.aa 1 p.a,aE n.aa (a9 p.width) p.b]:List Int).map ah) a7 dG U U U U U (aq (s:=1) (f:=ah) (fun _=>U)) U U U ab ?_))⟩
 refine .nil ⟨U,(.one 8 U au (.fa bT ?_))⟩
 refine .nil ⟨U,(.one 9 U au (.sh (Sh.dD (d:=114) (n:=([aE n.aa 1 p.a,aE n.aa (a9 p.width) p.b]:List Int).length) 214 (([aE n.aa 1 p.a,aE n.aa (a9 p.width) p.b]:List Int).map ah) U iX (aW U) ab) (.aj fG U U U U U U (aH U) U ?_)))⟩
 refine .nil ⟨U,(.done au (.le (ba:=⟨[(4,.ptr 104 0 0 0),(6,vi (a9 p.width)),(7,.ptr 107 0 0 0)],[(104,.cells [vi 0,vi 0,vi 0,vn,.v (.int .u64 0),vi 0]),(107,.cells [vi (1 + ((p.kind:Int) % 10)),vi 0,vi (-1),.aN 214 1 0 (([aE n.aa 1 p.a,aE n.aa (a9 p.width) p.b]:List Int).length),.v (.int .u64 ((gA (a9 p.width) p.num:Nat):Int)),vi 0]),(214,.rows 1 (([aE n.aa 1 p.a,aE n.aa (a9 p.width) p.b]:List Int).map ah))]⟩) (Le.mk (.c2 (.c .nil)) (.c2 (.c .nil))) ?_))⟩
 refine .sr (.vl (Y.za fq U U (aH U) U U) (.mv ?_))
 refine .aj gi U U U U U U (aH U) U ?_
 refine .an (.nil (.ret ?_))
 exact ⟨_,U,_,_,_,Sh.kJ (d:=0) 3 214 U U U U rS U ab,U,U,(⟨1 + ((p.kind:Int) % 10),0,-1,([aE n.aa 1 p.a,aE n.aa (a9 p.width) p.b]:List Int),gA (a9 p.width) p.num,0⟩:Cell),_,Kl hg om,U,U⟩
 refine .sr (.vl (Y.ql U U) (.an (.nil ?_)))
 refine .aB U (fun vc=>?_) (fun vc=>?_)
 refine .sr (.fa pw ?_)
 refine .ld sQ ?_
 refine .vl (Y.zr U U aJ) (.vl (Y.qk vS r4 U yO) (.vl (Y.qb U U aJ) (.fa cL ?_)))
 refine .aj dT U U U U U U (aH U) U (.nil (.sr (.fa tC ?_)))
 refine .ld fV ?_
 refine .vl (Y.zs (a:=p.num) (b:=4) U U om) (.vl (Y.qc (a:=1) (b:=(p.num % 4)) U U) (.fa dE ?_))
 refine .aj HC U U U U U U (aH U) U (.nil (.le (ba:=⟨[(2,.fp (ae.ry n) 0),(4,.ptr 104 0 0 0),(6,vi (a9 p.width)),(7,.ptr 107 0 0 0),(8,.v (.int .u8 (p.a:Int))),(9,.v (.int .u8 (p.b:Int)))],[(104,.cells [vi 0,vi 0,vi 0,vn,.v (.int .u64 0),vi 0]),(107,.cells [vi (1 + ((p.kind:Int) % 10)),vi (4 + ((p.op:Int) % 5)),vi (-1),vn,.v (.int .u64 (((1 + (p.num % 4)) % 18446744073709551616:Nat):Int)),vi 0])]⟩) (Le.mk (.c4 (.c (.c .nil))) (.c (.c .nil))) ?_))
 refine .gq U (.fW 0 U au fF U U U (aH U) U U ab (.blind 1 U au (ax.move U U) ab ?_))
 refine .blind 2 U au (ax.move U U) ab (.fW 4 U au fF U U U (aH U) U U ab (.blind 5 U au (ax.move U U) ab ?_))
 refine .blind 6 U au (ax.move U U) ab (.yn (.one 3 U au (.aR jg (cq (n:=(⟨n.name,n.aa,n.cells,n.ins,n.aD,n.streams,[],[],n.freeze,n.done,[]⟩:ae)) (w:=(a9 p.width)) (k:=p.a) (by show (n.aa).length <= 1048576; omega) om) U (.ai U U (.ai U U (.ai U U .nil))) ab U ?_)))
 refine .nil ⟨U,(.one 7 U au (.aR jg (cq (n:=(⟨n.name,n.aa,n.cells,n.ins,n.aD,n.streams,[],[],n.freeze,n.done,[]⟩:ae)) (w:=(a9 p.width)) (k:=p.b) (by show (n.aa).length <= 1048576; omega) om) U (.ai U U (.ai U U (.ai U U .nil))) ab U ?_))⟩
 refine .nil ⟨U,(.one 8 U au (.buildSlice (([aE n.aa (a9 p.width) p.a,aE n.aa (a9 p.width) p.b]:List Int).map ah) a7 dG U U U U U (aq (s:=1) (f:=ah) (fun _=>U)) U U U ab ?_))⟩
 refine .nil ⟨U,(.one 9 U au (.fa bT ?_))⟩
 refine .nil ⟨U,(.one 10 U au (.sh (Sh.dD (d:=137) (n:=([aE n.aa (a9 p.width) p.a,aE n.aa (a9 p.width) p.b]:List Int).length) 237 (([aE n.aa (a9 p.width) p.a,aE n.aa (a9 p.width) p.b]:List Int).map ah) U iX (aW U) ab) (.aj fG U U U U U U (aH U) U ?_)))⟩
 refine .nil ⟨U,(.done au (.le (ba:=⟨[(4,.ptr 104 0 0 0),(6,vi (a9 p.width)),(7,.ptr 107 0 0 0)],[(104,.cells [vi 0,vi 0,vi 0,vn,.v (.int .u64 0),vi 0]),(107,.cells [vi (1 + ((p.kind:Int) % 10)),vi (4 + ((p.op:Int) % 5)),vi (-1),.aN 237 1 0 (([aE n.aa (a9 p.width) p.a,aE n.aa (a9 p.width) p.b]:List Int).length),.v (.int .u64 (((1 + (p.num % 4)) % 18446744073709551616:Nat):Int)),vi 0]),(237,.rows 1 (([aE n.aa (a9 p.width) p.a,aE n.aa (a9 p.width) p.b]:List Int).map ah))]⟩) (Le.mk (.c2 (.c .nil)) (.c2 (.c .nil))) ?_))⟩
 refine .sr (.vl (Y.za fq U U (aH U) U U) (.mv ?_))
 refine .aj gi U U U U U U (aH U) U ?_
 refine .an (.nil (.ret ?_))
 exact ⟨_,U,_,_,_,Sh.kJ (d:=0) 3 237 U U U U rS U ab,U,U,(⟨1 + ((p.kind:Int) % 10),4 + ((p.op:Int) % 5),-1,([aE n.aa (a9 p.width) p.a,aE n.aa (a9 p.width) p.b]:List Int),(1 + (p.num % 4)) % 18446744073709551616,0⟩:Cell),_,Hr hg om om om,U,U⟩
 refine .seq (.sr (.vl (Y.ql U U) (.an (.nil ?_))))
 refine .bt U (fun LQ=>?_) (fun LQ=>?_)
 refine .skip (.aQ U (.seq (.sr (.fa eK ?_))))
 refine .ld ln ?_
 refine .vl (Y.qw (n:=n.aD.length) jE U dY) (.vl (Y.ql U U) (.nil (.aB U (fun AP=>?_) (fun AP=>?_))))
 refine .sr (.vl (Y.qh vu ez U U U) (.aj gi U U U U U U (aH U) U ?_))
 refine .an ?_
 exact .nil (.sh (Sh.ew 104 399 1 3 U U U U ab) (.ret (⟨_,U,_,_,_,Sh.kJ (d:=0) 3 399 U U U U rS U ab,U,U,(⟨0,0,0,([]:List Int),0,0⟩:Cell),_,tw hg,U,U⟩)))
 refine .skip (.sr (.fa pw ?_))
 refine .ld sQ ?_
 refine .vl (Y.qk vS r4 U yO) (.fa eK ?_)
 refine .ld ln ?_
 refine .vl (Y.qw (n:=n.aD.length) jE U dY) (.vl (Y.zr U U aJ) (.fa bY ?_))
 refine .aj dT U U U U U U (aH U) U (.nil (.seq ?_))
 have QY:p.op % n.aD.length < n.aD.length:=Nat.mod_lt _ om
 refine .region (.fa eK ?_)
 refine .ld ln ?_
 refine .fa bY ?_
 refine .ld bg ?_
 refine .vl (Y.qr (m:=p.op % n.aD.length) jE U U aY (ao (d:=default) om)) (.fa mc ?_)
 refine .ld bg ?_
 refine .an ?_
 refine .nil (.le (ba:=⟨[(2,.fp (ae.ry n) 0),(4,.ptr 104 0 0 0),(6,vi ((n.aD.getD (p.op % n.aD.length) default).width)),(7,.ptr 107 0 0 0),(8,.v (.int .u8 (p.a:Int))),(9,.v (.int .u8 (p.b:Int))),(10,.v (.int .u8 (p.d:Int)))],[(104,.cells [vi 0,vi 0,vi 0,vn,.v (.int .u64 0),vi 0]),(107,.cells [vi (1 + ((p.kind:Int) % 10)),vi 0,vi (-1),vn,.v (.int .u64 0),vi ((p.op:Int) % (n.aD.length:Int))])]⟩) (Le.mk (.c4 (.c2 (.c .nil))) (.c (.c .nil))) ?_)
 refine .seq (.gq U (.fW 0 U au fF U U U (aH U) U U ab ?_))
 refine .blind 1 U au (ax.move U U) ab (.blind 3 U au (ax.move U U) ab ?_)
 refine .blind 4 U au (ax.wc vS r4 U yO) ab ?_
 refine .blind 5 U au (ax.fieldAddr bB U U) ab (.load 6 U au bn U U U U U ab (.blind 7 U au (ax.len (n:=n.aa.length) a7 U dY) ab ?_))
 refine .blind 8 U au (ax.FG U U om) ab ?_
 refine .yn (.one 2 U au (.aR jg (cq (n:=(⟨n.name,n.aa,n.cells,n.ins,n.aD,n.streams,[],[],n.freeze,n.done,[]⟩:ae)) (w:=1) (k:=p.a) (by show (n.aa).length <= 1048576; omega) om) U (.ai U U (.ai U U (.ai U U .nil))) ab U ?_))
 refine .nil ⟨U,(.one 9 U au (.buildSlice (([aE n.aa 1 p.a,(p.b:Int) % (n.aa.length:Int)]:List Int).map ah) a7 dG U U U U U (aq (s:=1) (f:=ah) (fun _=>U)) U U U ab ?_))⟩
 refine .nil ⟨U,(.one 10 U au (.fa bT ?_))⟩
 refine .nil ⟨U,(.one 11 U au (.sh (Sh.dD (d:=171) (n:=([aE n.aa 1 p.a,(p.b:Int) % (n.aa.length:Int)]:List Int).length) 271 (([aE n.aa 1 p.a,(p.b:Int) % (n.aa.length:Int)]:List Int).map ah) U iX (aW U) ab) (.aj fG U U U U U U (aH U) U ?_)))⟩
 refine .nil ⟨U,(.done au (.le (ba:=⟨[(2,.fp (ae.ry n) 0),(4,.ptr 104 0 0 0),(6,vi ((n.aD.getD (p.op % n.aD.length) default).width)),(7,.ptr 107 0 0 0),(10,.v (.int .u8 (p.d:Int)))],[(104,.cells [vi 0,vi 0,vi 0,vn,.v (.int .u64 0),vi 0]),(107,.cells [vi (1 + ((p.kind:Int) % 10)),vi 0,vi (-1),.aN 271 1 0 (([aE n.aa 1 p.a,(p.b:Int) % (n.aa.length:Int)]:List Int).length),.v (.int .u64 0),vi ((p.op:Int) % (n.aD.length:Int))]),(271,.rows 1 (([aE n.aa 1 p.a,(p.b:Int) % (n.aa.length:Int)]:List Int).map ah))]⟩) (Le.mk (.c4 (.c .nil)) (.c2 (.c .nil))) (.sr (.fa ck ?_))))⟩
 refine .ld bg ?_
 refine .vl (Y.ql U U) (.nil (.aB U (fun LR=>?_) (fun LR=>?_)))
 refine .ea (⟨[(4,.ptr 104 0 0 0),(6,.v (.int .i64 ((n.aD.getD (p.op % n.aD.length) default).width))),(7,.ptr 107 0 0 0)],[(104,.cells [.v (.int .i64 0),.v (.int .i64 0),.v (.int .i64 0),vn,.v (.int .u64 0),.v (.int .i64 0)]),(107,.cells [.v (.int .i64 (1 + ((p.kind:Int) % 10))),.v (.int .i64 0),.v (.int .i64 (-1)),.aN 271 1 0 ((([aE n.aa 1 p.a,(p.b:Int) % (n.aa.length:Int)]:List Int) ++ ([aE n.aa ((n.aD.getD (p.op % n.aD.length) default).width) p.d]:List Int)).length),.v (.int .u64 0),.v (.int .i64 ((p.op:Int) % (n.aD.length:Int)))]),(271,.rows 1 ((([aE n.aa 1 p.a,(p.b:Int) % (n.aa.length:Int)]:List Int) ++ ([aE n.aa ((n.aD.getD (p.op % n.aD.length) default).width) p.d]:List Int)).map ah))]⟩) U ?_ ?_
 refine .blind 0 U au (ax.fieldAddr bT U U) ab (.fW 2 U au fF U U U (aH U) U U ab (.blind 3 U au (ax.move U U) ab ?_))
 refine .blind 4 U au (ax.move U U) ab (.yn ?_)
 refine .two 1 5 U U au ?_ ?_
 refine .ld bn ?_
 refine .nil ⟨U,(.one 5 U au (.aR jg (cq (n:=(⟨n.name,n.aa,n.cells,n.ins,n.aD,n.streams,[],[],n.freeze,n.done,[]⟩:ae)) (w:=((n.aD.getD (p.op % n.aD.length) default).width)) (k:=p.d) (by show (n.aa).length <= 1048576; omega) om) U (.ai U U (.ai U U (.ai U U .nil))) ab U ?_))⟩
 refine .nil ⟨U,(.one 6 U au (.buildSlice (([aE n.aa ((n.aD.getD (p.op % n.aD.length) default).width) p.d]:List Int).map ah) a7 dG U U U U U (aq (s:=1) (f:=ah) (fun _=>U)) U U U ab ?_))⟩
 refine .nil ⟨U,(.one 7 U au (.cJ ah (([aE n.aa 1 p.a,(p.b:Int) % (n.aa.length:Int)]:List Int) ++ ([aE n.aa ((n.aD.getD (p.op % n.aD.length) default).width) p.d]:List Int)) a7 dG U U U U (bh aJ) (aV aJ) (b8 aJ) aJ aJ ab ab ?_))⟩
 refine .nil ⟨U,(.one 8 U au (.fa bT ?_))⟩
 refine .nil ⟨U,(.one 9 U au (.aj fG U U U U U U (aH U) U ?_))⟩
 exact .nil ⟨U,(.done au (Le.mk (.c2 (.c .nil)) (.c2 (.c .nil))))⟩
 refine .aR jg (cq (n:=(⟨n.name,n.aa,n.cells,n.ins,n.aD,n.streams,[],[],n.freeze,n.done,[]⟩:ae)) (w:=((n.aD.getD (p.op % n.aD.length) default).width)) (k:=p.d) (by show (n.aa).length <= 1048576; omega) om) U (.ai U U (.ai U U (.ai U U .nil))) ab U ?_
 refine .nil ⟨U,(.two 1 6 U U au ?_ ?_)⟩
 refine .ld bn ?_
 refine .nil ⟨U,(.one 6 U au (.buildSlice (([aE n.aa ((n.aD.getD (p.op % n.aD.length) default).width) p.d]:List Int).map ah) a7 dG U U U U U (aq (s:=1) (f:=ah) (fun _=>U)) U U U ab ?_))⟩
 refine .nil ⟨U,(.one 7 U au (.cJ ah (([aE n.aa 1 p.a,(p.b:Int) % (n.aa.length:Int)]:List Int) ++ ([aE n.aa ((n.aD.getD (p.op % n.aD.length) default).width) p.d]:List Int)) a7 dG U U U U (bh aJ) (aV aJ) (b8 aJ) aJ aJ ab ab ?_))⟩
 refine .nil ⟨U,(.one 8 U au (.fa bT ?_))⟩
 refine .nil ⟨U,(.one 9 U au (.aj fG U U U U U U (aH U) U ?_))⟩
 exact .nil ⟨U,(.done au (Le.mk (.c2 (.c .nil)) (.c2 (.c .nil))))⟩
 refine .buildSlice (([aE n.aa ((n.aD.getD (p.op % n.aD.length) default).width) p.d]:List Int).map ah) a7 dG U U U U U (aq (s:=1) (f:=ah) (fun _=>U)) U U U ab ?_
 refine .nil ⟨U,(.one 1 U au (.ld bn ?_))⟩
 refine .nil ⟨U,(.one 7 U au (.cJ ah (([aE n.aa 1 p.a,(p.b:Int) % (n.aa.length:Int)]:List Int) ++ ([aE n.aa ((n.aD.getD (p.op % n.aD.length) default).width) p.d]:List Int)) a7 dG U U U U (bh aJ) (aV aJ) (b8 aJ) aJ aJ ab ab ?_))⟩
 refine .nil ⟨U,(.one 8 U au (.fa bT ?_))⟩
 refine .nil ⟨U,(.one 9 U au (.aj fG U U U U U U (aH U) U ?_))⟩
 exact .nil ⟨U,(.done au (Le.mk (.c2 (.c .nil)) (.c2 (.c .nil))))⟩
 refine .le (ba:=⟨[(4,.ptr 104 0 0 0),(6,vi ((n.aD.getD (p.op % n.aD.length) default).width)),(7,.ptr 107 0 0 0)],[(104,.cells [vi 0,vi 0,vi 0,vn,.v (.int .u64 0),vi 0]),(107,.cells [vi (1 + ((p.kind:Int) % 10)),vi 0,vi (-1),.aN 271 1 0 ((([aE n.aa 1 p.a,(p.b:Int) % (n.aa.length:Int)]:List Int) ++ ([aE n.aa ((n.aD.getD (p.op % n.aD.length) default).width) p.d]:List Int)).length),.v (.int .u64 0),vi ((p.op:Int) % (n.aD.length:Int))]),(271,.rows 1 ((([aE n.aa 1 p.a,(p.b:Int) % (n.aa.length:Int)]:List Int) ++ ([aE n.aa ((n.aD.getD (p.op % n.aD.length) default).width) p.d]:List Int)).map ah))]⟩) (Le.mk (.c2 (.c .nil)) (.c2 (.c .nil))) ?_
 refine .sr (.vl (Y.za fq U U (aH U) U U) (.mv ?_))
 refine .aj gi U U U U U U (aH U) U ?_
 refine .an (.nil (.ret ?_))
 exact ⟨_,U,_,_,_,Sh.kJ (d:=0) 3 271 U U U U rS U ab,U,U,(⟨1 + ((p.kind:Int) % 10),0,-1,([aE n.aa 1 p.a,(p.b:Int) % (n.aa.length:Int)]:List Int) ++ ([aE n.aa ((n.aD.getD (p.op % n.aD.length) default).width) p.d]:List Int),0,(p.op:Int) % (n.aD.length:Int)⟩:Cell),_,xM hg h0 om om,U,U⟩
 refine .skip (.le (ba:=⟨[(4,.ptr 104 0 0 0),(6,vi ((n.aD.getD (p.op % n.aD.length) default).width)),(7,.ptr 107 0 0 0)],[(104,.cells [vi 0,vi 0,vi 0,vn,.v (.int .u64 0),vi 0]),(107,.cells [vi (1 + ((p.kind:Int) % 10)),vi 0,vi (-1),.aN 271 1 0 (([aE n.aa 1 p.a,(p.b:Int) % (n.aa.length:Int)]:List Int).length),.v (.int .u64 0),vi ((p.op:Int) % (n.aD.length:Int))]),(271,.rows 1 (([aE n.aa 1 p.a,(p.b:Int) % (n.aa.length:Int)]:List Int).map ah))]⟩) (Le.mk (.c2 (.c .nil)) (.c2 (.c .nil))) ?_)
 refine .sr (.vl (Y.za fq U U (aH U) U U) (.mv ?_))
 refine .aj gi U U U U U U (aH U) U ?_
 refine .an (.nil (.ret ?_))
 exact ⟨_,U,_,_,_,Sh.kJ (d:=0) 3 271 U U U U rS U ab,U,U,(⟨1 + ((p.kind:Int) % 10),0,-1,([aE n.aa 1 p.a,(p.b:Int) % (n.aa.length:Int)]:List Int),0,(p.op:Int) % (n.aD.length:Int)⟩:Cell),_,Br hg h0 om om,U,U⟩
 refine .region (.vl (Y.ql U U) (.an (.nil ?_)))
 refine .bt U (fun LQ=>?_) (fun LQ=>?_)
 refine .seq (.sr (.fa eK ?_))
 refine .ld ln ?_
 refine .vl (Y.qw (n:=n.aD.length) jE U dY) (.vl (Y.ql U U) (.nil (.aB U (fun AP=>?_) (fun AP=>?_))))
 refine .sr (.vl (Y.qh vu ez U U U) (.aj gi U U U U U U (aH U) U ?_))
 refine .an ?_
 exact .nil (.sh (Sh.ew 104 399 1 3 U U U U ab) (.ret (⟨_,U,_,_,_,Sh.kJ (d:=0) 3 399 U U U U rS U ab,U,U,(⟨0,0,0,([]:List Int),0,0⟩:Cell),_,tw hg,U,U⟩)))
 refine .skip (.sr (.fa pw ?_))
 refine .ld sQ ?_
 refine .vl (Y.qk vS r4 U yO) (.fa eK ?_)
 refine .ld ln ?_
 refine .vl (Y.qw (n:=n.aD.length) jE U dY) (.vl (Y.zr U U aJ) (.fa bY ?_))
 refine .aj dT U U U U U U (aH U) U (.nil (.seq ?_))
 have QY:p.op % n.aD.length < n.aD.length:=Nat.mod_lt _ om
 refine .region (.fa eK ?_)
 refine .ld ln ?_
 refine .fa bY ?_
 refine .ld bg ?_
 refine .vl (Y.qr (m:=p.op % n.aD.length) jE U U aY (ao (d:=default) om)) (.fa mc ?_)
 refine .ld bg ?_
 refine .an ?_
 refine .nil (.le (ba:=⟨[(2,.fp (ae.ry n) 0),(4,.ptr 104 0 0 0),(6,vi ((n.aD.getD (p.op % n.aD.length) default).width)),(7,.ptr 107 0 0 0),(8,.v (.int .u8 (p.a:Int))),(9,.v (.int .u8 (p.b:Int))),(10,.v (.int .u8 (p.d:Int)))],[(104,.cells [vi 0,vi 0,vi 0,vn,.v (.int .u64 0),vi 0]),(107,.cells [vi (1 + ((p.kind:Int) % 10)),vi 0,vi (-1),vn,.v (.int .u64 0),vi ((p.op:Int) % (n.aD.length:Int))])]⟩) (Le.mk (.c4 (.c2 (.c .nil))) (.c (.c .nil))) ?_)
 refine .seq (.gq U (.fW 0 U au fF U U U (aH U) U U ab ?_))
 refine .blind 1 U au (ax.move U U) ab (.blind 3 U au (ax.move U U) ab ?_)
 refine .blind 4 U au (ax.wc vS r4 U yO) ab ?_
 refine .blind 5 U au (ax.fieldAddr bB U U) ab (.load 6 U au bn U U U U U ab (.blind 7 U au (ax.len (n:=n.aa.length) a7 U dY) ab ?_))
 refine .blind 8 U au (ax.FG U U om) ab ?_
 refine .yn (.one 2 U au (.aR jg (cq (n:=(⟨n.name,n.aa,n.cells,n.ins,n.aD,n.streams,[],[],n.freeze,n.done,[]⟩:ae)) (w:=1) (k:=p.a) (by show (n.aa).length <= 1048576; omega) om) U (.ai U U (.ai U U (.ai U U .nil))) ab U ?_))
 refine .nil ⟨U,(.one 9 U au (.buildSlice (([aE n.aa 1 p.a,(p.b:Int) % (n.aa.length:Int)]:List Int).map ah) a7 dG U U U U U (aq (s:=1) (f:=ah) (fun _=>U)) U U U ab ?_))⟩
 refine .nil ⟨U,(.one 10 U au (.fa bT ?_))⟩
 refine .nil ⟨U,(.one 11 U au (.sh (Sh.dD (d:=171) (n:=([aE n.aa 1 p.a,(p.b:Int) % (n.aa.length:Int)]:List Int).length) 271 (([aE n.aa 1 p.a,(p.b:Int) % (n.aa.length:Int)]:List Int).map ah) U iX (aW U) ab) (.aj fG U U U U U U (aH U) U ?_)))⟩
 refine .nil ⟨U,(.done au (.le (ba:=⟨[(2,.fp (ae.ry n) 0),(4,.ptr 104 0 0 0),(6,vi ((n.aD.getD (p.op % n.aD.length) default).width)),(7,.ptr 107 0 0 0),(10,.v (.int .u8 (p.d:Int)))],[(104,.cells [vi 0,vi 0,vi 0,vn,.v (.int .u64 0),vi 0]),(107,.cells [vi (1 + ((p.kind:Int) % 10)),vi 0,vi (-1),.aN 271 1 0 (([aE n.aa 1 p.a,(p.b:Int) % (n.aa.length:Int)]:List Int).length),.v (.int .u64 0),vi ((p.op:Int) % (n.aD.length:Int))]),(271,.rows 1 (([aE n.aa 1 p.a,(p.b:Int) % (n.aa.length:Int)]:List Int).map ah))]⟩) (Le.mk (.c4 (.c .nil)) (.c2 (.c .nil))) (.sr (.fa ck ?_))))⟩
 refine .ld bg ?_
 refine .vl (Y.ql U U) (.nil (.aB U (fun LR=>?_) (fun LR=>?_)))
 refine .ea (⟨[(4,.ptr 104 0 0 0),(6,.v (.int .i64 ((n.aD.getD (p.op % n.aD.length) default).width))),(7,.ptr 107 0 0 0)],[(104,.cells [.v (.int .i64 0),.v (.int .i64 0),.v (.int .i64 0),vn,.v (.int .u64 0),.v (.int .i64 0)]),(107,.cells [.v (.int .i64 (1 + ((p.kind:Int) % 10))),.v (.int .i64 0),.v (.int .i64 (-1)),.aN 271 1 0 ((([aE n.aa 1 p.a,(p.b:Int) % (n.aa.length:Int)]:List Int) ++ ([aE n.aa ((n.aD.getD (p.op % n.aD.length) default).width) p.d]:List Int)).length),.v (.int .u64 0),.v (.int .i64 ((p.op:Int) % (n.aD.length:Int)))]),(271,.rows 1 ((([aE n.aa 1 p.a,(p.b:Int) % (n.aa.length:Int)]:List Int) ++ ([aE n.aa ((n.aD.getD (p.op % n.aD.length) default).width) p.d]:List Int)).map ah))]⟩) U ?_ ?_
 refine .blind 0 U au (ax.fieldAddr bT U U) ab (.fW 2 U au fF U U U (aH U) U U ab (.blind 3 U au (ax.move U U) ab ?_))
 refine .blind 4 U au (ax.move U U) ab (.yn ?_)
 refine .two 1 5 U U au ?_ ?_
 refine .ld bn ?_
 refine .nil ⟨U,(.one 5 U au (.aR jg (cq (n:=(⟨n.name,n.aa,n.cells,n.ins,n.aD,n.streams,[],[],n.freeze,n.done,[]⟩:ae)) (w:=((n.aD.getD (p.op % n.aD.length) default).width)) (k:=p.d) (by show (n.aa).length <= 1048576; omega) om) U (.ai U U (.ai U U (.ai U U .nil))) ab U ?_))⟩
 refine .nil ⟨U,(.one 6 U au (.buildSlice (([aE n.aa ((n.aD.getD (p.op % n.aD.length) default).width) p.d]:List Int).map ah) a7 dG U U U U U (aq (s:=1) (f:=ah) (fun _=>U)) U U U ab ?_))⟩
 refine .nil ⟨U,(.one 7 U au (.cJ ah (([aE n.aa 1 p.a,(p.b:Int) % (n.aa.length:Int)]:List Int) ++ ([aE n.aa ((n.aD.getD (p.op % n.aD.length) default).width) p.d]:List Int)) a7 dG U U U U (bh aJ) (aV aJ) (b8 aJ) aJ aJ ab ab ?_))⟩
 refine .nil ⟨U,(.one 8 U au (.fa bT ?_))⟩
 refine .nil ⟨U,(.one 9 U au (.aj fG U U U U U U (aH U) U ?_))⟩
 exact .nil ⟨U,(.done au (Le.mk (.c2 (.c .nil)) (.c2 (.c .nil))))⟩
 refine .aR jg (cq (n:=(⟨n.name,n.aa,n.cells,n.ins,n.aD,n.streams,[],[],n.freeze,n.done,[]⟩:ae)) (w:=((n.aD.getD (p.op % n.aD.length) default).width)) (k:=p.d) (by show (n.aa).length <= 1048576; omega) om) U (.ai U U (.ai U U (.ai U U .nil))) ab U ?_
 refine .nil ⟨U,(.two 1 6 U U au ?_ ?_)⟩
 refine .ld bn ?_
 refine .nil ⟨U,(.one 6 U au (.buildSlice (([aE n.aa ((n.aD.getD (p.op % n.aD.length) default).width) p.d]:List Int).map ah) a7 dG U U U U U (aq (s:=1) (f:=ah) (fun _=>U)) U U U ab ?_))⟩
 refine .nil ⟨U,(.one 7 U au (.cJ ah (([aE n.aa 1 p.a,(p.b:Int) % (n.aa.length:Int)]:List Int) ++ ([aE n.aa ((n.aD.getD (p.op % n.aD.length) default).width) p.d]:List Int)) a7 dG U U U U (bh aJ) (aV aJ) (b8 aJ) aJ aJ ab ab ?_))⟩
 refine .nil ⟨U,(.one 8 U au (.fa bT ?_))⟩
 refine .nil ⟨U,(.one 9 U au (.aj fG U U U U U U (aH U) U ?_))⟩
 exact .nil ⟨U,(.done au (Le.mk (.c2 (.c .nil)) (.c2 (.c .nil))))⟩
 refine .buildSlice (([aE n.aa ((n.aD.getD (p.op % n.aD.length) default).width) p.d]:List Int).map ah) a7 dG U U U U U (aq (s:=1) (f:=ah) (fun _=>U)) U U U ab ?_
 refine .nil ⟨U,(.one 1 U au (.ld bn ?_))⟩
 refine .nil ⟨U,(.one 7 U au (.cJ ah (([aE n.aa 1 p.a,(p.b:Int) % (n.aa.length:Int)]:List Int) ++ ([aE n.aa ((n.aD.getD (p.op % n.aD.length) default).width) p.d]:List Int)) a7 dG U U U U (bh aJ) (aV aJ) (b8 aJ) aJ aJ ab ab ?_))⟩
 refine .nil ⟨U,(.one 8 U au (.fa bT ?_))⟩
 refine .nil ⟨U,(.one 9 U au (.aj fG U U U U U U (aH U) U ?_))⟩
 exact .nil ⟨U,(.done au (Le.mk (.c2 (.c .nil)) (.c2 (.c .nil))))⟩
 refine .le (ba:=⟨[(4,.ptr 104 0 0 0),(6,vi ((n.aD.getD (p.op % n.aD.length) default).width)),(7,.ptr 107 0 0 0)],[(104,.cells [vi 0,vi 0,vi 0,vn,.v (.int .u64 0),vi 0]),(107,.cells [vi (1 + ((p.kind:Int) % 10)),vi 0,vi (-1),.aN 271 1 0 ((([aE n.aa 1 p.a,(p.b:Int) % (n.aa.length:Int)]:List Int) ++ ([aE n.aa ((n.aD.getD (p.op % n.aD.length) default).width) p.d]:List Int)).length),.v (.int .u64 0),vi ((p.op:Int) % (n.aD.length:Int))]),(271,.rows 1 ((([aE n.aa 1 p.a,(p.b:Int) % (n.aa.length:Int)]:List Int) ++ ([aE n.aa ((n.aD.getD (p.op % n.aD.length) default).width) p.d]:List Int)).map ah))]⟩) (Le.mk (.c2 (.c .nil)) (.c2 (.c .nil))) ?_
 refine .sr (.vl (Y.za fq U U (aH U) U U) (.mv ?_))
 refine .aj gi U U U U U U (aH U) U ?_
 refine .an (.nil (.ret ?_))
 exact ⟨_,U,_,_,_,Sh.kJ (d:=0) 3 271 U U U U rS U ab,U,U,(⟨1 + ((p.kind:Int) % 10),0,-1,([aE n.aa 1 p.a,(p.b:Int) % (n.aa.length:Int)]:List Int) ++ ([aE n.aa ((n.aD.getD (p.op % n.aD.length) default).width) p.d]:List Int),0,(p.op:Int) % (n.aD.length:Int)⟩:Cell),_,xM hg h0 om om,U,U⟩
 refine .skip (.le (ba:=⟨[(4,.ptr 104 0 0 0),(6,vi ((n.aD.getD (p.op % n.aD.length) default).width)),(7,.ptr 107 0 0 0)],[(104,.cells [vi 0,vi 0,vi 0,vn,.v (.int .u64 0),vi 0]),(107,.cells [vi (1 + ((p.kind:Int) % 10)),vi 0,vi (-1),.aN 271 1 0 (([aE n.aa 1 p.a,(p.b:Int) % (n.aa.length:Int)]:List Int).length),.v (.int .u64 0),vi ((p.op:Int) % (n.aD.length:Int))]),(271,.rows 1 (([aE n.aa 1 p.a,(p.b:Int) % (n.aa.length:Int)]:List Int).map ah))]⟩) (Le.mk (.c2 (.c .nil)) (.c2 (.c .nil))) ?_)
 refine .sr (.vl (Y.za fq U U (aH U) U U) (.mv ?_))
 refine .aj gi U U U U U U (aH U) U ?_
 refine .an (.nil (.ret ?_))
 exact ⟨_,U,_,_,_,Sh.kJ (d:=0) 3 271 U U U U rS U ab,U,U,(⟨1 + ((p.kind:Int) % 10),0,-1,([aE n.aa 1 p.a,(p.b:Int) % (n.aa.length:Int)]:List Int),0,(p.op:Int) % (n.aD.length:Int)⟩:Cell),_,Br hg h0 om om,U,U⟩
 refine .sr (.vl (Y.ql U U) (.an (.nil ?_)))
 refine .aB U (fun UP=>?_) (fun UP=>?_)
 refine .seq (.sr (.fa jf ?_))
 refine .ld bn ?_
 refine .vl (Y.qw (n:=n.ins.length) a7 U dY) (.vl (Y.ql U U) (.nil (.aB U (fun UQ=>?_) (fun UQ=>?_))))
 refine .sr (.vl (Y.qh vu ez U U U) (.aj gi U U U U U U (aH U) U ?_))
 refine .an ?_
 exact .nil (.sh (Sh.ew 104 399 1 3 U U U U ab) (.ret (⟨_,U,_,_,_,Sh.kJ (d:=0) 3 399 U U U U rS U ab,U,U,(⟨0,0,0,([]:List Int),0,0⟩:Cell),_,tw hg,U,U⟩)))
 refine .skip (.sr (.fa tC ?_))
 refine .ld fV ?_
 refine .fa jf ?_
 refine .ld bn ?_
 refine .vl (Y.qw (n:=n.ins.length) a7 U dY) (.vl (Y.qk r4 wE U (by first | rfl | exact IntWalk.u64_in _ om)) (.vl (Y.zs (a:=p.num) (b:=n.ins.length) U U om) (.fa dE ?_)))
 refine .aj HC U U U U U U (aH U) U (.nil ?_)
 have QY:p.num % n.ins.length < n.ins.length:=Nat.mod_lt _ om
 refine .region (.fa jf ?_)
 refine .ld bn ?_
 refine .fa dE ?_
 refine .ld fV ?_
 refine .vl (Y.qr (m:=p.num % n.ins.length) a7 U U aY (ao (d:=0) om)) (.ld bg ?_)
 refine .an ?_
 refine .nil (.le (ba:=⟨[(4,.ptr 104 0 0 0),(6,vi (n.ins.getD (p.num % n.ins.length) 0)),(7,.ptr 107 0 0 0)],[(104,.cells [vi 0,vi 0,vi 0,vn,.v (.int .u64 0),vi 0]),(107,.cells [vi (1 + ((p.kind:Int) % 10)),vi 0,vi (-1),vn,.v (.int .u64 ((p.num % n.ins.length:Nat):Int)),vi 0])]⟩) (Le.mk (.c2 (.c .nil)) (.c (.c .nil))) ?_)
 refine .sr (.vl (Y.za fq U U (aH U) U U) (.mv ?_))
 refine .aj gi U U U U U U (aH U) U ?_
 refine .an ?_
 exact .nil (.sh (Sh.ew 104 399 1 3 U U U U ab) (.ret (⟨_,U,_,_,_,Sh.kJ (d:=0) 3 399 U U U U rS U ab,U,U,(⟨1 + ((p.kind:Int) % 10),0,-1,([]:List Int),p.num % n.ins.length,0⟩:Cell),_,E9 hg om om hi,U,U⟩)))
 refine .seq (.sr (.fa cK ?_))
 refine .ld gy ?_
 refine .vl (Y.qw (n:=n.streams.length) fu U dY) (.vl (Y.ql U U) (.nil (.aB U (fun DC=>?_) (fun DC=>?_))))
 refine .sr (.vl (Y.qh vu ez U U U) (.aj gi U U U U U U (aH U) U ?_))
 refine .an ?_
 exact .nil (.sh (Sh.ew 104 399 1 3 U U U U ab) (.ret (⟨_,U,_,_,_,Sh.kJ (d:=0) 3 399 U U U U rS U ab,U,U,(⟨0,0,0,([]:List Int),0,0⟩:Cell),_,tw hg,U,U⟩)))
 refine .skip (.sr (.fa pw ?_))
 refine .ld sQ ?_
 refine .vl (Y.qk vS r4 U yO) (.fa cK ?_)
 refine .ld gy ?_
 refine .vl (Y.qw (n:=n.streams.length) fu U dY) (.vl (Y.zr U U aJ) (.fa bY ?_))
 refine .aj dT U U U U U U (aH U) U (.nil (.seq ?_))
 have QY:p.op % n.streams.length < n.streams.length:=Nat.mod_lt _ om
 refine .region (.fa cK ?_)
 refine .ld gy ?_
 refine .fa bY ?_
 refine .ld bg ?_
 refine .vl (Y.qr (m:=p.op % n.streams.length) fu U U aY (ao (d:=default) om)) (.fa me ?_)
 refine .ld bg ?_
 refine .an ?_
 refine .nil (.le (ba:=⟨[(2,.fp (ae.ry n) 0),(4,.ptr 104 0 0 0),(6,vi ((n.streams.getD (p.op % n.streams.length) default).width)),(7,.ptr 107 0 0 0)],[(104,.cells [vi 0,vi 0,vi 0,vn,.v (.int .u64 0),vi 0]),(107,.cells [vi (1 + ((p.kind:Int) % 10)),vi 0,vi (-1),vn,.v (.int .u64 0),vi ((p.op:Int) % (n.streams.length:Int))])]⟩) (Le.mk (.c2 (.c (.c .nil))) (.c (.c .nil))) ?_)
 refine .iu (fun (iV:Nat)=>⟨[(4,.ptr 104 0 0 0),(6,vi ((n.streams.getD (p.op % n.streams.length) default).width)),(7,.ptr 107 0 0 0)],[(104,.cells [vi 0,vi 0,vi 0,vn,.v (.int .u64 0),vi 0]),(107,.cells [vi iV,vi 0,vi (-1),vn,.v (.int .u64 0),vi ((p.op:Int) % (n.streams.length:Int))])]⟩) (fun iV=>(((1 + ((p.kind:Int) % 10)) = 10) /\ (((n.streams.getD (p.op % n.streams.length) default).out) = true) /\ (iV = 9)) \/ (((1 + ((p.kind:Int) % 10)) = 10) /\ (((n.streams.getD (p.op % n.streams.length) default).out) = false) /\ (iV = (1 + (p.kind % 10)))) \/ ((¬ ((1 + ((p.kind:Int) % 10)) = 10)) /\ (iV = (1 + (p.kind % 10))))) ?_ (fun iV vy=>?_)
 refine .sr (.fa ck ?_)
 refine .ld bg ?_
 refine .vl (Y.ql U U) (.mv ?_)
 refine .a8 (d:=54) U (fun DB=>?_) (fun DB=>?_)
 refine .gw 54 (Y.qo cK U U) (.gw 54 (Y.qz gy U U U U) (.gw 54 (Y.qo bY U U) (.gw 54 (Y.qz bg U U U U) (.gw 54 (Y.qr (m:=p.op % n.streams.length) fu U U aY (ao (d:=default) om)) (.gw 54 (Y.qo gx U U) (.gw 54 (Y.qz vT U U U U) (.pk ?_)))))))
 refine .nil (.cond U (fun Lh=>?_) (fun Lh=>?_))
 refine .region (.fa ck ?_)
 exact .aj dT U U U U U U (aH U) U (.nil (⟨9,.inl ⟨DB,Lh,U⟩,Le.mk (.c2 (.c .nil)) (.c (.cons (az U eS) .nil))⟩))
 refine .skip (⟨1 + (p.kind % 10),.inr (.inl ⟨DB,Lh,U⟩),Le.mk (.c2 (.c .nil)) (.c (.cons (az U eS) .nil))⟩)
 refine .gz 54 (.gz 54 (.gz 54 (.gz 54 (.gz 54 (.gz 54 (.gz 54 (.pk ?_)))))))
 exact .nil (.cu U (.skip (⟨1 + (p.kind % 10),.inr (.inr (⟨DB,U⟩)),Le.mk (.c2 (.c .nil)) (.c (.cons (az U eS) .nil))⟩)))
 refine .sr (.fa ck ?_)
 refine .ld bg ?_
 refine .vl (Y.ql U U) (.nil (.aB U (fun P8=>?_) (fun P8=>?_)))
 refine .region (.an ?_)
 refine .nil (.le (ba:=⟨[(4,.ptr 104 0 0 0),(6,vi 1),(7,.ptr 107 0 0 0)],[(104,.cells [vi 0,vi 0,vi 0,vn,.v (.int .u64 0),vi 0]),(107,.cells [vi iV,vi 0,vi (-1),vn,.v (.int .u64 0),vi ((p.op:Int) % (n.streams.length:Int))])]⟩) (Le.mk (.c2 (.c .nil)) (.c (.c .nil))) ?_)
 refine .sr (.vl (Y.za fq U U (aH U) U U) (.mv ?_))
 refine .aj gi U U U U U U (aH U) U ?_
 refine .an ?_
 exact .nil (.sh (Sh.ew 104 399 1 3 U U U U ab) (.ret (⟨_,U,_,_,_,Sh.kJ (d:=0) 3 399 U U U U rS U ab,U,U,(⟨(iV:Int),0,-1,([]:List Int),0,(p.op:Int) % (n.streams.length:Int)⟩:Cell),_,Hs hg om om,U,U⟩)))
 refine .skip (.le (ba:=⟨[(4,.ptr 104 0 0 0),(6,vi ((n.streams.getD (p.op % n.streams.length) default).width)),(7,.ptr 107 0 0 0)],[(104,.cells [vi 0,vi 0,vi 0,vn,.v (.int .u64 0),vi 0]),(107,.cells [vi iV,vi 0,vi (-1),vn,.v (.int .u64 0),vi ((p.op:Int) % (n.streams.length:Int))])]⟩) (Le.mk (.c2 (.c .nil)) (.c (.c .nil))) ?_)
 refine .sr (.vl (Y.za fq U U (aH U) U U) (.mv ?_))
 refine .aj gi U U U U U U (aH U) U ?_
 refine .an ?_
 exact .nil (.sh (Sh.ew 104 399 1 3 U U U U ab) (.ret (⟨_,U,_,_,_,Sh.kJ (d:=0) 3 399 U U U U rS U ab,U,U,(⟨(iV:Int),0,-1,([]:List Int),0,(p.op:Int) % (n.streams.length:Int)⟩:Cell),_,Ht hg om om (by grind),U,U⟩)))
open Go Go.AW Go.Proofs
theorem Dp{nm:ByteArray}{ws ins:List Int}{cs:List Cell}{aD:List eQ}{streams:List bI}{f0 d0:Int}{p:rT}{i cl:Nat}(vh:cl = cs.length)(hn:ws.length <= 1048576)(hc:cs.length <= 1048576)(hp:p.Ok)(hi:i < cs.length)(ho:In (cs.getD ((((cs.length:Int) - 1) - (i:Int)).toNat) default).out ws.length \/ (cs.getD ((((cs.length:Int) - 1) - (i:Int)).toNat) default).kind ≠ 4):aw Try.prog 66 [.ptr 0 0 0 0,.agg (rT.row p),vi i] [.cells [.v (.string nm),.aN 1 1 0 ws.length,.aN 2 6 0 cl,.fz 1 (ins.map ah),.fz 5 (aD.map eQ.row),.fz 3 (streams.map bI.row),vn,vn,vi f0,vi d0,vn],.rows 1 (ws.map ah),.rows 6 (cs.map Cell.row)] [0,1,2] (fun r o=>r = .tup [] /\ o = [.cells [.v (.string nm),.aN 1 1 0 ws.length,.aN 2 6 0 cl,.fz 1 (ins.map ah),.fz 5 (aD.map eQ.row),.fz 3 (streams.map bI.row),vn,vn,vi f0,vi d0,vn],.rows 1 (ws.map ah),.rows 6 ((sO ws cs p i).map Cell.row)]):=by
 refine aw.of Try.func66 U U U (n:=62) ab (aH U) ?_
 subst vh
 have WK:=hp.a; have QS:=hp.d
 refine .sr (.box 104 U U U U U ab (.nil (.seq (.sh (Sh.iY 104 U U) ?_))))
 refine .kK [0] [0,1,2,104] (⟨[(0,.ptr 0 0 0 0),(2,.v (.int .i64 (i:Int))),(4,.fp (rT.row p) 0),(6,.ptr 106 0 0 0)],[(0,.cells [.v (.string nm),.aN 1 1 0 ws.length,.aN 2 6 0 cs.length,.fz 1 (ins.map ah),.fz 5 (aD.map eQ.row),.fz 3 (streams.map bI.row),vn,vn,.v (.int .i64 f0),.v (.int .i64 d0),vn]),(1,.rows 1 (ws.map ah)),(2,.rows 6 (cs.map Cell.row)),(106,.cells [.v (.int .i64 ((cs.getD ((((cs.length:Int) - 1) - (i:Int)).toNat) default).kind)),.v (.int .i64 ((cs.getD ((((cs.length:Int) - 1) - (i:Int)).toNat) default).op)),.v (.int .i64 ((cs.getD ((((cs.length:Int) - 1) - (i:Int)).toNat) default).out)),.fz 1 (((cs.getD ((((cs.length:Int) - 1) - (i:Int)).toNat) default).args).map ah),.v (.int .u64 (((cs.getD ((((cs.length:Int) - 1) - (i:Int)).toNat) default).num:Nat):Int)),.v (.int .i64 ((cs.getD ((((cs.length:Int) - 1) - (i:Int)).toNat) default).mem))])]⟩) U ?_ ?_
 refine .blind 0 U au (ax.move U U) ab (.blind 1 U au (ax.nilCheck U U) ab (.blind 2 U au (ax.fieldAddr bS U U) ab ?_))
 refine .load 3 U au fU U U U U U ab (.blind 4 U au (ax.move U U) ab (.blind 5 U au (ax.nilCheck U U) ab ?_))
 refine .blind 6 U au (ax.fieldAddr bS U U) ab (.load 7 U au fU U U U U U ab (.blind 8 U au (ax.len (n:=cs.length) dU U U) ab ?_))
 refine .blind 9 U au (ax.Pd U U om) ab (.blind 10 U au (ax.move U U) ab (.blind 11 U au (ax.Pd U U om) ab (.blind 12 U au (ax.wQ (m:=(((cs.length:Int) - 1) - (i:Int)).toNat) dU U U om om) ab (.J2 U U (cv.cells U U U cv.nil) ?_))))
 refine .two 13 14 U U au ?_ ?_
 refine .vl (Y.za fq U (aO (d:=default) aJ) (aH U) U U) (.nil ⟨U,(.one 14 U au (.alloc 106 ez U U ab ?_))⟩)
 refine .nil ⟨U,(.one 15 U au (.aj gi U U U U U U (aH U) U ?_))⟩
 exact .nil ⟨U,(.done au (Le.mk (.c2 (.c (.c .nil))) (.c2 (.c (.c .nil)))))⟩
 refine .alloc 106 ez U U ab ?_
 refine .nil ⟨U,(.one 13 U au (.vl (Y.za fq U (aO (d:=default) aJ) (aH U) U U) (.nil ⟨U,(.one 15 U au (.aj gi U U U U U U (aH U) U ?_))⟩)))⟩
 exact .nil ⟨U,(.done au (Le.mk (.c2 (.c (.c .nil))) (.c2 (.c (.c .nil)))))⟩
 refine .le (ba:=⟨[(0,.ptr 0 0 0 0),(2,vi i),(4,.fp (rT.row p) 0),(6,.ptr 106 0 0 0)],[(0,.cells [.v (.string nm),.aN 1 1 0 ws.length,.aN 2 6 0 cs.length,.fz 1 (ins.map ah),.fz 5 (aD.map eQ.row),.fz 3 (streams.map bI.row),vn,vn,vi f0,vi d0,vn]),(1,.rows 1 (ws.map ah)),(2,.rows 6 (cs.map Cell.row)),(106,.cells [vi ((cs.getD ((((cs.length:Int) - 1) - (i:Int)).toNat) default).kind),vi ((cs.getD ((((cs.length:Int) - 1) - (i:Int)).toNat) default).op),vi ((cs.getD ((((cs.length:Int) - 1) - (i:Int)).toNat) default).out),.fz 1 (((cs.getD ((((cs.length:Int) - 1) - (i:Int)).toNat) default).args).map ah),.v (.int .u64 (((cs.getD ((((cs.length:Int) - 1) - (i:Int)).toNat) default).num:Nat):Int)),vi ((cs.getD ((((cs.length:Int) - 1) - (i:Int)).toNat) default).mem)])]⟩) (Le.mk (.c2 (.c (.c .nil))) (.c2 (.c (.c .nil)))) (.sr ?_)
 refine .fa ck ?_
 refine .ld bg ?_
 refine .vl (Y.ql U U) (.nil ?_)
 refine .le (ba:=⟨[(0,.ptr 0 0 0 0),(2,vi i),(4,.fp (rT.row p) 0),(6,.ptr 106 0 0 0),(23,.v (.bool (decide (((cs.getD ((((cs.length:Int) - 1) - (i:Int)).toNat) default).kind) = 4))))],[(0,.cells [.v (.string nm),.aN 1 1 0 ws.length,.aN 2 6 0 cs.length,.fz 1 (ins.map ah),.fz 5 (aD.map eQ.row),.fz 3 (streams.map bI.row),vn,vn,vi f0,vi d0,vn]),(1,.rows 1 (ws.map ah)),(2,.rows 6 (cs.map Cell.row)),(106,.cells [vi ((cs.getD ((((cs.length:Int) - 1) - (i:Int)).toNat) default).kind),vi ((cs.getD ((((cs.length:Int) - 1) - (i:Int)).toNat) default).op),vi ((cs.getD ((((cs.length:Int) - 1) - (i:Int)).toNat) default).out),.fz 1 (((cs.getD ((((cs.length:Int) - 1) - (i:Int)).toNat) default).args).map ah),.v (.int .u64 (((cs.getD ((((cs.length:Int) - 1) - (i:Int)).toNat) default).num:Nat):Int)),vi ((cs.getD ((((cs.length:Int) - 1) - (i:Int)).toNat) default).mem)])]⟩) (Le.mk (.c4 (.c .nil)) (.c2 (.c (.c .nil)))) ?_
 refine .aB U (fun oK=>?_) (fun oK=>?_)
 have DF:=ho.resolve_right (fun h=>h oK)
 unfold In at DF
 refine .seq ?_
 refine .kK [0] [0,1,2,106] (⟨[(0,.ptr 0 0 0 0),(2,.v (.int .i64 (i:Int))),(6,.ptr 106 0 0 0)],[(0,.cells [.v (.string nm),.aN 1 1 0 ws.length,.aN 2 6 0 cs.length,.fz 1 (ins.map ah),.fz 5 (aD.map eQ.row),.fz 3 (streams.map bI.row),vn,vn,.v (.int .i64 f0),.v (.int .i64 d0),vn]),(1,.rows 1 (ws.map ah)),(2,.rows 6 (cs.map Cell.row)),(106,.cells [.v (.int .i64 ((cs.getD ((((cs.length:Int) - 1) - (i:Int)).toNat) default).kind)),.v (.int .i64 ((cs.getD ((((cs.length:Int) - 1) - (i:Int)).toNat) default).op)),.v (.int .i64 ((cs.getD ((((cs.length:Int) - 1) - (i:Int)).toNat) default).out)),.fz 1 (([aE ws 1 p.a,aE ws (ws.getD (((cs.getD ((((cs.length:Int) - 1) - (i:Int)).toNat) default).out).toNat) 0) p.d]:List Int).map ah),.v (.int .u64 (((cs.getD ((((cs.length:Int) - 1) - (i:Int)).toNat) default).num:Nat):Int)),.v (.int .i64 ((cs.getD ((((cs.length:Int) - 1) - (i:Int)).toNat) default).mem))])]⟩) U ?_ ?_
 refine .blind 0 U au (ax.move U U) ab (.blind 1 U au (ax.nilCheck U U) ab (.fW 2 U au fF U U U (aH U) U U ab ?_))
 refine .blind 3 U au (ax.fieldAddr jF U U) ab (.blind 4 U au (ax.lN oI U U (m:=0) U om U) ab (.load 5 U au sQ U U U U U ab ?_))
 refine .blind 7 U au (ax.move U U) ab (.blind 8 U au (ax.nilCheck U U) ab (.fW 9 U au fF U U U (aH U) U U ab ?_))
 refine .blind 10 U au (ax.move U U) ab (.blind 11 U au (ax.nilCheck U U) ab (.blind 12 U au (ax.fieldAddr bB U U) ab ?_))
 refine .load 13 U au bn U U U U U ab (.blind 14 U au (ax.fieldAddr eg U U) ab (.blind 18 U au (ax.fieldAddr jF U U) ab ?_))
 refine .blind 19 U au (ax.lN oI U U (m:=2) U om U) ab (.load 20 U au sQ U U U U U ab (.J2 U U (cv.cells U U U cv.nil) ?_))
 refine .two 6 15 U U au ?_ ?_
 refine .iC [1,2] jg (cq (n:=(⟨nm,ws,cs,ins,aD,streams,[],[],f0,d0,[]⟩:ae)) (w:=1) (k:=p.a) (by show (ws).length <= 1048576; omega) om) U (.agg (.ai U U (.cE U U (bz om) (b5 om) (.cE U U (bz om) (b5 om) (.ai U U (.ai U U (.ai U U (.ai U U (.ai U U (.ai U U (.ai U U (.ai U U .nil))))))))))) U (.ai U U (.ai U U .nil))) (eU U (bj aI) (jA U (bj Cell.bE))) ab U trivial ?_
 refine .nil ⟨U,(.one 15 U au (.ld bg ?_))⟩
 refine .nil ⟨U,(.one 16 U au (.vl (Y.qs (m:=((cs.getD ((((cs.length:Int) - 1) - (i:Int)).toNat) default).out).toNat) a7 U U om om) (.nil ⟨U,(.one 17 U au (.vl (Y.qz bg U (aO (d:=0) om) U U) (.nil ⟨U,?_⟩)))⟩)))⟩
 refine .one 21 U au (.iC [1,2] jg (cq (n:=(⟨nm,ws,cs,ins,aD,streams,[],[],f0,d0,[]⟩:ae)) (w:=(ws.getD (((cs.getD ((((cs.length:Int) - 1) - (i:Int)).toNat) default).out).toNat) 0)) (k:=p.d) (by show (ws).length <= 1048576; omega) om) U (.agg (.ai U U (.cE U U (bz om) (b5 om) (.cE U U (bz om) (b5 om) (.ai U U (.ai U U (.ai U U (.ai U U (.ai U U (.ai U U (.ai U U (.ai U U .nil))))))))))) U (.ai U U (.ai U U .nil))) (eU U (bj aI) (jA U (bj Cell.bE))) ab U trivial ?_)
 refine .nil ⟨U,(.one 22 U au (.buildSlice (([aE ws 1 p.a,aE ws (ws.getD (((cs.getD ((((cs.length:Int) - 1) - (i:Int)).toNat) default).out).toNat) 0) p.d]:List Int).map ah) a7 dG U U U U U (aq (s:=1) (f:=ah) (fun _=>U)) U U U ab ?_))⟩
 refine .nil ⟨U,(.one 23 U au (.fa bT ?_))⟩
 refine .nil ⟨U,(.one 24 U au (.sh (Sh.cN (d:=46) (([aE ws 1 p.a,aE ws (ws.getD (((cs.getD ((((cs.length:Int) - 1) - (i:Int)).toNat) default).out).toNat) 0) p.d]:List Int).map ah) U iX (cM.map aI)) (.aj fG U U U U U U (aH U) U ?_)))⟩
 exact .nil ⟨U,(.done au (Le.mk (.c2 (.c .nil)) (.c2 (.c (.c .nil)))))⟩
 refine .ld bg ?_
 refine .nil ⟨U,(.blind 16 U au (ax.wQ (m:=((cs.getD ((((cs.length:Int) - 1) - (i:Int)).toNat) default).out).toNat) a7 U U om om) ab ?_)⟩
 refine .two 6 17 U U au ?_ ?_
 refine .iC [1,2] jg (cq (n:=(⟨nm,ws,cs,ins,aD,streams,[],[],f0,d0,[]⟩:ae)) (w:=1) (k:=p.a) (by show (ws).length <= 1048576; omega) om) U (.agg (.ai U U (.cE U U (bz om) (b5 om) (.cE U U (bz om) (b5 om) (.ai U U (.ai U U (.ai U U (.ai U U (.ai U U (.ai U U (.ai U U (.ai U U .nil))))))))))) U (.ai U U (.ai U U .nil))) (eU U (bj aI) (jA U (bj Cell.bE))) ab U trivial ?_
 refine .nil ⟨U,(.one 17 U au (.vl (Y.qz bg U (aO (d:=0) om) U U) (.nil ⟨U,(.one 21 U au (.iC [1,2] jg (cq (n:=(⟨nm,ws,cs,ins,aD,streams,[],[],f0,d0,[]⟩:ae)) (w:=(ws.getD (((cs.getD ((((cs.length:Int) - 1) - (i:Int)).toNat) default).out).toNat) 0)) (k:=p.d) (by show (ws).length <= 1048576; omega) om) U (.agg (.ai U U (.cE U U (bz om) (b5 om) (.cE U U (bz om) (b5 om) (.ai U U (.ai U U (.ai U U (.ai U U (.ai U U (.ai U U (.ai U U (.ai U U .nil))))))))))) U (.ai U U (.ai U U .nil))) (eU U (bj aI) (jA U (bj Cell.bE))) ab U trivial ?_))⟩)))⟩
 refine .nil ⟨U,(.one 22 U au (.buildSlice (([aE ws 1 p.a,aE ws (ws.getD (((cs.getD ((((cs.length:Int) - 1) - (i:Int)).toNat) default).out).toNat) 0) p.d]:List Int).map ah) a7 dG U U U U U (aq (s:=1) (f:=ah) (fun _=>U)) U U U ab ?_))⟩
 refine .nil ⟨U,(.one 23 U au (.fa bT ?_))⟩
 refine .nil ⟨U,(.one 24 U au (.sh (Sh.cN (d:=46) (([aE ws 1 p.a,aE ws (ws.getD (((cs.getD ((((cs.length:Int) - 1) - (i:Int)).toNat) default).out).toNat) 0) p.d]:List Int).map ah) U iX (cM.map aI)) (.aj fG U U U U U U (aH U) U ?_)))⟩
 exact .nil ⟨U,(.done au (Le.mk (.c2 (.c .nil)) (.c2 (.c (.c .nil)))))⟩
 refine .vl (Y.qz bg U (aO (d:=0) om) U U) (.nil ⟨U,(.one 6 U au (.iC [1,2] jg (cq (n:=(⟨nm,ws,cs,ins,aD,streams,[],[],f0,d0,[]⟩:ae)) (w:=1) (k:=p.a) (by show (ws).length <= 1048576; omega) om) U (.agg (.ai U U (.cE U U (bz om) (b5 om) (.cE U U (bz om) (b5 om) (.ai U U (.ai U U (.ai U U (.ai U U (.ai U U (.ai U U (.ai U U (.ai U U .nil))))))))))) U (.ai U U (.ai U U .nil))) (eU U (bj aI) (jA U (bj Cell.bE))) ab U trivial ?_))⟩)
 refine .nil ⟨U,(.one 21 U au (.iC [1,2] jg (cq (n:=(⟨nm,ws,cs,ins,aD,streams,[],[],f0,d0,[]⟩:ae)) (w:=(ws.getD (((cs.getD ((((cs.length:Int) - 1) - (i:Int)).toNat) default).out).toNat) 0)) (k:=p.d) (by show (ws).length <= 1048576; omega) om) U (.agg (.ai U U (.cE U U (bz om) (b5 om) (.cE U U (bz om) (b5 om) (.ai U U (.ai U U (.ai U U (.ai U U (.ai U U (.ai U U (.ai U U (.ai U U .nil))))))))))) U (.ai U U (.ai U U .nil))) (eU U (bj aI) (jA U (bj Cell.bE))) ab U trivial ?_))⟩
 refine .nil ⟨U,(.one 22 U au (.buildSlice (([aE ws 1 p.a,aE ws (ws.getD (((cs.getD ((((cs.length:Int) - 1) - (i:Int)).toNat) default).out).toNat) 0) p.d]:List Int).map ah) a7 dG U U U U U (aq (s:=1) (f:=ah) (fun _=>U)) U U U ab ?_))⟩
 refine .nil ⟨U,(.one 23 U au (.fa bT ?_))⟩
 refine .nil ⟨U,(.one 24 U au (.sh (Sh.cN (d:=46) (([aE ws 1 p.a,aE ws (ws.getD (((cs.getD ((((cs.length:Int) - 1) - (i:Int)).toNat) default).out).toNat) 0) p.d]:List Int).map ah) U iX (cM.map aI)) (.aj fG U U U U U U (aH U) U ?_)))⟩
 exact .nil ⟨U,(.done au (Le.mk (.c2 (.c .nil)) (.c2 (.c (.c .nil)))))⟩
 refine .le (ba:=⟨[(0,.ptr 0 0 0 0),(2,vi i),(6,.ptr 106 0 0 0)],[(0,.cells [.v (.string nm),.aN 1 1 0 ws.length,.aN 2 6 0 cs.length,.fz 1 (ins.map ah),.fz 5 (aD.map eQ.row),.fz 3 (streams.map bI.row),vn,vn,vi f0,vi d0,vn]),(1,.rows 1 (ws.map ah)),(2,.rows 6 (cs.map Cell.row)),(106,.cells [vi ((cs.getD ((((cs.length:Int) - 1) - (i:Int)).toNat) default).kind),vi ((cs.getD ((((cs.length:Int) - 1) - (i:Int)).toNat) default).op),vi ((cs.getD ((((cs.length:Int) - 1) - (i:Int)).toNat) default).out),.fz 1 (([aE ws 1 p.a,aE ws (ws.getD (((cs.getD ((((cs.length:Int) - 1) - (i:Int)).toNat) default).out).toNat) 0) p.d]:List Int).map ah),.v (.int .u64 (((cs.getD ((((cs.length:Int) - 1) - (i:Int)).toNat) default).num:Nat):Int)),vi ((cs.getD ((((cs.length:Int) - 1) - (i:Int)).toNat) default).mem)])]⟩) (Le.mk (.c2 (.c .nil)) (.c2 (.c (.c .nil)))) ?_
 refine .kx 14 U au (.val (Y.zf U U) ab (.val (Y.zk U U) ab (.val (Y.qo bS U U) ab (.val (Y.qz fU U U U U) ab (.val (Y.zf U U) ab (.val (Y.zk U U) ab (.val (Y.qo bS U U) ab (.val (Y.qz fU U U U U) ab ?_))))))))
 refine .val (Y.qw (n:=cs.length) dU U U) ab (.val (Y.wa U U om) ab (.val (Y.zf U U) ab (.val (Y.wa U U om) ab (.val (Y.za fq U U (aH U) U U) ab (.val (Y.qs (m:=(((cs.length:Int) - 1) - (i:Int)).toNat) dU U U om om) ab (.nil (.iB ((cs.set ((((cs.length:Int) - 1) - (i:Int)).toNat) (⟨(cs.getD ((((cs.length:Int) - 1) - (i:Int)).toNat) default).kind,(cs.getD ((((cs.length:Int) - 1) - (i:Int)).toNat) default).op,(cs.getD ((((cs.length:Int) - 1) - (i:Int)).toNat) default).out,([aE ws 1 p.a,aE ws (ws.getD (((cs.getD ((((cs.length:Int) - 1) - (i:Int)).toNat) default).out).toNat) 0) p.d]:List Int),(cs.getD ((((cs.length:Int) - 1) - (i:Int)).toNat) default).num,(cs.getD ((((cs.length:Int) - 1) - (i:Int)).toNat) default).mem⟩:Cell)).map Cell.row) gi U U U U U U U (aO (d:=default) om) (aH U) (eO U) (.nil ⟨_,_,U,U,U,(by unfold sO; rw [if_pos oK])⟩))))))))
 refine .skip ⟨_,_,U,U,U,(by unfold sO; rw [if_neg oK])⟩
end Go.Proofs.Ytlimckldnjmabaa
