/- The walk through fits. -/
import Derived.Test.YtlimckldnjmabaaSynx0
import Derived.Test.YtlimckldnjmabaaSynx1
import Derived.Test.YtlimckldnjmabaaAWx2
set_option linter.unusedSimpArgs false
set_option linter.unusedVariables false
set_option linter.unusedSectionVars false
set_option maxRecDepth 4000
set_option maxHeartbeats 8000000
namespace Go.Proofs.Ytlimckldnjmabaa
open Go Go.AW Go.Proofs
theorem Dc{n:ab}{c:Cell}(hs:n.Small)(hc:c.args.length <= 17592186043904)(hn:c.num < 18446744073709551616)(Fa:Shaped n c)(hw:By n c):aw Try.prog 164 [.agg (ab.row n),.agg (Cell.row c)] [] [] (fun r o=>r = .v (.bool (decide (Fits n c))) /\ o = []):=by
 refine aw.of Try.func164 U U U (n:=239) ae (aH U) ?_
 have R7:=hs.ins; have R8:=hs.aD; have T4:=hs.streams; have ho:=hw.out; have WO:=hs.aa
 refine .sr (.box 102 U U U U U ae (.box 103 U U U U U ae ?_))
 refine .an (.nil (.sr ?_))
 refine .an (.nil ?_)
 refine .iC (fun (jK:Int)=>⟨[(2,.ptr 102 0 0 0),(3,.ptr 103 0 0 0),(5,vi jK)],[(102,.cells (ab.row n)),(103,.cells (Cell.row c))]⟩) (fun jK=>jK = n.ow c) ?_ (fun jK yA=>?_)
 refine .sr (.fa eo ?_)
 refine .ld bj ?_
 refine .vl (Y.qq U U) (.nil (.aA U (fun xy=>?_) (fun xy=>?_)))
 refine .region (.fa bO ?_)
 refine .ld bt ?_
 refine .fa eo ?_
 refine .ld bj ?_
 refine .vl (Y.qs (m:=(c.out).toNat) a7 U U om (ao (d:=0) om)) (.ld bj ?_)
 refine .an ?_
 refine .nil ⟨n.aa.getD ((c.out).toNat) 0,by unfold ab.ow ab.wd; rw [if_pos xy],Le.mk (.c2 (.cons (ak U bc) .nil)) (.c (.c .nil))⟩
 refine .skip ⟨0,by unfold ab.ow; rw [if_neg xy],Le.mk (.c2 (.cons (ak U bc) .nil)) (.c (.c .nil))⟩
 refine .sr (.fa bU ?_)
 refine .ld bt ?_
 refine .vl (Y.qx (n:=c.args.length) a7 U fV) (.makeSlice (n:=c.args.length) a7 dD U U U U om om ae ?_)
 refine .bQ U ae (.sh (Sh.dr (d:=6) (n:=c.args.length) 106 ((List.replicate c.args.length 0).map ah) U iJ (aU (by simp)) ae) (.nil (.seq (.sr (.fa bU ?_)))))
 refine .ld bt ?_
 refine .vl (Y.qx (n:=c.args.length) a7 U fV) (.mv ?_)
 refine .nil (.block (.iD (fun (lp:Nat) (mZ:List Int)=>⟨[(2,.ptr 102 0 0 0),(3,.ptr 103 0 0 0),(5,vi jK),(6,.aL 106 1 0 c.args.length),(25,.fz 1 (c.args.map ah)),(26,vi c.args.length),(27,vi lp)],[(102,.cells (ab.row n)),(103,.cells (Cell.row c)),(106,.rows 1 (mZ.map ah))]⟩) (fun lp mZ=>(mZ.length = c.args.length) /\ ((lp:Int) <= (c.args.length:Int)) /\ (∀ j,j < lp -> mZ.getD j 0 = n.av c j)) (fun lp mZ=>((c.args.length:Int) - (lp:Int)).toNat) 0 (List.replicate c.args.length 0) (⟨mz,mz,fun j hj=>by omega⟩) (Le.mk (.c4 (.c2 (.cons (ak U bc) .nil))) (.c2 (.c .nil))) (fun lp mZ PJ=>?_)))
 obtain ⟨Cj,YI,ha⟩:=PJ
 refine .sr (.vl (Y.zc U U) (.nil (.seq (.aA U (fun PE=>?_) (fun PE=>?_)))))
 refine .skip (.seq (.block (.sr (.mv ?_))))
 refine .vl (Y.qs (m:=lp) a7 U U bc (ao (d:=0) om)) (.ld bj ?_)
 refine .an ?_
 refine .an (.nil (.region ?_))
 have hwa:=hw.arg (k:=lp) om
 refine .mv ?_
 refine .mv ?_
 refine .fa bO ?_
 refine .ld bt ?_
 refine .mv ?_
 refine .vl (Y.qs (m:=(c.args.getD lp 0).toNat) a7 U U om (ao (d:=0) om)) (.ld bj ?_)
 refine .vl (Y.qt (m:=lp) a7 U U bc om) (.gU ((mZ.set lp (n.aa.getD ((c.args.getD lp 0).toNat) 0)).map ah) dS U U U U U U U (aM (d:=0) om) (aH U) (e9 U) ?_)
 refine .nil (.region (.vl (Y.qb U U aG) (.mv ?_)))
 refine .nil (⟨lp + 1,mZ.set lp (n.aa.getD ((c.args.getD lp 0).toNat) 0),⟨mz,mz,vX ha U om⟩,om,Le.mk (.c4 (.c2 (.cons (ak U bc) .nil))) (.c2 (.c .nil))⟩)
 refine .exit (.seq (.seq ?_))
 have YJ:0 < c.args.length -> mZ.getD 0 0 = n.av c 0:=fun h=>ha 0 om
 have TL:1 < c.args.length -> mZ.getD 1 0 = n.av c 1:=fun h=>ha 1 om
 have ha2:2 < c.args.length -> mZ.getD 2 0 = n.av c 2:=fun h=>ha 2 om
 refine .region (.fa dC ?_)
 refine .ld bj ?_
 refine .nil (.block (.sr (.vl (Y.ql U U) (.an (.nil ?_)))))
 refine .aA U (fun T5=>?_) (fun T5=>?_)
 refine .seq (.dZ U (.blind 0 U au (ax.move U U) ae ?_))
 refine .blind 1 U au (ax.fieldAddr eB U U) ae (.blind 4 U au (ax.fieldAddr eB U U) ae ?_)
 refine .two 2 5 U U au ?_ ?_
 refine .ld iY ?_
 refine .nil ⟨U,(.two 3 5 U U au ?_ ?_)⟩
 refine .aZ uD (km (w:=jK) (x:=c.num) (om)) U (.aj U U (.aj U U .nil)) ae U ?_
 refine .nil ⟨U,(.bP (n:=0) [5,6,7] [] 0 U au (.cn 5 U (Y.za iY U U U U) (.cn 6 U (Y.ql U U) (.cn 7 U (Y.qf U U) (.nil (.done au (.ret (.rb U (dd z2)))))))))⟩
 refine .ld iY ?_
 refine .nil ⟨U,(.one 3 U au (.aZ uD (km (w:=jK) (x:=c.num) (om)) U (.aj U U (.aj U U .nil)) ae U ?_))⟩
 exact .nil ⟨U,(.bP (n:=0) [6,7] [] 0 U au (.cn 6 U (Y.ql U U) (.cn 7 U (Y.qf U U) (.nil (.done au (.ret (.rb rfl (dd z2))))))))⟩
 refine .ld iY ?_
 refine .nil ⟨U,(.bP (n:=3) [2] [3,6,7] 3 U au (.cn 2 U (Y.za iY U U U U) (.nil (.one 3 U au (.aZ uD (km (w:=jK) (x:=c.num) (om)) U (.aj U U (.aj U U .nil)) ae U ?_)))))⟩
 exact .nil ⟨U,(.bP (n:=0) [6,7] [] 0 U au (.cn 6 U (Y.ql U U) (.cn 7 U (Y.qf U U) (.nil (.done au (.ret (.rb rfl (dd z2))))))))⟩
 refine .sr (.vl (Y.ql U U) (.an (.nil ?_)))
 refine .aA U (fun DI=>?_) (fun DI=>?_)
 have hk:=Fa.k2 DI
 refine .seq (.sr (.fa fc ?_))
 refine .ld bj ?_
 refine .nil (.block (.sr (.vl (Y.ql U U) (.an (.nil ?_)))))
 refine .aA U (fun TM=>?_) (fun TM=>?_)
 refine .sr (.mv ?_)
 refine .vl (Y.qt (m:=0) a7 U U bc aG) (.vl (Y.za bj U (aM (d:=0) om) U U) (.vl (Y.ql U U) (.mv ?_)))
 refine .aC (d:=62) U (fun PK=>?_) (fun PK=>?_)
 refine .gw 62 (Y.zh U U) (.gw 62 (Y.qt (m:=1) a7 U U bc om) (.gw 62 (Y.za bj U (aM (d:=0) om) U U) (.gw 62 (Y.zh U U) (.gw 62 (Y.ql U U) (.pk ?_)))))
 refine .mv ?_
 refine .aC (d:=69) U (fun JZ=>?_) (fun JZ=>?_)
 refine .gw 69 (Y.zh U U) (.gw 69 (Y.qt (m:=2) a7 U U bc om) (.gw 69 (Y.za bj U (aM (d:=0) om) U U) (.gw 69 (Y.zh U U) (.gw 69 (Y.ql U U) (.pk ?_)))))
 refine .an (.nil (.ret ?_))
 exact .rb rfl (dd (by (simp only [Fits,ek,jY,<- yA,DI,Int.reduceEq,Bool.not_eq_true,false_and,true_and,and_true,and_false,or_false,false_or,ne_eq]) <;> omega))
 refine .gz 69 (.gz 69 (.gz 69 (.gz 69 (.gz 69 (.pk ?_)))))
 refine .an (.nil (.ret ?_))
 exact .rb rfl (df (by (simp only [Fits,ek,jY,<- yA,DI,Int.reduceEq,Bool.not_eq_true,false_and,true_and,and_true,and_false,or_false,false_or,ne_eq]) <;> omega))
 refine .gz 62 (.gz 62 (.gz 62 (.gz 62 (.gz 62 (.pk ?_)))))
 refine .mv ?_
 refine .gz 69 (.gz 69 (.gz 69 (.gz 69 (.gz 69 (.pk ?_)))))
 refine .an (.nil (.ret ?_))
 exact .rb rfl (df (by (simp only [Fits,ek,jY,<- yA,DI,Int.reduceEq,Bool.not_eq_true,false_and,true_and,and_true,and_false,or_false,false_or,ne_eq]) <;> omega))
 refine .seq (.sr (.vl (Y.ql U U) (.an (.nil ?_))))
 refine .bm U (fun IG=>?_) (fun IG=>?_)
 refine .skip (.aO U (.sr (.mv ?_)))
 refine .vl (Y.qt (m:=0) a7 U U bc aG) (.vl (Y.za bj U (aM (d:=0) om) U U) (.mv ?_))
 refine .vl (Y.qz U U) (.an (.nil (.ret ?_)))
 exact .rb rfl (dd (by (simp only [Fits,ek,jY,<- yA,DI,Int.reduceEq,Bool.not_eq_true,false_and,true_and,and_true,and_false,or_false,false_or,ne_eq]) <;> omega))
 refine .region (.vl (Y.ql U U) (.an (.nil ?_)))
 refine .bm U (fun IG=>?_) (fun IG=>?_)
 refine .sr (.mv ?_)
 refine .vl (Y.qt (m:=0) a7 U U bc aG) (.vl (Y.za bj U (aM (d:=0) om) U U) (.mv ?_))
 refine .vl (Y.qz U U) (.an (.nil (.ret ?_)))
 exact .rb rfl (dd (by (simp only [Fits,ek,jY,<- yA,DI,Int.reduceEq,Bool.not_eq_true,false_and,true_and,and_true,and_false,or_false,false_or,ne_eq]) <;> omega))
 refine .sr (.vl (Y.ql U U) (.an (.nil ?_)))
 refine .aA U (fun YK=>?_) (fun YK=>?_)
 refine .sr (.mv ?_)
 refine .vl (Y.qt (m:=0) a7 U U bc aG) (.vl (Y.za bj U (aM (d:=0) om) U U) (.mv ?_))
 refine .vl (Y.qq U U) (.an (.nil (.ret ?_)))
 exact .rb rfl (dd (by (simp only [Fits,ek,jY,<- yA,DI,Int.reduceEq,Bool.not_eq_true,false_and,true_and,and_true,and_false,or_false,false_or,ne_eq]) <;> omega))
 refine .skip (.seq (.sr (.fa fc ?_)))
 refine .ld bj ?_
 refine .aZ O9 (uI (w:=c.op)) U (.aj U U .nil) ae U (.nil (.aA U (fun FY=>?_) (fun FY=>?_)))
 unfold jY at FY
 refine .seq (.gy U au (.val (Y.zh U U) ae (.val (Y.ql U U) ae (.val (Y.zh U U) ae (.aC (d:=96) U (fun PG=>?_) (fun PG=>?_))))))
 refine .bn (d:=96) U ae U (.val (Y.zh U U) ae (.bn (d:=96) U ae U ?_))
 refine .val (Y.qt (m:=0) a7 U U bc om) ae (.bn (d:=96) U ae U (.val (Y.za bj U (aM (d:=0) om) U U) ae (.bn (d:=96) U ae U (.val (Y.zh U U) ae (.bn (d:=96) U ae U ?_)))))
 refine .val (Y.qt (m:=1) a7 U U bc om) ae (.bn (d:=96) U ae U (.val (Y.za bj U (aM (d:=0) om) U U) ae (.bn (d:=96) U ae U (.val (Y.ql U U) ae (.val (Y.zo U U U) ae (.val (Y.qf U U) ae (.nil (.ret ?_))))))))
 exact .rb rfl (dd (by (simp only [Fits,ek,jY,<- yA,DI,Int.reduceEq,Bool.not_eq_true,false_and,true_and,and_true,and_false,or_false,false_or,ne_eq]) <;> omega))
 refine .aV (d:=96) U ae ae U U (.aV (d:=96) U ae ae U U (.aV (d:=96) U ae ae U U ?_))
 refine .aV (d:=96) U ae ae U U (.aV (d:=96) U ae ae U U (.aV (d:=96) U ae ae U U ?_))
 refine .aV (d:=96) U ae ae U U (.val (Y.zo U U U) ae (.val (Y.qf U U) ae (.nil (.ret ?_))))
 exact .rb rfl (df (by (simp only [Fits,ek,jY,<- yA,DI,Int.reduceEq,Bool.not_eq_true,false_and,true_and,and_true,and_false,or_false,false_or,ne_eq]) <;> omega))
 unfold jY at FY
 refine .skip (.sr (.mv ?_))
 refine .vl (Y.qt (m:=0) a7 U U bc aG) (.vl (Y.za bj U (aM (d:=0) om) U U) (.mv ?_))
 refine .vl (Y.ql U U) (.mv ?_)
 refine .aC (d:=110) U (fun AD=>?_) (fun AD=>?_)
 refine .gw 110 (Y.zh U U) (.gw 110 (Y.qt (m:=1) a7 U U bc om) (.gw 110 (Y.za bj U (aM (d:=0) om) U U) (.gw 110 (Y.zh U U) (.gw 110 (Y.ql U U) (.pk ?_)))))
 refine .an (.nil (.ret ?_))
 exact .rb rfl (dd (by (simp only [Fits,ek,jY,<- yA,DI,Int.reduceEq,Bool.not_eq_true,false_and,true_and,and_true,and_false,or_false,false_or,ne_eq]) <;> omega))
 refine .gz 110 (.gz 110 (.gz 110 (.gz 110 (.gz 110 (.pk ?_)))))
 refine .an (.nil (.ret ?_))
 exact .rb rfl (df (by (simp only [Fits,ek,jY,<- yA,DI,Int.reduceEq,Bool.not_eq_true,false_and,true_and,and_true,and_false,or_false,false_or,ne_eq]) <;> omega))
 refine .sr (.vl (Y.ql U U) (.an (.nil ?_)))
 refine .aA U (fun n5=>?_) (fun n5=>?_)
 have hk:=Fa.k3 n5
 refine .seq (.sr (.mv ?_))
 refine .vl (Y.qx (n:=c.args.length) a7 U U) (.mv ?_)
 refine .nil (.block (.jt (fun (cp:Nat)=>⟨[(5,vi jK),(119,.aL 106 1 0 c.args.length),(120,vi c.args.length),(121,vi cp)],[(106,.rows 1 (mZ.map ah))]⟩) (fun cp=>((cp:Int) <= (c.args.length:Int)) /\ (∀ k,k < cp -> kf n c k)) (fun cp=>((c.args.length:Int) - (cp:Int)).toNat) 0 (⟨om,fun k hk=>by omega⟩) (Le.mk (.c2 (.c (.cons (ak U bc) .nil))) (.c .nil)) (fun cp L6=>?_)))
 obtain ⟨TN,hm⟩:=L6
 refine .sr (.vl (Y.zc U U) (.nil (.seq (.aA U (fun L7=>?_) (fun L7=>?_)))))
 refine .skip ?_
 refine .lk (fun (lZ:Bool) (ma:Bool)=>⟨[(5,vi jK),(119,.aL 106 1 0 c.args.length),(120,vi c.args.length),(121,vi cp),(134,vi cp),(135,vi ((cp:Int) % 2)),(136,.v (.bool (decide (((cp:Int) % 2) = 1)))),(137,.v (.bool lZ)),(141,.v (.bool ma))],[(106,.rows 1 (mZ.map ah))]⟩) (fun lZ ma=>((((cp:Int) % 2) = 0) /\ (¬ ((mZ.getD cp 0) ≠ 1)) /\ (((cp:Int) % 2) = 1) /\ (¬ ((mZ.getD cp 0) ≠ jK)) /\ (lZ = true) /\ (ma = (decide ((mZ.getD cp 0) ≠ jK)))) \/ ((((cp:Int) % 2) = 0) /\ (¬ ((mZ.getD cp 0) ≠ 1)) /\ (¬ (((cp:Int) % 2) = 1)) /\ (lZ = false) /\ (ma = false)) \/ ((¬ (((cp:Int) % 2) = 0)) /\ (((cp:Int) % 2) = 1) /\ (¬ ((mZ.getD cp 0) ≠ jK)) /\ (lZ = true) /\ (ma = (decide ((mZ.getD cp 0) ≠ jK)))) \/ ((¬ (((cp:Int) % 2) = 0)) /\ (¬ (((cp:Int) % 2) = 1)) /\ (lZ = false) /\ (ma = false))) ?_ (fun lZ ma YL=>?_)
 refine .block (.sr (.mv ?_))
 refine .vl (Y.qt (m:=cp) a7 U U bc om) (.vl (Y.za bj U (aM (d:=0) om) U U) (.an ?_))
 refine .an (.nil (.sr ?_))
 refine .mv ?_
 refine .vl (Y.zt U U aG) (.vl (Y.ql U U) (.mv ?_))
 refine .aC (d:=129) U (fun FZ=>?_) (fun FZ=>?_)
 refine .gw 129 (Y.zh U U) (.gw 129 (Y.zl U U) (.pk ?_))
 refine .mv ?_
 refine .aC (d:=133) U (fun L8=>?_) (fun L8=>?_)
 refine .gz 133 (.gz 133 (.gz 133 (.gz 133 (.gz 137 (.gz 137 (.gz 137 (.gz 133 (.pk ?_))))))))
 refine .nil (.aO U (.sr (.an (.nil (.ret ?_)))))
 exact .rb rfl (df (fun h=>by simp only [Fits,n5,Int.reduceEq,Bool.not_eq_true,false_and,true_and,and_true,and_false,or_false,false_or,ne_eq] at h; have h1:=h cp om; have h2:=ha cp om; unfold kf at h1; omega))
 refine .gw 133 (Y.zh U U) (.gw 133 (Y.zt U U om) (.gw 133 (Y.ql U U) (.gw 133 (Y.zh U U) (.aC (d:=137) U (fun qT=>?_) (fun qT=>?_)))))
 refine .gw 137 (Y.zh U U) (.gw 137 (Y.zh U U) (.gw 137 (Y.zl U U) (.gw 133 (Y.zo U U U) (.pk ?_))))
 refine .nil (.aA U (fun AF=>?_) (fun AF=>?_))
 refine .sr (.an (.nil (.ret ?_)))
 exact .rb rfl (df (fun h=>by simp only [Fits,n5,Int.reduceEq,Bool.not_eq_true,false_and,true_and,and_true,and_false,or_false,false_or,ne_eq] at h; have h1:=h cp om; have h2:=ha cp om; unfold kf at h1; omega))
 refine .skip (⟨true,decide ((mZ.getD cp 0) ≠ jK),.inl ⟨FZ,L8,qT,AF,U,U⟩,Le.mk (.c4 (.c2 (.c (.cons (a9 U eG) (.cons (a9 U eG) .nil))))) (.c .nil)⟩)
 refine .gz 137 (.gz 137 (.gz 137 (.gw 133 (Y.zo U U U) (.pk ?_))))
 exact .nil (.cZ U (.skip (⟨false,false,.inr (.inl ⟨FZ,L8,qT,U,U⟩),Le.mk (.c4 (.c2 (.c (.cons (a9 U eG) (.cons (a9 U eG) .nil))))) (.c .nil)⟩)))
 refine .gz 129 (.gz 129 (.pk ?_))
 refine .mv ?_
 refine .gw 133 (Y.zh U U) (.gw 133 (Y.zt U U om) (.gw 133 (Y.ql U U) (.gw 133 (Y.zh U U) (.aC (d:=137) U (fun qT=>?_) (fun qT=>?_)))))
 refine .gw 137 (Y.zh U U) (.gw 137 (Y.zh U U) (.gw 137 (Y.zl U U) (.gw 133 (Y.zo U U U) (.pk ?_))))
 refine .nil (.aA U (fun AF=>?_) (fun AF=>?_))
 refine .sr (.an (.nil (.ret ?_)))
 exact .rb rfl (df (fun h=>by simp only [Fits,n5,Int.reduceEq,Bool.not_eq_true,false_and,true_and,and_true,and_false,or_false,false_or,ne_eq] at h; have h1:=h cp om; have h2:=ha cp om; unfold kf at h1; omega))
 refine .skip (⟨true,decide ((mZ.getD cp 0) ≠ jK),.inr (.inr (.inl ⟨FZ,qT,AF,U,U⟩)),Le.mk (.c4 (.c2 (.c (.cons (a9 U eG) (.cons (a9 U eG) .nil))))) (.c .nil)⟩)
 refine .gz 137 (.gz 137 (.gz 137 (.gw 133 (Y.zo U U U) (.pk ?_))))
 exact .nil (.cZ U (.skip (⟨false,false,.inr (.inr (.inr (⟨FZ,qT,U,U⟩))),Le.mk (.c4 (.c2 (.c (.cons (a9 U eG) (.cons (a9 U eG) .nil))))) (.c .nil)⟩)))
 refine .region (.vl (Y.qb U U aG) (.mv ?_))
 refine .nil (⟨cp + 1,⟨om,Ez hm (by have h2:=ha cp om; unfold kf; omega)⟩,om,Le.mk (.c2 (.c (.cons (ak U bc) .nil))) (.c .nil)⟩)
 refine .exit (.sr (.an (.nil (.ret ?_))))
 exact .rb rfl (dt (by simp only [Fits,n5,Int.reduceEq,Bool.not_eq_true,false_and,true_and,and_true,and_false,or_false,false_or,ne_eq]; exact fun k hk=>hm k om))
 refine .sr (.vl (Y.ql U U) (.an (.nil ?_)))
 refine .aA U (fun IH=>?_) (fun IH=>?_)
 have hk:=Fa.k4 IH
 refine .seq (.dZ U (.blind 0 U au (ax.move U U) ae ?_))
 refine .one 1 U au (.vl (Y.qt (m:=0) a7 U U bc aG) (.nil ⟨U,(.one 2 U au (.vl (Y.za bj U (aM (d:=0) om) U U) (.nil ⟨U,(.one 3 U au (.vl (Y.ql U U) (.nil ⟨U,(.blind 4 U au (ax.move U U) ae ?_)⟩)))⟩)))⟩))
 refine .aC (d:=150) U (fun TO=>?_) (fun TO=>?_)
 refine .lN 5 U au U ae U (ax.move U U) ae (.lN 8 U au U ae U (ax.move U U) ae (.one 6 U au (.gw 150 (Y.qt (m:=1) a7 U U bc om) (.nil ⟨U,(.one 7 U au (.gw 150 (Y.za bj U (aM (d:=0) om) U U) (.nil ⟨U,(.one 9 U au (.gw 150 (Y.ql U U) (.nil ⟨U,(.one 10 U au (.pk ?_))⟩)))⟩)))⟩))))
 refine .nil ⟨U,(.blind 11 U au (ax.move U U) ae ?_)⟩
 refine .aC (d:=157) U (fun TP=>?_) (fun TP=>?_)
 refine .lN 12 U au U ae U (ax.move U U) ae (.lN 13 U au U ae U (ax.fieldAddr eB U U) ae (.lN 16 U au U ae U (ax.fieldAddr eB U U) ae ?_))
 refine .two 14 17 U U au ?_ ?_
 refine .gw 157 (Y.za iY U U U U) (.nil ⟨U,(.two 15 17 U U au ?_ ?_)⟩)
 refine .bn (d:=157) U ae U (.aZ uD (km (w:=jK) (x:=c.num) (om)) U (.aj U U (.aj U U .nil)) ae U ?_)
 refine .nil ⟨U,(.bP (n:=0) [17,18,19,20] [] 0 U au (.rn 17 U U U (Y.za iY U U U U) (.rn 18 U U U (Y.ql U U) ?_)))⟩
 exact .cn 19 U (Y.zo U U U) (.cn 20 U (Y.qf U U) (.nil (.done au (.ret (.rb rfl (dd z2))))))
 refine .gw 157 (Y.za iY U U U U) (.nil ⟨U,(.one 15 U au (.bn (d:=157) U ae U ?_))⟩)
 refine .aZ uD (km (w:=jK) (x:=c.num) (om)) U (.aj U U (.aj U U .nil)) ae U ?_
 refine .nil ⟨U,(.bP (n:=0) [18,19,20] [] 0 U au (.rn 18 U U U (Y.ql U U) (.cn 19 U (Y.zo U U U) (.cn 20 U (Y.qf U U) (.nil (.done au (.ret (.rb U (dd z2)))))))))⟩
 refine .gw 157 (Y.za iY U U U U) (.nil ⟨U,(.bP (n:=4) [14] [15,18,19,20] 15 U au (.rn 14 U U U (Y.za iY U U U U) (.nil (.one 15 U au (.bn (d:=157) U ae U ?_)))))⟩)
 refine .aZ uD (km (w:=jK) (x:=c.num) (om)) U (.aj U U (.aj U U .nil)) ae U ?_
 refine .nil ⟨U,(.bP (n:=0) [18,19,20] [] 0 U au (.rn 18 U U U (Y.ql U U) (.cn 19 U (Y.zo U U U) (.cn 20 U (Y.qf U U) (.nil (.done au (.ret (.rb U (dd z2)))))))))⟩
 refine .cQ 12 U au U ae ae U U (.cQ 13 U au U ae ae U U (.cQ 14 U au U ae ae U U ?_))
 refine .cQ 15 U au U ae ae U U (.cQ 16 U au U ae ae U U (.cQ 17 U au U ae ae U U ?_))
 refine .cQ 18 U au U ae ae U U (.bP (n:=0) [19,20] [] 0 U au (.cn 19 U (Y.zo U U U) (.cn 20 U (Y.qf U U) (.nil (.done au (.ret (.rb U (df z2))))))))
 refine .cQ 5 U au U ae ae U U (.cQ 6 U au U ae ae U U (.cQ 7 U au U ae ae U U ?_))
 refine .cQ 8 U au U ae ae U U (.cQ 9 U au U ae ae U U (.one 10 U au (.pk ?_)))
 refine .nil ⟨U,(.blind 11 U au (ax.move U U) ae (.cQ 12 U au U ae ae U U (.cQ 13 U au U ae ae U U ?_)))⟩
 refine .cQ 14 U au U ae ae U U (.cQ 15 U au U ae ae U U (.cQ 16 U au U ae ae U U ?_))
 refine .cQ 17 U au U ae ae U U (.cQ 18 U au U ae ae U U (.bP (n:=0) [19,20] [] 0 U au ?_))
 exact .cn 19 U (Y.zo U U U) (.cn 20 U (Y.qf U U) (.nil (.done au (.ret (.rb rfl (df z2))))))
 refine .sr (.vl (Y.ql U U) (.an (.nil ?_)))
 refine .aA U (fun PL=>?_) (fun PL=>?_)
 have hk:=Fa.k5 PL
 refine .sr (.mv ?_)
 refine .vl (Y.qt (m:=0) a7 U U bc aG) (.vl (Y.za bj U (aM (d:=0) om) U U) (.mv ?_))
 refine .vl (Y.ql U U) (.mv ?_)
 refine .aC (d:=173) U (fun TQ=>?_) (fun TQ=>?_)
 refine .gw 173 (Y.zh U U) (.gw 173 (Y.qt (m:=1) a7 U U bc om) (.gw 173 (Y.za bj U (aM (d:=0) om) U U) (.gw 173 (Y.zh U U) (.gw 173 (Y.ql U U) (.pk ?_)))))
 refine .an (.nil (.ret ?_))
 exact .rb rfl (dd z2)
 refine .gz 173 (.gz 173 (.gz 173 (.gz 173 (.gz 173 (.pk ?_)))))
 refine .an (.nil (.ret ?_))
 exact .rb rfl (df z2)
 refine .sr (.vl (Y.ql U U) (.an (.nil ?_)))
 refine .aA U (fun IJ=>?_) (fun IJ=>?_)
 have hk:=Fa.k6 IJ
 refine .sr (.mv ?_)
 refine .vl (Y.qt (m:=0) a7 U U bc aG) (.vl (Y.za bj U (aM (d:=0) om) U U) (.vl (Y.ql U U) (.mv ?_)))
 refine .aC (d:=186) U (fun L5=>?_) (fun L5=>?_)
 refine .gw 186 (Y.qp gZ U U) (.gw 186 (Y.za pW U U U U) (.gw 186 (Y.qp dv U U) (.gw 186 (Y.za bj U U U U) (.gw 186 (Y.qs (m:=(c.mem).toNat) mV U U om (ao (d:=default) om)) (.gw 186 (Y.qp rJ U U) (.gw 186 (Y.za bj U U U U) (.gw 186 (Y.zh U U) (.gw 186 (Y.ql U U) (.pk ?_)))))))))
 refine .an (.nil (.ret ?_))
 exact .rb rfl (dd z2)
 refine .gz 186 (.gz 186 (.gz 186 (.gz 186 (.gz 186 (.gz 186 (.gz 186 (.gz 186 (.gz 186 (.pk ?_)))))))))
 refine .an (.nil (.ret ?_))
 exact .rb rfl (df z2)
 refine .sr (.vl (Y.ql U U) (.an (.nil ?_)))
 refine .aA U (fun PM=>?_) (fun PM=>?_)
 have hk:=Fa.k7 PM
 refine .seq (.gy U au (.val (Y.zh U U) ae (.val (Y.qt (m:=0) a7 U U bc om) ae (.val (Y.za bj U (aM (d:=0) om) U U) ae (.val (Y.ql U U) ae (.val (Y.zh U U) ae (.aC (d:=203) U (fun TR=>?_) (fun TR=>?_))))))))
 refine .bn (d:=203) U ae U (.val (Y.qp gZ U U) ae (.bn (d:=203) U ae U ?_))
 refine .val (Y.za pW U U U U) ae (.bn (d:=203) U ae U (.val (Y.qp dv U U) ae (.bn (d:=203) U ae U (.val (Y.za bj U U U U) ae (.bn (d:=203) U ae U ?_)))))
 refine .val (Y.qs (m:=(c.mem).toNat) mV U U om (ao (d:=default) om)) ae (.bn (d:=203) U ae U (.val (Y.qp rJ U U) ae (.bn (d:=203) U ae U ?_)))
 exact .val (Y.za bj U U U U) ae (.bn (d:=203) U ae U (.val (Y.zh U U) ae (.bn (d:=203) U ae U (.val (Y.qt (m:=2) a7 U U bc om) ae (.bn (d:=203) U ae U (.val (Y.za bj U (aM (d:=0) om) U U) ae (.bn (d:=203) U ae U (.val (Y.ql U U) ae (.val (Y.zo U U U) ae (.val (Y.qf U U) ae (.nil (.ret (.rb rfl (dd z2))))))))))))))
 refine .aV (d:=203) U ae ae U U (.aV (d:=203) U ae ae U U (.aV (d:=203) U ae ae U U ?_))
 refine .aV (d:=203) U ae ae U U (.aV (d:=203) U ae ae U U (.aV (d:=203) U ae ae U U ?_))
 refine .aV (d:=203) U ae ae U U (.aV (d:=203) U ae ae U U (.aV (d:=203) U ae ae U U ?_))
 exact .aV (d:=203) U ae ae U U (.aV (d:=203) U ae ae U U (.val (Y.zo U U U) ae (.val (Y.qf U U) ae (.nil (.ret (.rb rfl (df z2)))))))
 refine .sr (.vl (Y.ql U U) (.an (.nil ?_)))
 refine .aA U (fun PN=>?_) (fun PN=>?_)
 have hk:=Fa.k8 PN
 refine .sr (.fa lb ?_)
 refine .ld bt ?_
 refine .fa eB ?_
 refine .ld iY ?_
 refine .vl (Y.qs (m:=c.num) a7 U U bc (ao (d:=0) om)) (.ld bj ?_)
 refine .mv ?_
 refine .vl (Y.ql U U) (.an (.nil (.ret ?_)))
 exact .rb rfl (dd z2)
 refine .sr (.vl (Y.ql U U) (.an (.nil ?_)))
 refine .aA U (fun TS=>?_) (fun TS=>?_)
 refine .sr (.mv ?_)
 refine .vl (Y.ql U U) (.an (.nil (.ret ?_)))
 exact .rb rfl (dd z2)
 have Ri:c.kind = 10:=by have:=Fa.kind; omega
 have hk:=Fa.Ri Ri
 refine .skip (.sr (.fa eS ?_))
 refine .ld lT ?_
 refine .fa dv ?_
 refine .ld bj ?_
 refine .vl (Y.qs (m:=(c.mem).toNat) jH U U om (ao (d:=default) om)) (.fa rK ?_)
 refine .ld bj ?_
 refine .mv ?_
 refine .vl (Y.ql U U) (.an (.nil (.ret ?_)))
 exact .rb rfl (dd (by (simp only [Fits,ek,jY,<- yA,Ri,Int.reduceEq,Bool.not_eq_true,false_and,true_and,and_true,and_false,or_false,false_or,ne_eq]) <;> omega))
open Go Go.AW Go.Proofs
theorem xi{n:ab}{c:Cell}(hs:n.Small)(hf:bh n)(hc:c ∈ n.cells):aw Try.prog 163 [.agg (Cell.row c),.fp (ab.row n) 0] [] [] (fun r o=>r = .v (.bool (!decide (Fits n c))) /\ o = []):=by
 refine aw.of Try.func163 U U U (n:=8) ae (aH U) (.sr (.box 102 U U U U U ae ?_))
 refine .an ?_
 refine .nil (.sr (.vl (Y.zb gm U U (aH U) U U) (.vl (Y.zb fA U U (aH U) U U) (.aZ O3 (Dc (n:=n) (c:=c) hs (hs.args _ hc) (hs.Ew _ hc) (hf.cell hc).2.1 (hf.cell hc).NY) U (.aj U U (.aj U U .nil)) ae U (.vl (Y.zn U) (.an (.nil (.ret ?_))))))))
 exact .rb rfl (rfl)
theorem yB{n:ab}(hs:n.Small)(hf:bh n):aw Try.prog 109 [.agg (ab.row n)] [] [] (fun r o=>r = .v (.bool (decide (Fit n))) /\ o = []):=by
 refine aw.of Try.func109 U U U (n:=63) ae (aH U) ?_
 have WO:=hf.fi; have YC:=hf.kI; have RE:=hf.dh; have R7:=hf.freeze; have R8:=hf.done; unfold In at R7 R8; have T4:=hf.ew; have YD:=hf.eK
 refine .sr (.box 101 U U U U U ae ?_)
 refine .an ?_
 refine .nil (.seq (.sr (.fa bO ?_)))
 refine .ld bt ?_
 refine .fa sC ?_
 refine .ld bj ?_
 refine .vl (Y.qs (m:=(n.freeze).toNat) a7 U U om (ao (d:=0) om)) (.ld bj ?_)
 refine .vl (Y.zl U U) (.mv ?_)
 refine .aC (d:=12) U (fun Ci=>?_) (fun Ci=>?_)
 refine .gz 12 (.gz 12 (.gz 12 (.gz 12 (.gz 12 (.gz 12 (.gz 12 (.pk ?_)))))))
 refine .nil (.aO U (.sr (.an (.nil (.ret ?_)))))
 exact .rb rfl (df (fun h=>by have h1:=h.freeze; have h2:=h.done; unfold ab.wd at h1 h2; first | contradiction | omega))
 refine .gw 12 (Y.qp bO U U) (.gw 12 (Y.za bt U U U U) (.gw 12 (Y.qp wS U U) (.gw 12 (Y.za bj U U U U) (.gw 12 (Y.qs (m:=(n.done).toNat) a7 U U om (ao (d:=0) om)) (.gw 12 (Y.za bj U U U U) (.gw 12 (Y.zl U U) (.pk ?_)))))))
 refine .nil (.aA U (fun PC=>?_) (fun PC=>?_))
 refine .sr (.an (.nil (.ret ?_)))
 exact .rb rfl (df (fun h=>by have h1:=h.freeze; have h2:=h.done; unfold ab.wd at h1 h2; first | contradiction | omega))
 refine .skip (.seq (.sr (.fa eS ?_)))
 refine .ld lT ?_
 refine .vl (Y.qx (n:=n.streams.length) jH U fV) (.mv ?_)
 refine .nil (.block (.jt (fun (gO:Nat)=>⟨[(1,.ptr 101 0 0 0),(22,.fz 3 (n.streams.map bE.row)),(23,vi n.streams.length),(24,vi gO)],[(101,.cells (ab.row n))]⟩) (fun gO=>((gO:Int) <= (n.streams.length:Int)) /\ (∀ j,j < gO -> oU n j)) (fun gO=>((n.streams.length:Int) - (gO:Int)).toNat) 0 (⟨om,fun j hj=>by omega⟩) (Le.mk (.c2 (.c (.cons (ak U bc) .nil))) (.c .nil)) (fun gO AA=>?_)))
 obtain ⟨FQ,DS⟩:=AA
 refine .sr (.vl (Y.zc U U) (.nil (.seq (.aA U (fun L9=>?_) (fun L9=>?_)))))
 refine .skip (.lk (fun (AG:Bool) (AH:Bool)=>⟨[(1,.ptr 101 0 0 0),(22,.fz 3 (n.streams.map bE.row)),(23,vi n.streams.length),(24,vi gO),(40,.ptr 104 0 0 2),(41,.v (.bool ((n.streams.getD gO default).out))),(42,.v (.bool AG)),(55,.v (.bool AH))],[(101,.cells (ab.row n)),(104,.cells [.v (.string ((n.streams.getD gO default).name)),vi ((n.streams.getD gO default).width),.v (.bool ((n.streams.getD gO default).out))])]⟩) (fun AG AH=>oU n gO) ?_ (fun AG AH IK=>?_))
 refine .block (.sr (.mv ?_))
 refine .vl (Y.qs (m:=gO) jH U U bc (ao (d:=default) om)) (.vl (Y.zb J8 U U (aH U) U U) (.alloc 104 ny U U ae ?_))
 refine .an ?_
 refine .ai J9 U U U U U U (aH U) U (.nil (.seq (.gy U au ?_)))
 obtain ⟨_,_,TL,PO,_⟩:=hf.strs gO om
 unfold In at TL PO
 refine .val (Y.qp bO U U) ae (.val (Y.za bt U U U U) ae (.val (Y.qp oW U U) ae (.val (Y.za bt U U U U) ae (.val (Y.zh U U) ae (.val (Y.qs (m:=gO) a7 U U bc (ao (d:=0) om)) ae (.val (Y.za bj U U U U) ae (.val (Y.qs (m:=(n.bB.getD gO 0).toNat) a7 U U om (ao (d:=0) om)) ae (.val (Y.za bj U U U U) ae (.val (Y.zl U U) ae (.val (Y.zh U U) ae (.aC (d:=39) U (fun sH=>?_) (fun sH=>?_))))))))))))
 refine .aV (d:=39) U ae ae U U (.aV (d:=39) U ae ae U U (.aV (d:=39) U ae ae U U ?_))
 refine .aV (d:=42) U ae ae U U (.aV (d:=42) U ae ae U U (.aV (d:=42) U ae ae U U ?_))
 refine .aV (d:=42) U ae ae U U (.aV (d:=42) U ae ae U U (.aV (d:=42) U ae ae U U ?_))
 refine .aV (d:=42) U ae ae U U (.aV (d:=42) U ae ae U U (.aV (d:=42) U ae ae U U ?_))
 refine .aV (d:=42) U ae ae U U (.aV (d:=42) U ae ae U U (.aV (d:=42) U ae ae U U ?_))
 refine .aV (d:=39) U ae ae U U (.val (Y.zo U U U) ae (.nil (.aO U (.sr (.an (.nil (.ret ?_)))))))
 exact .rb rfl (df (fun h=>by have h1:=h.strs gO om; unfold oU ab.wd at h1; grind))
 refine .bn (d:=39) U ae U (.val (Y.qp k9 U U) ae (.bn (d:=39) U ae U ?_))
 refine .val (Y.za Af U U U U) ae (.bn (d:=39) U ae U (.val (Y.zh U U) ae (.split (d:=42) U (fun Hf=>?_) (fun Hf=>?_))))
 have hd2:=PO ej
 refine .bn (d:=42) U ae U (.val (Y.qp bO U U) ae (.bn (d:=42) U ae U ?_))
 refine .val (Y.za bt U U U U) ae (.bn (d:=42) U ae U (.val (Y.qp oX U U) ae (.bn (d:=42) U ae U (.val (Y.za bt U U U U) ae (.bn (d:=42) U ae U ?_)))))
 refine .val (Y.zh U U) ae (.bn (d:=42) U ae U ?_)
 refine .val (Y.qs (m:=gO) a7 U U bc (ao (d:=0) om)) ae (.bn (d:=42) U ae U (.val (Y.za bj U U U U) ae (.bn (d:=42) U ae U ?_)))
 refine .val (Y.qs (m:=(n.data.getD gO 0).toNat) a7 U U om (ao (d:=0) om)) ae (.bn (d:=42) U ae U (.val (Y.za bj U U U U) ae (.bn (d:=42) U ae U ?_)))
 refine .val (Y.qp rK U U) ae (.bn (d:=42) U ae U (.val (Y.za bj U U U U) ae (.bn (d:=42) U ae U (.val (Y.zl U U) ae (.bn (d:=39) U ae U ?_)))))
 refine .val (Y.zo U U U) ae (.val (Y.zo U U U) ae (.nil (.aA U (fun TM=>?_) (fun TM=>?_))))
 refine .sr (.an (.nil (.ret ?_)))
 exact .rb rfl (df (fun h=>by have h1:=h.strs gO om; unfold oU ab.wd at h1; grind))
 refine .skip ⟨true,decide ((n.aa.getD ((n.data.getD gO 0).toNat) 0) ≠ ((n.streams.getD gO default).width)),by unfold oU ab.wd; grind,Le.mk (.c4 (.c2 (.cons (a9 U eG) (.cons (a9 U eG) .nil)))) (.c (.c .nil))⟩
 refine .aV (d:=42) U ae ae U U (.aV (d:=42) U ae ae U U (.aV (d:=42) U ae ae U U ?_))
 refine .aV (d:=42) U ae ae U U (.aV (d:=42) U ae ae U U (.aV (d:=42) U ae ae U U ?_))
 refine .aV (d:=42) U ae ae U U (.aV (d:=42) U ae ae U U (.aV (d:=42) U ae ae U U ?_))
 refine .aV (d:=42) U ae ae U U (.aV (d:=42) U ae ae U U (.aV (d:=42) U ae ae U U ?_))
 exact .bn (d:=39) U ae U (.val (Y.zo U U U) ae (.val (Y.zo U U U) ae (.nil (.cZ U (.skip ⟨false,false,by unfold oU ab.wd; grind,Le.mk (.c4 (.c2 (.cons (a9 U eG) (.cons (a9 U eG) .nil)))) (.c (.c .nil))⟩)))))
 refine .region (.vl (Y.qb U U aG) (.mv ?_))
 refine .nil (⟨gO + 1,⟨om,gW DS IK⟩,om,Le.mk (.c2 (.c (.cons (ak U bc) .nil))) (.c .nil)⟩)
 refine .exit (.sr (.fa bX ?_))
 refine .ld gk ?_
 refine .sh (Sh.eQ 101 U U) (.vl (Y.zd U U U U) (.aZ O1 (oE (l:=n.cells) (p:=fun z=>!decide (Fits n z)) (om) O2 (fun z hz=>xi hs hf hz)) U (.aj U U (.aj U U .nil)) ae U ?_))
 refine .vl (Y.zn U) (.an (.nil (.ret ?_)))
 exact .rb rfl (db (xU (by unfold ab.wd; omega) (by unfold ab.wd; omega) (fun j hj=>DS j om)))
open Go Go.AW Go.Proofs
theorem vf{n:ab}(hs:n.Small)(MF:n.aa.length + n.ins.length <= 17592186044416):aw Try.prog 52 [.agg (ab.row n)] [] [] (fun r o=>∃ (l:List Int) (e:Int),lR n l e /\ r = .tup [.dH 1 (l.map ah),vi e] /\ o = []):=by
 refine aw.of Try.func52 U U U (n:=169) ae (aH U) (.sr (.box 101 U U U U U ae ?_))
 refine .an ?_
 refine .an ?_
 refine .nil (.seq (.sr (.vl (Y.zb gm U U (aH U) U U) (.aZ Ot (y8 (n:=n) hs (om)) U (.aj U U .nil) ae U ?_))))
 refine .vl (Y.zn U) (.nil (.lh U (fun pa=>?_) (fun pa=>?_)))
 refine .sr (.an ?_)
 refine .an ?_
 exact .nil (.sh (Sh.v9 (d:=2) 1 U) (.ret (⟨_,_,U,U,([]:List Int),3,.inl ⟨ej,U,U⟩,U,U⟩)))
 have hf:bh n:=by assumption
 refine .skip (.seq (.sr (.vl (Y.zb gm U U (aH U) U U) (.aZ Ou (yB (n:=n) hs ej) U (.aj U U .nil) ae U (.vl (Y.zn U) (.nil (.lh U (fun L9=>?_) (fun L9=>?_))))))))
 refine .sr (.an ?_)
 refine .an ?_
 exact .nil (.sh (Sh.v9 (d:=2) 1 U) (.ret (⟨_,_,U,U,([]:List Int),13,.inr (.inl ⟨ej,ej,U,U⟩),U,U⟩)))
 have Lx:Fit n:=by assumption
 have QT:=hf.eK; have Nk:=hf.ew
 refine .skip (.sr (.an ?_))
 refine .sh (Sh.nil (d:=4) 104 1 U ae) (.nil (.sr (.fa bX ?_)))
 refine .ld gk ?_
 refine .vl (Y.qx (n:=n.cells.length) dV U fV) (.makeSlice (n:=n.cells.length) a7 dD U U U U om om ae ?_)
 refine .bQ U ae (.sh (Sh.dr (d:=5) (n:=n.cells.length) 105 ((List.replicate n.cells.length 0).map ah) U iJ (aU (by simp)) ae) (.nil (.sr (.fa bO ?_))))
 refine .ld bt ?_
 refine .vl (Y.qx (n:=n.aa.length) a7 U fV) (.makeSlice (n:=n.aa.length) dI pX U U U U om om ae ?_)
 refine .sh (Sh.p8 (d:=33) 1 U) (.bQ U ae (.sh (Sh.dr (d:=6) (n:=n.aa.length) 106 ((List.replicate n.aa.length []).map iK) U iJ (aU (by simp)) ae) (.nil (.sr (.fa bO ?_)))))
 refine .ld bt ?_
 refine .vl (Y.qx (n:=n.aa.length) a7 U fV) (.makeSlice (n:=n.aa.length) sE SR U U U U om om ae ?_)
 refine .bQ U ae (.sh (Sh.dr (d:=7) (n:=n.aa.length) 107 ((List.replicate n.aa.length false).map jT) U iJ (aU (by simp)) ae) (.nil (.seq (.sr (.fa bX ?_)))))
 refine .ld gk ?_
 refine .vl (Y.qx (n:=n.cells.length) dV U fV) (.mv ?_)
 refine .nil (.block ?_)
 refine .iD (fun (ib:Nat) (eP:List Bool)=>⟨[(1,.ptr 101 0 0 0),(4,.aL 104 1 0 0),(5,.aL 105 1 0 n.cells.length),(6,.aL 106 1 0 n.aa.length),(7,.aL 107 1 0 n.aa.length),(39,.fz 6 (n.cells.map Cell.row)),(40,vi n.cells.length),(41,vi ib)],[(101,.cells (ab.row n)),(104,.rows 1 (([]:List Int).map ah)),(105,.rows 1 ((List.replicate n.cells.length 0).map ah)),(106,.rows 1 ((List.replicate n.aa.length []).map iK)),(107,.rows 1 (eP.map jT))]⟩) (fun ib eP=>(eP.length = n.aa.length) /\ ((ib:Int) <= (n.cells.length:Int)) /\ (fW n ib eP)) (fun ib eP=>((n.cells.length:Int) - (ib:Int)).toNat) 0 (List.replicate n.aa.length false) (⟨jR,jR,fW.init n⟩) (Le.mk (.c4 (.c2 (.c (.cons (ak U bc) .nil)))) (.c4 (.c .nil))) (fun ib eP L4=>?_)
 obtain ⟨Ka,T8,TT⟩:=L4
 refine .sr (.vl (Y.zc U U) (.nil (.seq (.aA U (fun Hf=>?_) (fun Hf=>?_)))))
 refine .skip (.iC (fun (lC:List Bool)=>⟨[(1,.ptr 101 0 0 0),(4,.aL 104 1 0 0),(5,.aL 105 1 0 n.cells.length),(6,.aL 106 1 0 n.aa.length),(7,.aL 107 1 0 n.aa.length),(39,.fz 6 (n.cells.map Cell.row)),(40,vi n.cells.length),(41,vi ib)],[(101,.cells (ab.row n)),(104,.rows 1 (([]:List Int).map ah)),(105,.rows 1 ((List.replicate n.cells.length 0).map ah)),(106,.rows 1 ((List.replicate n.aa.length []).map iK)),(107,.rows 1 (lC.map jT))]⟩) (fun lC=>(lC.length = n.aa.length) /\ (fW n (ib + 1) lC)) ?_ (fun lC PQ=>?_))
 refine .block (.sr (.vl (Y.qs (m:=ib) dV U U bc (ao (d:=default) om)) (.vl (Y.zb fA U U (aH U) U U) (.alloc 109 ez U U ae (.ai g6 U U U U U U (aH U) U ?_)))))
 refine .nil (.sr (.fa dC ?_))
 refine .ld bj ?_
 refine .aZ HT (pF (w:=((n.cells.getD ib default).kind))) U (.aj U U .nil) ae U (.nil (.aA U (fun LA=>?_) (fun LA=>?_)))
 have RH:=hf.fS (bD.la (n:=n) (i:=(ib:Int)) ⟨⟨om,om⟩,LA⟩)
 rw [oV] at RH
 have La:=RH; unfold In at La
 refine .region (.mv ?_)
 refine .fa eo ?_
 refine .ld bj ?_
 refine .vl (Y.qt (m:=((n.cells.getD ib default).out).toNat) sE U U om om) (.gU ((eP.set (((n.cells.getD ib default).out).toNat) true).map jT) Rn U U U U U U U (aM (d:=false) om) (aH U) (e9 U) (.nil (⟨eP.set (((n.cells.getD ib default).out).toNat) true,⟨jR,TT.step om Ka LA RH⟩,Le.mk (.c4 (.c2 (.c (.c .nil)))) (.c4 (.c .nil))⟩)))
 refine .skip (⟨eP,⟨om,TT.skip LA⟩,Le.mk (.c4 (.c2 (.c (.c .nil)))) (.c4 (.c .nil))⟩)
 obtain ⟨MH,IL⟩:=PQ
 refine .region (.vl (Y.qb U U om) (.mv ?_))
 refine .nil (⟨ib + 1,lC,⟨om,om,IL⟩,om,Le.mk (.c4 (.c2 (.c (.cons (ak U bc) .nil)))) (.c4 (.c .nil))⟩)
 refine .exit (.seq (.seq ?_))
 have PR:fW n n.cells.length eP:=by rw [show n.cells.length = ib by omega]; exact TT
 refine .region (.fa bX ?_)
 refine .ld gk ?_
 refine .vl (Y.qx (n:=n.cells.length) dV U fV) (.mv ?_)
 refine .nil (.block ?_)
 refine .iD (fun (ic:Nat) (fj:List Int)=>⟨[(1,.ptr 101 0 0 0),(4,.aL 104 1 0 fj.length),(5,.aL 105 1 0 n.cells.length),(6,.aL 106 1 0 n.aa.length),(7,.aL 107 1 0 n.aa.length),(54,.fz 6 (n.cells.map Cell.row)),(55,vi n.cells.length),(56,vi ic)],[(101,.cells (ab.row n)),(104,.rows 1 (fj.map ah)),(105,.rows 1 ((List.replicate n.cells.length 0).map ah)),(106,.rows 1 ((List.replicate n.aa.length []).map iK)),(107,.rows 1 (eP.map jT))]⟩) (fun ic fj=>((ic:Int) <= (n.cells.length:Int)) /\ (fj = j6 n ic)) (fun ic fj=>((n.cells.length:Int) - (ic:Int)).toNat) 0 ([]:List Int) (⟨jR,U⟩) (Le.mk (.c (.cons (aN U jR) (.c4 (.c (.cons (ak U bc) .nil))))) (.c4 (.c .nil))) (fun ic fj Ga=>?_)
 obtain ⟨PS,RI⟩:=Ga
 refine .sr (.vl (Y.zc U U) (.nil (.seq (.aA U (fun DG=>?_) (fun DG=>?_)))))
 refine .skip (.iC (fun (n6:List Int)=>⟨[(1,.ptr 101 0 0 0),(4,.aL 104 1 0 n6.length),(5,.aL 105 1 0 n.cells.length),(6,.aL 106 1 0 n.aa.length),(7,.aL 107 1 0 n.aa.length),(54,.fz 6 (n.cells.map Cell.row)),(55,vi n.cells.length),(56,vi ic)],[(101,.cells (ab.row n)),(104,.rows 1 (n6.map ah)),(105,.rows 1 ((List.replicate n.cells.length 0).map ah)),(106,.rows 1 ((List.replicate n.aa.length []).map iK)),(107,.rows 1 (eP.map jT))]⟩) (fun n6=>n6 = j6 n (ic + 1)) ?_ (fun n6 LC=>?_))
 refine .block (.sr (.mv ?_))
 refine .vl (Y.qs (m:=ic) dV U U bc (ao (d:=default) om)) (.vl (Y.zb fA U U (aH U) U U) (.alloc 111 ez U U ae ?_))
 refine .an ?_
 refine .ai g6 U U U U U U (aH U) U (.nil (.sr ?_))
 have M0:=E6 n ic; rw [<- RI] at M0
 refine .fa dC ?_
 refine .ld bj ?_
 refine .aZ HT (pF (w:=((n.cells.getD ic default).kind))) U (.aj U U .nil) ae U (.vl (Y.zn U) (.nil (.lh U (fun Kb=>?_) (fun Kb=>?_))))
 refine .region (.mv ?_)
 refine .mv ?_
 refine .buildSlice (([(ic:Int)]:List Int).map ah) a7 dD U U U U U (aq (s:=1) (f:=ah) (fun _=>U)) U U U ae ?_
 refine .cL ah (fj ++ ([(ic:Int)]:List Int)) a7 dD U U U U (bg jR) (aR jR) (bz jR) jR jR ae ae ?_
 refine .an ?_
 refine .nil ⟨fj ++ ([(ic:Int)]:List Int),by rw [vZ,if_neg Kb,RI],Le.mk (.c (.cons (aN U om) (.c4 (.c (.c .nil))))) (.c4 (.c .nil))⟩
 refine .skip ⟨fj,by rw [vZ,if_pos Kb,RI,List.append_nil],Le.mk (.c (.cons (aN U om) (.c4 (.c (.c .nil))))) (.c4 (.c .nil))⟩
 refine .region (.vl (Y.qb U U om) (.mv ?_))
 refine .nil (⟨ic + 1,n6,⟨om,LC⟩,om,Le.mk (.c (.cons (aN U om) (.c4 (.c (.cons (ak U bc) .nil))))) (.c4 (.c .nil))⟩)
 refine .exit (.sr (.an ?_))
 refine .sh (Sh.nil (d:=12) 112 1 U ae) (.nil (.seq (.sr (.fa bX ?_))))
 refine .ld gk ?_
 refine .vl (Y.qx (n:=n.cells.length) dV U fV) (.mv ?_)
 refine .nil (.block ?_)
 refine .Bs (fun (bI:Nat) (dm:List Int) (bp:List (List Int)) (dE:List Int)=>⟨[(1,.ptr 101 0 0 0),(4,.aL 104 1 0 fj.length),(5,.aL 105 1 0 n.cells.length),(6,.aL 106 1 0 n.aa.length),(7,.aL 107 1 0 n.aa.length),(12,.aL 112 1 0 dE.length),(71,.fz 6 (n.cells.map Cell.row)),(72,vi n.cells.length),(73,vi bI)],[(101,.cells (ab.row n)),(104,.rows 1 (fj.map ah)),(105,.rows 1 (dm.map ah)),(106,.rows 1 (bp.map iK)),(107,.rows 1 (eP.map jT)),(112,.rows 1 (dE.map ah))]⟩) (fun bI dm bp dE=>(dm.length = n.cells.length) /\ (bp.length = n.aa.length) /\ ((bI:Int) <= (n.cells.length:Int)) /\ (BI n bI dm bp dE)) (fun bI dm bp dE=>((n.cells.length:Int) - (bI:Int)).toNat) 0 (List.replicate n.cells.length 0) (List.replicate n.aa.length []) ([]:List Int) (⟨jR,jR,jR,BI.init n⟩) (Le.mk (.c4 (.c (.cons (aN U jR) (.c2 (.cons (ak U bc) .nil))))) (.c4 (.c (.c .nil)))) (fun bI dm bp dE LF=>?_)
 obtain ⟨w8,Cj,TU,LG⟩:=LF
 refine .sr (.vl (Y.zc U U) (.nil (.seq (.aA U (fun PT=>?_) (fun PT=>?_)))))
 refine .skip (.Br (fun (gd:List Int) (ks:List (List Int)) (j1:List Int)=>⟨[(1,.ptr 101 0 0 0),(4,.aL 104 1 0 fj.length),(5,.aL 105 1 0 n.cells.length),(6,.aL 106 1 0 n.aa.length),(7,.aL 107 1 0 n.aa.length),(12,.aL 112 1 0 j1.length),(71,.fz 6 (n.cells.map Cell.row)),(72,vi n.cells.length),(73,vi bI)],[(101,.cells (ab.row n)),(104,.rows 1 (fj.map ah)),(105,.rows 1 (gd.map ah)),(106,.rows 1 (ks.map iK)),(107,.rows 1 (eP.map jT)),(112,.rows 1 (j1.map ah))]⟩) (fun gd ks j1=>(gd.length = n.cells.length) /\ ((ks.length = n.aa.length) /\ (BI n (bI + 1) gd ks j1))) ?_ (fun gd ks j1 PU=>?_))
 refine .block (.sr (.mv ?_))
 refine .vl (Y.qs (m:=bI) dV U U bc (ao (d:=default) om)) (.vl (Y.zb fA U U (aH U) U U) (.alloc 114 ez U U ae ?_))
 refine .an ?_
 refine .ai g6 U U U U U U (aH U) U (.nil (.seq (.sr ?_)))
 have YH:=hs.args (n.cells.getD bI default) (iw om)
 have Kv:=LG.rl
 refine .fa dC ?_
 refine .ld bj ?_
 refine .aZ HT (pF (w:=((n.cells.getD bI default).kind))) U (.aj U U .nil) ae U (.vl (Y.zn U) (.nil (.lh U (fun Kc=>?_) (fun Kc=>?_))))
 refine .exit (⟨dm,bp,dE,⟨om,⟨om,LG.skip om Kc⟩⟩,Le.mk (.c4 (.c (.cons (aN U om) (.c2 (.c .nil))))) (.c4 (.c (.c .nil)))⟩)
 refine .skip (.seq (.sr (.fa bU ?_)))
 refine .ld bt ?_
 refine .vl (Y.qx (n:=((n.cells.getD bI default).args).length) a7 U fV) (.mv ?_)
 refine .nil (.block ?_)
 refine .eh (fun (eM:Nat) (cR:List Int) (dQ:List (List Int))=>⟨[(1,.ptr 101 0 0 0),(4,.aL 104 1 0 fj.length),(5,.aL 105 1 0 n.cells.length),(6,.aL 106 1 0 n.aa.length),(7,.aL 107 1 0 n.aa.length),(12,.aL 112 1 0 dE.length),(13,vi bI),(71,.fz 6 (n.cells.map Cell.row)),(72,vi n.cells.length),(73,vi bI),(83,.fz 1 (((n.cells.getD bI default).args).map ah)),(84,vi ((((n.cells.getD bI default).args).length:Nat):Int)),(85,vi eM)],[(101,.cells (ab.row n)),(104,.rows 1 (fj.map ah)),(105,.rows 1 (cR.map ah)),(106,.rows 1 (dQ.map iK)),(107,.rows 1 (eP.map jT)),(112,.rows 1 (dE.map ah))]⟩) (fun eM cR dQ=>(cR.length = n.cells.length) /\ (dQ.length = n.aa.length) /\ ((eM:Int) <= ((((n.cells.getD bI default).args).length:Nat):Int)) /\ (BJ n bI eM dm bp cR dQ)) (fun eM cR dQ=>(((((n.cells.getD bI default).args).length:Nat):Int) - (eM:Int)).toNat) 0 dm bp (⟨om,om,om,BJ.init LG om⟩) (Le.mk (.c8 (.c4 (.cons (ak U bc) .nil))) (.c4 (.c (.c .nil)))) (fun eM cR dQ L6=>?_)
 obtain ⟨w8,Cj,TN,MI⟩:=L6
 refine .sr (.vl (Y.zc U U) (.nil (.seq (.aA U (fun TV=>?_) (fun TV=>?_)))))
 refine .skip ?_
 refine .lk (fun (gf:List Int) (kt:List (List Int))=>⟨[(1,.ptr 101 0 0 0),(4,.aL 104 1 0 fj.length),(5,.aL 105 1 0 n.cells.length),(6,.aL 106 1 0 n.aa.length),(7,.aL 107 1 0 n.aa.length),(12,.aL 112 1 0 dE.length),(13,vi bI),(71,.fz 6 (n.cells.map Cell.row)),(72,vi n.cells.length),(73,vi bI),(83,.fz 1 (((n.cells.getD bI default).args).map ah)),(84,vi ((((n.cells.getD bI default).args).length:Nat):Int)),(85,vi eM)],[(101,.cells (ab.row n)),(104,.rows 1 (fj.map ah)),(105,.rows 1 (gf.map ah)),(106,.rows 1 (kt.map iK)),(107,.rows 1 (eP.map jT)),(112,.rows 1 (dE.map ah))]⟩) (fun gf kt=>(gf.length = n.cells.length) /\ ((kt.length = n.aa.length) /\ (BJ n bI (eM + 1) dm bp gf kt))) ?_ (fun gf kt PV=>?_)
 refine .block (.sr (.vl (Y.qs (m:=eM) a7 U U bc (ao (d:=0) om)) (.ld bj ?_)))
 refine .an (.nil (.sr ?_))
 have MJ:=hf.kJ (i:=(bI:Int)) ⟨om,om⟩ (bC (i:=eM) (by rw [oV]; omega))
 rw [oV] at MJ
 have TW:=MJ; unfold In at TW
 have MA:=MI.KD
 have IM:=BJ.len LG MI MJ
 have RJ:=E8 hs (bI + 1); rw [uA om] at RJ
 refine .mv ?_
 refine .mv ?_
 refine .vl (Y.qt (m:=(((n.cells.getD bI default).args).getD eM 0).toNat) sE U U om om) (.vl (Y.za Af U (aM (d:=false) om) U U) (.nil (.cond U (fun RK=>?_) (fun RK=>?_))))
 refine .sr (.mv ?_)
 refine .mv ?_
 refine .vl (Y.qt (m:=bI) a7 U U bc om) (.vl (Y.za bj U (aM (d:=0) jR) U U) (.vl (Y.qb U U om) (.vl (Y.qt (m:=bI) a7 U U bc om) (.gU ((cR.set bI ((cR.getD bI 0) + 1)).map ah) dS U U U U U U U (aM (d:=0) om) (aH U) (e9 U) ?_))))
 refine .nil (.region (.mv ?_))
 refine .mv ?_
 refine .mv ?_
 refine .mv ?_
 refine .vl (Y.qt (m:=(((n.cells.getD bI default).args).getD eM 0).toNat) dI U U om om) (.NW ((dQ.map iK).set (0 + ((((n.cells.getD bI default).args).getD eM 0).toNat)) [.no]) bt U U (aM (d:=[]) om) U U ae ?_)
 refine .mv ?_
 refine .buildSlice (([(bI:Int)]:List Int).map ah) a7 dD U U U U U (aq (s:=1) (f:=ah) (fun _=>U)) U U U ae ?_
 refine .sh (Sh.dr (d:=104) (n:=(dQ.getD ((((n.cells.getD bI default).args).getD eM 0).toNat) []).length) 204 ((dQ.getD ((((n.cells.getD bI default).args).getD eM 0).toNat) []).map ah) U iJ (aU U) ae) (.cL ah ((dQ.getD ((((n.cells.getD bI default).args).getD eM 0).toNat) []) ++ ([(bI:Int)]:List Int)) a7 dD U U U U (bg jR) (aR jR) (bz jR) jR jR ae ae (.vl (Y.qt (m:=(((n.cells.getD bI default).args).getD eM 0).toNat) dI U U om om) (.sh (Sh.dA (d:=107) (o:=204) U U (aU om) ae) (.Bw ((dQ.set ((((n.cells.getD bI default).args).getD eM 0).toNat) ((dQ.getD ((((n.cells.getD bI default).args).getD eM 0).toNat) []) ++ ([(bI:Int)]:List Int))).map iK) fJ U U U (Bx om) ae (xQ U) (.nil (⟨cR.set bI ((cR.getD bI 0) + 1),dQ.set ((((n.cells.getD bI default).args).getD eM 0).toNat) ((dQ.getD ((((n.cells.getD bI default).args).getD eM 0).toNat) []) ++ ([(bI:Int)]:List Int)),⟨jR,⟨jR,MI.step om w8 Cj om MJ ((fW.all PR MJ).1 RK)⟩⟩,Le.mk (.c8 (.c4 (.c .nil))) (.c4 (.c (.c .nil)))⟩))))))
 refine .skip (⟨cR,dQ,⟨om,⟨om,MI.skip om (fun h=>by rw [(fW.all PR MJ).2 h] at RK; cases RK)⟩⟩,Le.mk (.c8 (.c4 (.c .nil))) (.c4 (.c (.c .nil)))⟩)
 obtain ⟨MK,ML,LH⟩:=PV
 refine .region (.vl (Y.qb U U om) (.mv ?_))
 refine .nil (⟨eM + 1,gf,kt,⟨om,om,om,LH⟩,om,Le.mk (.c8 (.c4 (.cons (ak U bc) .nil))) (.c4 (.c (.c .nil)))⟩)
 refine .exit (.sr (.mv ?_))
 refine .mv ?_
 refine .vl (Y.qt (m:=bI) a7 U U bc om) (.vl (Y.za bj U (aM (d:=0) jR) U U) (.vl (Y.ql U U) (.nil (.aA U (fun LI=>?_) (fun LI=>?_)))))
 refine .region (.mv ?_)
 refine .mv ?_
 refine .buildSlice (([(bI:Int)]:List Int).map ah) a7 dD U U U U U (aq (s:=1) (f:=ah) (fun _=>U)) U U U ae ?_
 refine .cL ah (dE ++ ([(bI:Int)]:List Int)) a7 dD U U U U (bg jR) (aR jR) (bz jR) jR jR ae ae ?_
 refine .an ?_
 refine .nil (⟨cR,dQ,dE ++ ([(bI:Int)]:List Int),⟨om,⟨om,(BJ.fin LG om Kc (by rw [show (n.cells.getD bI default).args.length = eM by omega]; exact MI)).1 LI⟩⟩,Le.mk (.c4 (.c (.cons (aN U om) (.c2 (.c .nil))))) (.c4 (.c (.c .nil)))⟩)
 refine .skip (⟨cR,dQ,dE,⟨om,⟨om,(BJ.fin LG om Kc (by rw [show (n.cells.getD bI default).args.length = eM by omega]; exact MI)).2 LI⟩⟩,Le.mk (.c4 (.c (.cons (aN U om) (.c2 (.c .nil))))) (.c4 (.c (.c .nil)))⟩)
 obtain ⟨MM,MN,TX⟩:=PU
 refine .region (.vl (Y.qb U U om) (.mv ?_))
 refine .nil (⟨bI + 1,gd,ks,j1,⟨om,om,om,TX⟩,om,Le.mk (.c4 (.c (.cons (aN U om) (.c2 (.cons (ak U bc) .nil))))) (.c4 (.c (.c .nil)))⟩)
 refine .exit (.seq (.block ?_))
 have LJ:BI n n.cells.length dm bp dE:=by rw [show n.cells.length = bI by omega]; exact LG
 have WQ:=LJ.us
 refine .sh (Sh.dA (d:=6) (o:=106) U U (aU om) ae) (.sh (Sh.zS (d:=6) (l:=bp) (f:=iK) (g:=dc) xR U) ?_)
 refine .eh (fun (g9:List Int) (fK:List Int) (aS:List Int)=>⟨[(1,.ptr 101 0 0 0),(4,.aL 104 1 0 g9.length),(5,.aL 105 1 0 n.cells.length),(6,.fz 1 (bp.map dc)),(12,.aL 112 1 0 aS.length)],[(101,.cells (ab.row n)),(104,.rows 1 (g9.map ah)),(105,.rows 1 (fK.map ah)),(112,.rows 1 (aS.map ah))]⟩) (fun g9 fK aS=>(fK.length = n.cells.length) /\ (∃ done,g9 = j6 n n.cells.length ++ done /\ KI n done aS fK)) (fun g9 fK aS=>n.cells.length - g9.length) fj dm dE (⟨om,⟨[],by rw [RI,show ic = n.cells.length by omega,List.append_nil],LJ.ki⟩⟩) (Le.mk (.c (.cons (aN U om) (.c2 (.cons (aN U om) .nil)))) (.c2 (.c (.c .nil)))) (fun g9 fK aS LL=>?_)
 obtain ⟨w8,hK⟩:=LL
 refine .seq (.sr (.mv ?_))
 refine .vl (Y.qx (n:=aS.length) a7 U U) (.vl (Y.qr U U) (.nil (.aA U (fun L7=>?_) (fun L7=>?_))))
 obtain ⟨done,kG,vz⟩:=hK
 have qG:=vz.len
 rw [<- kG] at qG
 have rp:=vz.cm (aS.getD 0 0) (List.mem_append.2 (.inr (bC om)))
 have Yu:=rp.1
 have IF:=hf.fS rp.la
 have TZ:=IF; unfold In ab.cell at TZ
 have yV:∀ x,bD n x -> (bp.getD (((n.cells.getD ((aS.getD 0 0).toNat) default).out).toNat) []).count x = (n.cell x).args.count (n.cell (aS.getD 0 0)).out:=fun x hx=>WQ.Oc _ x IF ⟨_,rp,rfl⟩ hx
 have RL:∀ x ∈ (bp.getD (((n.cells.getD ((aS.getD 0 0).toNat) default).out).toNat) []),bD n x:=fun x hx=>WQ.mem _ x IF hx
 have YM:=LJ.ul _ IF; unfold ab.cell at YM
 have RJ:=E8 hs n.cells.length
 refine .skip (.block (.sr (.mv ?_)))
 refine .vl (Y.qt (m:=0) a7 U U bc om) (.vl (Y.za bj U (aM (d:=0) jR) U U) (.an (.nil (.sr ?_))))
 refine .mv ?_
 refine .vl (Y.wa (l:=1) (h:=aS.length) a7 U (.some U) (.none _) om om) (.an ?_)
 refine .sh (Sh.Jx (d:=12) (o:=112) ((aS.drop 1).map ah) U U jR (CF jR) ae) (.nil (.sr (.mv ?_)))
 refine .mv ?_
 refine .buildSlice (([aS.getD 0 0]:List Int).map ah) a7 dD U U U U U (aq (s:=1) (f:=ah) (fun _=>U)) U U U ae ?_
 refine .cL ah (g9 ++ ([aS.getD 0 0]:List Int)) a7 dD U U U U (bg jR) (aR jR) (bz jR) jR jR ae ae ?_
 refine .an (.nil (.sr ?_))
 refine .mv ?_
 refine .fa bX ?_
 refine .ld gk ?_
 refine .mv ?_
 refine .vl (Y.qs (m:=(aS.getD 0 0).toNat) dV U U om (ao (d:=default) om)) (.fa eo ?_)
 refine .ld bj ?_
 refine .vl (Y.qs (m:=((n.cells.getD ((aS.getD 0 0).toNat) default).out).toNat) dI U U om (ao (d:=[]) om)) (.ld bt ?_)
 refine .vl (Y.qx (n:=(bp.getD (((n.cells.getD ((aS.getD 0 0).toNat) default).out).toNat) []).length) a7 U fV) (.mv ?_)
 refine .nil (.block ?_)
 refine .eh (fun (dw:Nat) (cy:List Int) (fL:List Int)=>⟨[(1,.ptr 101 0 0 0),(4,.aL 104 1 0 ((g9 ++ ([aS.getD 0 0]:List Int)).length)),(5,.aL 105 1 0 n.cells.length),(6,.fz 1 (bp.map dc)),(12,.aL 112 1 0 fL.length),(140,.fz 1 ((bp.getD (((n.cells.getD ((aS.getD 0 0).toNat) default).out).toNat) []).map ah)),(141,vi (((bp.getD (((n.cells.getD ((aS.getD 0 0).toNat) default).out).toNat) []).length:Nat):Int)),(142,vi dw)],[(101,.cells (ab.row n)),(104,.rows 1 ((g9 ++ ([aS.getD 0 0]:List Int)).map ah)),(105,.rows 1 (cy.map ah)),(112,.rows 1 (fL.map ah))]⟩) (fun dw cy fL=>(cy.length = n.cells.length) /\ ((dw:Int) <= (((bp.getD (((n.cells.getD ((aS.getD 0 0).toNat) default).out).toNat) []).length:Nat):Int)) /\ (KJ n done (aS.getD 0 0) (bp.getD (((n.cells.getD ((aS.getD 0 0).toNat) default).out).toNat) []) dw fL cy)) (fun dw cy fL=>((((bp.getD (((n.cells.getD ((aS.getD 0 0).toNat) default).out).toNat) []).length:Nat):Int) - (dw:Int)).toNat) 0 fK (aS.drop 1) (⟨jR,jR,KJ.init vz om⟩) (Le.mk (.c4 (.cons (aN U jR) (.c2 (.cons (ak U bc) .nil)))) (.c2 (.c (.c .nil)))) (fun dw cy fL Ua=>?_)
 obtain ⟨w8,YN,RM⟩:=Ua
 refine .sr (.vl (Y.zc U U) (.nil (.seq (.aA U (fun Ub=>?_) (fun Ub=>?_)))))
 refine .skip ?_
 refine .iC (fun (j2:List Int)=>⟨[(1,.ptr 101 0 0 0),(4,.aL 104 1 0 ((g9 ++ ([aS.getD 0 0]:List Int)).length)),(5,.aL 105 1 0 n.cells.length),(6,.fz 1 (bp.map dc)),(12,.aL 112 1 0 j2.length),(140,.fz 1 ((bp.getD (((n.cells.getD ((aS.getD 0 0).toNat) default).out).toNat) []).map ah)),(141,vi (((bp.getD (((n.cells.getD ((aS.getD 0 0).toNat) default).out).toNat) []).length:Nat):Int)),(142,vi dw)],[(101,.cells (ab.row n)),(104,.rows 1 ((g9 ++ ([aS.getD 0 0]:List Int)).map ah)),(105,.rows 1 ((cy.set (((bp.getD (((n.cells.getD ((aS.getD 0 0).toNat) default).out).toNat) []).getD dw 0).toNat) ((cy.getD (((bp.getD (((n.cells.getD ((aS.getD 0 0).toNat) default).out).toNat) []).getD dw 0).toNat) 0) - 1)).map ah)),(112,.rows 1 (j2.map ah))]⟩) (fun j2=>KJ n done (aS.getD 0 0) (bp.getD (((n.cells.getD ((aS.getD 0 0).toNat) default).out).toNat) []) (dw + 1) j2 (cy.set ((bp.getD (((n.cells.getD ((aS.getD 0 0).toNat) default).out).toNat) []).getD dw 0).toNat (cy.getD ((bp.getD (((n.cells.getD ((aS.getD 0 0).toNat) default).out).toNat) []).getD dw 0).toNat 0 - 1))) ?_ (fun j2 Uc=>?_)
 refine .block (.sr (.vl (Y.qs (m:=dw) a7 U U bc (ao (d:=0) om)) (.ld bj ?_)))
 refine .an (.nil (.sr ?_))
 have SC:=RM.bound hf hs om yV RL
 have hkr:=(RL _ (bC (l:=(bp.getD (((n.cells.getD ((aS.getD 0 0).toNat) default).out).toNat) [])) (i:=dw) om)).1
 refine .mv ?_
 refine .mv ?_
 refine .vl (Y.qt (m:=((bp.getD (((n.cells.getD ((aS.getD 0 0).toNat) default).out).toNat) []).getD dw 0).toNat) a7 U U om om) (.vl (Y.za bj U (aM (d:=0) jR) U U) (.vl (Y.wc U U om) (.vl (Y.qt (m:=((bp.getD (((n.cells.getD ((aS.getD 0 0).toNat) default).out).toNat) []).getD dw 0).toNat) a7 U U om om) (.gU ((cy.set (((bp.getD (((n.cells.getD ((aS.getD 0 0).toNat) default).out).toNat) []).getD dw 0).toNat) ((cy.getD (((bp.getD (((n.cells.getD ((aS.getD 0 0).toNat) default).out).toNat) []).getD dw 0).toNat) 0) - 1)).map ah) dS U U U U U U U (aM (d:=0) om) (aH U) (e9 U) ?_))))
 refine .nil (.sr (.mv ?_))
 refine .mv ?_
 refine .vl (Y.qt (m:=((bp.getD (((n.cells.getD ((aS.getD 0 0).toNat) default).out).toNat) []).getD dw 0).toNat) a7 U U om om) (.vl (Y.za bj U (aM (d:=0) jR) U U) (.vl (Y.ql U U) (.nil (.aA U (fun AI=>?_) (fun AI=>?_)))))
 rw [bx,if_pos ⟨rfl,om⟩] at AI
 refine .region (.mv ?_)
 refine .mv ?_
 refine .buildSlice (([(bp.getD (((n.cells.getD ((aS.getD 0 0).toNat) default).out).toNat) []).getD dw 0]:List Int).map ah) a7 dD U U U U U (aq (s:=1) (f:=ah) (fun _=>U)) U U U ae ?_
 refine .cL ah (fL ++ ([(bp.getD (((n.cells.getD ((aS.getD 0 0).toNat) default).out).toNat) []).getD dw 0]:List Int)) a7 dD U U U U (bg jR) (aR jR) (bz jR) jR jR ae ae ?_
 refine .an ?_
 refine .nil ⟨fL ++ ([(bp.getD (((n.cells.getD ((aS.getD 0 0).toNat) default).out).toNat) []).getD dw 0]:List Int),(RM.step hf w8 om yV RL).1 AI,Le.mk (.c4 (.cons (aN U om) (.c2 (.c .nil)))) (.c2 (.c (.c .nil)))⟩
 rw [bx,if_pos ⟨rfl,om⟩] at AI
 refine .skip ⟨fL,(RM.step hf w8 om yV RL).2 AI,Le.mk (.c4 (.cons (aN U om) (.c2 (.c .nil)))) (.c2 (.c (.c .nil)))⟩
 refine .region (.vl (Y.qb U U om) (.mv ?_))
 refine .nil (⟨dw + 1,cy.set (((bp.getD (((n.cells.getD ((aS.getD 0 0).toNat) default).out).toNat) []).getD dw 0).toNat) ((cy.getD (((bp.getD (((n.cells.getD ((aS.getD 0 0).toNat) default).out).toNat) []).getD dw 0).toNat) 0) - 1),j2,⟨jR,jR,Uc⟩,om,Le.mk (.c4 (.cons (aN U jR) (.c2 (.cons (ak U bc) .nil)))) (.c2 (.c (.c .nil)))⟩)
 refine .exit (⟨g9 ++ ([aS.getD 0 0]:List Int),cy,fL,⟨om,⟨done ++ [(aS.getD 0 0)],by rw [kG,List.append_assoc],KJ.fin hf vz (bC om) (by rw [show (bp.getD (((n.cells.getD ((aS.getD 0 0).toNat) default).out).toNat) []).length = dw by omega]; exact RM) yV⟩⟩,by rw [List.length_append]; simp only [List.length_cons,List.length_nil]; omega,Le.mk (.c (.cons (aN U om) (.c2 (.cons (aN U om) .nil)))) (.c2 (.c (.c .nil)))⟩)
 obtain ⟨done,kG,vz⟩:=hK
 have YO:aS = []:=List.eq_nil_of_length_eq_zero om
 subst YO
 refine .exit (.seq (.sr (.mv ?_)))
 refine .vl (Y.qx (n:=g9.length) a7 U U) (.fa bX ?_)
 refine .ld gk ?_
 refine .vl (Y.qx (n:=n.cells.length) dV U fV) (.vl (Y.zc U U) (.nil (.aA U (fun FW=>?_) (fun FW=>?_))))
 refine .sr (.an ?_)
 refine .an ?_
 exact .nil (.sh (Sh.v9 (d:=2) 1 U) (.ret (⟨_,_,U,U,([]:List Int),12,.inr (.inr (.inl ⟨hf,Lx,vz.J0 (by rw [<- kG]; omega),U,U⟩)),U,U⟩)))
 refine .skip (.sr (.mv ?_))
 refine .an ?_
 refine .sh (Sh.dA (d:=2) (o:=104) U U (aU om) ae) (.an (.nil (.ret ?_)))
 exact ⟨_,_,U,U,g9,0,.inr (.inr (.inr ⟨hf,Lx,(vz.ok hf (by rw [<- kG]; omega)).1,by rw [kG]; exact (vz.ok hf (by rw [<- kG]; omega)).2,U⟩)),U,U⟩
open Go Go.AW Go.Proofs
theorem AJ{n:ab}(hs:n.Small)(MF:n.aa.length + n.ins.length <= 17592186044416):aw Try.prog 77 [.agg (ab.row n)] [] [] (fun r o=>r = (vi (mH n)) /\ o = []):=by
 refine aw.of Try.func77 U U U (n:=11) ae (aH U) (.sr (.box 101 U U U U U ae ?_))
 refine .an ?_
 refine .nil (.sr (.vl (Y.zb gm U U (aH U) U U) (.oP OE (vf (n:=n) hs (om)) U (.aj U U .nil) ae ?_)))
 rintro _ ⟨l7,e7,YP,rfl,_⟩
 refine ⟨U,(.oR U ae (.iX U U ae (.vl (Y.qn U U U) (.bQ U ae (.sh (Sh.cG (d:=3) (l7.map ah) U iJ (cC.map aI)) (.an (.nil (.sr ?_))))))))⟩
 refine .mv ?_
 refine .an (.nil (.ret ?_))
 exact .ri rfl (YP.err)
open Go Go.AW Go.Proofs
end Go.Proofs.Ytlimckldnjmabaa
namespace Go.Proofs.Ytlimckldnjmabaa
open Go Go.AW Go.Proofs
open Go Go.AW Go.Proofs
end Go.Proofs.Ytlimckldnjmabaa
namespace Go.Proofs.Ytlimckldnjmabaa
open Go Go.AW Go.Proofs
theorem na{l:List Int}(hl:l.length <= 17592186043904):aw Try.prog 123 [.fz 1 (l.map ah)] [] [] (fun r o=>r = .dH 1 (l.map ah) /\ o = []):=by
 refine aw.of Try.func123 U U U (n:=8) ae (aH U) (.sr (.an ?_))
 refine .nil (.seq (.sr (.mv ?_)))
 refine .Jy a7 U U ae (fun b4 FQ=>?_)
 refine .nil (.cond U (fun c4=>?_) (fun c4=>?_))
 refine .sr (.an ?_)
 exact .nil (.sh (Sh.v9 (d:=2) 1 U) (.ret ⟨_,_,U,U,(Em (fun (z0:List Int)=>X.dH 1 (z0.map ah)) (by have:=FQ ej; simpa using this:([]:List Int) = l):X.dH 1 (([]:List Int).map ah) = X.dH 1 (l.map ah)),U⟩))
 refine .skip (.sr (.buildSlice (([]:List Int).map ah) a7 dD U U U U U (aq (s:=1) (f:=ah) (fun _=>U)) U U U ae ?_))
 refine .mv ?_
 refine .sh (Sh.dr (d:=5) (n:=([]:List Int).length) 105 (([]:List Int).map ah) U iJ (aU U) ae) (.uw ((([]:List Int) ++ l).map ah) (([]:List Int) ++ l).length a7 dD U U U U (bg aG) (aR aG) (bz aG) aG aG ae ae ?_)
 refine .an ?_
 exact .sh (Sh.dA (d:=2) (o:=105) U U (aU om) ae) (.nil (.ret ⟨_,_,U,U,(Em (fun (z0:List Int)=>X.dH 1 (z0.map ah)) (U:(([]:List Int) ++ l) = l):X.dH 1 ((([]:List Int) ++ l).map ah) = X.dH 1 (l.map ah)),U⟩))
open Go Go.AW Go.Proofs
theorem j3{gl:List Gate}(tu:gl.length <= 100000000){k a b:Int}:aw Try.prog 125 [.ptr 0 0 0 0,vi k,vi a,vi b] [.cells [.aL 1 3 0 gl.length],.rows 3 (gl.map Gate.row)] [0] (fun r o=>r = ((vi gl.length)) /\ o = [.cells [.aL 1 3 0 ((gl ++ [(⟨k,a,b⟩:Gate)]).length)],.rows 3 ((gl ++ [(⟨k,a,b⟩:Gate)]).map Gate.row)]):=by
 refine aw.of Try.func125 U U U (n:=28) ae (aH U) (.sr (.an (.nil (.sr ?_))))
 refine .mv ?_
 refine .mv ?_
 refine .vl (Y.zm U U) (.fa nY ?_)
 refine .ld uG ?_
 refine .mv ?_
 refine .mv ?_
 refine .mv ?_
 refine .vl (Y.qh OV yg U U U) (.buildSlice (([(⟨k,a,b⟩:Gate)]:List Gate).map Gate.row) rN yg U U U U U (aq (s:=3) (f:=Gate.row) (fun _=>U)) U U U ae ?_)
 refine .cL Gate.row (gl ++ ([(⟨k,a,b⟩:Gate)]:List Gate)) rN yg U U U U (bg aG) (aR aG) (bz aG) aG aG ae ae (.vl (Y.zm U U) (.fa nY ?_))
 refine .ai OY U U U U U U (aH U) U (.nil (.sr (.mv ?_)))
 refine .vl (Y.zm U U) (.fa nY ?_)
 refine .ld uG ?_
 refine .vl (Y.qx (n:=(gl ++ ([(⟨k,a,b⟩:Gate)]:List Gate)).length) rN U U) (.vl (Y.wc U U aG) (.an (.nil (.ret ?_))))
 exact ⟨_,_,U,U,Em (fun (z0:Int)=>X.v (.int .i64 z0)) (by simp:(((gl ++ [(⟨k,a,b⟩:Gate)]).length:Nat):Int) - 1 = (gl.length:Int)),U⟩
theorem ie{gl:List Gate}(tu:gl.length <= 100000000){a:Int}:aw Try.prog 95 [.ptr 0 0 0 0,vi a] [.cells [.aL 1 3 0 gl.length],.rows 3 (gl.map Gate.row)] [0] (fun r o=>r = ((vi gl.length)) /\ o = [.cells [.aL 1 3 0 ((gl ++ [(⟨4,a,0⟩:Gate)]).length)],.rows 3 ((gl ++ [(⟨4,a,0⟩:Gate)]).map Gate.row)]):=by
 refine aw.of Try.func95 U U U (n:=8) ae (aH U) (.sr (.an (.nil (.sr ?_))))
 refine .mv ?_
 refine .mv ?_
 refine .bw [0,1] [] tm (j3 (gl:=gl) (k:=4) (a:=a) (b:=0) om) U (.named U U (.aj U U (.aj U U (.aj U U .nil)))) ⟨U,U,trivial⟩ U ae (fun _ h=>by cases h) (fun _ h=>by cases h) ae ae ?_
 rintro r aJ ⟨rfl,rfl⟩ _
 refine ⟨⟨rfl,(by intro ob aW; simp only [List.mem_cons,List.not_mem_nil,or_false] at aW; rcases aW with rfl | rfl <;> rfl),.inl rfl⟩,(.an (.nil (.ret ?_)))⟩
 exact ⟨_,_,U,U,U,U⟩
theorem gC{gl:List Gate}(tu:gl.length <= 100000000){a:Int}{b:Int}:aw Try.prog 96 [.ptr 0 0 0 0,vi a,vi b] [.cells [.aL 1 3 0 gl.length],.rows 3 (gl.map Gate.row)] [0] (fun r o=>r = ((vi gl.length)) /\ o = [.cells [.aL 1 3 0 ((gl ++ [(⟨5,a,b⟩:Gate)]).length)],.rows 3 ((gl ++ [(⟨5,a,b⟩:Gate)]).map Gate.row)]):=by
 refine aw.of Try.func96 U U U (n:=11) ae (aH U) (.sr (.an (.nil (.sr ?_))))
 refine .mv ?_
 refine .mv ?_
 refine .mv ?_
 refine .bw [0,1] [] tm (j3 (gl:=gl) (k:=5) (a:=a) (b:=b) om) U (.named U U (.aj U U (.aj U U (.aj U U .nil)))) ⟨U,U,trivial⟩ U ae (fun _ h=>by cases h) (fun _ h=>by cases h) ae ae ?_
 rintro r aJ ⟨rfl,rfl⟩ _
 refine ⟨⟨rfl,(by intro ob aW; simp only [List.mem_cons,List.not_mem_nil,or_false] at aW; rcases aW with rfl | rfl <;> rfl),.inl rfl⟩,(.an (.nil (.ret ?_)))⟩
 exact ⟨_,_,U,U,U,U⟩
theorem sb{gl:List Gate}(tu:gl.length <= 100000000){a:Int}{b:Int}:aw Try.prog 143 [.ptr 0 0 0 0,vi a,vi b] [.cells [.aL 1 3 0 gl.length],.rows 3 (gl.map Gate.row)] [0] (fun r o=>r = ((vi gl.length)) /\ o = [.cells [.aL 1 3 0 ((gl ++ [(⟨6,a,b⟩:Gate)]).length)],.rows 3 ((gl ++ [(⟨6,a,b⟩:Gate)]).map Gate.row)]):=by
 refine aw.of Try.func143 U U U (n:=11) ae (aH U) (.sr (.an (.nil (.sr ?_))))
 refine .mv ?_
 refine .mv ?_
 refine .mv ?_
 refine .bw [0,1] [] tm (j3 (gl:=gl) (k:=6) (a:=a) (b:=b) om) U (.named U U (.aj U U (.aj U U (.aj U U .nil)))) ⟨U,U,trivial⟩ U ae (fun _ h=>by cases h) (fun _ h=>by cases h) ae ae ?_
 rintro r aJ ⟨rfl,rfl⟩ _
 refine ⟨⟨rfl,(by intro ob aW; simp only [List.mem_cons,List.not_mem_nil,or_false] at aW; rcases aW with rfl | rfl <;> rfl),.inl rfl⟩,(.an (.nil (.ret ?_)))⟩
 exact ⟨_,_,U,U,U,U⟩
theorem n7{gl:List Gate}(tu:gl.length <= 100000000){a:Int}{b:Int}:aw Try.prog 175 [.ptr 0 0 0 0,vi a,vi b] [.cells [.aL 1 3 0 gl.length],.rows 3 (gl.map Gate.row)] [0] (fun r o=>r = ((vi gl.length)) /\ o = [.cells [.aL 1 3 0 ((gl ++ [(⟨7,a,b⟩:Gate)]).length)],.rows 3 ((gl ++ [(⟨7,a,b⟩:Gate)]).map Gate.row)]):=by
 refine aw.of Try.func175 U U U (n:=11) ae (aH U) (.sr (.an (.nil (.sr ?_))))
 refine .mv ?_
 refine .mv ?_
 refine .mv ?_
 refine .bw [0,1] [] tm (j3 (gl:=gl) (k:=7) (a:=a) (b:=b) om) U (.named U U (.aj U U (.aj U U (.aj U U .nil)))) ⟨U,U,trivial⟩ U ae (fun _ h=>by cases h) (fun _ h=>by cases h) ae ae ?_
 rintro r aJ ⟨rfl,rfl⟩ _
 refine ⟨⟨rfl,(by intro ob aW; simp only [List.mem_cons,List.not_mem_nil,or_false] at aW; rcases aW with rfl | rfl <;> rfl),.inl rfl⟩,(.an (.nil (.ret ?_)))⟩
 exact ⟨_,_,U,U,U,U⟩
theorem gH{gl:List Gate}(tu:gl.length <= 100000000):aw Try.prog 178 [.ptr 0 0 0 0] [.cells [.aL 1 3 0 gl.length],.rows 3 (gl.map Gate.row)] [0] (fun r o=>r = ((vi gl.length)) /\ o = [.cells [.aL 1 3 0 ((gl ++ [(⟨1,0,0⟩:Gate)]).length)],.rows 3 ((gl ++ [(⟨1,0,0⟩:Gate)]).map Gate.row)]):=by
 refine aw.of Try.func178 U U U (n:=5) ae (aH U) (.sr (.an (.nil (.sr ?_))))
 refine .mv ?_
 refine .bw [0,1] [] tm (j3 (gl:=gl) (k:=1) (a:=0) (b:=0) om) U (.named U U (.aj U U (.aj U U (.aj U U .nil)))) ⟨U,U,trivial⟩ U ae (fun _ h=>by cases h) (fun _ h=>by cases h) ae ae ?_
 rintro r aJ ⟨rfl,rfl⟩ _
 refine ⟨⟨rfl,(by intro ob aW; simp only [List.mem_cons,List.not_mem_nil,or_false] at aW; rcases aW with rfl | rfl <;> rfl),.inl rfl⟩,(.an (.nil (.ret ?_)))⟩
 exact ⟨_,_,U,U,U,U⟩
open Go Go.AW Go.Proofs
theorem choose_spec{gl:List Gate}(tu:gl.length <= 90000000){s v y n:Int}:aw Try.prog 97 [.ptr 0 0 0 0,vi s,vi v,vi y,vi n] [.cells [.aL 1 3 0 gl.length],.rows 3 (gl.map Gate.row)] [0] (fun r o=>r = ((vi ((gl.length:Int) + 2))) /\ o = [.cells [.aL 1 3 0 ((yw gl s v y n).length)],.rows 3 ((yw gl s v y n).map Gate.row)]):=by
 refine aw.of Try.func97 U U U (n:=25) ae (aH U) (.sr (.an (.nil (.sr ?_))))
 refine .mv ?_
 refine .mv ?_
 refine .mv ?_
 refine .bw [0,1] [] tK (gC (gl:=gl) (a:=s) (b:=y) om) U (.named U U (.aj U U (.aj U U .nil))) ⟨U,U,trivial⟩ U ae (fun _ h=>by cases h) (fun _ h=>by cases h) ae ae ?_
 rintro r aJ ⟨rfl,rfl⟩ _
 refine ⟨⟨rfl,(by intro ob aW; simp only [List.mem_cons,List.not_mem_nil,or_false] at aW; rcases aW with rfl | rfl <;> rfl),.inl rfl⟩,(.an (.nil (.sr ?_)))⟩
 refine .mv ?_
 refine .mv ?_
 refine .mv ?_
 refine .bw [0,1] [] tK (gC (gl:=gl ++ [(⟨5,s,y⟩:Gate)]) (a:=v) (b:=n) aG) U (.named U U (.aj U U (.aj U U .nil))) ⟨U,U,trivial⟩ U ae (fun _ h=>by cases h) (fun _ h=>by cases h) ae ae ?_
 rintro r aJ ⟨rfl,rfl⟩ _
 refine ⟨⟨rfl,(by intro ob aW; simp only [List.mem_cons,List.not_mem_nil,or_false] at aW; rcases aW with rfl | rfl <;> rfl),.inl rfl⟩,(.an (.nil (.sr ?_)))⟩
 refine .mv ?_
 refine .mv ?_
 refine .mv ?_
 refine .bw [0,1] [] yf (sb (gl:=(gl ++ [(⟨5,s,y⟩:Gate)]) ++ [(⟨5,v,n⟩:Gate)]) (a:=(gl.length:Int)) (b:=(((gl ++ [(⟨5,s,y⟩:Gate)]).length:Nat):Int)) aG) U (.named U U (.aj U U (.aj U U .nil))) ⟨U,U,trivial⟩ U ae (fun _ h=>by cases h) (fun _ h=>by cases h) ae ae ?_
 rintro r aJ ⟨rfl,rfl⟩ _
 refine ⟨⟨rfl,(by intro ob aW; simp only [List.mem_cons,List.not_mem_nil,or_false] at aW; rcases aW with rfl | rfl <;> rfl),.inl rfl⟩,(.an (.nil (.ret ?_)))⟩
 exact ⟨_,_,U,U,Em (fun (z0:Int)=>X.v (.int .i64 z0)) (by simp [Int.add_assoc]),by rw [<- Iq]; rfl⟩
theorem sP{c:Int}{gl:List Gate}(hg:Good gl)(tu:gl.length <= 50000000){k t u:Int}{a b:List Int}{f h e:Nat -> List Bool -> Bool}(hk:5 <= k /\ k <= 7)(ha:Ws c gl a f t)(hb:Ws c gl b h t)(hl:a.length = b.length)(tI:a.length <= 1000)(hu:t + 20 <= u)(he:∀ i ins,e i ins = if k = 5 then (f i ins && h i ins) else if k = 6 then (f i ins || h i ins) else (f i ins ^^ h i ins)):aw Try.prog 128 [.ptr 0 0 0 0,vi k,.fz 1 (a.map ah),.fz 1 (b.map ah)] [.cells [.aL 1 3 0 gl.length],.rows 3 (gl.map Gate.row)] [0] (fun r o=>∃ (l:List Gate) (out:List Int),Ext gl l /\ l.length <= gl.length + a.length /\ out.length = a.length /\ Ws c l out e u /\ r = .dH 1 (out.map ah) /\ o = [.cells [.aL 1 3 0 l.length],.rows 3 (l.map Gate.row)]):=by
 refine aw.of Try.func128 U U U (n:=32) ae (aH U) (.sr (.an (.nil (.sr ?_))))
 refine .an ?_
 refine .sh (Sh.nil (d:=9) 109 1 U ae) (.nil (.seq (.sr (.mv ?_))))
 refine .vl (Y.qx (n:=a.length) a7 U (congrArg some (List.length_map ..))) (.mv ?_)
 refine .nil (.block (.eh (fun (kP:Nat) (ba:List Gate) (ph:List Int)=>⟨[(0,.ptr 0 0 0 0),(1,vi k),(2,.fz 1 (a.map ah)),(3,.fz 1 (b.map ah)),(9,.aL 109 1 0 ph.length),(12,vi a.length),(13,vi kP)],[(0,.cells [.aL 1 3 0 ba.length]),(1,.rows 3 (ba.map Gate.row)),(109,.rows 1 (ph.map ah))]⟩) (fun kP ba ph=>((kP:Int) <= (a.length:Int)) /\ (yv c gl ba ph e u kP)) (fun kP ba ph=>((a.length:Int) - (kP:Int)).toNat) 0 gl ([]:List Int) (⟨mz,yv.init hg⟩) (Le.mk (.c4 (.cons (aN U aG) (.c (.cons (ak U bc) .nil)))) (.cons (ay U eR) (.c (.c .nil)))) (fun kP ba ph qR=>?_)))
 obtain ⟨Fc,hM⟩:=qR
 refine .sr (.vl (Y.zc U U) (.nil (.seq (.aA U (fun LM=>?_) (fun LM=>?_)))))
 refine .skip (.seq (.block (.sr (.mv ?_))))
 refine .an (.nil ?_)
 have JO:=hM.len; have ta:=hM.ol
 refine .dZ U (.blind 0 U au (ax.move U U) ae (.bP (n:=4) [1,2,3,4,5,6,7,8,9,10] [11,12,13,14] 11 U au ?_))
 refine .cn 1 U (Y.zh U U) (.cn 2 U (Y.zh U U) (.cn 3 U (Y.zh U U) (.cn 4 U (Y.zh U U) (.cn 5 U (Y.qs (m:=kP) a7 U U bc (ao (d:=0) om)) (.cn 6 U (Y.za bj U U U U) (.cn 7 U (Y.zh U U) (.cn 8 U (Y.zh U U) (.cn 9 U (Y.qs (m:=kP) a7 U U bc (ao (d:=0) om)) (.cn 10 U (Y.za bj U U U U) (.nil (.one 11 U au (.bw [0,1] [] tm (j3 (gl:=ba) (k:=k) (a:=a.getD kP 0) (b:=b.getD kP 0) om) U (.named U U (.aj U U (.aj U U (.aj U U .nil)))) ⟨U,U,trivial⟩ U ae (fun _ h=>by cases h) (fun _ h=>by cases h) ae ae ?_))))))))))))
 rintro r aJ ⟨rfl,rfl⟩ _
 refine ⟨⟨rfl,(by intro ob aW; simp only [List.mem_cons,List.not_mem_nil,or_false] at aW; rcases aW with rfl | rfl <;> rfl),.inl rfl⟩,(.nil ⟨U,(.one 12 U au (.buildSlice (([(ba.length:Int)]:List Int).map ah) a7 dD U U U U U (aq (s:=1) (f:=ah) (fun _=>U)) U U U ae ?_))⟩)⟩
 refine .nil ⟨U,(.one 13 U au (.cL ah (ph ++ ([(ba.length:Int)]:List Int)) a7 dD U U U U (bg aG) (aR aG) (bz aG) aG aG ae ae ?_))⟩
 refine .nil ⟨U,(.bP (n:=0) [14] [] 0 U au (.cn 14 U (Y.qf U U) (.nil (.done au (.region (.vl (Y.qb U U aG) (.mv ?_)))))))⟩
 refine .nil (⟨kP + 1,ba ++ [(⟨k,a.getD kP 0,b.getD kP 0⟩:Gate)],ph ++ ([(ba.length:Int)]:List Int),⟨om,hM.two hk (ha.bit kP om) (hb.bit kP om) hu (he kP)⟩,om,Le.mk (.c4 (.cons (aN U om) (.c (.cons (ak U bc) .nil)))) (.cons (ay U eR) (.c (.c .nil)))⟩)
 refine .exit (.sr (.mv ?_))
 refine .an ?_
 exact .sh (Sh.dA (d:=8) (o:=109) U U (aU om) ae) (.nil (.ret ⟨_,_,U,U,_,_,hM.ext,by have:=hM.len; omega,by have:=hM.ol; omega,hM.ws,U,U⟩))
theorem Dd{c:Int}{gl:List Gate}(hg:Good gl)(tu:gl.length <= 50000000){t:Int}{a:List Int}{f:Nat -> List Bool -> Bool}(ha:Ws c gl a f t)(tI:a.length <= 1000):aw Try.prog 177 [.ptr 0 0 0 0,.fz 1 (a.map ah)] [.cells [.aL 1 3 0 gl.length],.rows 3 (gl.map Gate.row)] [0] (fun r o=>∃ (l:List Gate) (out:List Int),Ext gl l /\ l.length <= gl.length + a.length /\ out.length = a.length /\ Ws c l out (fun k ins=>!f k ins) (t + 10) /\ r = .dH 1 (out.map ah) /\ o = [.cells [.aL 1 3 0 l.length],.rows 3 (l.map Gate.row)]):=by
 refine aw.of Try.func177 U U U (n:=22) ae (aH U) (.sr (.an (.nil (.sr ?_))))
 refine .an ?_
 refine .sh (Sh.nil (d:=5) 105 1 U ae) (.nil (.seq (.sr (.mv ?_))))
 refine .vl (Y.qx (n:=a.length) a7 U (congrArg some (List.length_map ..))) (.mv ?_)
 refine .nil (.block (.eh (fun (pj:Nat) (ba:List Gate) (bf:List Int)=>⟨[(0,.ptr 0 0 0 0),(5,.aL 105 1 0 bf.length),(8,.fz 1 (a.map ah)),(9,vi a.length),(10,vi pj)],[(0,.cells [.aL 1 3 0 ba.length]),(1,.rows 3 (ba.map Gate.row)),(105,.rows 1 (bf.map ah))]⟩) (fun pj ba bf=>((pj:Int) <= (a.length:Int)) /\ (yv c gl ba bf (fun k ins=>!f k ins) (t + 10) pj)) (fun pj ba bf=>((a.length:Int) - (pj:Int)).toNat) 0 gl ([]:List Int) (⟨mz,yv.init hg⟩) (Le.mk (.c (.cons (aN U aG) (.c2 (.cons (ak U bc) .nil)))) (.cons (ay U eR) (.c (.c .nil)))) (fun pj ba bf qR=>?_)))
 obtain ⟨Fc,hM⟩:=qR
 refine .sr (.vl (Y.zc U U) (.nil (.seq (.aA U (fun JX=>?_) (fun JX=>?_)))))
 refine .skip (.seq (.block (.sr (.vl (Y.qs (m:=pj) a7 U U bc (ao (d:=0) om)) (.ld bj ?_)))))
 refine .an (.nil ?_)
 have JO:=hM.len; have ta:=hM.ol
 refine .region (.mv ?_)
 refine .mv ?_
 refine .mv ?_
 refine .bw [0,1] [] uF (ie (gl:=ba) (a:=a.getD pj 0) om) U (.named U U (.aj U U .nil)) ⟨U,U,trivial⟩ U ae (fun _ h=>by cases h) (fun _ h=>by cases h) ae ae ?_
 rintro r aJ ⟨rfl,rfl⟩ _
 refine ⟨⟨rfl,(by intro ob aW; simp only [List.mem_cons,List.not_mem_nil,or_false] at aW; rcases aW with rfl | rfl <;> rfl),.inl rfl⟩,(.buildSlice (([(ba.length:Int)]:List Int).map ah) a7 dD U U U U U (aq (s:=1) (f:=ah) (fun _=>U)) U U U ae ?_)⟩
 refine .cL ah (bf ++ ([(ba.length:Int)]:List Int)) a7 dD U U U U (bg aG) (aR aG) (bz aG) aG aG ae ae ?_
 refine .an (.nil (.region ?_))
 refine .vl (Y.qb U U aG) (.mv ?_)
 refine .nil (⟨pj + 1,ba ++ [(⟨4,a.getD pj 0,0⟩:Gate)],bf ++ ([(ba.length:Int)]:List Int),⟨om,hM.not ha om⟩,om,Le.mk (.c (.cons (aN U om) (.c2 (.cons (ak U bc) .nil)))) (.cons (ay U eR) (.c (.c .nil)))⟩)
 refine .exit (.sr (.mv ?_))
 refine .an ?_
 exact .sh (Sh.dA (d:=4) (o:=105) U U (aU om) ae) (.nil (.ret ⟨_,_,U,U,_,_,hM.ext,by have:=hM.len; omega,by have:=hM.ol; omega,hM.ws,U,U⟩))
open Go Go.AW Go.Proofs
theorem vg{c:Int}{gl:List Gate}(hg:Good gl)(tu:gl.length <= 50000000){t:Int}{a:List Int}{f:Nat -> List Bool -> Bool}(ha:Ws c gl a f t)(tI:a.length <= 5000)(ht:0 <= t):aw Try.prog 142 [.ptr 0 0 0 0,.fz 1 (a.map ah)] [.cells [.aL 1 3 0 gl.length],.rows 3 (gl.map Gate.row)] [0] (fun r o=>∃ (l:List Gate) (x:Int),Ext gl l /\ l.length <= gl.length + a.length + 1 /\ Wr c l x (fun ins=>kq (fun k=>f k ins) a.length) (t + 20 * (cF a.length:Int)) /\ r = (vi x) /\ o = [.cells [.aL 1 3 0 l.length],.rows 3 (l.map Gate.row)]):=by
 refine aw.of Try.func142 U U U (n:=53) ae (aH U) (.sr (.an ?_))
 refine .nil (.seq (.sr (.mv ?_)))
 refine .vl (Y.qx (n:=a.length) a7 U (congrArg some (List.length_map ..))) (.vl (Y.ql U U) (.nil (.aA U (fun c9=>?_) (fun c9=>?_))))
 refine .sr (.mv ?_)
 refine .bw [0,1] [] EW (gH (gl:=gl) aG) U (.named U U .nil) ⟨U,U,trivial⟩ U ae (fun _ h=>by cases h) (fun _ h=>by cases h) ae ae ?_
 rintro r aJ ⟨rfl,rfl⟩ _
 refine ⟨⟨rfl,(by intro ob aW; simp only [List.mem_cons,List.not_mem_nil,or_false] at aW; rcases aW with rfl | rfl <;> rfl),.inl rfl⟩,(.an (.nil (.ret ?_)))⟩
 exact ⟨_,_,U,U,_,_,Ext.MB hg ae,by simp,(Wr.zero om).as fun ins=>by rw [show a.length = 0 by omega]; rfl,U,U⟩
 refine .skip (.seq (.block (.iD (fun (jU:List Int) (ba:List Gate)=>⟨[(0,.ptr 0 0 0 0),(1,.fz 1 (jU.map ah))],[(0,.cells [.aL 1 3 0 ba.length]),(1,.rows 3 (ba.map Gate.row))]⟩) (fun jU ba=>(sL c gl f a.length t ba jU)) (fun jU ba=>jU.length) a gl (sL.init hg ha om) (Le.mk (.c (.c .nil)) (.cons (ay U eR) (.c .nil))) (fun jU ba qR=>?_))))
 have hI:=qR
 refine .seq (.sr (.mv ?_))
 refine .vl (Y.qx (n:=jU.length) a7 U (congrArg some (List.length_map ..))) (.vl (Y.qr U U) (.nil (.aA U (fun LM=>?_) (fun LM=>?_))))
 refine .skip (.block (.seq ?_))
 have x6:=hI.lo; have qG:=hI.len; have hel:=hI.ext.len; have hex:∃ f t,Ws c ba jU f t:=(by obtain ⟨f1,t1,h1,_⟩:=hI.ex; exact ⟨f1,t1,h1⟩)
 refine .region (.an ?_)
 refine .sh (Sh.nil (d:=5) 105 1 U ae) (.nil (.seq (.sr (.an (.nil (.block ?_))))))
 refine .eh (fun (sQ:Nat) (gg:List Gate) (jL:List Int)=>⟨[(0,.ptr 0 0 0 0),(1,.fz 1 (jU.map ah)),(5,.aL 105 1 0 jL.length),(6,vi sQ)],[(0,.cells [.aL 1 3 0 gg.length]),(1,.rows 3 (gg.map Gate.row)),(105,.rows 1 (jL.map ah))]⟩) (fun sQ gg jL=>(uS c ba jU gg jL sQ)) (fun sQ gg jL=>jU.length - sQ) 0 ba ([]:List Int) (uS.init hI.ext.dP) (Le.mk (.c2 (.cons (aN U aG) (.cons (ak U bc) .nil))) (.cons (ay U eR) (.c (.c .nil)))) (fun sQ gg jL PJ=>?_)
 have hJ:=PJ
 refine .seq (.seq ?_)
 have Ud:=hJ.hi
 refine .region (.mv ?_)
 refine .vl (Y.qb U U aG) (.mv ?_)
 refine .vl (Y.qx (n:=jU.length) a7 U (congrArg some (List.length_map ..))) (.vl (Y.zc U U) (.nil (.aA U (fun vD=>?_) (fun vD=>?_))))
 refine .skip (.seq (.block ?_))
 have oG:=hJ.len; have Ue:=hJ.nl; have Uf:=hJ.even
 refine .dZ U (.blind 0 U au (ax.move U U) ae (.bP (n:=4) [1,2,3,4,5,6,7,8,9,10] [11,12,13,14] 11 U au ?_))
 refine .cn 1 U (Y.zh U U) (.cn 2 U (Y.zh U U) (.cn 3 U (Y.zh U U) (.cn 4 U (Y.qs (m:=sQ) a7 U U bc (ao (d:=0) om)) (.cn 5 U (Y.za bj U U U U) (.cn 6 U (Y.zh U U) (.cn 7 U (Y.zh U U) (.cn 8 U (Y.qb U U om) (.cn 9 U (Y.qs (m:=sQ + 1) a7 U U bc (ao (d:=0) om)) (.cn 10 U (Y.za bj U U U U) (.nil (.one 11 U au (.bw [0,1] [] yf (sb (gl:=gg) (a:=jU.getD sQ 0) (b:=jU.getD (sQ + 1) 0) om) U (.named U U (.aj U U (.aj U U .nil))) ⟨U,U,trivial⟩ U ae (fun _ h=>by cases h) (fun _ h=>by cases h) ae ae ?_))))))))))))
 rintro r aJ ⟨rfl,rfl⟩ _
 refine ⟨⟨rfl,(by intro ob aW; simp only [List.mem_cons,List.not_mem_nil,or_false] at aW; rcases aW with rfl | rfl <;> rfl),.inl rfl⟩,(.nil ⟨U,(.one 12 U au (.buildSlice (([(gg.length:Int)]:List Int).map ah) a7 dD U U U U U (aq (s:=1) (f:=ah) (fun _=>U)) U U U ae ?_))⟩)⟩
 refine .nil ⟨U,(.one 13 U au (.cL ah (jL ++ ([(gg.length:Int)]:List Int)) a7 dD U U U U (bg aG) (aR aG) (bz aG) aG aG ae ae ?_))⟩
 refine .nil ⟨U,(.bP (n:=0) [14] [] 0 U au (.cn 14 U (Y.qf U U) (.nil (.done au (.region (.mv ?_))))))⟩
 refine .vl (Y.qb U U aG) (.an ?_)
 refine .nil (⟨sQ + 2,gg ++ [(⟨6,jU.getD sQ 0,jU.getD (sQ + 1) 0⟩:Gate)],jL ++ ([(gg.length:Int)]:List Int),hJ.step om hex,om,Le.mk (.c2 (.cons (aN U aG) (.cons (ak U bc) .nil))) (.cons (ay U eR) (.c (.c .nil)))⟩)
 refine .exit (.iC (fun (j4:List Int)=>⟨[(0,.ptr 0 0 0 0),(5,.aL 105 1 0 j4.length)],[(0,.cells [.aL 1 3 0 gg.length]),(1,.rows 3 (gg.map Gate.row)),(105,.rows 1 (j4.map ah))]⟩) (fun j4=>sL c gl f a.length t gg j4 /\ j4.length < jU.length) ?_ (fun j4 Gb=>?_))
 refine .seq ?_
 have oG:=hJ.len; have Ue:=hJ.nl; have Uf:=hJ.even; have Ud:=hJ.hi
 refine .region (.mv ?_)
 refine .vl (Y.qx (n:=jU.length) a7 U (congrArg some (List.length_map ..))) (.vl (Y.zt U U om) (.vl (Y.ql U U) (.nil (.aA U (fun sH=>?_) (fun sH=>?_)))))
 refine .region (.mv ?_)
 refine .mv ?_
 refine .mv ?_
 refine .vl (Y.qx (n:=jU.length) a7 U (congrArg some (List.length_map ..))) (.vl (Y.wc U U aG) (.vl (Y.qs (m:=((jU.length:Int) - 1).toNat) a7 U U om (ao (d:=0) om)) (.ld bj ?_)))
 refine .buildSlice (([jU.getD (((jU.length:Int) - 1).toNat) 0]:List Int).map ah) a7 dD U U U U U (aq (s:=1) (f:=ah) (fun _=>U)) U U U ae ?_
 refine .cL ah (jL ++ ([jU.getD (((jU.length:Int) - 1).toNat) 0]:List Int)) a7 dD U U U U (bg aG) (aR aG) (bz aG) aG aG ae ae ?_
 refine .an ?_
 refine .nil (⟨jL ++ ([jU.getD (((jU.length:Int) - 1).toNat) 0]:List Int),by have hx:=hI.Px hJ om om om; rw [show jU.length - 1 = ((jU.length:Int) - 1).toNat by omega] at hx; exact ⟨hx,by rw [List.length_append,List.length_singleton]; omega⟩,Le.mk (.c (.cons (aN U om) .nil)) (.c2 (.c .nil))⟩)
 refine .skip (⟨jL,⟨hI.next hJ om om om,om⟩,Le.mk (.c (.cons (aN U om) .nil)) (.c2 (.c .nil))⟩)
 refine .sh (Sh.dA (d:=5) (o:=105) U U (aU om) ae) (.sh (Sh.cG (d:=5) (j4.map ah) U iJ (cC.map aI)) (.region (.mv ?_)))
 refine .an ?_
 refine .nil ⟨j4,gg,Gb.1,by have:=Gb.2; omega,Le.mk (.c (.c .nil)) (.cons (ay U eR) (.c .nil))⟩
 refine .exit (.seq ?_)
 have x6:=hI.lo
 refine .region (.mv ?_)
 refine .vl (Y.qs (m:=0) a7 U U bc (ao (d:=0) om)) (.ld bj ?_)
 refine .an (.nil (.ret ?_))
 exact ⟨_,_,U,U,_,_,hI.ext,by have:=hI.len; omega,hI.done om,U,U⟩
open Go Go.AW Go.Proofs
theorem po{l:List bo}(hl:l.length <= 8796093022208):aw Try.prog 198 [.fz 2 (l.map bo.row)] [] [] (fun r o=>r = .dH 2 (l.map bo.row) /\ o = []):=by
 refine aw.of Try.func198 U U U (n:=8) ae (aH U) (.sr (.an ?_))
 refine .nil (.seq (.sr (.mv ?_)))
 refine .Jy ei U U ae (fun b4 FQ=>?_)
 refine .nil (.cond U (fun c4=>?_) (fun c4=>?_))
 refine .sr (.an ?_)
 exact .nil (.sh (Sh.v9 (d:=2) 2 U) (.ret ⟨_,_,U,U,(Em (fun (z0:List bo)=>X.dH 2 (z0.map bo.row)) (by have:=FQ ej; simpa using this:([]:List bo) = l):X.dH 2 (([]:List bo).map bo.row) = X.dH 2 (l.map bo.row)),U⟩))
 refine .skip (.sr (.buildSlice (([]:List bo).map bo.row) ei jv U U U U U (aq (s:=2) (f:=bo.row) (fun _=>U)) U U U ae ?_))
 refine .mv ?_
 refine .sh (Sh.dr (d:=5) (n:=([]:List bo).length) 105 (([]:List bo).map bo.row) U iJ (aU U) ae) (.uw ((([]:List bo) ++ l).map bo.row) (([]:List bo) ++ l).length ei jv U U U U (bg aG) (aR aG) (bz aG) aG aG ae ae ?_)
 refine .an ?_
 exact .sh (Sh.dA (d:=2) (o:=105) U U (aU om) ae) (.nil (.ret ⟨_,_,U,U,(Em (fun (z0:List bo)=>X.dH 2 (z0.map bo.row)) (U:(([]:List bo) ++ l) = l):X.dH 2 ((([]:List bo) ++ l).map bo.row) = X.dH 2 (l.map bo.row)),U⟩))
theorem tw{c:Int}{gl:List Gate}(hg:Good gl)(tu:gl.length <= 40000000){w:Nat}{t:Int}{a b:List Int}{A B:List Bool -> BitVec w}(ha:Wd c gl a w A t)(hb:Wd c gl b w B t)(hw:1 <= w /\ w <= 64)(ht:0 <= t):aw Try.prog 130 [.ptr 0 0 0 0,.fz 1 (a.map ah),.fz 1 (b.map ah)] [.cells [.aL 1 3 0 gl.length],.rows 3 (gl.map Gate.row)] [0] (fun r o=>∃ (l:List Gate) (x:Int),Ext gl l /\ l.length <= gl.length + 200 /\ Wr c l x (fun ins=>decide (A ins ≠ B ins)) (t + 20 + 20 * (cF w:Int)) /\ r = (vi x) /\ o = [.cells [.aL 1 3 0 l.length],.rows 3 (l.map Gate.row)]):=by
 refine aw.of Try.func130 U U U (n:=31) ae (aH U) ?_
 have tI:=ha.len; have IM:=hb.len
 refine .sr (.an (.nil (.sr ?_)))
 refine .an ?_
 refine .sh (Sh.nil (d:=7) 107 1 U ae) (.nil (.seq (.sr (.mv ?_))))
 refine .vl (Y.qx (n:=a.length) a7 U (congrArg some (List.length_map ..))) (.mv ?_)
 refine .nil (.block (.eh (fun (eY:Nat) (ba:List Gate) (l8:List Int)=>⟨[(0,.ptr 0 0 0 0),(1,.fz 1 (a.map ah)),(2,.fz 1 (b.map ah)),(7,.aL 107 1 0 l8.length),(10,vi a.length),(11,vi eY)],[(0,.cells [.aL 1 3 0 ba.length]),(1,.rows 3 (ba.map Gate.row)),(107,.rows 1 (l8.map ah))]⟩) (fun eY ba l8=>((eY:Int) <= (a.length:Int)) /\ (yv c gl ba l8 (fun k ins=>(A ins).getLsbD k ^^ (B ins).getLsbD k) (t + 20) eY)) (fun eY ba l8=>((a.length:Int) - (eY:Int)).toNat) 0 gl ([]:List Int) (⟨mz,yv.init hg⟩) (Le.mk (.c2 (.c (.cons (aN U aG) (.c (.cons (ak U bc) .nil))))) (.cons (ay U eR) (.c (.c .nil)))) (fun eY ba l8 qR=>?_)))
 obtain ⟨Fc,hM⟩:=qR
 refine .sr (.vl (Y.zc U U) (.nil (.seq (.aA U (fun Ci=>?_) (fun Ci=>?_)))))
 refine .skip (.seq (.block (.sr (.mv ?_))))
 refine .an (.nil ?_)
 have JO:=hM.len; have ta:=hM.ol
 refine .dZ U (.blind 0 U au (ax.move U U) ae (.bP (n:=4) [1,2,3,4,5,6,7,8,9] [10,11,12,13] 10 U au ?_))
 refine .cn 1 U (Y.zh U U) (.cn 2 U (Y.zh U U) (.cn 3 U (Y.zh U U) (.cn 4 U (Y.qs (m:=eY) a7 U U bc (ao (d:=0) om)) (.cn 5 U (Y.za bj U U U U) (.cn 6 U (Y.zh U U) (.cn 7 U (Y.zh U U) (.cn 8 U (Y.qs (m:=eY) a7 U U bc (ao (d:=0) om)) (.cn 9 U (Y.za bj U U U U) (.nil (.one 10 U au (.bw [0,1] [] wm (n7 (gl:=ba) (a:=a.getD eY 0) (b:=b.getD eY 0) om) U (.named U U (.aj U U (.aj U U .nil))) ⟨U,U,trivial⟩ U ae (fun _ h=>by cases h) (fun _ h=>by cases h) ae ae ?_)))))))))))
 rintro r aJ ⟨rfl,rfl⟩ _
 refine ⟨⟨rfl,(by intro ob aW; simp only [List.mem_cons,List.not_mem_nil,or_false] at aW; rcases aW with rfl | rfl <;> rfl),.inl rfl⟩,(.nil ⟨U,(.one 11 U au (.buildSlice (([(ba.length:Int)]:List Int).map ah) a7 dD U U U U U (aq (s:=1) (f:=ah) (fun _=>U)) U U U ae ?_))⟩)⟩
 refine .nil ⟨U,(.one 12 U au (.cL ah (l8 ++ ([(ba.length:Int)]:List Int)) a7 dD U U U U (bg aG) (aR aG) (bz aG) aG aG ae ae ?_))⟩
 refine .nil ⟨U,(.bP (n:=0) [13] [] 0 U au (.cn 13 U (Y.qf U U) (.nil (.done au (.region (.vl (Y.qb U U aG) (.mv ?_)))))))⟩
 refine .nil (⟨eY + 1,ba ++ [(⟨7,a.getD eY 0,b.getD eY 0⟩:Gate)],l8 ++ ([(ba.length:Int)]:List Int),⟨om,hM.two (k:=7) (f:=fun k ins=>(A ins).getLsbD k) (h:=fun k ins=>(B ins).getLsbD k) ae (ha.bit eY om) (hb.bit eY om) (Int.le_refl _) (fun ins=>U)⟩,om,Le.mk (.c2 (.c (.cons (aN U om) (.c (.cons (ak U bc) .nil))))) (.cons (ay U eR) (.c (.c .nil)))⟩)
 refine .exit (.seq (.sh (Sh.dA (d:=7) (o:=107) U U (aU om) ae) (.sh (Sh.cG (d:=7) (l8.map ah) U iJ (cC.map aI)) ?_)))
 have JO:=hM.len; have ta:=hM.ol; have Ug:=hM.ext.dP
 refine .region (.mv ?_)
 refine .mv ?_
 refine .bw [0,1] [] EV (vg (gl:=ba) Ug aG (a:=l8) hM.ws aG aG) U (.named U U (.aj U U .nil)) ⟨U,U,trivial⟩ U ae (fun _ h=>by cases h) (fun _ h=>by cases h) ae ae ?_
 rintro r aJ ⟨l30,x30,Uh,WR,PW,rfl,rfl⟩ _
 refine ⟨⟨rfl,(by intro ob aW; simp only [List.mem_cons,List.not_mem_nil,or_false] at aW; rcases aW with rfl | rfl <;> rfl),.inl rfl⟩,(.an (.nil (.ret ?_)))⟩
 exact ⟨_,_,U,U,_,_,hM.ext.trans Uh,om,(by rw [show l8.length = w by omega] at PW; exact PW.as fun ins=>Ll),U,U⟩
open Go Go.AW Go.Proofs
theorem yC{c:Int}{gl:List Gate}(hg:Good gl)(tu:gl.length <= 50000000){t:Int}{ps:List bo}{G P:Nat -> List Bool -> Bool}(hp:Wp c gl ps G P t)(hn:ps.length <= 64):aw Try.prog 195 [.ptr 0 0 0 0,.fz 2 (ps.map bo.row)] [.cells [.aL 1 3 0 gl.length],.rows 3 (gl.map Gate.row)] [0] (fun r o=>∃ (l:List Gate) (out:List bo),Ext gl l /\ l.length <= gl.length + 1152 /\ out.length = ps.length /\ (∀ i,i < ps.length -> Wr c l (out.getD i default).g (fun ins=>ca (fun k=>G k ins) (fun k=>P k ins) 0 (i + 1) false) (t + 40 * (cF ps.length:Int))) /\ r = .fz 2 (out.map bo.row) /\ o = [.cells [.aL 1 3 0 l.length],.rows 3 (l.map Gate.row)]):=by
 refine aw.of Try.func195 U U U (n:=78) ae (aH U) (.sr (.an (.nil (.sr ?_))))
 refine .mv ?_
 refine .aZ JD (po (l:=ps) (om)) U (.aj U U .nil) ae U ?_
 refine .bQ U ae (.sh (Sh.cG (d:=5) (ps.map bo.row) U iJ (cC.map bo.bA)) (.nil (.seq (.sr (.an (.nil (.block ?_)))))))
 refine .eh (fun (bf:List bo) (iM:Nat) (ba:List Gate)=>⟨[(0,.ptr 0 0 0 0),(5,.fz 2 (bf.map bo.row)),(6,vi iM)],[(0,.cells [.aL 1 3 0 ba.length]),(1,.rows 3 (ba.map Gate.row))]⟩) (fun bf iM ba=>(∃ j,rT c gl G P t ps.length ba bf iM j)) (fun bf iM ba=>ps.length - iM) ps 1 gl (⟨0,rT.init hg hp⟩) (Le.mk (.c2 (.cons (ak U bc) .nil)) (.cons (ay U eR) (.c .nil))) (fun bf iM ba qR=>?_)
 have hI:=qR
 refine .seq (.sr (.mv ?_))
 refine .mv ?_
 refine .vl (Y.qx (n:=bf.length) ei U (congrArg some (List.length_map ..))) (.vl (Y.zc U U) (.nil (.aA U (fun ua=>?_) (fun ua=>?_))))
 refine .skip (.seq (.block (.seq ?_)))
 obtain ⟨j,hI⟩:=hI; have hdp:=hI.Ln; have ta:=hI.ol; have Ui:=hI.len; have oG:=hI.jl; have RN:cF ps.length <= 6:=oa om; have YQ:3 * ps.length * j <= 1152:=Nat.le_trans (Nat.mul_le_mul_left _ oG) (Nat.mul_le_mul (show 3 * ps.length <= 192 by omega) RN)
 refine .region (.mv ?_)
 refine .aZ JD (po (l:=bf) (om)) U (.aj U U .nil) ae U ?_
 refine .bQ U ae (.sh (Sh.dr (d:=7) (n:=bf.length) 107 (bf.map bo.row) U iJ (aU U) ae) (.nil (.seq (.sr (.mv ?_)))))
 refine .an (.nil (.block ?_))
 refine .eh (fun (cY:Nat) (gu:List Gate) (eH:List bo)=>⟨[(0,.ptr 0 0 0 0),(5,.fz 2 (bf.map bo.row)),(6,vi iM),(7,.aL 107 2 0 bf.length),(8,vi cY)],[(0,.cells [.aL 1 3 0 gu.length]),(1,.rows 3 (gu.map Gate.row)),(107,.rows 2 (eH.map bo.row))]⟩) (fun cY gu eH=>(eH.length = bf.length) /\ ((cY:Int) <= (bf.length:Int)) /\ (rU c ba G P t ps.length bf iM j gu eH cY)) (fun cY gu eH=>ps.length - cY) iM ba bf (⟨om,om,rU.init hI⟩) (Le.mk (.c4 (.cons (ak U bc) .nil)) (.cons (ay U eR) (.c (.c .nil)))) (fun cY gu eH PX=>?_)
 obtain ⟨Ka,YR,hJ⟩:=PX
 refine .seq (.sr (.mv ?_))
 refine .mv ?_
 refine .vl (Y.qx (n:=bf.length) ei U (congrArg some (List.length_map ..))) (.vl (Y.zc U U) (.nil (.aA U (fun Uj=>?_) (fun Uj=>?_))))
 refine .skip (.lk (fun (sR:List Gate) (n8:List bo)=>⟨[(0,.ptr 0 0 0 0),(5,.fz 2 (bf.map bo.row)),(6,vi iM),(7,.aL 107 2 0 bf.length),(8,vi cY)],[(0,.cells [.aL 1 3 0 sR.length]),(1,.rows 3 (sR.map Gate.row)),(107,.rows 2 (n8.map bo.row))]⟩) (fun sR n8=>(n8.length = bf.length) /\ (rU c ba G P t ps.length bf iM j sR n8 (cY + 1))) ?_ (fun sR n8 Uk=>?_))
 refine .block (.seq ?_)
 have x6:=hJ.lo; have YS:=hJ.len; have hJn:=hJ.nl
 refine .mA 13 U au (.val (Y.zh U U) ae (.val (Y.zh U U) ae (.val (Y.zh U U) ae (.val (Y.qs (m:=cY) ei U U bc (ao (d:=default) om)) ae (.val (Y.qp l3 U U) ae (.val (Y.za bj U U U U) ae (.val (Y.zh U U) ae (.val (Y.zh U U) ae (.val (Y.zh U U) ae (.val (Y.wc U U om) ae (.val (Y.qs (m:=((cY:Int) - (iM:Int)).toNat) ei U U om (ao (d:=default) om)) ae (.val (Y.qp mJ U U) ae (.val (Y.za bj U U U U) ae (.nil (.bw [0,1] [] tK (gC (gl:=gu) (a:=(bf.getD cY default).p) (b:=(bf.getD (((cY:Int) - (iM:Int)).toNat) default).g) om) U (.named U U (.aj U U (.aj U U .nil))) ⟨U,U,trivial⟩ U ae (fun _ h=>by cases h) (fun _ h=>by cases h) ae ae ?_)))))))))))))))
 rintro r aJ ⟨rfl,rfl⟩ _
 refine ⟨⟨rfl,(by intro ob aW; simp only [List.mem_cons,List.not_mem_nil,or_false] at aW; rcases aW with rfl | rfl <;> rfl),.inl rfl⟩,(.an (.nil (.sr ?_)))⟩
 refine .mv ?_
 refine .mv ?_
 refine .mv ?_
 refine .mv ?_
 refine .mv ?_
 refine .vl (Y.qs (m:=cY) ei U U bc (ao (d:=default) om)) (.fa mJ ?_)
 refine .ld bj ?_
 refine .mv ?_
 refine .bw [0,1] [] yf (sb (gl:=gu ++ [(⟨5,(bf.getD cY default).p,(bf.getD (((cY:Int) - (iM:Int)).toNat) default).g⟩:Gate)]) (a:=(bf.getD cY default).g) (b:=(gu.length:Int)) aG) U (.named U U (.aj U U (.aj U U .nil))) ⟨U,U,trivial⟩ U ae (fun _ h=>by cases h) (fun _ h=>by cases h) ae ae ?_
 rintro r aJ ⟨rfl,rfl⟩ _
 refine ⟨⟨rfl,(by intro ob aW; simp only [List.mem_cons,List.not_mem_nil,or_false] at aW; rcases aW with rfl | rfl <;> rfl),.inl rfl⟩,(.vl (Y.qt (m:=cY) ei U U bc om) (.fa mJ ?_))⟩
 refine .gU ((eH.set cY (⟨(((gu ++ [(⟨5,(bf.getD cY default).p,(bf.getD (((cY:Int) - (iM:Int)).toNat) default).g⟩:Gate)]).length:Nat):Int),(eH.getD cY default).p⟩:bo)).map bo.row) dS U U U U U U U (aM (d:=default) om) (aH U) (e9 U) ?_
 refine .nil (.sr (.mv ?_))
 refine .mv ?_
 refine .vl (Y.wc U U aG) (.mv ?_)
 refine .vl (Y.qq U U) (.nil (.aA U (fun DG=>?_) (fun DG=>?_)))
 refine .dZ U (.blind 0 U au (ax.move U U) ae (.blind 1 U au (ax.move U U) ae ?_))
 refine .bP (n:=4) [2,3,4,5,6,7,8,9,10,11,12,13,14] [15,16,17,18] 15 U au (.cn 2 U (Y.zh U U) (.cn 3 U (Y.zh U U) (.cn 4 U (Y.zh U U) (.cn 5 U (Y.qs (m:=cY) ei U U bc (ao (d:=default) om)) (.cn 6 U (Y.qp l3 U U) (.cn 7 U (Y.za bj U U U U) (.cn 8 U (Y.zh U U) (.cn 9 U (Y.zh U U) (.cn 10 U (Y.zh U U) (.cn 11 U (Y.wc U U om) (.cn 12 U (Y.qs (m:=((cY:Int) - (iM:Int)).toNat) ei U U om (ao (d:=default) om)) (.cn 13 U (Y.qp l3 U U) (.cn 14 U (Y.za bj U U U U) (.nil (.one 15 U au ?_)))))))))))))))
 refine .bw [0,1] [] tK (gC (gl:=(gu ++ [(⟨5,(bf.getD cY default).p,(bf.getD (((cY:Int) - (iM:Int)).toNat) default).g⟩:Gate)]) ++ [(⟨6,(bf.getD cY default).g,(gu.length:Int)⟩:Gate)]) (a:=(bf.getD cY default).p) (b:=(bf.getD (((cY:Int) - (iM:Int)).toNat) default).p) aG) U (.named U U (.aj U U (.aj U U .nil))) ⟨U,U,trivial⟩ U ae (fun _ h=>by cases h) (fun _ h=>by cases h) ae ae ?_
 rintro r aJ ⟨rfl,rfl⟩ _
 refine ⟨⟨rfl,(by intro ob aW; simp only [List.mem_cons,List.not_mem_nil,or_false] at aW; rcases aW with rfl | rfl <;> rfl),.inl rfl⟩,(.nil ⟨U,(.bP (n:=1) [16,17] [18] 18 U au (.cn 16 U (Y.qt (m:=cY) ei U U bc om) (.cn 17 U (Y.qp l3 U U) (.nil (.one 18 U au ?_)))))⟩)⟩
 refine .gU (((eH.set cY (⟨(((gu ++ [(⟨5,(bf.getD cY default).p,(bf.getD (((cY:Int) - (iM:Int)).toNat) default).g⟩:Gate)]).length:Nat):Int),(eH.getD cY default).p⟩:bo)).set cY (⟨((eH.set cY (⟨(((gu ++ [(⟨5,(bf.getD cY default).p,(bf.getD (((cY:Int) - (iM:Int)).toNat) default).g⟩:Gate)]).length:Nat):Int),(eH.getD cY default).p⟩:bo)).getD cY default).g,((((gu ++ [(⟨5,(bf.getD cY default).p,(bf.getD (((cY:Int) - (iM:Int)).toNat) default).g⟩:Gate)]) ++ [(⟨6,(bf.getD cY default).g,(gu.length:Int)⟩:Gate)]).length:Nat):Int)⟩:bo)).map bo.row) dS U U U U U U U (aM (d:=default) aG) (aH U) (e9 U) ?_
 refine .nil ⟨U,?_⟩
 refine .done au (⟨((gu ++ [(⟨5,(bf.getD cY default).p,(bf.getD (((cY:Int) - (iM:Int)).toNat) default).g⟩:Gate)]) ++ [(⟨6,(bf.getD cY default).g,(gu.length:Int)⟩:Gate)]) ++ [(⟨5,(bf.getD cY default).p,(bf.getD (((cY:Int) - (iM:Int)).toNat) default).p⟩:Gate)],(eH.set cY (⟨(((gu ++ [(⟨5,(bf.getD cY default).p,(bf.getD (((cY:Int) - (iM:Int)).toNat) default).g⟩:Gate)]).length:Nat):Int),(eH.getD cY default).p⟩:bo)).set cY (⟨((eH.set cY (⟨(((gu ++ [(⟨5,(bf.getD cY default).p,(bf.getD (((cY:Int) - (iM:Int)).toNat) default).g⟩:Gate)]).length:Nat):Int),(eH.getD cY default).p⟩:bo)).getD cY default).g,((((gu ++ [(⟨5,(bf.getD cY default).p,(bf.getD (((cY:Int) - (iM:Int)).toNat) default).g⟩:Gate)]) ++ [(⟨6,(bf.getD cY default).g,(gu.length:Int)⟩:Gate)]).length:Nat):Int)⟩:bo),⟨mz,by rw [List.set_set,show ((cY:Int) - (iM:Int)).toNat = cY - iM by omega]; (try rw [kN om]); exact rU.Y7 hI hJ om om U⟩,Le.mk (.c4 (.c .nil)) (.cons (ay U eR) (.c (.c .nil)))⟩)
 refine .skip (⟨(gu ++ [(⟨5,(bf.getD cY default).p,(bf.getD (((cY:Int) - (iM:Int)).toNat) default).g⟩:Gate)]) ++ [(⟨6,(bf.getD cY default).g,(gu.length:Int)⟩:Gate)],eH.set cY (⟨(((gu ++ [(⟨5,(bf.getD cY default).p,(bf.getD (((cY:Int) - (iM:Int)).toNat) default).g⟩:Gate)]).length:Nat):Int),(eH.getD cY default).p⟩:bo),⟨mz,by rw [show ((cY:Int) - (iM:Int)).toNat = cY - iM by omega]; exact rU.Tw hI hJ om om⟩,Le.mk (.c4 (.c .nil)) (.cons (ay U eR) (.c (.c .nil)))⟩)
 obtain ⟨PY,IK⟩:=Uk
 refine .region (.mv ?_)
 refine .vl (Y.qb U U aG) (.an ?_)
 refine .nil (⟨cY + 1,sR,n8,⟨om,om,IK⟩,om,Le.mk (.c4 (.cons (ak U bc) .nil)) (.cons (ay U eR) (.c (.c .nil)))⟩)
 refine .exit (.sh (Sh.dA (d:=7) (o:=107) U U (aU om) ae) (.sh (Sh.cG (d:=7) (eH.map bo.row) U iJ (cC.map bo.bA)) (.region (.mv ?_))))
 refine .an (.nil (.region ?_))
 refine .mv ?_
 refine .vl (Y.zj U U om) (.an ?_)
 refine .nil (⟨eH,iM * 2,gu,⟨j + 1,hI.pass om hJ om⟩,om,Le.mk (.c2 (.cons (ak U bc) .nil)) (.cons (ay U eR) (.c .nil))⟩)
 refine .exit (.sr (.mv ?_))
 refine .an (.nil (.ret ?_))
 obtain ⟨j,hI⟩:=hI; have ta:=hI.ol; have Ui:=hI.len; have oG:=hI.jl; have RN:cF ps.length <= 6:=oa om; have YQ:3 * ps.length * j <= 1152:=Nat.le_trans (Nat.mul_le_mul_left _ oG) (Nat.mul_le_mul (show 3 * ps.length <= 192 by omega) RN); exact ⟨_,_,rfl,rfl,_,_,hI.ext,om,ta,fun i hi=>hI.done om hi,rfl,rfl⟩
open Go Go.AW Go.Proofs
theorem yD{c:Int}{gl:List Gate}(hg:Good gl)(tu:gl.length <= 40000000){t:Int}{x:Int}{ps:List bo}{G P:Nat -> List Bool -> Bool}{F0:List Bool -> Bool}(hp:Wp c gl ps G P t)(hx:Wr c gl x F0 t)(hn:1 <= ps.length /\ ps.length <= 64):aw Try.prog 176 [.ptr 0 0 0 0,.fz 2 (ps.map bo.row),vi x] [.cells [.aL 1 3 0 gl.length],.rows 3 (gl.map Gate.row)] [0] (fun r o=>∃ (l:List Gate) (out:List Int),Ext gl l /\ l.length <= gl.length + 1216 /\ out.length = ps.length /\ Ws c l out (Aq F0 G P) (t + 20 + 40 * (cF ps.length:Int)) /\ r = .dH 1 (out.map ah) /\ o = [.cells [.aL 1 3 0 l.length],.rows 3 (l.map Gate.row)]):=by
 refine aw.of Try.func176 U U U (n:=42) ae (aH U) (.sr (.an (.nil (.sr ?_))))
 refine .mv ?_
 refine .mv ?_
 refine .mv ?_
 refine .vl (Y.qx (n:=ps.length) ei U (congrArg some (List.length_map ..))) (.vl (Y.wb U U (Lf (a:=ps.length) (b:=1) (by first | omega | (simp; omega)))) (.vl (Y.zy (l:=0) (h:=ps.length - 1) ei U (.none _) (.some U) aG aG (by rw [List.drop_zero,<- List.map_take])) (.bw [0,1] [] OP (yC (gl:=gl) (ps:=ps.take (ps.length - 1)) hg om hp.take (by rw [List.length_take]; omega)) U (.named U U (.aj U U .nil)) ⟨U,U,trivial⟩ U ae (fun _ h=>by cases h) (fun _ h=>by cases h) ae ae ?_)))
 rintro r aJ ⟨WS,Gc,IN,WT,WU,Ul,rfl,rfl⟩ _
 refine ⟨⟨rfl,(by intro ob aW; simp only [List.mem_cons,List.not_mem_nil,or_false] at aW; rcases aW with rfl | rfl <;> rfl),.inl rfl⟩,(.an (.nil (.seq ?_)))⟩
 have htk:(ps.take (ps.length - 1)).length = ps.length - 1:=by rw [List.length_take]; omega
 refine .region (.mv ?_)
 refine .buildSlice (([x]:List Int).map ah) a7 dD U U U U U (aq (s:=1) (f:=ah) (fun _=>U)) U U U ae ?_
 refine .bQ U ae (.sh (Sh.dr (d:=8) (n:=([x]:List Int).length) 108 (([x]:List Int).map ah) U iJ (aU U) ae) (.nil (.seq (.sr (.an (.nil (.block ?_)))))))
 refine .eh (fun (n9:Nat) (eI:List Gate) (pq:List Int)=>⟨[(0,.ptr 0 0 0 0),(1,.fz 2 (ps.map bo.row)),(7,.fz 2 (Gc.map bo.row)),(8,.aL 108 1 0 pq.length),(9,vi n9)],[(0,.cells [.aL 1 3 0 eI.length]),(1,.rows 3 (eI.map Gate.row)),(108,.rows 1 (pq.map ah))]⟩) (fun n9 eI pq=>((n9:Int) <= (ps.length:Int)) /\ (Ar c WS eI F0 G P (t + 20 + 40 * (cF ps.length:Int)) pq n9)) (fun n9 eI pq=>ps.length - n9) 1 WS ([x]:List Int) (⟨om,Ar.init IN.dP ((hx.ext IN).late om)⟩) (Le.mk (.c2 (.c (.cons (aN U om) (.cons (ak U bc) .nil)))) (.cons (ay U eR) (.c (.c .nil)))) (fun n9 eI pq AA=>?_)
 obtain ⟨FQ,hS⟩:=AA
 refine .seq (.sr (.mv ?_))
 refine .mv ?_
 refine .vl (Y.qx (n:=ps.length) ei U (congrArg some (List.length_map ..))) (.vl (Y.zc U U) (.nil (.aA U (fun pa=>?_) (fun pa=>?_))))
 refine .skip (.seq (.block ?_))
 have YT:=hS.lo; have Um:=hS.len; have hSo:=hS.ol; have RP:=(hp.bit n9 om).2.ext IN; have WW:=Ul (n9 - 1) om; rw [show n9 - 1 + 1 = n9 by omega] at WW; have Sc:=pb (show (ps.take (ps.length - 1)).length <= ps.length by omega)
 refine .dZ U (.blind 0 U au (ax.move U U) ae (.bP (n:=4) [1,2,3,4,5,6,7,8,9,10,11,12] [13,14,15,16] 13 U au ?_))
 refine .cn 1 U (Y.zh U U) (.cn 2 U (Y.zh U U) (.cn 3 U (Y.zh U U) (.cn 4 U (Y.qs (m:=n9) ei U U bc (ao (d:=default) om)) (.cn 5 U (Y.qp l3 U U) (.cn 6 U (Y.za bj U U U U) (.cn 7 U (Y.zh U U) (.cn 8 U (Y.zh U U) (.cn 9 U (Y.wc U U om) (.cn 10 U (Y.qs (m:=((n9:Int) - 1).toNat) ei U U aG (ao (d:=default) aG)) (.cn 11 U (Y.qp mJ U U) (.cn 12 U (Y.za bj U U U U) (.nil (.one 13 U au (.bw [0,1] [] wm (n7 (gl:=eI) (a:=(ps.getD n9 default).p) (b:=(Gc.getD (((n9:Int) - 1).toNat) default).g) om) U (.named U U (.aj U U (.aj U U .nil))) ⟨U,U,trivial⟩ U ae (fun _ h=>by cases h) (fun _ h=>by cases h) ae ae ?_))))))))))))))
 rintro r aJ ⟨rfl,rfl⟩ _
 refine ⟨⟨rfl,(by intro ob aW; simp only [List.mem_cons,List.not_mem_nil,or_false] at aW; rcases aW with rfl | rfl <;> rfl),.inl rfl⟩,(.nil ⟨U,(.one 14 U au (.buildSlice (([(eI.length:Int)]:List Int).map ah) a7 dD U U U U U (aq (s:=1) (f:=ah) (fun _=>U)) U U U ae ?_))⟩)⟩
 refine .nil ⟨U,(.one 15 U au (.cL ah (pq ++ ([(eI.length:Int)]:List Int)) a7 dD U U U U (bg aG) (aR aG) (bz aG) aG aG ae ae ?_))⟩
 refine .nil ⟨U,(.bP (n:=0) [16] [] 0 U au (.cn 16 U (Y.qf U U) (.nil (.done au (.region (.mv ?_))))))⟩
 refine .vl (Y.qb U U aG) (.an ?_)
 refine .nil (⟨n9 + 1,eI ++ [(⟨7,(ps.getD n9 default).p,(Gc.getD (((n9:Int) - 1).toNat) default).g⟩:Gate)],pq ++ ([(eI.length:Int)]:List Int),⟨om,by rw [show ((n9:Int) - 1).toNat = n9 - 1 by omega]; exact hS.step (t:=t + 40 * (cF ps.length:Int)) (RP.late om) (WW.late om) om⟩,om,Le.mk (.c2 (.c (.cons (aN U om) (.cons (ak U bc) .nil)))) (.cons (ay U eR) (.c (.c .nil)))⟩)
 refine .exit (.sr (.mv ?_))
 refine .an ?_
 exact .sh (Sh.dA (d:=6) (o:=108) U U (aU om) ae) (.nil (.ret ⟨_,_,U,U,_,_,IN.trans hS.ext,by have:=hS.len; omega,by have:=hS.ol; omega,hS.ws,U,U⟩))
open Go Go.AW Go.Proofs
theorem Gd{c:Int}{gl:List Gate}(hg:Good gl)(tu:gl.length <= 30000000){w:Nat}{t:Int}{a b:List Int}{A B:List Bool -> BitVec w}(ha:Wd c gl a w A t)(hb:Wd c gl b w B t)(hw:1 <= w /\ w <= 64)(ht:0 <= t):aw Try.prog 126 [.ptr 0 0 0 0,.fz 1 (a.map ah),.fz 1 (b.map ah)] [.cells [.aL 1 3 0 gl.length],.rows 3 (gl.map Gate.row)] [0] (fun r o=>∃ (l:List Gate) (out:List Int),Ext gl l /\ l.length <= gl.length + 1500 /\ Wd c l out w (fun ins=>A ins + B ins) (t + 40 + 40 * (cF w:Int)) /\ r = .dH 1 (out.map ah) /\ o = [.cells [.aL 1 3 0 l.length],.rows 3 (l.map Gate.row)]):=by
 refine aw.of Try.func126 U U U (n:=48) ae (aH U) ?_
 have tI:=ha.len; have IM:=hb.len
 refine .sr (.an (.nil (.sr ?_)))
 refine .an ?_
 refine .sh (Sh.nil (d:=7) 107 2 U ae) (.nil (.seq (.sr (.mv ?_))))
 refine .vl (Y.qx (n:=a.length) a7 U (congrArg some (List.length_map ..))) (.mv ?_)
 refine .nil (.block (.eh (fun (fu:Nat) (ba:List Gate) (l8:List bo)=>⟨[(0,.ptr 0 0 0 0),(1,.fz 1 (a.map ah)),(2,.fz 1 (b.map ah)),(7,.aL 107 2 0 l8.length),(11,vi a.length),(12,vi fu)],[(0,.cells [.aL 1 3 0 ba.length]),(1,.rows 3 (ba.map Gate.row)),(107,.rows 2 (l8.map bo.row))]⟩) (fun fu ba l8=>((fu:Int) <= (a.length:Int)) /\ (xb c gl ba (fun k ins=>(A ins).getLsbD k) (fun k ins=>(B ins).getLsbD k) (t + 20) l8 fu)) (fun fu ba l8=>((a.length:Int) - (fu:Int)).toNat) 0 gl ([]:List bo) (⟨mz,xb.init hg⟩) (Le.mk (.c2 (.c (.cons (aN U aG) (.c (.cons (ak U bc) .nil))))) (.cons (ay U eR) (.c (.c .nil)))) (fun fu ba l8 qR=>?_)))
 obtain ⟨Fc,hT⟩:=qR
 refine .sr (.vl (Y.zc U U) (.nil (.seq (.aA U (fun xy=>?_) (fun xy=>?_)))))
 refine .skip (.seq (.block (.sr (.mv ?_))))
 refine .an (.nil (.seq ?_))
 have PZ:=hT.len; have Qa:=hT.pl
 refine .mA 9 U au (.val (Y.zh U U) ae (.val (Y.zh U U) ae (.val (Y.zh U U) ae (.val (Y.qs (m:=fu) a7 U U bc (ao (d:=0) om)) ae (.val (Y.za bj U U U U) ae (.val (Y.zh U U) ae (.val (Y.zh U U) ae (.val (Y.qs (m:=fu) a7 U U bc (ao (d:=0) om)) ae (.val (Y.za bj U U U U) ae (.nil (.bw [0,1] [] tK (gC (gl:=ba) (a:=a.getD fu 0) (b:=b.getD fu 0) om) U (.named U U (.aj U U (.aj U U .nil))) ⟨U,U,trivial⟩ U ae (fun _ h=>by cases h) (fun _ h=>by cases h) ae ae ?_)))))))))))
 rintro r aJ ⟨rfl,rfl⟩ _
 refine ⟨⟨rfl,(by intro ob aW; simp only [List.mem_cons,List.not_mem_nil,or_false] at aW; rcases aW with rfl | rfl <;> rfl),.inl rfl⟩,(.an (.nil ?_))⟩
 have PZ:=hT.len; have Qa:=hT.pl
 refine .dZ U (.blind 0 U au (ax.move U U) ae (.blind 1 U au (ax.move U U) ae ?_))
 refine .bP (n:=5) [2,3,4,5,6,7,8,9,10] [11,12,13,14,15] 11 U au (.cn 2 U (Y.zh U U) (.cn 3 U (Y.zh U U) (.cn 4 U (Y.zh U U) (.cn 5 U (Y.qs (m:=fu) a7 U U bc (ao (d:=0) om)) (.cn 6 U (Y.za bj U U U U) (.cn 7 U (Y.zh U U) (.cn 8 U (Y.zh U U) (.cn 9 U (Y.qs (m:=fu) a7 U U bc (ao (d:=0) om)) (.cn 10 U (Y.za bj U U U U) (.nil (.one 11 U au (.bw [0,1] [] wm (n7 (gl:=ba ++ [(⟨5,a.getD fu 0,b.getD fu 0⟩:Gate)]) (a:=a.getD fu 0) (b:=b.getD fu 0) aG) U (.named U U (.aj U U (.aj U U .nil))) ⟨U,U,trivial⟩ U ae (fun _ h=>by cases h) (fun _ h=>by cases h) ae ae ?_))))))))))))
 rintro r aJ ⟨rfl,rfl⟩ _
 refine ⟨⟨rfl,(by intro ob aW; simp only [List.mem_cons,List.not_mem_nil,or_false] at aW; rcases aW with rfl | rfl <;> rfl),.inl rfl⟩,(.nil ⟨U,(.bP (n:=3) [12] [13,14,15] 13 U au (.cn 12 U (Y.qh BL jv U U U) (.nil (.one 13 U au (.buildSlice (([(⟨(ba.length:Int),(((ba ++ [(⟨5,a.getD fu 0,b.getD fu 0⟩:Gate)]).length:Nat):Int)⟩:bo)]:List bo).map bo.row) ei jv U U U U U (aq (s:=2) (f:=bo.row) (fun _=>U)) U U U ae ?_)))))⟩)⟩
 refine .nil ⟨U,(.one 14 U au (.cL bo.row (l8 ++ ([(⟨(ba.length:Int),(((ba ++ [(⟨5,a.getD fu 0,b.getD fu 0⟩:Gate)]).length:Nat):Int)⟩:bo)]:List bo)) ei jv U U U U (bg aG) (aR aG) (bz aG) aG aG ae ae ?_))⟩
 refine .nil ⟨U,(.bP (n:=0) [15] [] 0 U au (.cn 15 U (Y.qf U U) (.nil (.done au (.region (.vl (Y.qb U U aG) (.mv ?_)))))))⟩
 refine .nil (⟨fu + 1,(ba ++ [(⟨5,a.getD fu 0,b.getD fu 0⟩:Gate)]) ++ [(⟨7,a.getD fu 0,b.getD fu 0⟩:Gate)],l8 ++ ([(⟨(ba.length:Int),(((ba ++ [(⟨5,a.getD fu 0,b.getD fu 0⟩:Gate)]).length:Nat):Int)⟩:bo)]:List bo),⟨om,hT.step (ha.bit fu om) (hb.bit fu om) (Int.le_refl _) (Int.le_refl _)⟩,om,Le.mk (.c2 (.c (.cons (aN U om) (.c (.cons (ak U bc) .nil))))) (.cons (ay U eR) (.c (.c .nil)))⟩)
 refine .exit (.seq (.sh (Sh.dA (d:=7) (o:=107) U U (aU om) ae) (.sh (Sh.cG (d:=7) (l8.map bo.row) U iJ (cC.map bo.bA)) ?_)))
 have PZ:=hT.len; have Qa:=hT.pl; have YU:=hT.wp.bit 0 om
 refine .region (.mv ?_)
 refine .mv ?_
 refine .mv ?_
 refine .vl (Y.qs (m:=0) ei U U bc (ao (d:=default) om)) (.fa l3 ?_)
 refine .ld bj ?_
 refine .bw [0,1] [] JC (yD (gl:=ba) (ps:=l8) (x:=(l8.getD 0 default).p) hT.ext.dP om hT.wp (F0:=fun ins=>(A ins).getLsbD 0 ^^ (B ins).getLsbD 0) YU.2 ⟨om,om⟩) U (.named U U (.aj U U (.aj U U .nil))) ⟨U,U,trivial⟩ U ae (fun _ h=>by cases h) (fun _ h=>by cases h) ae ae ?_
 rintro r aJ ⟨YV,Qb,LN,Qc,Qd,LO,rfl,rfl⟩ _
 exact ⟨⟨rfl,(by intro ob aW; simp only [List.mem_cons,List.not_mem_nil,or_false] at aW; rcases aW with rfl | rfl <;> rfl),.inl rfl⟩,(.bQ U ae (.nil (.ret ⟨_,_,U,U,_,_,hT.ext.trans LN,om,(sum_add om LO).late (by have:=hT.pl; rw [show l8.length = w by omega]; omega),U,U⟩)))⟩
theorem Ge{c:Int}{gl:List Gate}(hg:Good gl)(tu:gl.length <= 30000000){w:Nat}{t:Int}{a b:List Int}{A B:List Bool -> BitVec w}(ha:Wd c gl a w A t)(hb:Wd c gl b w B t)(hw:1 <= w /\ w <= 64)(ht:0 <= t):aw Try.prog 127 [.ptr 0 0 0 0,.fz 1 (a.map ah),.fz 1 (b.map ah)] [.cells [.aL 1 3 0 gl.length],.rows 3 (gl.map Gate.row)] [0] (fun r o=>∃ (l:List Gate) (out:List Int),Ext gl l /\ l.length <= gl.length + 1500 /\ Wd c l out w (fun ins=>A ins - B ins) (t + 50 + 40 * (cF w:Int)) /\ r = .dH 1 (out.map ah) /\ o = [.cells [.aL 1 3 0 l.length],.rows 3 (l.map Gate.row)]):=by
 refine aw.of Try.func127 U U U (n:=69) ae (aH U) ?_
 have tI:=ha.len; have IM:=hb.len
 refine .sr (.an (.nil (.sr ?_)))
 refine .mv ?_
 refine .mv ?_
 refine .bw [0,1] [] OO (Dd (gl:=gl) (a:=b) hg om hb.ws om) U (.named U U (.aj U U .nil)) ⟨U,U,trivial⟩ U ae (fun _ h=>by cases h) (fun _ h=>by cases h) ae ae ?_
 rintro r aJ ⟨WX,o8,Gf,WY,WZ,Qe,rfl,rfl⟩ _
 refine ⟨⟨rfl,(by intro ob aW; simp only [List.mem_cons,List.not_mem_nil,or_false] at aW; rcases aW with rfl | rfl <;> rfl),.inl rfl⟩,(.bQ U ae (.sh (Sh.cG (d:=7) (o8.map ah) U iJ (cC.map aI)) (.nil (.sr (.an ?_)))))⟩
 refine .sh (Sh.nil (d:=8) 108 2 U ae) (.nil (.seq (.sr (.mv ?_))))
 refine .vl (Y.qx (n:=a.length) a7 U (congrArg some (List.length_map ..))) (.mv ?_)
 refine .nil (.block ?_)
 refine .eh (fun (fv:Nat) (eI:List Gate) (qU:List bo)=>⟨[(0,.ptr 0 0 0 0),(1,.fz 1 (a.map ah)),(2,.fz 1 (b.map ah)),(7,.fz 1 (o8.map ah)),(8,.aL 108 2 0 qU.length),(16,vi a.length),(17,vi fv)],[(0,.cells [.aL 1 3 0 eI.length]),(1,.rows 3 (eI.map Gate.row)),(108,.rows 2 (qU.map bo.row))]⟩) (fun fv eI qU=>((fv:Int) <= (a.length:Int)) /\ (xb c WX eI (fun k ins=>(A ins).getLsbD k) (fun k ins=>!(B ins).getLsbD k) (t + 30) qU fv)) (fun fv eI qU=>((a.length:Int) - (fv:Int)).toNat) 0 WX ([]:List bo) (⟨mz,xb.init Gf.dP⟩) (Le.mk (.c4 (.cons (aN U aG) (.c (.cons (ak U bc) .nil)))) (.cons (ay U eR) (.c (.c .nil)))) (fun fv eI qU AA=>?_)
 obtain ⟨FQ,hT⟩:=AA
 refine .sr (.vl (Y.zc U U) (.nil (.seq (.aA U (fun Un=>?_) (fun Un=>?_)))))
 refine .skip (.seq (.block (.sr (.mv ?_))))
 refine .an (.nil (.seq ?_))
 have PZ:=hT.len; have Qa:=hT.pl
 refine .mA 9 U au (.val (Y.zh U U) ae (.val (Y.zh U U) ae (.val (Y.zh U U) ae (.val (Y.qs (m:=fv) a7 U U bc (ao (d:=0) om)) ae (.val (Y.za bj U U U U) ae (.val (Y.zh U U) ae (.val (Y.zh U U) ae (.val (Y.qs (m:=fv) a7 U U bc (ao (d:=0) om)) ae (.val (Y.za bj U U U U) ae (.nil (.bw [0,1] [] tK (gC (gl:=eI) (a:=a.getD fv 0) (b:=o8.getD fv 0) om) U (.named U U (.aj U U (.aj U U .nil))) ⟨U,U,trivial⟩ U ae (fun _ h=>by cases h) (fun _ h=>by cases h) ae ae ?_)))))))))))
 rintro r aJ ⟨rfl,rfl⟩ _
 refine ⟨⟨rfl,(by intro ob aW; simp only [List.mem_cons,List.not_mem_nil,or_false] at aW; rcases aW with rfl | rfl <;> rfl),.inl rfl⟩,(.an (.nil ?_))⟩
 have PZ:=hT.len; have Qa:=hT.pl
 refine .dZ U (.blind 0 U au (ax.move U U) ae (.blind 1 U au (ax.move U U) ae ?_))
 refine .bP (n:=5) [2,3,4,5,6,7,8,9,10] [11,12,13,14,15] 11 U au (.cn 2 U (Y.zh U U) (.cn 3 U (Y.zh U U) (.cn 4 U (Y.zh U U) (.cn 5 U (Y.qs (m:=fv) a7 U U bc (ao (d:=0) om)) (.cn 6 U (Y.za bj U U U U) (.cn 7 U (Y.zh U U) (.cn 8 U (Y.zh U U) (.cn 9 U (Y.qs (m:=fv) a7 U U bc (ao (d:=0) om)) (.cn 10 U (Y.za bj U U U U) (.nil (.one 11 U au (.bw [0,1] [] wm (n7 (gl:=eI ++ [(⟨5,a.getD fv 0,o8.getD fv 0⟩:Gate)]) (a:=a.getD fv 0) (b:=o8.getD fv 0) aG) U (.named U U (.aj U U (.aj U U .nil))) ⟨U,U,trivial⟩ U ae (fun _ h=>by cases h) (fun _ h=>by cases h) ae ae ?_))))))))))))
 rintro r aJ ⟨rfl,rfl⟩ _
 refine ⟨⟨rfl,(by intro ob aW; simp only [List.mem_cons,List.not_mem_nil,or_false] at aW; rcases aW with rfl | rfl <;> rfl),.inl rfl⟩,(.nil ⟨U,(.bP (n:=3) [12] [13,14,15] 13 U au (.cn 12 U (Y.qh BL jv U U U) (.nil (.one 13 U au (.buildSlice (([(⟨(eI.length:Int),(((eI ++ [(⟨5,a.getD fv 0,o8.getD fv 0⟩:Gate)]).length:Nat):Int)⟩:bo)]:List bo).map bo.row) ei jv U U U U U (aq (s:=2) (f:=bo.row) (fun _=>U)) U U U ae ?_)))))⟩)⟩
 refine .nil ⟨U,(.one 14 U au (.cL bo.row (qU ++ ([(⟨(eI.length:Int),(((eI ++ [(⟨5,a.getD fv 0,o8.getD fv 0⟩:Gate)]).length:Nat):Int)⟩:bo)]:List bo)) ei jv U U U U (bg aG) (aR aG) (bz aG) aG aG ae ae ?_))⟩
 refine .nil ⟨U,(.bP (n:=0) [15] [] 0 U au (.cn 15 U (Y.qf U U) (.nil (.done au (.region (.vl (Y.qb U U aG) (.mv ?_)))))))⟩
 refine .nil (⟨fv + 1,(eI ++ [(⟨5,a.getD fv 0,o8.getD fv 0⟩:Gate)]) ++ [(⟨7,a.getD fv 0,o8.getD fv 0⟩:Gate)],qU ++ ([(⟨(eI.length:Int),(((eI ++ [(⟨5,a.getD fv 0,o8.getD fv 0⟩:Gate)]).length:Nat):Int)⟩:bo)]:List bo),⟨om,hT.step ((ha.bit fv om).ext Gf) (Qe.bit fv om) om om⟩,om,Le.mk (.c4 (.cons (aN U om) (.c (.cons (ak U bc) .nil)))) (.cons (ay U eR) (.c (.c .nil)))⟩)
 refine .exit (.seq ?_)
 have PZ:=hT.len; have Qa:=hT.pl; have a0:=(ha.bit 0 om).ext (Gf.trans hT.ext); have b0:=(hb.bit 0 om).ext (Gf.trans hT.ext); have n0:=(Qe.bit 0 om).ext hT.ext; have e1:=Ext.two (k:=7) hT.ext.dP ae a0 b0; have w1:=a0.xor (u:=t + 30) b0 om om; have e2:=Ext.two (k:=6) e1.dP ae (a0.ext e1) (n0.ext e1); have w2:=(a0.ext e1).or (u:=t + 30) (n0.ext e1) om om; have hq:=(hT.wp.ext (e1.trans e2)).Tx om w2
 refine .mA 7 U au (.val (Y.zh U U) ae (.val (Y.zh U U) ae (.val (Y.qs (m:=0) a7 U U bc (ao (d:=0) om)) ae (.val (Y.za bj U U U U) ae (.val (Y.zh U U) ae (.val (Y.qs (m:=0) a7 U U bc (ao (d:=0) om)) ae (.val (Y.za bj U U U U) ae (.nil (.bw [0,1] [] wm (n7 (gl:=eI) (a:=a.getD 0 0) (b:=b.getD 0 0) om) U (.named U U (.aj U U (.aj U U .nil))) ⟨U,U,trivial⟩ U ae (fun _ h=>by cases h) (fun _ h=>by cases h) ae ae ?_)))))))))
 rintro r aJ ⟨rfl,rfl⟩ _
 refine ⟨⟨rfl,(by intro ob aW; simp only [List.mem_cons,List.not_mem_nil,or_false] at aW; rcases aW with rfl | rfl <;> rfl),.inl rfl⟩,(.an ?_)⟩
 refine .nil (.seq (.dZ U ?_))
 refine .blind 0 U au (ax.move U U) ae (.bP (n:=4) [1,2,3,4,5,6,7] [8,9,10,11] 8 U au (.cn 1 U (Y.zh U U) (.cn 2 U (Y.zh U U) (.cn 3 U (Y.qs (m:=0) a7 U U bc (ao (d:=0) om)) (.cn 4 U (Y.za bj U U U U) (.cn 5 U (Y.zh U U) (.cn 6 U (Y.qs (m:=0) a7 U U bc (ao (d:=0) om)) (.cn 7 U (Y.za bj U U U U) (.nil (.one 8 U au (.bw [0,1] [] yf (sb (gl:=eI ++ [(⟨7,a.getD 0 0,b.getD 0 0⟩:Gate)]) (a:=a.getD 0 0) (b:=o8.getD 0 0) aG) U (.named U U (.aj U U (.aj U U .nil))) ⟨U,U,trivial⟩ U ae (fun _ h=>by cases h) (fun _ h=>by cases h) ae ae ?_)))))))))))
 rintro r aJ ⟨rfl,rfl⟩ _
 refine ⟨⟨rfl,(by intro ob aW; simp only [List.mem_cons,List.not_mem_nil,or_false] at aW; rcases aW with rfl | rfl <;> rfl),.inl rfl⟩,(.nil ⟨U,(.bP (n:=1) [9,10] [11] 11 U au (.cn 9 U (Y.qt (m:=0) ei U U bc om) (.cn 10 U (Y.qp mJ U U) (.nil (.one 11 U au (.gU ((qU.set 0 (⟨(((eI ++ [(⟨7,a.getD 0 0,b.getD 0 0⟩:Gate)]).length:Nat):Int),(qU.getD 0 default).p⟩:bo)).map bo.row) dS U U U U U U U (aM (d:=default) om) (aH U) (e9 U) ?_))))))⟩)⟩
 refine .nil ⟨U,(.done au (.seq (.sh (Sh.dA (d:=8) (o:=108) U U (aU aG) ae) (.sh (Sh.cG (d:=8) ((qU.set 0 (⟨(((eI ++ [(⟨7,a.getD 0 0,b.getD 0 0⟩:Gate)]).length:Nat):Int),(qU.getD 0 default).p⟩:bo)).map bo.row) U iJ (cC.map bo.bA)) (.region (.mv ?_))))))⟩
 refine .mv ?_
 refine .mv ?_
 refine .bw [0,1] [] JC (yD (gl:=(eI ++ [(⟨7,a.getD 0 0,b.getD 0 0⟩:Gate)]) ++ [(⟨6,a.getD 0 0,o8.getD 0 0⟩:Gate)]) (ps:=qU.set 0 (⟨(((eI ++ [(⟨7,a.getD 0 0,b.getD 0 0⟩:Gate)]).length:Nat):Int),(qU.getD 0 default).p⟩:bo)) (x:=(eI.length:Int)) e2.dP aG hq (w1.ext e2) ⟨mz,mz⟩) U (.named U U (.aj U U (.aj U U .nil))) ⟨U,U,trivial⟩ U ae (fun _ h=>by cases h) (fun _ h=>by cases h) ae ae ?_
 rintro r aJ ⟨l68,Xa,Uo,Qf,Qg,Up,rfl,rfl⟩ _
 exact ⟨⟨rfl,(by intro ob aW; simp only [List.mem_cons,List.not_mem_nil,or_false] at aW; rcases aW with rfl | rfl <;> rfl),.inl rfl⟩,(.bQ U ae (.nil (.ret ⟨_,_,U,U,_,_,(Gf.trans hT.ext).trans ((e1.trans e2).trans Uo),by simp only [List.length_append,List.length_singleton] at Qf; omega,(It (by rw [List.length_set] at Qg; omega) Up).late (by rw [List.length_set,show qU.length = w by omega]; omega),U,U⟩)))⟩
open Go Go.AW Go.Proofs
theorem pP{c:Int}{gl:List Gate}(hg:Good gl)(tu:gl.length <= 40000000){s:Bool}{w:Nat}{t:Int}{a b:List Int}{A B:List Bool -> BitVec w}(ha:Wd c gl a w A t)(hb:Wd c gl b w B t)(hw:1 <= w /\ w <= 64)(ht:0 <= t):aw Try.prog 131 [.ptr 0 0 0 0,.fz 1 (a.map ah),.fz 1 (b.map ah),.v (.bool s)] [.cells [.aL 1 3 0 gl.length],.rows 3 (gl.map Gate.row)] [0] (fun r o=>∃ (l:List Gate) (x:Int),Ext gl l /\ l.length <= gl.length + 450 /\ Wr c l x (fun ins=>if s then (A ins).slt (B ins) else (A ins).ult (B ins)) (t + 30 + 40 * (cF w:Int)) /\ r = (vi x) /\ o = [.cells [.aL 1 3 0 l.length],.rows 3 (l.map Gate.row)]):=by
 refine aw.of Try.func131 U U U (n:=120) ae (aH U) ?_
 have tI:=ha.len; have IM:=hb.len
 refine .sr (.an (.nil (.sr ?_)))
 refine .an ?_
 refine .sh (Sh.nil (d:=9) 109 2 U ae) (.nil (.seq (.sr (.mv ?_))))
 refine .vl (Y.qx (n:=a.length) a7 U (congrArg some (List.length_map ..))) (.mv ?_)
 refine .nil (.block (.eh (fun (gD:Nat) (ba:List Gate) (tN:List bo)=>⟨[(0,.ptr 0 0 0 0),(1,.fz 1 (a.map ah)),(2,.fz 1 (b.map ah)),(3,.v (.bool s)),(9,.aL 109 2 0 tN.length),(21,vi a.length),(22,vi gD)],[(0,.cells [.aL 1 3 0 ba.length]),(1,.rows 3 (ba.map Gate.row)),(109,.rows 2 (tN.map bo.row))]⟩) (fun gD ba tN=>((gD:Int) <= (a.length:Int)) /\ (vF c gl ba (fun k ins=>(A ins).getLsbD k) (fun k ins=>(B ins).getLsbD k) s w (t + 30) tN gD)) (fun gD ba tN=>((a.length:Int) - (gD:Int)).toNat) 0 gl ([]:List bo) (⟨mz,vF.init hg⟩) (Le.mk (.c4 (.cons (aN U aG) (.c (.cons (ak U bc) .nil)))) (.cons (ay U eR) (.c (.c .nil)))) (fun gD ba tN qR=>?_)))
 obtain ⟨Fc,hL⟩:=qR
 refine .sr (.vl (Y.zc U U) (.nil (.seq (.aA U (fun y9=>?_) (fun y9=>?_)))))
 refine .skip (.seq (.block (.sr (.mv ?_))))
 refine .an ?_
 refine .nil (.seq (.gy U au ?_))
 refine .val (Y.zh U U) ae (.val (Y.zh U U) ae (.val (Y.qs (m:=gD) a7 U U bc (ao (d:=0) om)) ae (.val (Y.za bj U U U U) ae (.val (Y.zh U U) ae (.val (Y.zh U U) ae (.val (Y.qs (m:=gD) a7 U U bc (ao (d:=0) om)) ae (.val (Y.za bj U U U U) ae (.val (Y.qf U U) ae (.val (Y.qf U U) ae (.nil ?_))))))))))
 refine .lk (fun (fg:Int) (gA:Int)=>⟨[(0,.ptr 0 0 0 0),(1,.fz 1 (a.map ah)),(2,.fz 1 (b.map ah)),(3,.v (.bool s)),(9,.aL 109 2 0 tN.length),(11,vi fg),(12,vi gA),(21,vi a.length),(22,vi gD)],[(0,.cells [.aL 1 3 0 ba.length]),(1,.rows 3 (ba.map Gate.row)),(109,.rows 2 (tN.map bo.row))]⟩) (fun fg gA=>(fg = if s = true /\ gD + 1 = a.length then b.getD gD 0 else a.getD gD 0) /\ (gA = if s = true /\ gD + 1 = a.length then a.getD gD 0 else b.getD gD 0)) ?_ (fun fg gA IK=>?_)
 refine .sr (.mv ?_)
 refine .mv ?_
 refine .split (d:=34) U (fun xz=>?_) (fun xz=>?_)
 refine .gw 34 (Y.zh U U) (.gw 34 (Y.zh U U) (.gw 34 (Y.qx (n:=a.length) a7 U (congrArg some (List.length_map ..))) (.gw 34 (Y.wc U U om) (.gw 34 (Y.ql U U) (.pk ?_)))))
 refine .nil (.aA U (fun AK=>?_) (fun AK=>?_))
 refine .region (.mv ?_)
 refine .mv ?_
 refine .an ?_
 refine .an ?_
 refine .nil ⟨b.getD gD 0,a.getD gD 0,by grind,Le.mk (.c4 (.c (.cons (ak U bc) (.cons (ak U bc) (.c (.c .nil)))))) (.c2 (.c .nil))⟩
 refine .skip ⟨a.getD gD 0,b.getD gD 0,by grind,Le.mk (.c4 (.c (.cons (ak U bc) (.cons (ak U bc) (.c (.c .nil)))))) (.c2 (.c .nil))⟩
 refine .gz 34 (.gz 34 (.gz 34 (.gz 34 (.gz 34 (.pk ?_)))))
 exact .nil (.cZ U (.skip ⟨a.getD gD 0,b.getD gD 0,by grind,Le.mk (.c4 (.c (.cons (ak U bc) (.cons (ak U bc) (.c (.c .nil)))))) (.c2 (.c .nil))⟩))
 refine .seq ?_
 have YW:=hL.len; have YX:=hL.pl; have zO:=Fw (s:=s) (i:=gD) ha hb om (IK.1.trans (by rw [tI])) (IK.2.trans (by rw [tI]))
 refine .region (.mv ?_)
 refine .mv ?_
 refine .mv ?_
 refine .bw [0,1] [] uF (ie (gl:=ba) (a:=fg) om) U (.named U U (.aj U U .nil)) ⟨U,U,trivial⟩ U ae (fun _ h=>by cases h) (fun _ h=>by cases h) ae ae ?_
 rintro r aJ ⟨rfl,rfl⟩ _
 refine ⟨⟨rfl,(by intro ob aW; simp only [List.mem_cons,List.not_mem_nil,or_false] at aW; rcases aW with rfl | rfl <;> rfl),.inl rfl⟩,(.mv ?_)⟩
 refine .bw [0,1] [] tK (gC (gl:=ba ++ [(⟨4,fg,0⟩:Gate)]) (a:=(ba.length:Int)) (b:=gA) aG) U (.named U U (.aj U U (.aj U U .nil))) ⟨U,U,trivial⟩ U ae (fun _ h=>by cases h) (fun _ h=>by cases h) ae ae ?_
 rintro r aJ ⟨rfl,rfl⟩ _
 refine ⟨⟨rfl,(by intro ob aW; simp only [List.mem_cons,List.not_mem_nil,or_false] at aW; rcases aW with rfl | rfl <;> rfl),.inl rfl⟩,(.an (.nil (.region ?_)))⟩
 refine .mv ?_
 refine .mv ?_
 refine .mv ?_
 refine .mv ?_
 refine .mv ?_
 refine .mv ?_
 refine .bw [0,1] [] wm (n7 (gl:=(ba ++ [(⟨4,fg,0⟩:Gate)]) ++ [(⟨5,(ba.length:Int),gA⟩:Gate)]) (a:=fg) (b:=gA) aG) U (.named U U (.aj U U (.aj U U .nil))) ⟨U,U,trivial⟩ U ae (fun _ h=>by cases h) (fun _ h=>by cases h) ae ae ?_
 rintro r aJ ⟨rfl,rfl⟩ _
 refine ⟨⟨rfl,(by intro ob aW; simp only [List.mem_cons,List.not_mem_nil,or_false] at aW; rcases aW with rfl | rfl <;> rfl),.inl rfl⟩,(.bw [0,1] [] uF (ie (gl:=((ba ++ [(⟨4,fg,0⟩:Gate)]) ++ [(⟨5,(ba.length:Int),gA⟩:Gate)]) ++ [(⟨7,fg,gA⟩:Gate)]) (a:=((((ba ++ [(⟨4,fg,0⟩:Gate)]) ++ [(⟨5,(ba.length:Int),gA⟩:Gate)]).length:Nat):Int)) aG) U (.named U U (.aj U U .nil)) ⟨U,U,trivial⟩ U ae (fun _ h=>by cases h) (fun _ h=>by cases h) ae ae ?_)⟩
 rintro r aJ ⟨rfl,rfl⟩ _
 refine ⟨⟨rfl,(by intro ob aW; simp only [List.mem_cons,List.not_mem_nil,or_false] at aW; rcases aW with rfl | rfl <;> rfl),.inl rfl⟩,(.vl (Y.qh BL jv U U U) (.buildSlice (([(⟨(((ba ++ [(⟨4,fg,0⟩:Gate)]).length:Nat):Int),(((((ba ++ [(⟨4,fg,0⟩:Gate)]) ++ [(⟨5,(ba.length:Int),gA⟩:Gate)]) ++ [(⟨7,fg,gA⟩:Gate)]).length:Nat):Int)⟩:bo)]:List bo).map bo.row) ei jv U U U U U (aq (s:=2) (f:=bo.row) (fun _=>U)) U U U ae ?_))⟩
 refine .cL bo.row (tN ++ ([(⟨(((ba ++ [(⟨4,fg,0⟩:Gate)]).length:Nat):Int),(((((ba ++ [(⟨4,fg,0⟩:Gate)]) ++ [(⟨5,(ba.length:Int),gA⟩:Gate)]) ++ [(⟨7,fg,gA⟩:Gate)]).length:Nat):Int)⟩:bo)]:List bo)) ei jv U U U U (bg aG) (aR aG) (bz aG) aG aG ae ae ?_
 refine .an (.nil (.region ?_))
 refine .vl (Y.qb U U aG) (.mv ?_)
 refine .nil (⟨gD + 1,(((ba ++ [(⟨4,fg,0⟩:Gate)]) ++ [(⟨5,(ba.length:Int),gA⟩:Gate)]) ++ [(⟨7,fg,gA⟩:Gate)]) ++ [(⟨4,((((ba ++ [(⟨4,fg,0⟩:Gate)]) ++ [(⟨5,(ba.length:Int),gA⟩:Gate)]).length:Nat):Int),0⟩:Gate)],tN ++ ([(⟨(((ba ++ [(⟨4,fg,0⟩:Gate)]).length:Nat):Int),(((((ba ++ [(⟨4,fg,0⟩:Gate)]) ++ [(⟨5,(ba.length:Int),gA⟩:Gate)]) ++ [(⟨7,fg,gA⟩:Gate)]).length:Nat):Int)⟩:bo)]:List bo),⟨om,hL.step zO.1 zO.2 (Int.le_refl _) (fun ins=>⟨U,U⟩)⟩,om,Le.mk (.c4 (.cons (aN U om) (.c (.cons (ak U bc) .nil)))) (.cons (ay U eR) (.c (.c .nil)))⟩)
 refine .exit (.seq (.block (.sh (Sh.dA (d:=9) (o:=109) U U (aU om) ae) (.sh (Sh.cG (d:=9) (tN.map bo.row) U iJ (cC.map bo.bA)) ?_))))
 have YW:=hL.len; have YX:=hL.pl
 refine .iD (fun (cw:List bo) (oe:List Gate)=>⟨[(0,.ptr 0 0 0 0),(9,.fz 2 (cw.map bo.row))],[(0,.cells [.aL 1 3 0 oe.length]),(1,.rows 3 (oe.map Gate.row))]⟩) (fun cw oe=>(BV c ba (fun ins=>if s then (A ins).slt (B ins) else (A ins).ult (B ins)) w (t + 30) oe cw)) (fun cw oe=>cw.length) tN ba (vF.tree (g0:=gl) om ((show gD = w by omega) ▸ hL)) (Le.mk (.c (.c .nil)) (.cons (ay U eR) (.c .nil))) (fun cw oe FP=>?_)
 have hI:=FP
 refine .seq (.sr (.mv ?_))
 refine .vl (Y.qx (n:=cw.length) ei U (congrArg some (List.length_map ..))) (.vl (Y.qr U U) (.nil (.aA U (fun sq=>?_) (fun sq=>?_))))
 refine .skip (.block (.seq ?_))
 have Ui:=hI.len; have Uq:=hI.lo; have hIe:=hI.ext.len; have hex:∃ G P t,Wp c oe cw G P t:=(by obtain ⟨G1,P1,t1,h1,_⟩:=hI.ex; exact ⟨G1,P1,t1,h1⟩)
 refine .region (.an ?_)
 refine .sh (Sh.nil (d:=14) 114 2 U ae) (.nil (.seq (.sr (.an (.nil (.block ?_))))))
 refine .eh (fun (cx:Nat) (cT:List Gate) (eZ:List bo)=>⟨[(0,.ptr 0 0 0 0),(9,.fz 2 (cw.map bo.row)),(14,.aL 114 2 0 eZ.length),(15,vi cx)],[(0,.cells [.aL 1 3 0 cT.length]),(1,.rows 3 (cT.map Gate.row)),(114,.rows 2 (eZ.map bo.row))]⟩) (fun cx cT eZ=>(Ir c oe cw cT eZ cx)) (fun cx cT eZ=>cw.length - cx) 0 oe ([]:List bo) (Ir.init hI.ext.dP) (Le.mk (.c2 (.cons (aN U aG) (.cons (ak U bc) .nil))) (.cons (ay U eR) (.c (.c .nil)))) (fun cx cT eZ Gg=>?_)
 have hJ:=Gg
 refine .seq (.seq ?_)
 have Ud:=hJ.hi; have oG:=hJ.len; have Ue:=hJ.nl; have Uf:=hJ.even
 refine .region (.mv ?_)
 refine .vl (Y.qb U U aG) (.mv ?_)
 refine .vl (Y.qx (n:=cw.length) ei U (congrArg some (List.length_map ..))) (.vl (Y.zc U U) (.nil (.aA U (fun DH=>?_) (fun DH=>?_))))
 refine .skip (.seq (.block (.seq (.dW (⟨[(0,.ptr 0 0 0 0),(9,.fz 2 (cw.map bo.row)),(14,.aL 114 2 0 eZ.length),(15,.v (.int .i64 (cx:Int))),(16,.ptr 116 0 0 0),(17,.ptr 117 0 0 0)],[(0,.cells [.aL 1 3 0 cT.length]),(1,.rows 3 (cT.map Gate.row)),(114,.rows 2 (eZ.map bo.row)),(116,.cells [.v (.int .i64 ((cw.getD cx default).g)),.v (.int .i64 ((cw.getD cx default).p))]),(117,.cells [.v (.int .i64 ((cw.getD (cx + 1) default).g)),.v (.int .i64 ((cw.getD (cx + 1) default).p))])]⟩) U ?_ ?_))))
 refine .blind 0 U au (ax.move U U) ae (.blind 1 U au (ax.move U U) ae ?_)
 refine .blind 2 U au (ax.kj (m:=cx) ei U U bc (ao (d:=default) om)) ae ?_
 refine .fe 3 U au EX U U U (aH U) U U ae (.blind 4 U au (ax.move U U) ae (.blind 5 U au (ax.move U U) ae ?_))
 refine .blind 6 U au (ax.KY U U om) ae (.blind 7 U au (ax.kj (m:=cx + 1) ei U U bc (ao (d:=default) om)) ae ?_)
 refine .fe 8 U au EX U U U (aH U) U U ae (.yj ?_)
 refine .two 9 10 U U au ?_ ?_
 refine .alloc 116 jv U U ae ?_
 refine .nil ⟨U,(.one 10 U au (.alloc 117 jv U U ae ?_))⟩
 refine .nil ⟨U,(.one 11 U au (.ai BM U U U U U U (aH U) U ?_))⟩
 refine .nil ⟨U,(.one 12 U au (.ai BM U U U U U U (aH U) U ?_))⟩
 exact .nil ⟨U,(.done au (Le.mk (.c4 (.c (.c .nil))) (.c4 (.c .nil))))⟩
 refine .alloc 117 jv U U ae ?_
 refine .nil ⟨U,(.one 9 U au (.alloc 116 jv U U ae ?_))⟩
 refine .nil ⟨U,(.one 11 U au (.ai BM U U U U U U (aH U) U ?_))⟩
 refine .nil ⟨U,(.one 12 U au (.ai BM U U U U U U (aH U) U ?_))⟩
 exact .nil ⟨U,(.done au (Le.mk (.c4 (.c (.c .nil))) (.c4 (.c .nil))))⟩
 refine .sr (.mv ?_)
 refine .fa l3 ?_
 refine .ld bj ?_
 refine .fa mJ ?_
 refine .ld bj ?_
 refine .bw [0,1] [] tK (gC (gl:=cT) (a:=(cw.getD (cx + 1) default).p) (b:=(cw.getD cx default).g) om) U (.named U U (.aj U U (.aj U U .nil))) ⟨U,U,trivial⟩ U ae (fun _ h=>by cases h) (fun _ h=>by cases h) ae ae ?_
 rintro r aJ ⟨rfl,rfl⟩ _
 refine ⟨⟨rfl,(by intro ob aW; simp only [List.mem_cons,List.not_mem_nil,or_false] at aW; rcases aW with rfl | rfl <;> rfl),.inl rfl⟩,(.an (.nil (.sr ?_)))⟩
 refine .mv ?_
 refine .fa mJ ?_
 refine .ld bj ?_
 refine .mv ?_
 refine .bw [0,1] [] yf (sb (gl:=cT ++ [(⟨5,(cw.getD (cx + 1) default).p,(cw.getD cx default).g⟩:Gate)]) (a:=(cw.getD (cx + 1) default).g) (b:=(cT.length:Int)) aG) U (.named U U (.aj U U (.aj U U .nil))) ⟨U,U,trivial⟩ U ae (fun _ h=>by cases h) (fun _ h=>by cases h) ae ae ?_
 rintro r aJ ⟨rfl,rfl⟩ _
 refine ⟨⟨rfl,(by intro ob aW; simp only [List.mem_cons,List.not_mem_nil,or_false] at aW; rcases aW with rfl | rfl <;> rfl),.inl rfl⟩,(.an (.nil (.region ?_)))⟩
 refine .mv ?_
 refine .mv ?_
 refine .mv ?_
 refine .fa l3 ?_
 refine .ld bj ?_
 refine .fa l3 ?_
 refine .ld bj ?_
 refine .bw [0,1] [] tK (gC (gl:=(cT ++ [(⟨5,(cw.getD (cx + 1) default).p,(cw.getD cx default).g⟩:Gate)]) ++ [(⟨6,(cw.getD (cx + 1) default).g,(cT.length:Int)⟩:Gate)]) (a:=(cw.getD (cx + 1) default).p) (b:=(cw.getD cx default).p) aG) U (.named U U (.aj U U (.aj U U .nil))) ⟨U,U,trivial⟩ U ae (fun _ h=>by cases h) (fun _ h=>by cases h) ae ae ?_
 rintro r aJ ⟨rfl,rfl⟩ _
 refine ⟨⟨rfl,(by intro ob aW; simp only [List.mem_cons,List.not_mem_nil,or_false] at aW; rcases aW with rfl | rfl <;> rfl),.inl rfl⟩,(.vl (Y.qh BL jv U U U) (.buildSlice (([(⟨(((cT ++ [(⟨5,(cw.getD (cx + 1) default).p,(cw.getD cx default).g⟩:Gate)]).length:Nat):Int),((((cT ++ [(⟨5,(cw.getD (cx + 1) default).p,(cw.getD cx default).g⟩:Gate)]) ++ [(⟨6,(cw.getD (cx + 1) default).g,(cT.length:Int)⟩:Gate)]).length:Nat):Int)⟩:bo)]:List bo).map bo.row) ei jv U U U U U (aq (s:=2) (f:=bo.row) (fun _=>U)) U U U ae ?_))⟩
 refine .cL bo.row (eZ ++ ([(⟨(((cT ++ [(⟨5,(cw.getD (cx + 1) default).p,(cw.getD cx default).g⟩:Gate)]).length:Nat):Int),((((cT ++ [(⟨5,(cw.getD (cx + 1) default).p,(cw.getD cx default).g⟩:Gate)]) ++ [(⟨6,(cw.getD (cx + 1) default).g,(cT.length:Int)⟩:Gate)]).length:Nat):Int)⟩:bo)]:List bo)) ei jv U U U U (bg aG) (aR aG) (bz aG) aG aG ae ae ?_
 refine .an (.nil (.region ?_))
 refine .mv ?_
 refine .vl (Y.qb U U aG) (.an ?_)
 refine .nil (⟨cx + 2,((cT ++ [(⟨5,(cw.getD (cx + 1) default).p,(cw.getD cx default).g⟩:Gate)]) ++ [(⟨6,(cw.getD (cx + 1) default).g,(cT.length:Int)⟩:Gate)]) ++ [(⟨5,(cw.getD (cx + 1) default).p,(cw.getD cx default).p⟩:Gate)],eZ ++ ([(⟨(((cT ++ [(⟨5,(cw.getD (cx + 1) default).p,(cw.getD cx default).g⟩:Gate)]).length:Nat):Int),((((cT ++ [(⟨5,(cw.getD (cx + 1) default).p,(cw.getD cx default).g⟩:Gate)]) ++ [(⟨6,(cw.getD (cx + 1) default).g,(cT.length:Int)⟩:Gate)]).length:Nat):Int)⟩:bo)]:List bo),hJ.step om hex,om,Le.mk (.c2 (.cons (aN U om) (.cons (ak U bc) .nil))) (.cons (ay U eR) (.c (.c .nil)))⟩)
 refine .exit (.iC (fun (ig:List bo)=>⟨[(0,.ptr 0 0 0 0),(14,.aL 114 2 0 ig.length)],[(0,.cells [.aL 1 3 0 cT.length]),(1,.rows 3 (cT.map Gate.row)),(114,.rows 2 (ig.map bo.row))]⟩) (fun ig=>BV c ba (fun ins=>if s then (A ins).slt (B ins) else (A ins).ult (B ins)) w (t + 30) cT ig /\ ig.length < cw.length) ?_ (fun ig Qh=>?_))
 refine .seq ?_
 have Ud:=hJ.hi; have oG:=hJ.len; have Ue:=hJ.nl; have Uf:=hJ.even
 refine .region (.mv ?_)
 refine .vl (Y.qx (n:=cw.length) ei U (congrArg some (List.length_map ..))) (.vl (Y.zt U U om) (.vl (Y.ql U U) (.nil (.aA U (fun Ur=>?_) (fun Ur=>?_)))))
 refine .region (.mv ?_)
 refine .mv ?_
 refine .mv ?_
 refine .vl (Y.qx (n:=cw.length) ei U (congrArg some (List.length_map ..))) (.vl (Y.wc U U aG) (.vl (Y.qs (m:=((cw.length:Int) - 1).toNat) ei U U om (ao (d:=default) om)) (.vl (Y.zb EX U U (aH U) U U) (.buildSlice (([(cw.getD (((cw.length:Int) - 1).toNat) default)]:List bo).map bo.row) ei jv U U U U U (aq (s:=2) (f:=bo.row) (fun _=>U)) U U U ae ?_))))
 refine .cL bo.row (eZ ++ ([(cw.getD (((cw.length:Int) - 1).toNat) default)]:List bo)) ei jv U U U U (bg aG) (aR aG) (bz aG) aG aG ae ae ?_
 refine .an ?_
 refine .nil (⟨eZ ++ ([(cw.getD (((cw.length:Int) - 1).toNat) default)]:List bo),by have hx:=hI.P2 hJ om om om; rw [show cw.length - 1 = ((cw.length:Int) - 1).toNat by omega] at hx; exact ⟨hx,by rw [List.length_append,List.length_singleton]; omega⟩,Le.mk (.c (.cons (aN U om) .nil)) (.c2 (.c .nil))⟩)
 refine .skip (⟨eZ,⟨hI.pass hJ om om om,om⟩,Le.mk (.c (.cons (aN U om) .nil)) (.c2 (.c .nil))⟩)
 refine .sh (Sh.dA (d:=14) (o:=114) U U (aU om) ae) (.sh (Sh.cG (d:=14) (ig.map bo.row) U iJ (cC.map bo.bA)) (.region (.mv ?_)))
 refine .an ?_
 refine .nil ⟨ig,cT,Qh.1,by have:=Qh.2; omega,Le.mk (.c (.c .nil)) (.cons (ay U eR) (.c .nil))⟩
 refine .exit (.seq ?_)
 have Uq:=hI.lo; have Ui:=hI.len
 refine .region (.mv ?_)
 refine .vl (Y.qs (m:=0) ei U U bc (ao (d:=default) om)) (.fa mJ ?_)
 refine .ld bj ?_
 refine .an (.nil (.ret ?_))
 exact ⟨_,_,U,U,_,_,hL.ext.trans hI.ext,by have:=hL.len; omega,hI.done om,U,U⟩
open Go Go.AW Go.Proofs
structure VT(n:ab):Prop where
 formed:bh n
 fit:Fit n
 acyclic:Acyclic n
 small:n.Small
 eK:n.cells.length <= 1000
 ew:n.aa.length <= 1000
 tj:∀ c ∈ n.cells,c.args.length <= 200
 tk:n.cM.length <= 1000
 dh:n.streams.length <= 1000
 CL:n.ins.length <= 1000
theorem bh.lq{n:ab}(h:bh n):∀ w ∈ n.aa,dz w:=fun w hw=>by
 obtain ⟨i,hi,rfl⟩:=List.mem_iff_getElem.1 hw
 have:=h.wide i (by rw [List.length_append]; omega)
 rw [List.getD_eq_getElem?_getD,List.getElem?_append_left hi,List.getElem?_eq_getElem hi] at this
 exact this
theorem VT.l4{n:ab}(h:VT n){i:Nat}(hi:i < n.cells.length):0 <= l4 n (n.cells.getD i default) /\ l4 n (n.cells.getD i default) <= 400:=Lh h.formed.lq (h.tj _ (getD_in hi))
def gE(at_:List Int)(l:List Int):Int:=l.foldl (fun t w=>max t (at_.getD w.toNat 0)) 0
theorem De{at_ l:List Int}{w:Int}:gE at_ (l ++ [w]) = max (gE at_ l) (at_.getD w.toNat 0):=by simp [gE]
theorem og{a b l:List Int}(h:∀ w ∈ l,a.getD w.toNat 0 = b.getD w.toNat 0):gE a l = gE b l:=by
 unfold gE
 have:∀ (t:Int) (l:List Int),(∀ w ∈ l,a.getD w.toNat 0 = b.getD w.toNat 0) -> l.foldl (fun t w=>max t (a.getD w.toNat 0)) t = l.foldl (fun t w=>max t (b.getD w.toNat 0)) t:=by
  intro t l
  induction l generalizing t with
  | nil=>intro _; rfl
  | cons x r ih =>
   intro h
   simp only [List.foldl_cons]
   rw [h x (List.mem_cons_self ..)]
   exact ih _ (fun w hw=>h w (List.mem_cons_of_mem _ hw))
 exact this 0 l h
theorem l9{at_ l:List Int}{B:Int}(hB:0 <= B)(h:∀ w ∈ l,at_.getD w.toNat 0 <= B):0 <= gE at_ l /\ gE at_ l <= B:=by
 unfold gE
 have:∀ (t:Int) (l:List Int),0 <= t -> t <= B -> (∀ w ∈ l,at_.getD w.toNat 0 <= B) -> 0 <= l.foldl (fun t w=>max t (at_.getD w.toNat 0)) t /\ l.foldl (fun t w=>max t (at_.getD w.toNat 0)) t <= B:=by
  intro t l
  induction l generalizing t with
  | nil=>intro h0 h1 _; exact ⟨h0,h1⟩
  | cons x r ih =>
   intro h0 h1 h
   simp only [List.foldl_cons]
   have:=h x (List.mem_cons_self ..)
   exact ih _ om om (fun w hw=>h w (List.mem_cons_of_mem _ hw))
 exact this 0 l (Int.le_refl _) hB h
theorem xj{at_ l:List Int}{w:Int}(h:w ∈ l):at_.getD w.toNat 0 <= gE at_ l:=by
 unfold gE
 have mono:∀ (t:Int) (l:List Int),t <= l.foldl (fun t w=>max t (at_.getD w.toNat 0)) t:=by
  intro t l
  induction l generalizing t with
  | nil=>exact Int.le_refl _
  | cons x r ih=>simp only [List.foldl_cons]; have:=ih (max t (at_.getD x.toNat 0)); omega
 have:∀ (t:Int) (l:List Int),w ∈ l -> at_.getD w.toNat 0 <= l.foldl (fun t w=>max t (at_.getD w.toNat 0)) t:=by
  intro t l
  induction l generalizing t with
  | nil=>intro h; cases h
  | cons x r ih =>
   intro h
   simp only [List.foldl_cons]
   rcases List.mem_cons.1 h with rfl | h
   ·have:=mono (max t (at_.getD w.toNat 0)) r; omega
   ·exact ih _ h
 exact this 0 l h
def jV(n:ab)(at_:List Int)(c:Cell):Int:=(if bR c.kind then gE at_ c.args else 0) + l4 n c
structure tz(n:ab)(at_:List Int):Prop where
 len:at_.length = n.aa.length
 eq:∀ i w,bH n i w -> at_.getD w.toNat 0 = jV n at_ (n.cell i)
theorem Ord.lt{n:ab}{l:List Int}(ho:Ord n l){i x:Int}(hi:0 <= i /\ i < n.cells.length)(hc:bR (n.cell i).kind)(hx:x ∈ (n.cell i).args):∃ j,bH n j x /\ l.idxOf j < l.idxOf i:=by
 obtain ⟨p,s,hl,hn⟩:=List.eq_append_cons_of_mem (ho.mem hi)
 obtain ⟨j,hj,hd⟩:=ho.oC p i s hl hc x hx
 refine ⟨j,hd,?_⟩
 have h1:l.idxOf i = p.length:=by
  rw [hl,List.idxOf_append,if_neg hn]; simp
 have h2:l.idxOf j = p.idxOf j:=by rw [hl,List.idxOf_append,if_pos hj]
 rw [h1,h2]
 exact List.idxOf_lt_length_of_mem hj
theorem tz.uniq{n:ab}{l a b:List Int}(hf:bh n)(ho:Ord n l)(ha:tz n a)(hb:tz n b):a = b:=by
 have key:∀ k:Nat,∀ i w,bH n i w -> l.idxOf i <= k -> a.getD w.toNat 0 = b.getD w.toNat 0:=by
  intro k
  induction k with
  | zero =>
   intro i w hd hk
   rw [ha.eq i w hd,hb.eq i w hd]
   unfold jV
   by_cases hc:bR (n.cell i).kind
   ·rw [if_pos hc,if_pos hc]
    rw [og (fun x hx=>by obtain ⟨j,_,h⟩:=ho.lt hd.1 hc hx; omega)]
   ·rw [if_neg hc,if_neg hc]
  | succ k ih =>
   intro i w hd hk
   rw [ha.eq i w hd,hb.eq i w hd]
   unfold jV
   by_cases hc:bR (n.cell i).kind
   ·rw [if_pos hc,if_pos hc]
    rw [og (fun x hx=>by obtain ⟨j,hj,h⟩:=ho.lt hd.1 hc hx; exact ih j x hj om)]
   ·rw [if_neg hc,if_neg hc]
 refine List.ext_getElem (by rw [ha.len,hb.len]) fun i h1 h2=>?_
 have hw:In (i:Int) n.aa.length:=⟨om,by have:=ha.len; omega⟩
 obtain ⟨j,hj⟩:=hf.kg hw
 have:=key _ j _ hj (Nat.le_refl _)
 rw [Int.toNat_natCast,List.getD_eq_getElem?_getD,List.getElem?_eq_getElem h1,List.getD_eq_getElem?_getD,List.getElem?_eq_getElem h2] at this
 exact this
theorem tz.bound{n:ab}{l a:List Int}(hv:VT n)(ho:Ord n l)(ha:tz n a):∀ i w,bH n i w -> 0 <= a.getD w.toNat 0 /\ a.getD w.toNat 0 <= 400 * ((l.idxOf i:Nat) + 1:Int):=by
 have key:∀ k:Nat,∀ i w,bH n i w -> l.idxOf i <= k -> 0 <= a.getD w.toNat 0 /\ a.getD w.toNat 0 <= 400 * ((l.idxOf i:Nat) + 1:Int):=by
  intro k
  induction k with
  | zero =>
   intro i w hd hk
   rw [ha.eq i w hd]
   have h1:=hd.1
   have DJ:=hv.l4 (i:=i.toNat) om
   change 0 <= l4 n (n.cell i) /\ l4 n (n.cell i) <= 400 at DJ
   unfold jV
   by_cases hc:bR (n.cell i).kind
   ·rw [if_pos hc]
    have:=l9 (at_:=a) (l:=(n.cell i).args) (B:=0) om (fun x hx=>by obtain ⟨j,_,h⟩:=ho.lt hd.1 hc hx; omega)
    omega
   ·rw [if_neg hc]; omega
  | succ k ih =>
   intro i w hd hk
   rw [ha.eq i w hd]
   have h1:=hd.1
   have DJ:=hv.l4 (i:=i.toNat) om
   change 0 <= l4 n (n.cell i) /\ l4 n (n.cell i) <= 400 at DJ
   unfold jV
   by_cases hc:bR (n.cell i).kind
   ·rw [if_pos hc]
    have:=l9 (at_:=a) (l:=(n.cell i).args) (B:=400 * (l.idxOf i:Int)) om (fun x hx=>by
     obtain ⟨j,hj,h⟩:=ho.lt hd.1 hc hx
     have:=(ih j x hj om).2
     omega)
    omega
   ·rw [if_neg hc]; omega
 exact fun i w hd=>key _ i w hd (Nat.le_refl _)
theorem tz.rE{n:ab}{l a:List Int}(hv:VT n)(ho:Ord n l)(ha:tz n a){w:Int}(hw:In w n.aa.length):0 <= a.getD w.toNat 0 /\ a.getD w.toNat 0 <= 400000:=by
 obtain ⟨i,hi⟩:=hv.formed.kg hw
 have h:=ha.bound hv ho i w hi
 have h1:l.idxOf i < l.length:=List.idxOf_lt_length_of_mem (ho.mem hi.1)
 have h2:=ho.len
 have h3:=hv.eK
 omega
open Go Go.AW Go.Proofs
theorem vh{l:List Int}(hn:l.Nodup){k:Nat}(hk:k < l.length):l.idxOf (l.getD k 0) = k:=by
 have hm:l.getD k 0 ∈ l:=bC hk
 have h1:l.idxOf (l.getD k 0) < l.length:=List.idxOf_lt_length_of_mem hm
 have h2:l.getD (l.idxOf (l.getD k 0)) 0 = l.getD k 0:=by
  rw [List.getD_eq_getElem?_getD,List.getElem?_eq_getElem h1]
  exact List.getElem_idxOf h1
 exact Classical.byContradiction fun e=>e (uN hn h1 hk h2)
structure pZ(n:ab)(l:List Int)(k:Nat)(out:List Int):Prop where
 len:out.length = n.aa.length
 eq:∀ i w,bH n i w -> l.idxOf i < k -> out.getD w.toNat 0 = jV n out (n.cell i)
theorem pZ.init{n:ab}{l:List Int}:pZ n l 0 (List.replicate n.aa.length 0):=⟨by simp,fun i w _ h=>by omega⟩
theorem pZ.skip{n:ab}{l out:List Int}{k:Nat}(ho:Ord n l)(h:pZ n l k out)(hk:k < l.length)(h7:(n.cell (l.getD k 0)).kind = 7):pZ n l (k + 1) out:=by
 refine ⟨h.len,fun i w hd gQ=>?_⟩
 rcases Nat.lt_or_ge (l.idxOf i) k with h1 | h1
 ·exact h.eq i w hd h1
 ·exfalso
  have hm:=ho.mem hd.1
  have h2:l.idxOf i < l.length:=List.idxOf_lt_length_of_mem hm
  have h3:l.getD (l.idxOf i) 0 = i:=by
   rw [List.getD_eq_getElem?_getD,List.getElem?_eq_getElem h2]; exact List.getElem_idxOf h2
  rw [show l.idxOf i = k by omega] at h3
  rw [h3] at h7
  exact hd.2.1 h7
theorem pZ.set{n:ab}{l out:List Int}{k:Nat}(hf:bh n)(ho:Ord n l)(h:pZ n l k out)(hk:k < l.length){w:Int}(hd:bH n (l.getD k 0) w){v:Int}(hv:v = jV n out (n.cell (l.getD k 0))):pZ n l (k + 1) (out.set w.toNat v):=by
 have hw:=hf.fS hd
 unfold In at hw
 have hl:=h.len
 have Us:=vh ho.nd hk
 have other:∀ j x,bH n j x -> l.idxOf j < k -> (out.set w.toNat v).getD x.toNat 0 = out.getD x.toNat 0:=by
  intro j x hx hj
  have Qi:=hf.fS hx
  unfold In at Qi
  rw [bx,if_neg]
  intro e
  have:x = w:=by omega
  subst this
  have:=hf.unique hx hd
  rw [this] at hj; omega
 have args:∀ i:Int,0 <= i /\ i < n.cells.length -> l.idxOf i <= k -> jV n (out.set w.toNat v) (n.cell i) = jV n out (n.cell i):=by
  intro i hi YY
  unfold jV
  by_cases hc:bR (n.cell i).kind
  ·rw [if_pos hc,if_pos hc]
   rw [og (fun x hx=>by obtain ⟨j,hj,h1⟩:=ho.lt hi hc hx; exact other j x hj om)]
  ·rw [if_neg hc,if_neg hc]
 refine ⟨by rw [List.length_set]; exact hl,fun i x hx gQ=>?_⟩
 rw [args i hx.1 om]
 rcases Nat.lt_or_ge (l.idxOf i) k with h1 | h1
 ·rw [other i x hx h1]; exact h.eq i x hx h1
 ·have hm:=ho.mem hx.1
  have h2:l.idxOf i < l.length:=List.idxOf_lt_length_of_mem hm
  have h3:l.getD (l.idxOf i) 0 = i:=by
   rw [List.getD_eq_getElem?_getD,List.getElem?_eq_getElem h2]; exact List.getElem_idxOf h2
  rw [show l.idxOf i = k by omega] at h3
  rw [<- h3] at hx ⊢
  have e:x = w:=hx.2.2.symm.trans hd.2.2
  subst e
  rw [bx,if_pos ⟨rfl,om⟩]; exact hv
theorem pZ.done{n:ab}{l out:List Int}{k:Nat}(ho:Ord n l)(h:pZ n l k out)(hk:k = l.length):tz n out :=
 ⟨h.len,fun i w hd=>h.eq i w hd (by rw [hk]; exact List.idxOf_lt_length_of_mem (ho.mem hd.1))⟩
theorem Df{at_ l:List Int}{k:Nat}(hk:k < l.length):max (gE at_ (l.take k)) (at_.getD (l.getD k 0).toNat 0) = gE at_ (l.take (k + 1)):=by
 rw [take_one (d:=(0:Int)) hk,De]
theorem pZ.le{n:ab}{l out:List Int}{k:Nat}(hv:VT n)(ho:Ord n l)(h:pZ n l k out){i w:Int}(hd:bH n i w)(hi:l.idxOf i < k):0 <= out.getD w.toNat 0 /\ out.getD w.toNat 0 <= 400 * ((l.idxOf i:Nat) + 1:Int):=by
 have key:∀ m:Nat,∀ i w,bH n i w -> l.idxOf i <= m -> l.idxOf i < k -> 0 <= out.getD w.toNat 0 /\ out.getD w.toNat 0 <= 400 * ((l.idxOf i:Nat) + 1:Int):=by
  intro m
  induction m with
  | zero =>
   intro i w hd hm hk
   rw [h.eq i w hd hk]
   have h1:=hd.1
   have DJ:=hv.l4 (i:=i.toNat) om
   change 0 <= l4 n (n.cell i) /\ l4 n (n.cell i) <= 400 at DJ
   unfold jV
   by_cases hc:bR (n.cell i).kind
   ·rw [if_pos hc]
    have:=l9 (at_:=out) (l:=(n.cell i).args) (B:=0) om (fun x hx=>by obtain ⟨j,_,h⟩:=ho.lt hd.1 hc hx; omega)
    omega
   ·rw [if_neg hc]; omega
  | succ m ih =>
   intro i w hd hm hk
   rw [h.eq i w hd hk]
   have h1:=hd.1
   have DJ:=hv.l4 (i:=i.toNat) om
   change 0 <= l4 n (n.cell i) /\ l4 n (n.cell i) <= 400 at DJ
   unfold jV
   by_cases hc:bR (n.cell i).kind
   ·rw [if_pos hc]
    have:=l9 (at_:=out) (l:=(n.cell i).args) (B:=400 * (l.idxOf i:Int)) om (fun x hx=>by
     obtain ⟨j,hj,h⟩:=ho.lt hd.1 hc hx
     have:=(ih j x hj om om).2
     omega)
    omega
   ·rw [if_neg hc]; omega
 exact key _ i w hd (Nat.le_refl _) hi
theorem pZ.l9{n:ab}{l out:List Int}{k:Nat}(hv:VT n)(ho:Ord n l)(h:pZ n l k out)(hk:k < l.length)(hc:bR (n.cell (l.getD k 0)).kind)(m:Nat):0 <= gE out ((n.cell (l.getD k 0)).args.take m) /\ gE out ((n.cell (l.getD k 0)).args.take m) <= 400000:=by
 refine Go.Proofs.Ytlimckldnjmabaa.l9 om fun x hx=>?_
 have hr:=ho.rE _ (bC hk)
 have Su:=List.mem_of_mem_take hx
 obtain ⟨j,hj,h1⟩:=ho.lt hr hc Su
 rw [vh ho.nd hk] at h1
 have h2:=(h.le hv ho hj h1).2
 have h3:=ho.len
 have h4:=hv.eK
 omega
open Go Go.AW Go.Proofs
def Port(k:Int):Prop:=k = 5 \/ k = 6 \/ k = 7
instance (w:Int):Decidable (Port w):=by unfold Port; infer_instance
def Dg(c:Cell):List (Int × Int):=if c.kind = 4 then [(c.args.getD 0 0,100),(c.args.getD 1 0,60)] else []
def yE(c:Cell):List (Int × Int):=if Port c.kind then c.args.map (fun w=>(w,20)) else []
def Qj(n:ab)(k:Nat):List (Int × Int):=(n.cells.take k).flatMap Dg
def Kd(n:ab)(k:Nat):List (Int × Int):=(n.cells.take k).flatMap yE
def Gh(n:ab)(k:Nat):Bool:=(n.cells.take k).any (fun c=>decide (c.kind = 4))
def Ck(n:ab)(k:Nat):Bool:=(n.cells.take k).any (fun c=>decide (Port c.kind))
def IP(l:List Int)(k:Nat):List (Int × Int):=((l.take k).filter (fun w=>decide (w ≥ 0))).map (fun w=>(w,0))
abbrev rest(n:ab):List Int:=(([[n.done],n.cM,n.bB,n.data]:List (List Int)).flatten)
def Dh(n:ab)(b:Bool)(v:Int):List (Int × Int):=if b then [(n.freeze,v)] else []
def IQ(n:ab):List (Int × Int):=Kd n n.cells.length ++ Dh n (Ck n n.cells.length) 20 ++ IP (rest n) (rest n).length
def tO(n:ab):List (Int × Int):=Qj n n.cells.length ++ Dh n (Gh n n.cells.length) 100 ++ IQ n
section
variable {n:ab} {k:Nat}
end
theorem mb{n:ab}{w:Int}:w ∈ rest n ↔ w = n.done \/ w ∈ n.cM \/ w ∈ n.bB \/ w ∈ n.data:=by simp [rest]
theorem IS{n:ab}(hf:bh n){w:Int}(h:w ∈ n.data)(h0:0 <= w):In w n.aa.length:=(CV.rE hf ⟨.inr (.inr (.inr (.inr (.inl ⟨h,h0⟩))))⟩)
theorem Cl{n:ab}(hf:bh n){e:Int × Int}(h:e ∈ tO n):In e.1 n.aa.length /\ 0 <= e.2 /\ e.2 <= 100:=by
 unfold tO IQ at h
 simp only [List.mem_append] at h
 rcases h with (h | h) | (h | h) | h
 ·obtain ⟨c,hc,he⟩:=List.mem_flatMap.1 h
  rw [List.take_length] at hc
  unfold Dg at he
  split at he
  ·rename_i h4
   have kW:=hf.cell hc
   have h2:c.args.length = 2:=by
    have:=kW.2.1
    unfold Shaped at this
    omega
   rcases List.mem_cons.1 he with rfl | he
   ·exact ⟨kW.1 _ (bC om),by simp,by simp⟩
   ·rw [List.mem_singleton.1 he]; exact ⟨kW.1 _ (bC om),by simp,by simp⟩
  ·cases he
 ·unfold Dh at h
  split at h
  ·rw [List.mem_singleton.1 h]; exact ⟨hf.freeze,by simp,by simp⟩
  ·cases h
 ·obtain ⟨c,hc,he⟩:=List.mem_flatMap.1 h
  rw [List.take_length] at hc
  unfold yE at he
  split at he
  ·obtain ⟨w,hw,rfl⟩:=List.mem_map.1 he
   exact ⟨(hf.cell hc).1 w hw,by simp,by simp⟩
  ·cases he
 ·unfold Dh at h
  split at h
  ·rw [List.mem_singleton.1 h]; exact ⟨hf.freeze,by simp,by simp⟩
  ·cases h
 ·unfold IP at h
  obtain ⟨w,hw,rfl⟩:=List.mem_map.1 h
  obtain ⟨hw,h0⟩:=List.mem_filter.1 hw
  rw [List.take_length,mb] at hw
  have h0:0 <= w:=of_decide_eq_true h0
  refine ⟨?_,by simp,by simp⟩
  rcases hw with rfl | hw | hw | hw
  ·exact hf.done
  ·exact hf.cM w hw
  ·exact (CV.rE hf ⟨.inl hw⟩)
  ·exact IS hf hw h0
theorem Gi{n:ab}(hf:bh n):(n.done,0) ∈ tO n:=by
 have:=hf.done
 unfold In at this
 unfold tO IQ
 refine List.mem_append.2 (.inr (List.mem_append.2 (.inr ?_)))
 unfold IP
 rw [List.take_length]
 exact List.mem_map.2 ⟨n.done,List.mem_filter.2 ⟨mb.2 (.inl rfl),decide_eq_true this.1⟩,rfl⟩
def Ut(at_:List Int)(s:Int × Int)(e:Int × Int):Int × Int:=if s.2 < 0 \/ at_.getD e.1.toNat 0 + e.2 > s.1 then (at_.getD e.1.toNat 0 + e.2,e.1) else s
structure AL(at_:List Int)(L:List (Int × Int))(s:Int × Int):Prop where
 none:L = [] -> s = (0,-1)
 some:L ≠ [] -> ∃ e ∈ L,s = (at_.getD e.1.toNat 0 + e.2,e.1)
 max:∀ e ∈ L,at_.getD e.1.toNat 0 + e.2 <= s.1
theorem AL.step{at_:List Int}{L:List (Int × Int)}{s e:Int × Int}(h:AL at_ L s)(h0:∀ e ∈ L,0 <= e.1):AL at_ (L ++ [e]) (Ut at_ s e) where
 none:=fun h=>by simp at h
 some:=fun _=>by
  unfold Ut
  by_cases hc:s.2 < 0 \/ at_.getD e.1.toNat 0 + e.2 > s.1
  ·rw [if_pos hc]; exact ⟨e,by simp,rfl⟩
  ·rw [if_neg hc]
   by_cases hL:L = []
   ·rw [h.none hL] at hc; simp at hc
   ·obtain ⟨x,hx,hs⟩:=h.some hL
    exact ⟨x,List.mem_append.2 (.inl hx),hs⟩
 max:=fun x hx=>by
  unfold Ut
  by_cases hc:s.2 < 0 \/ at_.getD e.1.toNat 0 + e.2 > s.1
  ·rw [if_pos hc]
   rcases List.mem_append.1 hx with hx | hx
   ·have h1:=h.max x hx
    rcases hc with hc | hc
    ·exfalso
     obtain ⟨y,hy,hs⟩:=h.some (List.ne_nil_of_mem hx)
     rw [hs] at hc
     have:=h0 y hy
     simp only at hc; omega
    ·show _ <= at_.getD e.1.toNat 0 + e.2; omega
   ·rw [List.mem_singleton.1 hx]; exact Int.le_refl _
  ·rw [if_neg hc]
   rcases List.mem_append.1 hx with hx | hx
   ·exact h.max x hx
   ·rw [List.mem_singleton.1 hx]; omega
open Go Go.AW Go.Proofs
section
variable {n:ab} {i k m:Nat} {ix X Z:List (Int × Int)} {b:Bool}
end
open Go Go.AW Go.Proofs
def Gj:ByteArray:=⟨(([0,1,2,2,3,3,3,3,4,4,4,4,4,4,4,4,5,5,5,5,5,5,5,5,5,5,5,5,5,5,5,5,6,6,6,6,6,6,6,6,6,6,6,6,6,6,6,6,6,6,6,6,6,6,6,6,6,6,6,6,6,6,6,6].append [7,7,7,7,7,7,7,7,7,7,7,7,7,7,7,7,7,7,7,7,7,7,7,7,7,7,7,7,7,7,7,7,7,7,7,7,7,7,7,7,7,7,7,7,7,7,7,7,7,7,7,7,7,7,7,7,7,7,7,7,7,7,7,7]).append ([8,8,8,8,8,8,8,8,8,8,8,8,8,8,8,8,8,8,8,8,8,8,8,8,8,8,8,8,8,8,8,8,8,8,8,8,8,8,8,8,8,8,8,8,8,8,8,8,8,8,8,8,8,8,8,8,8,8,8,8,8,8,8,8].append [8,8,8,8,8,8,8,8,8,8,8,8,8,8,8,8,8,8,8,8,8,8,8,8,8,8,8,8,8,8,8,8,8,8,8,8,8,8,8,8,8,8,8,8,8,8,8,8,8,8,8,8,8,8,8,8,8,8,8,8,8,8,8,8])).toArray⟩
theorem Gk:(List.range 256).all (fun m=>b9 Gj m == cF (m + 1)) = true:=by kernel_rfl
theorem Di:Gj.size = 256:=by kernel_rfl
theorem IT{m:Nat}(h:m < 256):b9 Gj m = cF (m + 1):=by
 have:=List.all_eq_true.1 Gk m (List.mem_range.2 h)
 simpa using this
theorem vj{n:Nat}(h:n <= 256):cF n <= 8:=oa om
theorem ue{x:Int}{k:Nat}(h0:1 <= x)(h1:x <= 64)(hk:k <= 8):0 <= 3 * x * (k:Int) /\ 3 * x * (k:Int) <= 1536 :=
 ⟨Int.mul_nonneg om om,Int.le_trans (Int.mul_le_mul (show 3 * x <= 192 by omega) (show (k:Int) <= 8 by omega) om om) ae⟩
theorem Gl{n:ab}{w:Int}(hw:∀ w ∈ n.aa,dz w)(hi:In w n.aa.length):1 <= n.aa.getD w.toNat 0 /\ n.aa.getD w.toNat 0 <= 64:=by
 unfold In at hi
 have:=hw _ (bC (l:=n.aa) (i:=w.toNat) om)
 unfold dz at this
 omega
theorem LP{n:ab}{c:Cell}(h:jG n c)(h2:c.kind = 2):In c.out n.aa.length /\ Plain c.op /\ 1 <= c.args.length:=by
 have hs:=h.2.1
 refine ⟨h.2.2.2 om,?_⟩
 have h3:cd c.op ≠ 0 /\ (c.args.length:Int) = cd c.op:=by
  unfold Shaped at hs
  rcases hs with ⟨h,_⟩ | ⟨_,a,b,_⟩ | ⟨h,_⟩ | ⟨h,_⟩ | ⟨h,_⟩ | ⟨h,_⟩ | ⟨h,_⟩ | ⟨h,_⟩ | ⟨h,_⟩ | ⟨h,_⟩ <;> first | omega | exact ⟨a,b⟩
 exact ⟨(zZ _).1 h3.1,om⟩
theorem Gm{at_ l:List Int}{k:Nat}{t:Int}(ht:t = gE at_ (l.take k))(hk:k < l.length):(if at_.getD (l.getD k 0).toNat 0 > t then at_.getD (l.getD k 0).toNat 0 else t) = gE at_ (l.take (k + 1)):=by
 rw [<- Df hk,<- ht]
 split <;> omega
structure LQ(n:ab)(l:List Cell):Prop where
 len:l.length = n.aa.length
 at_:∀ i w,bH n i w -> l.getD w.toNat default = n.cell i
structure q9(n:ab)(k:Nat)(l:List Cell):Prop where
 len:l.length = n.aa.length
 at_:∀ i w,bH n i w -> i < k -> l.getD w.toNat default = n.cell i
theorem q9.init{n:ab}{z:Cell}:q9 n 0 (List.replicate n.aa.length z):=⟨by simp,fun i w hd h=>by have:=hd.1; omega⟩
theorem q9.set{n:ab}{k:Nat}{l:List Cell}(hf:bh n)(h:q9 n k l)(hk:k < n.cells.length)(h0:(n.cells.getD k default).out ≥ 0):q9 n (k + 1) (l.set (n.cells.getD k default).out.toNat (n.cells.getD k default)):=by
 refine ⟨by rw [List.length_set]; exact h.len,fun i w hd hi=>?_⟩
 have hw:=hf.fS hd
 unfold In at hw
 have hl:=h.len
 have h7:(n.cells.getD k default).kind ≠ 7:=fun e=>by have:=(hf.cells k hk).2.2.1 e; omega
 have wY:bH n (k:Int) (n.cells.getD k default).out:=⟨⟨om,om⟩,h7,rfl⟩
 have BR:=hf.fS wY
 unfold In at BR
 rw [bx]
 by_cases e:(n.cells.getD k default).out = w
 ·rw [if_pos ⟨om,om⟩]
  rw [e] at wY
  have:=hf.unique hd wY
  subst this; rfl
 ·rw [if_neg om]
  refine h.at_ i w hd ?_
  rcases Int.lt_or_eq_of_le (show i <= k by omega) with h1 | h1
  ·exact h1
  ·subst h1; exact absurd hd.2.2 e
theorem q9.skip{n:ab}{k:Nat}{l:List Cell}(hf:bh n)(h:q9 n k l)(hk:k < n.cells.length)(h0:¬ (n.cells.getD k default).out ≥ 0):q9 n (k + 1) l:=by
 refine ⟨h.len,fun i w hd hi=>?_⟩
 refine h.at_ i w hd ?_
 rcases Int.lt_or_eq_of_le (show i <= k by omega) with h1 | h1
 ·exact h1
 ·subst h1
  have hw:=hf.fS hd
  unfold In at hw
  have:n.cell (k:Int) = n.cells.getD k default:=rfl
  rw [<- this,hd.2.2] at h0
  omega
theorem q9.done{n:ab}{k:Nat}{l:List Cell}(h:q9 n k l)(hk:k = n.cells.length):LQ n l:=⟨h.len,fun i w hd=>h.at_ i w hd (by rw [hk]; exact hd.1.2)⟩
structure LR(l m:List Int)(i j:Int):Prop where
 len:m.length = l.length
 sum:i + j = (l.length:Int) - 1
 i0:0 <= i
 out:∀ k:Nat,k < l.length -> ((k:Int) < i \/ j < k) -> m.getD k 0 = l.getD (l.length - 1 - k) 0
 RQ:∀ k:Nat,i <= k -> (k:Int) <= j -> m.getD k 0 = l.getD k 0
theorem LR.init(l:List Int):LR l l 0 ((l.length:Int) - 1):=⟨rfl,om,om,fun k hk h=>by omega,fun _ _ _=>rfl⟩
theorem LR.step{l m:List Int}{i j:Int}(h:LR l m i j)(Rs:i < j):LR l ((m.set i.toNat (m.getD j.toNat 0)).set j.toNat (m.getD i.toNat 0)) (i + 1) (j - 1):=by
 have h1:=h.len; have h2:=h.sum; have h3:=h.i0
 refine ⟨by simp [h1],om,om,fun k hk hc=>?_,fun k ha hb=>?_⟩
 ·rw [bx,bx]
  by_cases e:j.toNat = k
  ·rw [if_pos ⟨e,by rw [List.length_set]; omega⟩,h.RQ i.toNat om om]
   congr 1; omega
  ·rw [if_neg om]
   by_cases e2:i.toNat = k
   ·rw [if_pos ⟨e2,om⟩,h.RQ j.toNat om om]
    congr 1; omega
   ·rw [if_neg om]
    exact h.out k hk om
 ·rw [bx,bx,if_neg om,if_neg om]
  exact h.RQ k om om
theorem LR.done{l m:List Int}{i j:Int}(h:LR l m i j)(Rs:¬ i < j):m = l.reverse:=by
 have h1:=h.len; have h2:=h.sum
 refine List.ext_getElem (by simp [h1]) fun k hk Bq=>?_
 have e:m.getD k 0 = l.getD (l.length - 1 - k) 0:=by
  by_cases e:(k:Int) < i \/ j < k
  ·exact h.out k om e
  ·rw [h.RQ k om om]
   congr 1; omega
 rw [List.getD_eq_getElem?_getD,List.getElem?_eq_getElem hk,List.getD_eq_getElem?_getD,List.getElem?_eq_getElem om] at e
 rw [List.getElem_reverse]
 exact e
open Go Go.AW Go.Proofs
theorem AN{x:Int}(h0:0 <= x)(h1:x < 256):aw Try.prog 197 [.v (.int .u64 x)] [] [] (fun r o=>r = (vi ((cF (x.toNat + 1):Nat):Int)) /\ o = []):=by
 refine aw.of Try.func197 U U U (n:=25) ae (aH U) ?_
 have hl8:=Di
 refine .sr (.an ?_)
 refine .nil (.seq (.sr (.mv ?_)))
 refine .vl (Y.qq U U) (.nil (.aA U (fun c4=>?_) (fun c4=>?_)))
 exfalso; omega
 refine .skip (.seq (.sr (.mv ?_)))
 refine .vl (Y.qq U U) (.nil (.aA U (fun c8=>?_) (fun c8=>?_)))
 exfalso; omega
 refine .skip (.seq (.sr (.mv ?_)))
 refine .vl (Y.qq U U) (.nil (.aA U (fun LM=>?_) (fun LM=>?_)))
 exfalso; omega
 refine .skip (.sr ?_)
 have hsb:=Eu Gj x.toNat
 refine .mv ?_
 refine .mv ?_
 refine .vl (Y.qk yb wT U (by first | rfl | exact IntWalk.u8_in _ om)) (.vl (Y.qw (b:=Gj) (m:=(x).toNat) Ro U U om om) (.vl (Y.qk wT sD U zT) (.vl (Y.qb U U aG) (.an (.nil (.ret ?_))))))
 exact .ri rfl (by rw [IT om]; omega)
theorem Gt{x:Int}(h0:0 <= x)(h1:x < 256):aw Try.prog 194 [.v (.int .u64 x)] [] [] (fun r o=>r = (vi ((cF (x.toNat + 1):Nat):Int)) /\ o = []):=by
 refine aw.of Try.func194 U U U (n:=8) ae (aH U) (.sr (.an ?_))
 refine .nil (.seq (.cZ U ?_))
 refine .skip (.sr (.mv ?_))
 refine .aZ OC (AN (x:=x) (om) (om)) U (.aj U U .nil) ae U ?_
 refine .an (.nil (.ret ?_))
 exact .ri rfl (rfl)
theorem kQ{x:Int}(h0:0 <= x)(h1:x <= 256):aw Try.prog 174 [vi x] [] [] (fun r o=>r = (vi ((cF x.toNat:Nat):Int)) /\ o = []):=by
 refine aw.of Try.func174 U U U (n:=9) ae (aH U) (.sr (.an ?_))
 refine .nil (.seq (.sr (.mv ?_)))
 refine .vl (Y.zc U U) (.nil (.aA U (fun c4=>?_) (fun c4=>?_)))
 refine .sr (.an (.nil (.ret ?_)))
 exact .ri rfl (by unfold cF; rw [if_pos om]; rfl)
 refine .skip (.sr (.mv ?_))
 refine .vl (Y.wc U U aG) (.vl (Y.qj sD Oq U (vV _ om)) (.aZ OB (Gt (x:=(((x - 1).toNat:Nat):Int)) (om) (om)) U (.aj U U .nil) ae U ?_))
 refine .an (.nil (.ret ?_))
 exact .ri rfl (by rw [show ((((x - 1).toNat:Nat):Int).toNat + 1) = x.toNat by omega])
open Go Go.AW Go.Proofs
theorem xm{n:Nat}(h:n <= 256):aw Try.prog 174 [vi n] [] [] (fun r o=>r = (vi ((cF n:Nat):Int)) /\ o = []):=by
  have h1:=kQ (x:=(n:Int)) om om
  rwa [Int.toNat_natCast] at h1
theorem qX{c:Int}{gl:List Gate}(hg:Good gl)(tu:gl.length <= 30000000){left ar:Bool}(T1:left = true -> ar = false){w:Nat}{t:Int}{a b:List Int}{A B:List Bool -> BitVec w}(ha:Wd c gl a w A t)(hb:Wd c gl b w B t)(hw:1 <= w /\ w <= 64)(ht:0 <= t):aw Try.prog 129 [.ptr 0 0 0 0,.fz 1 (a.map ah),.fz 1 (b.map ah),.v (.bool left),.v (.bool ar)] [.cells [.aL 1 3 0 gl.length],.rows 3 (gl.map Gate.row)] [0] (fun r o=>∃ (l:List Gate) (out:List Int),Ext gl l /\ l.length <= gl.length + 1500 /\ Wd c l out w (fun ins=>Iv left ar (A ins) (B ins)) (t + (if ar then 50 else 30) + 40 * (cF w:Int)) /\ r = .dH 1 (out.map ah) /\ o = [.cells [.aL 1 3 0 l.length],.rows 3 (l.map Gate.row)]):=by
 refine aw.of Try.func129 U U U (n:=129) ae (aH U) ?_
 have tI:=ha.len; have IM:=hb.len; have R6:cF a.length = cF w:=by rw [tI]
 have RN:cF a.length <= 6:=oa om
 have hls:cF a.length <= a.length:=Fx
 refine .sr (.an (.nil (.sr ?_)))
 refine .mv ?_
 refine .vl (Y.qx (n:=a.length) a7 U (congrArg some (List.length_map ..))) (.an (.nil (.sr ?_)))
 refine .mv ?_
 refine .aZ yc (xm (n:=a.length) om) U (.aj U U .nil) ae U ?_
 refine .an (.nil (.sr ?_))
 refine .an (.nil ?_)
 refine .lk (fun (ep:Int) (oh:List Gate)=>⟨[(0,.ptr 0 0 0 0),(1,.fz 1 (a.map ah)),(2,.fz 1 (b.map ah)),(3,.v (.bool left)),(4,.v (.bool ar)),(11,vi a.length),(12,vi ((cF a.length:Nat):Int)),(13,vi ep)],[(0,.cells [.aL 1 3 0 oh.length]),(1,.rows 3 (oh.map Gate.row))]⟩) (fun ep oh=>Ext gl oh /\ oh.length <= gl.length + 1 /\ Wr c oh ep (fun ins=>ar && (A ins).msb) t) ?_ (fun ep oh WI=>?_)
 refine .sr (.mv ?_)
 refine .nil (.cond U (fun sG=>?_) (fun sG=>?_))
 refine .region (.mv ?_)
 refine .mv ?_
 refine .vl (Y.wc U U aG) (.vl (Y.qs (m:=((a.length:Int) - 1).toNat) a7 U U om (ao (d:=0) om)) (.ld bj ?_))
 refine .an ?_
 refine .nil (⟨a.getD (((a.length:Int) - 1).toNat) 0,gl,⟨.refl hg,om,by rw [show ((a.length:Int) - 1).toNat = w - 1 by omega]; exact (ha.msb om).as fun ins=>by simp [sG]⟩,Le.mk (.c4 (.c2 (.c (.cons (ak U bc) .nil)))) (.cons (ay U eR) (.c .nil))⟩)
 refine .region (.mv ?_)
 refine .bw [0,1] [] EW (gH (gl:=gl) aG) U (.named U U .nil) ⟨U,U,trivial⟩ U ae (fun _ h=>by cases h) (fun _ h=>by cases h) ae ae ?_
 rintro r aJ ⟨rfl,rfl⟩ _
 refine ⟨⟨rfl,(by intro ob aW; simp only [List.mem_cons,List.not_mem_nil,or_false] at aW; rcases aW with rfl | rfl <;> rfl),.inl rfl⟩,(.an ?_)⟩
 refine .nil (⟨(gl.length:Int),gl ++ [(⟨1,0,0⟩:Gate)],⟨Ext.MB hg ae,by simp,(Wr.zero ht).as fun ins=>by simp [sG]⟩,Le.mk (.c4 (.c2 (.c (.cons (ak U bc) .nil)))) (.cons (ay U eR) (.c .nil))⟩)
 refine .seq ?_
 obtain ⟨hE,Xc,hF⟩:=WI; have Zc:=hE.dP
 refine .region (.mv ?_)
 refine .an ?_
 refine .nil (.seq (.sr (.mv ?_)))
 refine .mv ?_
 refine .nil (.block ?_)
 refine .eh (fun (fF:List Int) (eD:Nat) (me:List Gate)=>⟨[(0,.ptr 0 0 0 0),(2,.fz 1 (b.map ah)),(3,.v (.bool left)),(4,.v (.bool ar)),(11,vi a.length),(12,vi ((cF a.length:Nat):Int)),(13,vi ep),(14,.fz 1 (fF.map ah)),(39,vi ((cF a.length:Nat):Int)),(40,vi eD)],[(0,.cells [.aL 1 3 0 me.length]),(1,.rows 3 (me.map Gate.row))]⟩) (fun fF eD me=>((eD:Int) <= ((cF a.length:Nat):Int)) /\ (Is c oh left w A B (fun ins=>ar && (A ins).msb) t me fF eD)) (fun fF eD me=>(((cF a.length:Nat):Int) - (eD:Int)).toNat) a 0 oh (⟨om,Is.init Zc (ha.ext hE)⟩) (Le.mk (.c8 (.c (.cons (ak U bc) .nil))) (.cons (ay U eR) (.c .nil))) (fun fF eD me Ql=>?_)
 obtain ⟨Xd,hS⟩:=Ql
 refine .sr (.vl (Y.zc U U) (.nil (.seq (.aA U (fun Az=>?_) (fun Az=>?_)))))
 refine .skip (.seq (.block (.sr (.mv ?_))))
 refine .an (.nil (.seq ?_))
 have Um:=hS.len; have Zd:=hS.xl; have Ze:(3 * w + 1) * eD <= 193 * 6:=Nat.mul_le_mul om om; have h2k:=Lt (k:=eD) om; have Uv:=((hb.bit eD om).ext hE).ext hS.ext; have eN:=Ext.not hS.ext.dP Uv; have nN:=Uv.not (u:=t + 10) (Int.le_refl _)
 refine .region (.mv ?_)
 refine .mv ?_
 refine .vl (Y.qs (m:=eD) a7 U U bc (ao (d:=0) om)) (.ld bj ?_)
 refine .an (.nil (.sr ?_))
 refine .mv ?_
 refine .mv ?_
 refine .bw [0,1] [] uF (ie (gl:=me) (a:=b.getD eD 0) om) U (.named U U (.aj U U .nil)) ⟨U,U,trivial⟩ U ae (fun _ h=>by cases h) (fun _ h=>by cases h) ae ae ?_
 rintro r aJ ⟨rfl,rfl⟩ _
 refine ⟨⟨rfl,(by intro ob aW; simp only [List.mem_cons,List.not_mem_nil,or_false] at aW; rcases aW with rfl | rfl <;> rfl),.inl rfl⟩,(.an (.nil (.sr ?_)))⟩
 refine .an ?_
 refine .sh (Sh.nil (d:=18) 118 1 U ae) (.nil (.seq (.sr (.mv ?_))))
 refine .vl (Y.qx (n:=fF.length) a7 U (congrArg some (List.length_map ..))) (.mv ?_)
 refine .nil (.block ?_)
 refine .eh (fun (gi:Nat) (iN:List Gate) (eJ:List Int)=>⟨[(0,.ptr 0 0 0 0),(2,.fz 1 (b.map ah)),(3,.v (.bool left)),(4,.v (.bool ar)),(11,vi a.length),(12,vi ((cF a.length:Nat):Int)),(13,vi ep),(14,.fz 1 (fF.map ah)),(15,vi eD),(16,vi (b.getD eD 0)),(17,vi me.length),(18,.aL 118 1 0 eJ.length),(39,vi ((cF a.length:Nat):Int)),(40,vi eD),(51,vi fF.length),(52,vi gi)],[(0,.cells [.aL 1 3 0 iN.length]),(1,.rows 3 (iN.map Gate.row)),(118,.rows 1 (eJ.map ah))]⟩) (fun gi iN eJ=>((gi:Int) <= (fF.length:Int)) /\ (He c (me ++ [(⟨4,b.getD eD 0,0⟩:Gate)]) iN eJ (R4 left w A B (fun ins=>ar && (A ins).msb) eD) (t + 10 + 40 * ((eD:Int) + 1)) gi)) (fun gi iN eJ=>((fF.length:Int) - (gi:Int)).toNat) 0 (me ++ [(⟨4,b.getD eD 0,0⟩:Gate)]) ([]:List Int) (⟨mz,He.init eN.dP⟩) (Le.mk (.c8 (.c2 (.c (.cons (aN U aG) (.c2 (.c (.cons (ak U bc) .nil))))))) (.cons (ay U eR) (.c (.c .nil)))) (fun gi iN eJ Uw=>?_)
 obtain ⟨Zf,hM⟩:=Uw
 refine .sr (.vl (Y.zc U U) (.nil (.seq (.aA U (fun P9=>?_) (fun P9=>?_)))))
 refine .skip (.seq (.block (.seq ?_)))
 have MP:=hM.len; have Ux:=hM.ol; have hMe:=eN.len; rw [List.length_append,List.length_singleton] at MP
 refine .region (.mv ?_)
 refine .an (.nil (.sr ?_))
 refine .mv ?_
 refine .mv ?_
 refine .vl (Y.zv U U om (BW (k:=eD) om)) (.vl (Y.qb U U aG) (.an (.nil ?_)))
 refine .iC (fun (fM:Int)=>⟨[(0,.ptr 0 0 0 0),(2,.fz 1 (b.map ah)),(3,.v (.bool left)),(4,.v (.bool ar)),(11,vi a.length),(12,vi ((cF a.length:Nat):Int)),(13,vi ep),(14,.fz 1 (fF.map ah)),(15,vi eD),(16,vi (b.getD eD 0)),(17,vi me.length),(18,.aL 118 1 0 eJ.length),(19,vi gi),(20,vi fM),(39,vi ((cF a.length:Nat):Int)),(40,vi eD),(51,vi fF.length),(52,vi gi)],[(0,.cells [.aL 1 3 0 iN.length]),(1,.rows 3 (iN.map Gate.row)),(118,.rows 1 (eJ.map ah))]⟩) (fun fM=>fM = Pw left eD gi) ?_ (fun fM LC=>?_)
 refine .sr (.mv ?_)
 refine .nil (.cond U (fun vG=>?_) (fun vG=>?_))
 refine .region (.mv ?_)
 refine .mv ?_
 refine .vl (Y.zv U U om (BW (k:=eD) om)) (.vl (Y.wc U U aG) (.an ?_))
 refine .nil ⟨(gi:Int) - ((p2 eD:Nat):Int),by unfold Pw p2; simp [vG],Le.mk (.c8 (.c4 (.c (.cons (ak U bc) (.c2 (.c (.c .nil))))))) (.c2 (.c .nil))⟩
 refine .skip ⟨(gi:Int) + ((p2 eD:Nat):Int),by unfold Pw p2; simp [vG],Le.mk (.c8 (.c4 (.c (.cons (ak U bc) (.c2 (.c (.c .nil))))))) (.c2 (.c .nil))⟩
 refine .sr (.mv ?_)
 refine .an (.nil ?_)
 refine .iC (fun (oo:Int)=>⟨[(0,.ptr 0 0 0 0),(2,.fz 1 (b.map ah)),(3,.v (.bool left)),(4,.v (.bool ar)),(11,vi a.length),(12,vi ((cF a.length:Nat):Int)),(13,vi ep),(14,.fz 1 (fF.map ah)),(15,vi eD),(16,vi (b.getD eD 0)),(17,vi me.length),(18,.aL 118 1 0 eJ.length),(19,vi gi),(21,vi oo),(39,vi ((cF a.length:Nat):Int)),(40,vi eD),(51,vi fF.length),(52,vi gi)],[(0,.cells [.aL 1 3 0 iN.length]),(1,.rows 3 (iN.map Gate.row)),(118,.rows 1 (eJ.map ah))]⟩) (fun oo=>oo = (if 0 <= fM /\ fM < (a.length:Int) then fF.getD fM.toNat 0 else ep)) ?_ (fun oo LU=>?_)
 refine .sr (.mv ?_)
 refine .vl (Y.qq U U) (.mv ?_)
 refine .aC (d:=67) U (fun L3=>?_) (fun L3=>?_)
 refine .gw 67 (Y.zh U U) (.gw 67 (Y.zh U U) (.gw 67 (Y.zc U U) (.pk ?_)))
 refine .nil (.aA U (fun Zg=>?_) (fun Zg=>?_))
 refine .region (.mv ?_)
 refine .mv ?_
 refine .vl (Y.qs (m:=(fM).toNat) a7 U U om (ao (d:=0) om)) (.ld bj ?_)
 refine .an ?_
 refine .nil ⟨fF.getD ((fM).toNat) 0,by grind,Le.mk (.c8 (.c4 (.c (.cons (ak U bc) (.c2 (.c (.c .nil))))))) (.c2 (.c .nil))⟩
 refine .skip ⟨ep,by grind,Le.mk (.c8 (.c4 (.c (.cons (ak U bc) (.c2 (.c (.c .nil))))))) (.c2 (.c .nil))⟩
 refine .gz 67 (.gz 67 (.gz 67 (.pk ?_)))
 exact .nil (.cZ U (.skip ⟨ep,by grind,Le.mk (.c8 (.c4 (.c (.cons (ak U bc) (.c2 (.c (.c .nil))))))) (.c2 (.c .nil))⟩))
 have Zh:=(hS.pick hF (i:=gi) (y:=oo) om fM LC (by rw [LU,tI])).ext eN; have Zi:=(hS.ws.bit gi om).ext eN
 refine .region (.mv ?_)
 refine .mv ?_
 refine .mv ?_
 refine .mv ?_
 refine .mv ?_
 refine .mv ?_
 refine .mv ?_
 refine .vl (Y.qs (m:=gi) a7 U U bc (ao (d:=0) om)) (.ld bj ?_)
 refine .bw [0,1] [] Ia (choose_spec (gl:=iN) (s:=b.getD eD 0) (v:=(me.length:Int)) (y:=oo) (n:=fF.getD gi 0) om) U (.named U U (.aj U U (.aj U U (.aj U U (.aj U U .nil))))) ⟨U,U,trivial⟩ U ae (fun _ h=>by cases h) (fun _ h=>by cases h) ae ae ?_
 rintro r aJ ⟨rfl,rfl⟩ _
 refine ⟨⟨rfl,(by intro ob aW; simp only [List.mem_cons,List.not_mem_nil,or_false] at aW; rcases aW with rfl | rfl <;> rfl),.inl rfl⟩,(.buildSlice (([((iN.length:Int) + 2)]:List Int).map ah) a7 dD U U U U U (aq (s:=1) (f:=ah) (fun _=>U)) U U U ae ?_)⟩
 refine .cL ah (eJ ++ ([((iN.length:Int) + 2)]:List Int)) a7 dD U U U U (bg aG) (aR aG) (bz aG) aG aG ae ae ?_
 refine .an (.nil (.region ?_))
 refine .vl (Y.qb U U aG) (.mv ?_)
 refine .nil (⟨gi + 1,yw iN (b.getD eD 0) (me.length:Int) oo (fF.getD gi 0),eJ ++ ([((iN.length:Int) + 2)]:List Int),⟨om,hM.step (Uv.ext eN) nN Zh Zi om om om om (fun ins=>Lo om ins)⟩,om,Le.mk (.c8 (.c2 (.c (.cons (aN U om) (.c2 (.c (.cons (ak U bc) .nil))))))) (.cons (ay U eR) (.c (.c .nil)))⟩)
 refine .exit (.sh (Sh.dA (d:=18) (o:=118) U U (aU om) ae) (.sh (Sh.cG (d:=18) (eJ.map ah) U iJ (cC.map aI)) (.region (.mv ?_))))
 refine .an (.nil (.region ?_))
 refine .vl (Y.qb U U aG) (.mv ?_)
 refine .nil (⟨eJ,eD + 1,iN,⟨om,hS.pass eN hM om⟩,om,Le.mk (.c8 (.c (.cons (ak U bc) .nil))) (.cons (ay U eR) (.c .nil))⟩)
 refine .exit (.seq ?_)
 have Um:=hS.len; have Zd:=hS.xl; have DY:eD = cF w:=om; rw [DY] at hS; have Ze:(3 * w + 1) * eD <= 193 * 6:=Nat.mul_le_mul om om; have Zj:=(hb.ext hE).ext hS.ext; have Ug:=hS.ext.dP
 refine .region (.mv ?_)
 refine .mv ?_
 refine .mv ?_
 refine .vl (Y.zy (l:=cF a.length) (h:=(b.map ah).length) a7 U (.some U) (.none _) aG aG (by rw [List.take_length,<- List.map_drop])) (.bw [0,1] [] EV (vg (gl:=me) Ug aG (a:=b.drop (cF a.length)) (Lp Zj (cF a.length) om) aG aG) U (.named U U (.aj U U .nil)) ⟨U,U,trivial⟩ U ae (fun _ h=>by cases h) (fun _ h=>by cases h) ae ae ?_)
 rintro r aJ ⟨Hg,Ke,Gu,Qm,Uy,rfl,rfl⟩ _
 refine ⟨⟨rfl,(by intro ob aW; simp only [List.mem_cons,List.not_mem_nil,or_false] at aW; rcases aW with rfl | rfl <;> rfl),.inl rfl⟩,(.an (.nil (.seq ?_)))⟩
 have hv:=Uy.as (f':=As B) (fun ins=>by unfold As; rw [List.length_drop,IM,R6]); have eF:=Ext.not Gu.dP hv; have nF:=hv.not (u:=t + 10 + 20 * (cF w:Int)) (by have:=pb (show (b.drop (cF a.length)).length <= w by rw [List.length_drop]; omega); omega); have Sc:=pb (show (b.drop (cF a.length)).length <= w by rw [List.length_drop]; omega); have Uz:=Qm; rw [List.length_drop] at Uz
 refine .region (.mv ?_)
 refine .mv ?_
 refine .bw [0,1] [] uF (ie (gl:=Hg) (a:=Ke) aG) U (.named U U (.aj U U .nil)) ⟨U,U,trivial⟩ U ae (fun _ h=>by cases h) (fun _ h=>by cases h) ae ae ?_
 rintro r aJ ⟨rfl,rfl⟩ _
 refine ⟨⟨rfl,(by intro ob aW; simp only [List.mem_cons,List.not_mem_nil,or_false] at aW; rcases aW with rfl | rfl <;> rfl),.inl rfl⟩,(.an (.nil (.sr ?_)))⟩
 refine .an ?_
 refine .sh (Sh.nil (d:=24) 124 1 U ae) (.nil (.seq (.sr (.mv ?_))))
 refine .vl (Y.qx (n:=fF.length) a7 U (congrArg some (List.length_map ..))) (.mv ?_)
 refine .nil (.block ?_)
 refine .eh (fun (fk:Nat) (iO:List Gate) (ja:List Int)=>⟨[(0,.ptr 0 0 0 0),(4,.v (.bool ar)),(13,vi ep),(14,.fz 1 (fF.map ah)),(22,vi Ke),(23,vi Hg.length),(24,.aL 124 1 0 ja.length),(100,vi fF.length),(101,vi fk)],[(0,.cells [.aL 1 3 0 iO.length]),(1,.rows 3 (iO.map Gate.row)),(124,.rows 1 (ja.map ah))]⟩) (fun fk iO ja=>((fk:Int) <= (fF.length:Int)) /\ (xx c (Hg ++ [(⟨4,Ke,0⟩:Gate)]) iO ja (yx left ar w A B) (t + (if ar then 50 else 30) + 40 * (cF w:Int)) fk)) (fun fk iO ja=>((fF.length:Int) - (fk:Int)).toNat) 0 (Hg ++ [(⟨4,Ke,0⟩:Gate)]) ([]:List Int) (⟨mz,xx.init eF.dP⟩) (Le.mk (.c4 (.c2 (.cons (aN U aG) (.c (.cons (ak U bc) .nil))))) (.cons (ay U eR) (.c (.c .nil)))) (fun fk iO ja UA=>?_)
 obtain ⟨Zk,hM⟩:=UA
 refine .sr (.vl (Y.zc U U) (.nil (.seq (.aA U (fun Gv=>?_) (fun Gv=>?_)))))
 refine .skip (.lk (fun (pQ:List Gate) (lE:List Int)=>⟨[(0,.ptr 0 0 0 0),(4,.v (.bool ar)),(13,vi ep),(14,.fz 1 (fF.map ah)),(22,vi Ke),(23,vi Hg.length),(24,.aL 124 1 0 lE.length),(100,vi fF.length),(101,vi fk)],[(0,.cells [.aL 1 3 0 pQ.length]),(1,.rows 3 (pQ.map Gate.row)),(124,.rows 1 (lE.map ah))]⟩) (fun pQ lE=>xx c (Hg ++ [(⟨4,Ke,0⟩:Gate)]) pQ lE (yx left ar w A B) (t + (if ar then 50 else 30) + 40 * (cF w:Int)) (fk + 1)) ?_ (fun pQ lE II=>?_))
 refine .block (.sr (.mv ?_))
 refine .an (.nil (.seq ?_))
 have MP:=hM.len; have Ux:=hM.ol; rw [List.length_append,List.length_singleton] at MP
 refine .region (.mv ?_)
 refine .nil (.cond U (fun pe=>?_) (fun pe=>?_))
 refine .region (.mv ?_)
 refine .mv ?_
 refine .mv ?_
 refine .mv ?_
 refine .mv ?_
 refine .mv ?_
 refine .mv ?_
 refine .vl (Y.qs (m:=fk) a7 U U bc (ao (d:=0) om)) (.ld bj ?_)
 refine .bw [0,1] [] Ia (choose_spec (gl:=iO) (s:=Ke) (v:=(Hg.length:Int)) (y:=ep) (n:=fF.getD fk 0) om) U (.named U U (.aj U U (.aj U U (.aj U U (.aj U U .nil))))) ⟨U,U,trivial⟩ U ae (fun _ h=>by cases h) (fun _ h=>by cases h) ae ae ?_
 rintro r aJ ⟨rfl,rfl⟩ _
 refine ⟨⟨rfl,(by intro ob aW; simp only [List.mem_cons,List.not_mem_nil,or_false] at aW; rcases aW with rfl | rfl <;> rfl),.inl rfl⟩,(.buildSlice (([((iO.length:Int) + 2)]:List Int).map ah) a7 dD U U U U U (aq (s:=1) (f:=ah) (fun _=>U)) U U U ae ?_)⟩
 refine .cL ah (ja ++ ([((iO.length:Int) + 2)]:List Int)) a7 dD U U U U (bg aG) (aR aG) (bz aG) aG aG ae ae ?_
 refine .an ?_
 refine .nil ⟨yw iO Ke (Hg.length:Int) ep (fF.getD fk 0),ja ++ ([((iO.length:Int) + 2)]:List Int),hM.choose (hv.ext eF) nF (((hF.ext hS.ext).ext Gu).ext eF) (((hS.ws.bit fk om).ext Gu).ext eF) (by rw [if_pos pe]; omega) (by rw [if_pos pe]; omega) (by rw [if_pos pe]; omega) (by rw [if_pos pe]; omega) (fun ins=>by simp [yx,pe]),Le.mk (.c4 (.c2 (.cons (aN U om) (.c (.c .nil))))) (.cons (ay U eR) (.c (.c .nil)))⟩
 refine .region (.mv ?_)
 refine .mv ?_
 refine .mv ?_
 refine .mv ?_
 refine .mv ?_
 refine .vl (Y.qs (m:=fk) a7 U U bc (ao (d:=0) om)) (.ld bj ?_)
 refine .bw [0,1] [] tK (gC (gl:=iO) (a:=(Hg.length:Int)) (b:=fF.getD fk 0) om) U (.named U U (.aj U U (.aj U U .nil))) ⟨U,U,trivial⟩ U ae (fun _ h=>by cases h) (fun _ h=>by cases h) ae ae ?_
 rintro r aJ ⟨rfl,rfl⟩ _
 refine ⟨⟨rfl,(by intro ob aW; simp only [List.mem_cons,List.not_mem_nil,or_false] at aW; rcases aW with rfl | rfl <;> rfl),.inl rfl⟩,(.buildSlice (([(iO.length:Int)]:List Int).map ah) a7 dD U U U U U (aq (s:=1) (f:=ah) (fun _=>U)) U U U ae ?_)⟩
 refine .cL ah (ja ++ ([(iO.length:Int)]:List Int)) a7 dD U U U U (bg aG) (aR aG) (bz aG) aG aG ae ae ?_
 refine .an ?_
 refine .nil (⟨iO ++ [(⟨5,(Hg.length:Int),fF.getD fk 0⟩:Gate)],ja ++ ([(iO.length:Int)]:List Int),hM.and nF (((hS.ws.bit fk om).ext Gu).ext eF) (by rw [if_neg (by simp [pe])]; omega) (by rw [if_neg (by simp [pe])]; omega) (fun ins=>by simp [yx,pe]),Le.mk (.c4 (.c2 (.cons (aN U om) (.c (.c .nil))))) (.cons (ay U eR) (.c (.c .nil)))⟩)
 refine .region (.vl (Y.qb U U aG) (.mv ?_))
 refine .nil (⟨fk + 1,pQ,lE,⟨om,II⟩,om,Le.mk (.c4 (.c2 (.cons (aN U om) (.c (.cons (ak U bc) .nil))))) (.cons (ay U eR) (.c (.c .nil)))⟩)
 refine .exit (.sr (.mv ?_))
 refine .an ?_
 exact .sh (Sh.dA (d:=10) (o:=124) U U (aU om) ae) (.nil (.ret ⟨_,_,U,U,_,_,hE.trans (hS.ext.trans (Gu.trans (eF.trans hM.ext))),by have:=hM.len; rw [List.length_append,List.length_singleton] at this; omega,At T1 (by have:=hM.ol; omega) hM.ws,U,U⟩))
open Go Go.AW Go.Proofs
theorem yG{c:Int}{gl:List Gate}(hg:Good gl)(tu:gl.length <= 40000000){w n:Nat}{sg:Bool}{t:Int}{a:List Int}{A:List Bool -> BitVec w}(ha:Wd c gl a w A t)(hw:1 <= w /\ w <= 64)(hn:1 <= n /\ n <= 64)(ht:0 <= t):aw Try.prog 132 [.ptr 0 0 0 0,.fz 1 (a.map ah),vi n,.v (.bool sg)] [.cells [.aL 1 3 0 gl.length],.rows 3 (gl.map Gate.row)] [0] (fun r o=>∃ (l:List Gate) (out:List Int),Ext gl l /\ l.length <= gl.length + 1 /\ Wd c l out n (fun ins=>xc sg n (A ins)) t /\ r = .dH 1 (out.map ah) /\ o = [.cells [.aL 1 3 0 l.length],.rows 3 (l.map Gate.row)]):=by
 refine aw.of Try.func132 U U U (n:=40) ae (aH U) ?_
 have tI:=ha.len
 refine .sr (.an ?_)
 refine .nil (.seq (.sr (.mv ?_)))
 refine .mv ?_
 refine .vl (Y.qx (n:=a.length) a7 U (congrArg some (List.length_map ..))) (.vl (Y.qz U U) (.nil (.aA U (fun LM=>?_) (fun LM=>?_))))
 refine .sr (.mv ?_)
 refine .mv ?_
 refine .vl (Y.zy (l:=0) (h:=n) a7 U (.none _) (.some U) aG aG (by rw [List.drop_zero,<- List.map_take])) (.aZ EJ (na (l:=(a.take n)) (by rw [List.length_take]; omega)) U (.aj U U .nil) ae U (.bQ U ae (.nil (.ret ⟨_,_,U,U,_,_,.refl hg,om,Iw ha om,U,U⟩))))
 refine .skip (.sr (.mv ?_))
 refine .mv ?_
 refine .vl (Y.qx (n:=a.length) a7 U (congrArg some (List.length_map ..))) (.vl (Y.wc U U aG) (.vl (Y.qs (m:=((a.length:Int) - 1).toNat) a7 U U om (ao (d:=0) om)) (.ld bj ?_)))
 refine .an (.nil ?_)
 refine .lk (fun (kR:Int) (nc:List Gate)=>⟨[(1,.fz 1 (a.map ah)),(2,vi n),(9,vi kR)],[(0,.cells [.aL 1 3 0 nc.length]),(1,.rows 3 (nc.map Gate.row))]⟩) (fun kR nc=>Ext gl nc /\ nc.length <= gl.length + 1 /\ Wr c nc kR (fun ins=>sg && (A ins).msb) t) ?_ (fun kR nc Zl=>?_)
 refine .sr (.mv ?_)
 refine .vl (Y.zn U) (.nil (.cond U (fun AO=>?_) (fun AO=>?_)))
 replace AO:sg = false:=by simpa using AO
 refine .region (.mv ?_)
 refine .bw [0,1] [] EW (gH (gl:=gl) aG) U (.named U U .nil) ⟨U,U,trivial⟩ U ae (fun _ h=>by cases h) (fun _ h=>by cases h) ae ae ?_
 rintro r aJ ⟨rfl,rfl⟩ _
 refine ⟨⟨rfl,(by intro ob aW; simp only [List.mem_cons,List.not_mem_nil,or_false] at aW; rcases aW with rfl | rfl <;> rfl),.inl rfl⟩,(.an ?_)⟩
 refine .nil (⟨(gl.length:Int),gl ++ [(⟨1,0,0⟩:Gate)],⟨Ext.MB hg ae,by simp,(Wr.zero ht).as fun ins=>by simp [AO]⟩,Le.mk (.c2 (.cons (ak U bc) .nil)) (.cons (ay U eR) (.c .nil))⟩)
 replace AO:sg = true:=by simpa using AO
 refine .skip (⟨a.getD (((a.length:Int) - 1).toNat) 0,gl,⟨.refl hg,om,by rw [show ((a.length:Int) - 1).toNat = w - 1 by omega]; exact (ha.msb om).as fun ins=>by simp [AO]⟩,Le.mk (.c2 (.cons (ak U bc) .nil)) (.cons (ay U eR) (.c .nil))⟩)
 refine .seq ?_
 obtain ⟨hE,Xc,hF⟩:=Zl
 refine .region (.mv ?_)
 refine .aZ EJ (na (l:=a) om) U (.aj U U .nil) ae U (.bQ U ae (.sh (Sh.dr (d:=10) (n:=a.length) 110 (a.map ah) U iJ (aU U) ae) (.nil (.seq (.block (.jt (fun (jh:List Int)=>⟨[(2,vi n),(9,vi kR),(10,.aL 110 1 0 jh.length)],[(0,.cells [.aL 1 3 0 nc.length]),(1,.rows 3 (nc.map Gate.row)),(110,.rows 1 (jh.map ah))]⟩) (fun jh=>(w <= jh.length /\ jh.length <= n /\ Ws c nc jh (yy sg A) t)) (fun jh=>n - jh.length) a (⟨om,om,Fy (ha.ext hE)⟩) (Le.mk (.c2 (.cons (aN U om) .nil)) (.c2 (.c .nil))) (fun jh PX=>?_)))))))
 have hO:=PX
 refine .seq (.sr (.mv ?_))
 refine .vl (Y.qx (n:=jh.length) a7 U U) (.mv ?_)
 refine .vl (Y.zc U U) (.nil (.aA U (fun xz=>?_) (fun xz=>?_)))
 refine .skip (.block (.region (.mv ?_)))
 refine .mv ?_
 refine .buildSlice (([kR]:List Int).map ah) a7 dD U U U U U (aq (s:=1) (f:=ah) (fun _=>U)) U U U ae ?_
 refine .cL ah (jh ++ ([kR]:List Int)) a7 dD U U U U (bg aG) (aR aG) (bz aG) aG aG ae ae ?_
 refine .an ?_
 refine .nil (⟨jh ++ ([kR]:List Int),⟨by rw [List.length_append,List.length_singleton]; omega,by rw [List.length_append,List.length_singleton]; omega,FA hO.2.2 hO.1 hF⟩,by rw [List.length_append,List.length_singleton]; omega,Le.mk (.c2 (.cons (aN U om) .nil)) (.c2 (.c .nil))⟩)
 refine .exit (.sr (.mv ?_))
 refine .an ?_
 exact .sh (Sh.dA (d:=8) (o:=110) U U (aU om) ae) (.nil (.ret ⟨_,_,U,U,_,_,hE,Xc,FB hO.2.2 om om,U,U⟩))
theorem yH{gl:List Gate}(tu:gl.length <= 40000000){n:Nat}(hn:n <= 64):aw Try.prog 78 [.ptr 0 0 0 0,vi n] [.cells [.aL 1 3 0 gl.length],.rows 3 (gl.map Gate.row)] [0] (fun r o=>r = .dH 1 ((pI gl.length n).map ah) /\ o = [.cells [.aL 1 3 0 ((gl ++ pJ n).length)],.rows 3 ((gl ++ pJ n).map Gate.row)]):=by
 refine aw.of Try.func78 U U U (n:=16) ae (aH U) (.sr (.an (.nil (.sr ?_))))
 refine .an ?_
 refine .sh (Sh.nil (d:=5) 105 1 U ae) (.nil (.seq (.sr (.mv ?_))))
 refine .mv ?_
 refine .nil (.block (.eh (fun (tP:Nat) (ba:List Gate) (bf:List Int)=>⟨[(0,.ptr 0 0 0 0),(5,.aL 105 1 0 bf.length),(6,vi n),(7,vi tP)],[(0,.cells [.aL 1 3 0 ba.length]),(1,.rows 3 (ba.map Gate.row)),(105,.rows 1 (bf.map ah))]⟩) (fun tP ba bf=>((tP:Int) <= (n:Int)) /\ (ba = gl ++ pJ tP /\ bf = pI gl.length tP)) (fun tP ba bf=>((n:Int) - (tP:Int)).toNat) 0 gl ([]:List Int) (⟨mz,⟨by simp [pJ],U⟩⟩) (Le.mk (.c (.cons (aN U aG) (.c (.cons (ak U bc) .nil)))) (.cons (ay U eR) (.c (.c .nil)))) (fun tP ba bf qR=>?_)))
 obtain ⟨Fc,hO⟩:=qR
 refine .sr (.vl (Y.zc U U) (.nil (.seq (.aA U (fun c8=>?_) (fun c8=>?_)))))
 refine .skip (.seq (.block ?_))
 obtain ⟨Co,oA⟩:=hO; have ta:ba.length = gl.length + tP:=(by rw [Co,List.length_append,kC]); have hou:bf.length = tP:=(by rw [oA,mM])
 refine .region (.mv ?_)
 refine .mv ?_
 refine .bw [0,1] [] tm (j3 (gl:=ba) (k:=3) (a:=0) (b:=0) om) U (.named U U (.aj U U (.aj U U (.aj U U .nil)))) ⟨U,U,trivial⟩ U ae (fun _ h=>by cases h) (fun _ h=>by cases h) ae ae ?_
 rintro r aJ ⟨rfl,rfl⟩ _
 refine ⟨⟨rfl,(by intro ob aW; simp only [List.mem_cons,List.not_mem_nil,or_false] at aW; rcases aW with rfl | rfl <;> rfl),.inl rfl⟩,(.buildSlice (([(ba.length:Int)]:List Int).map ah) a7 dD U U U U U (aq (s:=1) (f:=ah) (fun _=>U)) U U U ae ?_)⟩
 refine .cL ah (bf ++ ([(ba.length:Int)]:List Int)) a7 dD U U U U (bg aG) (aR aG) (bz aG) aG aG ae ae ?_
 refine .an (.nil (.region ?_))
 refine .vl (Y.qb U U aG) (.mv ?_)
 refine .nil (⟨tP + 1,ba ++ [(⟨3,0,0⟩:Gate)],bf ++ ([(ba.length:Int)]:List Int),⟨om,⟨by rw [pc,Co,List.append_assoc],by rw [yz,<- oA,ta]⟩⟩,om,Le.mk (.c (.cons (aN U om) (.c (.cons (ak U bc) .nil)))) (.cons (ay U eR) (.c (.c .nil)))⟩)
 refine .exit (.sr (.mv ?_))
 refine .an ?_
 refine .sh (Sh.dA (d:=4) (o:=105) U U (aU om) ae) (.nil (.ret ?_))
 obtain ⟨Co,oA⟩:=hO; obtain rfl:tP = n:=om; exact ⟨_,_,rfl,rfl,(by rw [oA]; rfl),(by rw [Co]; rfl)⟩
open Go Go.AW Go.Proofs
theorem vH{c:Int}{gl:List Gate}(hg:Good gl)(tu:gl.length <= 20000000){op:Int}{ws:List (List Int)}{w width:Nat}{xN yN zN:List Bool -> Nat}{t:Int}(hI:Ix c gl ws op w width xN yN zN t)(vy:ws.length <= 100):aw Try.prog 79 [.ptr 0 0 0 0,vi op,.fz 1 (ws.map dc),vi width] [.cells [.aL 1 3 0 gl.length],.rows 3 (gl.map Gate.row)] [0] (fun r o=>∃ (l:List Gate) (out:List Int),Ext gl l /\ l.length <= gl.length + 1600 /\ Cb c l out op w width xN yN zN t /\ r = .dH 1 (out.map ah) /\ o = [.cells [.aL 1 3 0 l.length],.rows 3 (l.map Gate.row)]):=by
 refine aw.of Try.func79 U U U (n:=149) ae (aH U) ?_
 have hX:=hI.x; have kW:=hI.ok; have RH:=hI.hw; have PO:=hI.hd; have Xe:=hX.len
 refine .sr (.an (.nil (.sr ?_)))
 refine .mv ?_
 refine .vl (Y.qs (m:=0) dI U U bc (ao (d:=[]) aG)) (.ld bt ?_)
 refine .an (.nil (.sr ?_))
 refine .an (.nil ?_)
 refine .iC (fun (ed:List Int)=>⟨[(0,.ptr 0 0 0 0),(1,vi op),(2,.fz 1 (ws.map dc)),(3,vi width),(9,.fz 1 ((ws.getD 0 []).map ah)),(10,.fz 1 (ed.map ah))],[(0,.cells [.aL 1 3 0 gl.length]),(1,.rows 3 (gl.map Gate.row))]⟩) (fun ed=>1 < ws.length -> ed = ws.getD 1 []) ?_ (fun ed Qn=>?_)
 refine .seq (.sh (Sh.Sq (d:=10) 1 U) (.region (.mv ?_)))
 refine .vl (Y.qx (n:=ws.length) dI U (congrArg some (List.length_map ..))) (.vl (Y.qr U U) (.nil (.aA U (fun vD=>?_) (fun vD=>?_))))
 refine .region (.mv ?_)
 refine .vl (Y.qs (m:=1) dI U U bc (ao (d:=[]) om)) (.ld bt ?_)
 refine .an ?_
 refine .nil ⟨ws.getD 1 [],fun _=>U,Le.mk (.c4 (.c (.c .nil))) (.c (.c .nil))⟩
 refine .skip ⟨([]:List Int),fun h=>absurd h om,Le.mk (.c4 (.c (.c .nil))) (.c (.c .nil))⟩
 refine .seq (.sr (.mv ?_))
 refine .nil (.block (.seq ?_))
 have ru:op < 21 -> Wk c gl ed w yN t:=fun h=>(by rw [Qn om]; have:=hI.y om; rwa [if_neg om] at this)
 have hYl:op < 21 -> ed.length = w:=fun h=>(ru h).len
 refine .region (.vl (Y.ql U U) (.an (.nil ?_)))
 refine .aA U (fun Uj=>?_) (fun Uj=>?_)
 refine .sr (.mv ?_)
 refine .mv ?_
 refine .mv ?_
 refine .bw [0,1] [] OL (Gd (gl:=gl) (a:=ws.getD 0 []) (b:=ed) hg om hX.wd (ru om).wd hI.hw hI.t0) U (.named U U (.aj U U (.aj U U .nil))) ⟨U,U,trivial⟩ U ae (fun _ h=>by cases h) (fun _ h=>by cases h) ae ae ?_
 rintro r aJ ⟨l29,Xf,LV,Xg,UB,rfl,rfl⟩ _
 exact ⟨⟨rfl,(by intro ob aW; simp only [List.mem_cons,List.not_mem_nil,or_false] at aW; rcases aW with rfl | rfl <;> rfl),.inl rfl⟩,(.bQ U ae (.nil (.ret ⟨_,_,U,U,_,_,LV,by have:=hX.len; omega,Iz UB om om,U,U⟩)))⟩
 refine .sr (.vl (Y.ql U U) (.an (.nil ?_)))
 refine .aA U (fun sG=>?_) (fun sG=>?_)
 refine .sr (.mv ?_)
 refine .mv ?_
 refine .mv ?_
 refine .bw [0,1] [] OM (Ge (gl:=gl) (a:=ws.getD 0 []) (b:=ed) hg om hX.wd (ru om).wd hI.hw hI.t0) U (.named U U (.aj U U (.aj U U .nil))) ⟨U,U,trivial⟩ U ae (fun _ h=>by cases h) (fun _ h=>by cases h) ae ae ?_
 rintro r aJ ⟨l35,Xh,UC,Xi,UD,rfl,rfl⟩ _
 exact ⟨⟨rfl,(by intro ob aW; simp only [List.mem_cons,List.not_mem_nil,or_false] at aW; rcases aW with rfl | rfl <;> rfl),.inl rfl⟩,(.bQ U ae (.nil (.ret ⟨_,_,U,U,_,_,UC,by have:=hX.len; omega,I3 UD om om,U,U⟩)))⟩
 refine .sr (.vl (Y.ql U U) (.an (.nil ?_)))
 refine .aA U (fun R9=>?_) (fun R9=>?_)
 refine .sr (.mv ?_)
 refine .mv ?_
 refine .mv ?_
 refine .bw [0,1] [] ET (sP (gl:=gl) (k:=5) (a:=ws.getD 0 []) (b:=ed) (f:=fun k ins=>(xN ins).testBit k) (h:=fun k ins=>(yN ins).testBit k) (e:=fun i ins=>(if (5:Int) = 5 then xN ins &&& yN ins else if (5:Int) = 6 then xN ins ||| yN ins else xN ins ^^^ yN ins).testBit i) (t:=t) (u:=t + 20) hg om ae hX.ws (ru om).ws (by have:=hX.len; have:=(ru om).len; omega) (by have:=hX.len; omega) (Int.le_refl _) (fun i ins=>by simp)) U (.named U U (.aj U U (.aj U U (.aj U U .nil)))) ⟨U,U,trivial⟩ U ae (fun _ h=>by cases h) (fun _ h=>by cases h) ae ae ?_
 rintro r aJ ⟨l41,Xj,UE,Xk,Xl,UF,rfl,rfl⟩ _
 exact ⟨⟨rfl,(by intro ob aW; simp only [List.mem_cons,List.not_mem_nil,or_false] at aW; rcases aW with rfl | rfl <;> rfl),.inl rfl⟩,(.bQ U ae (.nil (.ret ⟨_,_,U,U,_,_,UE,by have:=hX.len; omega,xd UF (by have:=hX.len; omega) hX.lt (ru om).lt om om,U,U⟩)))⟩
 refine .sr (.vl (Y.ql U U) (.an (.nil ?_)))
 refine .aA U (fun Hf=>?_) (fun Hf=>?_)
 refine .sr (.mv ?_)
 refine .mv ?_
 refine .mv ?_
 refine .bw [0,1] [] ET (sP (gl:=gl) (k:=6) (a:=ws.getD 0 []) (b:=ed) (f:=fun k ins=>(xN ins).testBit k) (h:=fun k ins=>(yN ins).testBit k) (e:=fun i ins=>(if (6:Int) = 5 then xN ins &&& yN ins else if (6:Int) = 6 then xN ins ||| yN ins else xN ins ^^^ yN ins).testBit i) (t:=t) (u:=t + 20) hg om ae hX.ws (ru om).ws (by have:=hX.len; have:=(ru om).len; omega) (by have:=hX.len; omega) (Int.le_refl _) (fun i ins=>by simp)) U (.named U U (.aj U U (.aj U U (.aj U U .nil)))) ⟨U,U,trivial⟩ U ae (fun _ h=>by cases h) (fun _ h=>by cases h) ae ae ?_
 rintro r aJ ⟨YV,Qb,LN,Qc,Qd,LO,rfl,rfl⟩ _
 exact ⟨⟨rfl,(by intro ob aW; simp only [List.mem_cons,List.not_mem_nil,or_false] at aW; rcases aW with rfl | rfl <;> rfl),.inl rfl⟩,(.bQ U ae (.nil (.ret ⟨_,_,U,U,_,_,LN,by have:=hX.len; omega,xd LO (by have:=hX.len; omega) hX.lt (ru om).lt om om,U,U⟩)))⟩
 refine .sr (.vl (Y.ql U U) (.an (.nil ?_)))
 refine .aA U (fun Aw=>?_) (fun Aw=>?_)
 refine .sr (.mv ?_)
 refine .mv ?_
 refine .mv ?_
 refine .bw [0,1] [] ET (sP (gl:=gl) (k:=7) (a:=ws.getD 0 []) (b:=ed) (f:=fun k ins=>(xN ins).testBit k) (h:=fun k ins=>(yN ins).testBit k) (e:=fun i ins=>(if (7:Int) = 5 then xN ins &&& yN ins else if (7:Int) = 6 then xN ins ||| yN ins else xN ins ^^^ yN ins).testBit i) (t:=t) (u:=t + 20) hg om ae hX.ws (ru om).ws (by have:=hX.len; have:=(ru om).len; omega) (by have:=hX.len; omega) (Int.le_refl _) (fun i ins=>by simp)) U (.named U U (.aj U U (.aj U U (.aj U U .nil)))) ⟨U,U,trivial⟩ U ae (fun _ h=>by cases h) (fun _ h=>by cases h) ae ae ?_
 rintro r aJ ⟨l53,Xm,UG,Xn,Xo,UH,rfl,rfl⟩ _
 exact ⟨⟨rfl,(by intro ob aW; simp only [List.mem_cons,List.not_mem_nil,or_false] at aW; rcases aW with rfl | rfl <;> rfl),.inl rfl⟩,(.bQ U ae (.nil (.ret ⟨_,_,U,U,_,_,UG,by have:=hX.len; omega,xd UH (by have:=hX.len; omega) hX.lt (ru om).lt om om,U,U⟩)))⟩
 refine .sr (.vl (Y.ql U U) (.an (.nil ?_)))
 refine .aA U (fun Hh=>?_) (fun Hh=>?_)
 refine .sr (.mv ?_)
 refine .mv ?_
 refine .mv ?_
 refine .bw [0,1] [] EU (qX (gl:=gl) (left:=true) (ar:=false) (a:=ws.getD 0 []) (b:=ed) hg om ae hX.wd (ru om).wd hI.hw hI.t0) U (.named U U (.aj U U (.aj U U (.aj U U (.aj U U .nil))))) ⟨U,U,trivial⟩ U ae (fun _ h=>by cases h) (fun _ h=>by cases h) ae ae ?_
 rintro r aJ ⟨l59,Xp,UI,Xq,UJ,rfl,rfl⟩ _
 exact ⟨⟨rfl,(by intro ob aW; simp only [List.mem_cons,List.not_mem_nil,or_false] at aW; rcases aW with rfl | rfl <;> rfl),.inl rfl⟩,(.bQ U ae (.nil (.ret ⟨_,_,U,U,_,_,UI,by have:=hX.len; omega,Au UJ (ru om).lt (by simp; omega) om,U,U⟩)))⟩
 refine .sr (.vl (Y.ql U U) (.an (.nil ?_)))
 refine .aA U (fun Zm=>?_) (fun Zm=>?_)
 refine .sr (.mv ?_)
 refine .mv ?_
 refine .mv ?_
 refine .bw [0,1] [] EU (qX (gl:=gl) (left:=false) (ar:=false) (a:=ws.getD 0 []) (b:=ed) hg om ae hX.wd (ru om).wd hI.hw hI.t0) U (.named U U (.aj U U (.aj U U (.aj U U (.aj U U .nil))))) ⟨U,U,trivial⟩ U ae (fun _ h=>by cases h) (fun _ h=>by cases h) ae ae ?_
 rintro r aJ ⟨l65,Xr,UK,Xs,UL,rfl,rfl⟩ _
 exact ⟨⟨rfl,(by intro ob aW; simp only [List.mem_cons,List.not_mem_nil,or_false] at aW; rcases aW with rfl | rfl <;> rfl),.inl rfl⟩,(.bQ U ae (.nil (.ret ⟨_,_,U,U,_,_,UK,by have:=hX.len; omega,Au UL (ru om).lt (by simp; omega) om,U,U⟩)))⟩
 refine .sr (.vl (Y.ql U U) (.an (.nil ?_)))
 refine .aA U (fun UM=>?_) (fun UM=>?_)
 refine .sr (.mv ?_)
 refine .mv ?_
 refine .mv ?_
 refine .bw [0,1] [] EU (qX (gl:=gl) (left:=false) (ar:=true) (a:=ws.getD 0 []) (b:=ed) hg om ae hX.wd (ru om).wd hI.hw hI.t0) U (.named U U (.aj U U (.aj U U (.aj U U (.aj U U .nil))))) ⟨U,U,trivial⟩ U ae (fun _ h=>by cases h) (fun _ h=>by cases h) ae ae ?_
 rintro r aJ ⟨l71,Xt,UN,Xu,UO,rfl,rfl⟩ _
 exact ⟨⟨rfl,(by intro ob aW; simp only [List.mem_cons,List.not_mem_nil,or_false] at aW; rcases aW with rfl | rfl <;> rfl),.inl rfl⟩,(.bQ U ae (.nil (.ret ⟨_,_,U,U,_,_,UN,by have:=hX.len; omega,Au UO (ru om).lt (by simp; omega) om,U,U⟩)))⟩
 refine .sr (.vl (Y.ql U U) (.an (.nil ?_)))
 refine .aA U (fun T7=>?_) (fun T7=>?_)
 refine .sr (.mv ?_)
 refine .mv ?_
 refine .mv ?_
 refine .mv ?_
 refine .bw [0,1] [] JB (tw (gl:=gl) (a:=ws.getD 0 []) (b:=ed) hg om hX.wd (ru om).wd hI.hw hI.t0) U (.named U U (.aj U U (.aj U U .nil))) ⟨U,U,trivial⟩ U ae (fun _ h=>by cases h) (fun _ h=>by cases h) ae ae ?_
 rintro r aJ ⟨Xv,Zn,Qo,Xw,Qp,rfl,rfl⟩ _
 refine ⟨⟨rfl,(by intro ob aW; simp only [List.mem_cons,List.not_mem_nil,or_false] at aW; rcases aW with rfl | rfl <;> rfl),.inl rfl⟩,(.bw [0,1] [] uF (ie (gl:=Xv) (a:=Zn) om) U (.named U U (.aj U U .nil)) ⟨U,U,trivial⟩ U ae (fun _ h=>by cases h) (fun _ h=>by cases h) ae ae ?_)⟩
 rintro r aJ ⟨rfl,rfl⟩ _
 refine ⟨⟨rfl,(by intro ob aW; simp only [List.mem_cons,List.not_mem_nil,or_false] at aW; rcases aW with rfl | rfl <;> rfl),.inl rfl⟩,(.buildSlice (([(Xv.length:Int)]:List Int).map ah) a7 dD U U U U U (aq (s:=1) (f:=ah) (fun _=>U)) U U U ae ?_)⟩
 exact .bQ U ae (.nil (.ret ⟨_,_,U,U,_,_,Qo.trans (Ext.not Qo.dP Qp),by rw [List.length_append,List.length_singleton]; omega,Lw (Qp.not om) hX.lt (ru om).lt om om,U,U⟩))
 refine .sr (.vl (Y.ql U U) (.an (.nil ?_)))
 refine .aA U (fun Kc=>?_) (fun Kc=>?_)
 refine .sr (.mv ?_)
 refine .mv ?_
 refine .mv ?_
 refine .bw [0,1] [] JB (tw (gl:=gl) (a:=ws.getD 0 []) (b:=ed) hg om hX.wd (ru om).wd hI.hw hI.t0) U (.named U U (.aj U U (.aj U U .nil))) ⟨U,U,trivial⟩ U ae (fun _ h=>by cases h) (fun _ h=>by cases h) ae ae ?_
 rintro r aJ ⟨l86,Zo,UP,Xx,UQ,rfl,rfl⟩ _
 refine ⟨⟨rfl,(by intro ob aW; simp only [List.mem_cons,List.not_mem_nil,or_false] at aW; rcases aW with rfl | rfl <;> rfl),.inl rfl⟩,(.buildSlice (([Zo]:List Int).map ah) a7 dD U U U U U (aq (s:=1) (f:=ah) (fun _=>U)) U U U ae ?_)⟩
 exact .bQ U ae (.nil (.ret ⟨_,_,U,U,_,_,UP,om,Lv UQ hX.lt (ru om).lt om om,U,U⟩))
 refine .seq (.sr (.vl (Y.ql U U) (.an (.nil ?_))))
 refine .bm U (fun pd=>?_) (fun pd=>?_)
 refine .skip (.aO U (.sr (.mv ?_)))
 refine .mv ?_
 refine .mv ?_
 refine .mv ?_
 refine .vl (Y.ql U U) (.bw [0,1] [] BK (pP (gl:=gl) (s:=decide (op = 19)) (a:=ws.getD 0 []) (b:=ed) hg om hX.wd (ru om).wd hI.hw hI.t0) U (.named U U (.aj U U (.aj U U (.aj U U .nil)))) ⟨U,U,trivial⟩ U ae (fun _ h=>by cases h) (fun _ h=>by cases h) ae ae ?_)
 rintro r aJ ⟨Zp,UR,LW,Qq,LX,rfl,rfl⟩ _
 refine ⟨⟨rfl,(by intro ob aW; simp only [List.mem_cons,List.not_mem_nil,or_false] at aW; rcases aW with rfl | rfl <;> rfl),.inl rfl⟩,(.buildSlice (([UR]:List Int).map ah) a7 dD U U U U U (aq (s:=1) (f:=ah) (fun _=>U)) U U U ae ?_)⟩
 exact .bQ U ae (.nil (.ret ⟨_,_,U,U,_,_,LW,om,FD LX hX.lt (ru om).lt (by simp; omega) om,U,U⟩))
 refine .region (.vl (Y.ql U U) (.an (.nil ?_)))
 refine .bm U (fun pd=>?_) (fun pd=>?_)
 refine .sr (.mv ?_)
 refine .mv ?_
 refine .mv ?_
 refine .mv ?_
 refine .vl (Y.ql U U) (.bw [0,1] [] BK (pP (gl:=gl) (s:=decide (op = 19)) (a:=ws.getD 0 []) (b:=ed) hg om hX.wd (ru om).wd hI.hw hI.t0) U (.named U U (.aj U U (.aj U U (.aj U U .nil)))) ⟨U,U,trivial⟩ U ae (fun _ h=>by cases h) (fun _ h=>by cases h) ae ae ?_)
 rintro r aJ ⟨Zp,UR,LW,Qq,LX,rfl,rfl⟩ _
 refine ⟨⟨rfl,(by intro ob aW; simp only [List.mem_cons,List.not_mem_nil,or_false] at aW; rcases aW with rfl | rfl <;> rfl),.inl rfl⟩,(.buildSlice (([UR]:List Int).map ah) a7 dD U U U U U (aq (s:=1) (f:=ah) (fun _=>U)) U U U ae ?_)⟩
 exact .bQ U ae (.nil (.ret ⟨_,_,U,U,_,_,LW,om,FD LX hX.lt (ru om).lt (by simp; omega) om,U,U⟩))
 refine .seq (.sr (.vl (Y.ql U U) (.an (.nil ?_))))
 refine .bm U (fun nz=>?_) (fun nz=>?_)
 refine .skip (.aO U (.sr (.mv ?_)))
 refine .mv ?_
 refine .mv ?_
 refine .mv ?_
 refine .mv ?_
 refine .vl (Y.ql U U) (.bw [0,1] [] BK (pP (gl:=gl) (s:=decide (op = 20)) (a:=ed) (b:=ws.getD 0 []) hg om (ru om).wd hX.wd hI.hw hI.t0) U (.named U U (.aj U U (.aj U U (.aj U U .nil)))) ⟨U,U,trivial⟩ U ae (fun _ h=>by cases h) (fun _ h=>by cases h) ae ae ?_)
 rintro r aJ ⟨Gw,LY,yI,LZ,yJ,rfl,rfl⟩ _
 refine ⟨⟨rfl,(by intro ob aW; simp only [List.mem_cons,List.not_mem_nil,or_false] at aW; rcases aW with rfl | rfl <;> rfl),.inl rfl⟩,(.bw [0,1] [] uF (ie (gl:=Gw) (a:=LY) om) U (.named U U (.aj U U .nil)) ⟨U,U,trivial⟩ U ae (fun _ h=>by cases h) (fun _ h=>by cases h) ae ae ?_)⟩
 rintro r aJ ⟨rfl,rfl⟩ _
 refine ⟨⟨rfl,(by intro ob aW; simp only [List.mem_cons,List.not_mem_nil,or_false] at aW; rcases aW with rfl | rfl <;> rfl),.inl rfl⟩,(.buildSlice (([(Gw.length:Int)]:List Int).map ah) a7 dD U U U U U (aq (s:=1) (f:=ah) (fun _=>U)) U U U ae ?_)⟩
 exact .bQ U ae (.nil (.ret ⟨_,_,U,U,_,_,yI.trans (Ext.not yI.dP yJ),by rw [List.length_append,List.length_singleton]; omega,FE (yJ.not om) hX.lt (ru om).lt (by simp; omega) om,U,U⟩))
 refine .region (.vl (Y.ql U U) (.an (.nil ?_)))
 refine .bm U (fun nz=>?_) (fun nz=>?_)
 refine .sr (.mv ?_)
 refine .mv ?_
 refine .mv ?_
 refine .mv ?_
 refine .mv ?_
 refine .vl (Y.ql U U) (.bw [0,1] [] BK (pP (gl:=gl) (s:=decide (op = 20)) (a:=ed) (b:=ws.getD 0 []) hg om (ru om).wd hX.wd hI.hw hI.t0) U (.named U U (.aj U U (.aj U U (.aj U U .nil)))) ⟨U,U,trivial⟩ U ae (fun _ h=>by cases h) (fun _ h=>by cases h) ae ae ?_)
 rintro r aJ ⟨Gw,LY,yI,LZ,yJ,rfl,rfl⟩ _
 refine ⟨⟨rfl,(by intro ob aW; simp only [List.mem_cons,List.not_mem_nil,or_false] at aW; rcases aW with rfl | rfl <;> rfl),.inl rfl⟩,(.bw [0,1] [] uF (ie (gl:=Gw) (a:=LY) om) U (.named U U (.aj U U .nil)) ⟨U,U,trivial⟩ U ae (fun _ h=>by cases h) (fun _ h=>by cases h) ae ae ?_)⟩
 rintro r aJ ⟨rfl,rfl⟩ _
 refine ⟨⟨rfl,(by intro ob aW; simp only [List.mem_cons,List.not_mem_nil,or_false] at aW; rcases aW with rfl | rfl <;> rfl),.inl rfl⟩,(.buildSlice (([(Gw.length:Int)]:List Int).map ah) a7 dD U U U U U (aq (s:=1) (f:=ah) (fun _=>U)) U U U ae ?_)⟩
 exact .bQ U ae (.nil (.ret ⟨_,_,U,U,_,_,yI.trans (Ext.not yI.dP yJ),by rw [List.length_append,List.length_singleton]; omega,FE (yJ.not om) hX.lt (ru om).lt (by simp; omega) om,U,U⟩))
 refine .sr (.vl (Y.ql U U) (.an (.nil ?_)))
 refine .aA U (fun AD=>?_) (fun AD=>?_)
 refine .seq ?_
 have UT:Wk c gl ed width yN t:=(by rw [Qn om]; have:=hI.y om; rwa [if_pos om] at this)
 have UU:=hI.z om; have Zq:=UT.len; have Zr:=UU.len; have UW:=hX.bit 0 om; have eN:=Ext.not hg UW; have nN:=UW.not (u:=t + 10) (Int.le_refl _)
 refine .region (.mv ?_)
 refine .mv ?_
 refine .vl (Y.qs (m:=0) a7 U U bc (ao (d:=0) om)) (.ld bj ?_)
 refine .bw [0,1] [] uF (ie (gl:=gl) (a:=(ws.getD 0 []).getD 0 0) om) U (.named U U (.aj U U .nil)) ⟨U,U,trivial⟩ U ae (fun _ h=>by cases h) (fun _ h=>by cases h) ae ae ?_
 rintro r aJ ⟨rfl,rfl⟩ _
 refine ⟨⟨rfl,(by intro ob aW; simp only [List.mem_cons,List.not_mem_nil,or_false] at aW; rcases aW with rfl | rfl <;> rfl),.inl rfl⟩,(.an (.nil (.sr ?_)))⟩
 refine .an ?_
 refine .sh (Sh.nil (d:=12) 112 1 U ae) (.nil (.seq (.sr (.mv ?_))))
 refine .vl (Y.qx (n:=ed.length) a7 U (congrArg some (List.length_map ..))) (.mv ?_)
 refine .nil (.block ?_)
 refine .eh (fun (fX:Nat) (mh:List Gate) (kS:List Int)=>⟨[(0,.ptr 0 0 0 0),(2,.fz 1 (ws.map dc)),(9,.fz 1 ((ws.getD 0 []).map ah)),(10,.fz 1 (ed.map ah)),(11,vi gl.length),(12,.aL 112 1 0 kS.length),(118,vi ed.length),(119,vi fX)],[(0,.cells [.aL 1 3 0 mh.length]),(1,.rows 3 (mh.map Gate.row)),(112,.rows 1 (kS.map ah))]⟩) (fun fX mh kS=>((fX:Int) <= (ed.length:Int)) /\ (He c (gl ++ [(⟨4,(ws.getD 0 []).getD 0 0,0⟩:Gate)]) mh kS (fun i ins=>if (xN ins).testBit 0 then (yN ins).testBit i else (zN ins).testBit i) (t + 50) fX)) (fun fX mh kS=>((ed.length:Int) - (fX:Int)).toNat) 0 (gl ++ [(⟨4,(ws.getD 0 []).getD 0 0,0⟩:Gate)]) ([]:List Int) (⟨mz,He.init eN.dP⟩) (Le.mk (.c4 (.c (.cons (aN U aG) (.c (.cons (ak U bc) .nil))))) (.cons (ay U eR) (.c (.c .nil)))) (fun fX mh kS LL=>?_)
 obtain ⟨Zs,hM⟩:=LL
 refine .sr (.vl (Y.zc U U) (.nil (.seq (.aA U (fun UX=>?_) (fun UX=>?_)))))
 refine .skip (.seq (.block (.sr (.mv ?_))))
 refine .an (.nil ?_)
 have MP:=hM.len; have Ux:=hM.ol; rw [List.length_append,List.length_singleton] at MP; have UY:=(UT.bit fX om).ext eN; have UZ:=(UU.bit fX om).ext eN
 refine .dZ U (.blind 0 U au (ax.move U U) ae (.bP (n:=4) [1,2,3,4,5,6,7,8,9,10,11,12,13,14,15] [16,17,18,19] 16 U au ?_))
 refine .cn 1 U (Y.zh U U) (.cn 2 U (Y.zh U U) (.cn 3 U (Y.qs (m:=0) a7 U U bc (ao (d:=0) om)) (.cn 4 U (Y.za bj U U U U) (.cn 5 U (Y.zh U U) (.cn 6 U (Y.zh U U) (.cn 7 U (Y.zh U U) (.cn 8 U (Y.qs (m:=fX) a7 U U bc (ao (d:=0) om)) (.cn 9 U (Y.za bj U U U U) (.cn 10 U (Y.zh U U) (.cn 11 U (Y.qs (m:=2) dI U U bc (ao (d:=[]) om)) (.cn 12 U (Y.za bt U U U U) (.cn 13 U (Y.zh U U) (.cn 14 U (Y.qs (m:=fX) a7 U U bc (ao (d:=0) om)) (.cn 15 U (Y.za bj U U U U) (.nil (.one 16 U au ?_))))))))))))))))
 refine .bw [0,1] [] Ia (choose_spec (gl:=mh) (s:=(ws.getD 0 []).getD 0 0) (v:=(gl.length:Int)) (y:=ed.getD fX 0) (n:=(ws.getD 2 []).getD fX 0) om) U (.named U U (.aj U U (.aj U U (.aj U U (.aj U U .nil))))) ⟨U,U,trivial⟩ U ae (fun _ h=>by cases h) (fun _ h=>by cases h) ae ae ?_
 rintro r aJ ⟨rfl,rfl⟩ _
 refine ⟨⟨rfl,(by intro ob aW; simp only [List.mem_cons,List.not_mem_nil,or_false] at aW; rcases aW with rfl | rfl <;> rfl),.inl rfl⟩,(.nil ⟨U,(.one 17 U au (.buildSlice (([((mh.length:Int) + 2)]:List Int).map ah) a7 dD U U U U U (aq (s:=1) (f:=ah) (fun _=>U)) U U U ae ?_))⟩)⟩
 refine .nil ⟨U,(.one 18 U au (.cL ah (kS ++ ([((mh.length:Int) + 2)]:List Int)) a7 dD U U U U (bg aG) (aR aG) (bz aG) aG aG ae ae ?_))⟩
 refine .nil ⟨U,(.bP (n:=0) [19] [] 0 U au (.cn 19 U (Y.qf U U) (.nil (.done au (.region (.vl (Y.qb U U aG) (.mv ?_)))))))⟩
 refine .nil (⟨fX + 1,yw mh ((ws.getD 0 []).getD 0 0) (gl.length:Int) (ed.getD fX 0) ((ws.getD 2 []).getD fX 0),kS ++ ([((mh.length:Int) + 2)]:List Int),⟨om,hM.step (UW.ext eN) nN UY UZ om om om om (fun ins=>U)⟩,om,Le.mk (.c4 (.c (.cons (aN U om) (.c (.cons (ak U bc) .nil))))) (.cons (ay U eR) (.c (.c .nil)))⟩)
 refine .exit (.sr (.mv ?_))
 refine .an ?_
 refine .sh (Sh.dA (d:=8) (o:=112) U U (aU om) ae) (.nil (.ret ?_))
 obtain rfl:w = 1:=om; exact ⟨_,_,rfl,rfl,_,_,eN.trans hM.ext,by have:=hM.len; rw [List.length_append,List.length_singleton] at this; omega,I4 hM.ws (by have:=hM.ol; omega) hX.lt UT.lt UU.lt om,rfl,rfl⟩
 refine .skip (.sr (.mv ?_))
 refine .mv ?_
 refine .mv ?_
 refine .mv ?_
 refine .vl (Y.ql U U) (.bw [0,1] [] ON (yG (gl:=gl) (a:=ws.getD 0 []) (n:=width) (sg:=decide (op = 23)) hg om hX.wd hI.hw hI.hd hI.t0) U (.named U U (.aj U U (.aj U U (.aj U U .nil)))) ⟨U,U,trivial⟩ U ae (fun _ h=>by cases h) (fun _ h=>by cases h) ae ae ?_)
 rintro r aJ ⟨Zt,Va,Qr,Vb,Qs,rfl,rfl⟩ _
 exact ⟨⟨rfl,(by intro ob aW; simp only [List.mem_cons,List.not_mem_nil,or_false] at aW; rcases aW with rfl | rfl <;> rfl),.inl rfl⟩,(.bQ U ae (.nil (.ret ⟨_,_,U,U,_,_,Qr,om,I5 Qs hX.lt (by simp; omega),U,U⟩)))⟩
end Go.Proofs.Ytlimckldnjmabaa
