/- Walks through the specification of arrivals. -/
import Derived.Test.YtlimckldnjmabaaSynx0
import Derived.Test.YtlimckldnjmabaaSynx4
import Derived.Test.YtlimckldnjmabaaAWx2
import Derived.Test.YtlimckldnjmabaaSynx3
set_option linter.unusedSimpArgs false
set_option linter.unusedVariables false
set_option linter.unusedSectionVars false
set_option maxRecDepth 4000
set_option maxHeartbeats 8000000
namespace Go.Proofs.Ytlimckldnjmabaa
open Go Go.AW Go.Proofs
theorem yS{c:Cell}:aw Try.prog 98 [.agg (Cell.row c)] [] [] (fun r o=>r = .v (.bool (decide (c.out ≥ 0 /\ ¬ bR c.kind))) /\ o = []):=by
 refine aw.of Try.func98 U U U (n:=12) ae (aH U) (.sr (.box 101 U U U U U ae ?_))
 refine .an ?_
 refine .nil (.seq (.sh (Sh.eQ 101 U U) (.region (.fa eo ?_))))
 refine .ld bj ?_
 refine .vl (Y.qq U U) (.mv ?_)
 refine .aC (d:=6) U (fun c6=>?_) (fun c6=>?_)
 refine .gw 6 (Y.qp dC U U) (.gw 6 (Y.za bj U U U U) (.bn (d:=6) U ae U ?_))
 refine .aZ J6 (rO (w:=c.kind)) U (.aj U U .nil) ae U (.gw 6 (Y.zn U) (.pk ?_))
 refine .an (.nil (.ret ?_))
 exact .rb rfl (db (by (first | omega | grind)))
 refine .gz 6 (.gz 6 (.gz 6 (.gz 6 (.pk ?_))))
 refine .an (.nil (.ret ?_))
 exact .rb rfl (df (by (first | omega | grind)))
theorem yT{n:ab}(hM:VT n):aw Try.prog 49 [.agg (ab.row n)] [] [] (fun r o=>∃ at_:List Int,tz n at_ /\ r = .dH 1 (at_.map ah) /\ o = []):=by
 refine aw.of Try.func49 U U U (n:=113) ae (aH U) ?_
 have hs:=hM.small; have hf:=hM.formed; have Hk:=hM.eK; have X4:=hM.ew; have Jw:=hM.tj; have Cz:=hM.tk; have hns:=hM.dh; have Q7:=hf.fi; have hda:=hf.kI; have VQ:=hM.acyclic
 refine .sr (.box 101 U U U U U ae ?_)
 refine .an ?_
 refine .nil (.seq (.sh (Sh.eQ 101 U U) (.region (.fa bO ?_))))
 refine .ld bt ?_
 refine .vl (Y.qx (n:=n.aa.length) a7 U fV) (.makeSlice (n:=n.aa.length) a7 dD U U U U om om ae ?_)
 refine .bQ U ae (.sh (Sh.dr (d:=3) (n:=n.aa.length) 103 ((List.replicate n.aa.length 0).map ah) U iJ (aU (by simp)) ae) (.nil (.sr (.fa bO ?_))))
 refine .ld bt ?_
 refine .vl (Y.qx (n:=n.aa.length) a7 U fV) (.makeSlice (n:=n.aa.length) sE SR U U U U om om ae ?_)
 refine .bQ U ae (.sh (Sh.dr (d:=4) (n:=n.aa.length) 104 ((List.replicate n.aa.length false).map jT) U iJ (aU (by simp)) ae) (.nil (.seq (.sr (.an (.nil (.block ?_)))))))
 refine .eh (fun (my:Nat) (mo:List Int) (ij:List Bool)=>⟨[(1,.fp (ab.row n) 0),(3,.aL 103 1 0 n.aa.length),(4,.aL 104 1 0 n.aa.length),(5,vi my)],[(103,.rows 1 (mo.map ah)),(104,.rows 1 (ij.map jT))]⟩) (fun my mo ij=>(mo.length = n.aa.length) /\ (ij.length = n.aa.length) /\ ((my:Int) <= (n.cells.length:Int)) /\ (RS n my mo ij) /\ (RB n mo ij)) (fun my mo ij=>((n.cells.length:Int) - (my:Int)).toNat) 0 (List.replicate n.aa.length 0) (List.replicate n.aa.length false) (⟨mz,mz,mz,RS.init,RB.init⟩) (Le.mk (.c2 (.c (.cons (ak U bc) .nil))) (.c (.c .nil))) (fun my mo ij AA=>?_)
 obtain ⟨Ki,GQ,FQ,hS,hB⟩:=AA
 refine .seq (.sr (.mv ?_))
 refine .fa bX ?_
 refine .ld gk ?_
 refine .vl (Y.qx (n:=n.cells.length) dV U fV) (.vl (Y.zc U U) (.nil (.aA U (fun L9=>?_) (fun L9=>?_))))
 refine .skip (.lk (fun (ou:List Int) (kx:List Bool)=>⟨[(1,.fp (ab.row n) 0),(3,.aL 103 1 0 n.aa.length),(4,.aL 104 1 0 n.aa.length),(5,vi my)],[(103,.rows 1 (ou.map ah)),(104,.rows 1 (kx.map jT))]⟩) (fun ou kx=>(ou.length = n.aa.length) /\ ((kx.length = n.aa.length) /\ (RS n (my + 1) ou kx /\ RB n ou kx))) ?_ (fun ou kx VR=>?_))
 refine .block (.seq ?_)
 have h6:=Lg hf (j:=my) om
 refine .region (.fa bX ?_)
 refine .ld gk ?_
 refine .mv ?_
 refine .vl (Y.qs (m:=my) dV U U bc (ao (d:=default) om)) (.vl (Y.zb fA U U (aH U) U U) (.alloc 106 ez U U ae (.ai g6 U U U U U U (aH U) U ?_)))
 refine .nil (.sr (.vl (Y.zb fA U U (aH U) U U) (.aZ SV (yS (c:=(n.cells.getD my default))) U (.aj U U .nil) ae U (.nil (.aA U (fun xz=>?_) (fun xz=>?_))))))
 refine .seq (.g7 [106] [103,104,106] U (.blind 0 U au (ax.move U U) ae ?_))
 refine .blind 1 U au (ax.fieldAddr eo U U) ae (.load 2 U au bj U U U U U ae (.fe 3 U au gm U U U (aH U) U U ae ?_))
 refine .fe 4 U au fA U U U (aH U) U U ae (.GZ U U (bZ.cells U U U bZ.nil) (.one 5 U au (.aZ OK (qB (n:=n) (c:=(n.cells.getD my default)) hf.lq (hf.cells _ om) (Jw _ (getD_in om))) U (.aj U U (.aj U U .nil)) ae U ?_)))
 refine .nil ⟨U,(.one 6 U au (.vl (Y.qt (m:=((n.cells.getD my default).out).toNat) a7 U U om om) (.nil ⟨U,(.one 7 U au (.gU ((mo.set (((n.cells.getD my default).out).toNat) (l4 n (n.cells.getD my default))).map ah) dS U U U U U U U (aM (d:=0) om) (aH U) (e9 U) ?_))⟩)))⟩
 refine .nil ⟨U,(.done au (.region (.mv ?_)))⟩
 refine .fa eo ?_
 refine .ld bj ?_
 refine .vl (Y.qt (m:=((n.cells.getD my default).out).toNat) sE U U om om) (.gU ((ij.set (((n.cells.getD my default).out).toNat) true).map jT) Rn U U U U U U U (aM (d:=false) om) (aH U) (e9 U) (.nil (⟨mo.set (((n.cells.getD my default).out).toNat) (l4 n (n.cells.getD my default)),ij.set (((n.cells.getD my default).out).toNat) true,⟨mz,⟨mz,⟨hS.set hf om xz.1 xz.2,hB.src hM hS om xz.1⟩⟩⟩,Le.mk (.c2 (.c (.c .nil))) (.c (.c .nil))⟩)))
 refine .skip (⟨mo,ij,⟨om,⟨om,⟨hS.skip hf om ej,hB⟩⟩⟩,Le.mk (.c2 (.c (.c .nil))) (.c (.c .nil))⟩)
 obtain ⟨QM,QN,Qn⟩:=VR
 refine .region (.mv ?_)
 refine .vl (Y.qb U U aG) (.an ?_)
 refine .nil (⟨my + 1,ou,kx,⟨om,om,om,Qn.1,Qn.2⟩,om,Le.mk (.c2 (.c (.cons (ak U bc) .nil))) (.c (.c .nil))⟩)
 refine .exit (.seq (.sr (.an (.nil (.block ?_)))))
 refine .eh (fun (nH:Bool) (kD:List Int) (fD:List Bool)=>⟨[(1,.fp (ab.row n) 0),(3,.aL 103 1 0 n.aa.length),(4,.aL 104 1 0 n.aa.length),(7,.v (.bool nH))],[(103,.rows 1 (kD.map ah)),(104,.rows 1 (fD.map jT))]⟩) (fun nH kD fD=>(kD.length = n.aa.length) /\ (fD.length = n.aa.length) /\ (RA n kD fD) /\ (∀ i w,bH n i w -> ¬ bR (n.cell i).kind -> kn fD w = true) /\ (RB n kD fD) /\ (nH = false -> tz n kD)) (fun nH kD fD=>ia fD + (if nH then 1 else 0)) true mo ij (⟨om,om,hS.ra,fun i w hd hc=>(hS.iff i w hd).2 ⟨by have:=hd.1; omega,hc⟩,hB,fun h=>by cases h⟩) (Le.mk (.c2 (.c (.cons (a9 U eG) .nil))) (.c (.c .nil))) (fun nH kD fD FP=>?_)
 obtain ⟨Ki,GQ,hA,VS,VU,VV⟩:=FP
 refine .seq (.sr (.mv ?_))
 refine .nil (.cond U (fun VW=>?_) (fun VW=>?_))
 refine .skip (.block (.sr (.an (.nil (.sr ?_)))))
 refine .an (.nil (.block ?_))
 refine .Bs (fun (ik:Bool) (cf:Nat) (eU:List Int) (cS:List Bool)=>⟨[(1,.fp (ab.row n) 0),(3,.aL 103 1 0 n.aa.length),(4,.aL 104 1 0 n.aa.length),(7,.v (.bool ik)),(8,vi cf)],[(103,.rows 1 (eU.map ah)),(104,.rows 1 (cS.map jT))]⟩) (fun ik cf eU cS=>(eU.length = n.aa.length) /\ (cS.length = n.aa.length) /\ ((cf:Int) <= (n.cells.length:Int)) /\ (RR n fD cf ik eU cS) /\ (RB n eU cS)) (fun ik cf eU cS=>((n.cells.length:Int) - (cf:Int)).toNat) false 0 kD fD (⟨om,om,om,RR.init hA VS,VU⟩) (Le.mk (.c2 (.c (.cons (a9 U eG) (.cons (ak U bc) .nil)))) (.c (.c .nil))) (fun ik cf eU cS Gg=>?_)
 obtain ⟨Ki,GQ,Vk,hR,Dv⟩:=Gg
 refine .seq (.sr (.mv ?_))
 refine .fa bX ?_
 refine .ld gk ?_
 refine .vl (Y.qx (n:=n.cells.length) dV U fV) (.vl (Y.zc U U) (.nil (.aA U (fun Vl=>?_) (fun Vl=>?_))))
 refine .skip (.Br (fun (nI:Bool) (mq:List Int) (jr:List Bool)=>⟨[(1,.fp (ab.row n) 0),(3,.aL 103 1 0 n.aa.length),(4,.aL 104 1 0 n.aa.length),(7,.v (.bool nI)),(8,vi cf)],[(103,.rows 1 (mq.map ah)),(104,.rows 1 (jr.map jT))]⟩) (fun nI mq jr=>(mq.length = n.aa.length) /\ ((jr.length = n.aa.length) /\ (RR n fD (cf + 1) nI mq jr /\ RB n mq jr))) ?_ (fun nI mq jr QO=>?_))
 refine .block (.sr (.fa bX ?_))
 refine .ld gk ?_
 refine .mv ?_
 refine .vl (Y.qs (m:=cf) dV U U bc (ao (d:=default) om)) (.vl (Y.zb fA U U (aH U) U U) (.alloc 109 ez U U ae (.ai g6 U U U U U U (aH U) U ?_)))
 refine .nil (.seq (.seq ?_))
 have QP:=hf.cells cf om; have ZY:=Jw (n.cells.getD cf default) (getD_in om)
 refine .region (.fa dC ?_)
 refine .ld bj ?_
 refine .aZ J6 (rO (w:=((n.cells.getD cf default).kind))) U (.aj U U .nil) ae U (.vl (Y.zn U) (.mv ?_))
 refine .qL (d:=63) U (fun sq=>?_) (fun sq=>?_)
 refine .gz 63 (.gz 63 (.gz 63 (.gz 63 (.gz 63 (.pk ?_)))))
 exact .nil (.aO U (.exit (⟨ik,eU,cS,⟨om,⟨om,⟨hR.pass hf om (.inl sq),Dv⟩⟩⟩,Le.mk (.c2 (.c (.cons (a9 U eG) (.c .nil)))) (.c (.c .nil))⟩)))
 have VX:=QP.2.2.2 (fun e=>by rw [e] at sq; revert sq; unfold bR; omega); unfold In at VX
 refine .gw 63 (Y.zh U U) (.gw 63 (Y.qp eo U U) (.gw 63 (Y.za bj U U U U) (.gw 63 (Y.qt (m:=((n.cells.getD cf default).out).toNat) sE U U om om) (.gw 63 (Y.za Af U (aM (d:=false) om) U U) (.pk ?_)))))
 refine .nil (.cond U (fun JZ=>?_) (fun JZ=>?_))
 refine .exit (⟨ik,eU,cS,⟨om,⟨om,⟨hR.pass hf om (.inr (.inl JZ)),Dv⟩⟩⟩,Le.mk (.c2 (.c (.cons (a9 U eG) (.c .nil)))) (.c (.c .nil))⟩)
 refine .skip (.sr (.an ?_))
 refine .an ?_
 refine .nil (.seq (.sr (.an (.nil (.block ?_)))))
 refine .eh (fun (mr:Int) (ov:Bool) (fQ:Nat)=>⟨[(1,.fp (ab.row n) 0),(3,.aL 103 1 0 n.aa.length),(4,.aL 104 1 0 n.aa.length),(7,.v (.bool ik)),(8,vi cf),(9,.ptr 109 0 0 0),(10,vi mr),(11,.v (.bool ov)),(12,vi fQ),(64,.aL 104 1 0 n.aa.length),(65,.ptr 109 0 0 2),(66,vi ((n.cells.getD cf default).out)),(67,.ptr 104 1 (0 + (((n.cells.getD cf default).out).toNat)) 0),(68,.v (.bool (cS.getD (((n.cells.getD cf default).out).toNat) false)))],[(103,.rows 1 (eU.map ah)),(104,.rows 1 (cS.map jT)),(109,.cells [vi ((n.cells.getD cf default).kind),vi ((n.cells.getD cf default).op),vi ((n.cells.getD cf default).out),.fz 1 (((n.cells.getD cf default).args).map ah),.v (.int .u64 (((n.cells.getD cf default).num:Nat):Int)),vi ((n.cells.getD cf default).mem)])]⟩) (fun mr ov fQ=>((fQ:Int) <= ((((n.cells.getD cf default).args).length:Nat):Int)) /\ (mr = gE eU ((n.cells.getD cf default).args.take fQ)) /\ (ov = Kg cS ((n.cells.getD cf default).args.take fQ))) (fun mr ov fQ=>(((((n.cells.getD cf default).args).length:Nat):Int) - (fQ:Int)).toNat) 0 true 0 (⟨om,U,U⟩) (Le.mk (.c4 (.c2 (.cons (ak U bc) (.cons (a9 U eG) (.cons (ak U bc) (.c4 (.c .nil))))))) (.c2 (.c .nil))) (fun mr ov fQ Gz=>?_)
 obtain ⟨Qt,ht,XC⟩:=Gz
 refine .seq (.sr (.mv ?_))
 refine .fa bU ?_
 refine .ld bt ?_
 refine .vl (Y.qx (n:=((n.cells.getD cf default).args).length) a7 U fV) (.vl (Y.zc U U) (.nil (.aA U (fun PT=>?_) (fun PT=>?_))))
 have ZZ:=QP.1 ((n.cells.getD cf default).args.getD fQ 0) (bC om); unfold In at ZZ
 refine .skip (.seq (.block ?_))
 refine .iC (fun (pz:Bool)=>⟨[(1,.fp (ab.row n) 0),(3,.aL 103 1 0 n.aa.length),(4,.aL 104 1 0 n.aa.length),(7,.v (.bool ik)),(8,vi cf),(9,.ptr 109 0 0 0),(10,vi mr),(11,.v (.bool pz)),(12,vi fQ),(64,.aL 104 1 0 n.aa.length),(65,.ptr 109 0 0 2),(66,vi ((n.cells.getD cf default).out)),(67,.ptr 104 1 (0 + (((n.cells.getD cf default).out).toNat)) 0),(68,.v (.bool (cS.getD (((n.cells.getD cf default).out).toNat) false)))],[(103,.rows 1 (eU.map ah)),(104,.rows 1 (cS.map jT)),(109,.cells [vi ((n.cells.getD cf default).kind),vi ((n.cells.getD cf default).op),vi ((n.cells.getD cf default).out),.fz 1 (((n.cells.getD cf default).args).map ah),.v (.int .u64 (((n.cells.getD cf default).num:Nat):Int)),vi ((n.cells.getD cf default).mem)])]⟩) (fun pz=>pz = (ov && cS.getD (((n.cells.getD cf default).args).getD fQ 0).toNat false)) ?_ (fun pz LU=>?_)
 refine .region (.mv ?_)
 refine .mv ?_
 refine .split (d:=78) U (fun AB=>?_) (fun AB=>?_)
 refine .gw 78 (Y.zh U U) (.gw 78 (Y.qp bU U U) (.gw 78 (Y.za bt U U U U) (.gw 78 (Y.zh U U) (.gw 78 (Y.qs (m:=fQ) a7 U U bc (ao (d:=0) om)) (.gw 78 (Y.za bj U U U U) (.gw 78 (Y.qt (m:=(((n.cells.getD cf default).args).getD fQ 0).toNat) sE U U om om) (.gw 78 (Y.za Af U (aM (d:=false) om) U U) (.pk ?_))))))))
 refine .an ?_
 refine .nil ⟨cS.getD ((((n.cells.getD cf default).args).getD fQ 0).toNat) false,by rw [AB]; rfl,Le.mk (.c4 (.c2 (.c (.cons (a9 U eG) (.c4 (.c (.c .nil))))))) (.c2 (.c .nil))⟩
 refine .gz 78 (.gz 78 (.gz 78 (.gz 78 (.gz 78 (.gz 78 (.gz 78 (.gz 78 (.pk ?_))))))))
 refine .an ?_
 refine .nil ⟨false,by rw [AB]; rfl,Le.mk (.c4 (.c2 (.c (.cons (a9 U eG) (.c4 (.c (.c .nil))))))) (.c2 (.c .nil))⟩
 refine .region (.mv ?_)
 refine .mv ?_
 refine .fa bU ?_
 refine .ld bt ?_
 refine .mv ?_
 refine .vl (Y.qs (m:=fQ) a7 U U bc (ao (d:=0) om)) (.ld bj ?_)
 refine .vl (Y.qt (m:=(((n.cells.getD cf default).args).getD fQ 0).toNat) a7 U U om om) (.vl (Y.za bj U (aM (d:=0) om) U U) (.vl (Y.ze U U U) (.an (.nil (.region ?_)))))
 refine .mv ?_
 refine .vl (Y.qb U U aG) (.an ?_)
 refine .nil (⟨if (eU.getD ((((n.cells.getD cf default).args).getD fQ 0).toNat) 0) > mr then (eU.getD ((((n.cells.getD cf default).args).getD fQ 0).toNat) 0) else mr,pz,fQ + 1,⟨om,Gm ht om,by rw [GO om,<- XC,LU]; rfl⟩,om,Le.mk (.c4 (.c2 (.cons (ak U bc) (.cons (a9 U eG) (.cons (ak U bc) (.c4 (.c .nil))))))) (.c2 (.c .nil))⟩)
 refine .exit (.seq ?_)
 have RJ:mr = gE eU (n.cells.getD cf default).args:=by rw [ht,show fQ = (n.cells.getD cf default).args.length by omega,List.take_length]
 have kW:ov = Kg cS (n.cells.getD cf default).args:=by rw [XC,show fQ = (n.cells.getD cf default).args.length by omega,List.take_length]
 have h25:=Dv.gE GQ (n.cells.getD cf default).args; have aaa:=hM.l4 (i:=cf) om
 refine .region (.mv ?_)
 refine .nil (.cond U (fun nz=>?_) (fun nz=>?_))
 refine .seq (.g7 [109] [103,104,109] U (.blind 0 U au (ax.move U U) ae ?_))
 refine .blind 1 U au (ax.fieldAddr eo U U) ae (.load 2 U au bj U U U U U ae (.blind 3 U au (ax.move U U) ae ?_))
 refine .fe 4 U au gm U U U (aH U) U U ae (.fe 5 U au fA U U U (aH U) U U ae (.GZ U U (bZ.cells U U U bZ.nil) ?_))
 refine .one 6 U au (.aZ OK (qB (n:=n) (c:=(n.cells.getD cf default)) hf.lq (hf.cells _ om) (Jw _ (getD_in om))) U (.aj U U (.aj U U .nil)) ae U ?_)
 refine .nil ⟨U,(.one 7 U au (.vl (Y.qb U U aG) (.nil ⟨U,(.one 8 U au (.vl (Y.qt (m:=((n.cells.getD cf default).out).toNat) a7 U U om om) (.nil ⟨U,(.one 9 U au (.gU ((eU.set (((n.cells.getD cf default).out).toNat) (mr + (l4 n (n.cells.getD cf default)))).map ah) dS U U U U U U U (aM (d:=0) om) (aH U) (e9 U) ?_))⟩)))⟩)))⟩
 refine .nil ⟨U,(.done au (.sr (.mv ?_)))⟩
 refine .fa eo ?_
 refine .ld bj ?_
 refine .vl (Y.qt (m:=((n.cells.getD cf default).out).toNat) sE U U om om) (.gU ((cS.set (((n.cells.getD cf default).out).toNat) true).map jT) Rn U U U U U U U (aM (d:=false) om) (aH U) (e9 U) ?_)
 refine .nil (.region (.an ?_))
 refine .nil (⟨true,eU.set (((n.cells.getD cf default).out).toNat) (mr + (l4 n (n.cells.getD cf default))),cS.set (((n.cells.getD cf default).out).toNat) true,⟨mz,⟨mz,⟨hR.mark hf om sq JZ (Jh (by rw [<- kW]; exact nz)) RJ,Dv.set om JZ om om⟩⟩⟩,Le.mk (.c2 (.c (.cons (a9 U eG) (.c .nil)))) (.c (.c .nil))⟩)
 refine .skip (⟨ik,eU,cS,⟨om,⟨om,⟨hR.pass hf om (.inr (.inr (Ms (by rw [<- kW]; exact nz)))),Dv⟩⟩⟩,Le.mk (.c2 (.c (.cons (a9 U eG) (.c .nil)))) (.c (.c .nil))⟩)
 obtain ⟨MX,MY,Jg⟩:=QO
 refine .region (.mv ?_)
 refine .vl (Y.qb U U aG) (.an ?_)
 refine .nil (⟨nI,cf + 1,mq,jr,⟨om,om,om,Jg.1,Jg.2⟩,om,Le.mk (.c2 (.c (.cons (a9 U eG) (.cons (ak U bc) .nil)))) (.c (.c .nil))⟩)
 refine .exit (⟨ik,eU,cS,⟨om,om,hR.ra,hR.src,Dv,fun hm=>by subst hm; exact hR.done hf VQ om⟩,by have h:=hR.Oc; rw [if_pos VW]; omega,Le.mk (.c2 (.c (.cons (a9 U eG) .nil))) (.c (.c .nil))⟩)
 refine .exit (.sr (.mv ?_))
 refine .an ?_
 exact .sh (Sh.dA (d:=2) (o:=103) U U (aU om) ae) (.nil (.ret ⟨_,_,U,U,kD,VV (by simpa using VW),U,U⟩))
open Go Go.AW Go.Proofs
theorem tR{p:nL}(hk:p.Ok):aw Try.prog 10 [.agg (nL.row p)] [] [] (fun r o=>r = .v (.bool true) /\ o = []):=by
 refine aw.of Try.func10 U U U (n:=149) ae (aH U) (.sr (.box 101 U U U U U ae ?_))
 refine .an ?_
 refine .nil (.seq (.seq (.sh (Sh.eQ 101 U U) (.region (.aZ OQ (se) U .nil ae U ?_)))))
 refine .vl (Y.zn U) (.mv ?_)
 refine .gw 19 (Y.zb OX U U (aH U) U U) (.bn (d:=19) U ae U (.aZ Tb (GK (p:=p)) U (.aj U U .nil) ae U ?_))
 refine .gw 19 (Y.zn U) (.pk ?_)
 refine .nil (.lh U (fun y9=>?_) (fun y9=>?_))
 refine .sr (.aZ OQ (se) U .nil ae U ?_)
 refine .an (.nil (.ret ?_))
 exact .rb rfl (rfl)
 refine .skip (.sr (.vl (Y.zb OX U U (aH U) U U) (.oP SX (Ds (p:=p) ej hk) U (.aj U U .nil) ae ?_)))
 rintro _ ⟨bT,p1,rfl,_⟩
 refine ⟨U,?_⟩
 refine .alloc 103 HZ U U ae (.sh (Sh.nS (d:=26) (y:=.agg [.v (.string bT.name),.fz 1 (bT.aa.map ah),.fz 6 (bT.cells.map Cell.row),.fz 1 (bT.ins.map ah),.fz 5 (bT.aD.map eA.row),.fz 3 (bT.streams.map bE.row),.fz 1 (bT.bB.map ah),.fz 1 (bT.data.map ah),.v (.int .i64 bT.freeze),.v (.int .i64 bT.done),.fz 1 (bT.cM.map ah)]) U (by show X.mC (.agg [.v (.string bT.name),.dH 1 (bT.aa.map ah),.dH 6 (bT.cells.map Cell.row),.fz 1 (bT.ins.map ah),.fz 5 (bT.aD.map eA.row),.fz 3 (bT.streams.map bE.row),.fz 1 (bT.bB.map ah),.fz 1 (bT.data.map ah),.v (.int .i64 bT.freeze),.v (.int .i64 bT.done),.fz 1 (bT.cM.map ah)]) = _; simp only [X.mC,X.jj,X.g5 (cC.map Cell.bA),X.g5 (cC.map aI)])) ?_)
 refine .ai KW U U U U U U (aH U) U (.nil (.seq ?_))
 have hs:=p1.small; have hf:=p1.formed; have XD:=p1.fit; have XE:=p1.acyclic; have Hk:=p1.eK; have X4:=p1.ew; have Rj:=p1.CL; have Jw:=p1.tj
 refine .region (.vl (Y.zb gm U U (aH U) U U) (.oP Tc (xq (n:=bT) p1.small (by have:=p1.CL; omega) ⟨om,om,by have:=p1.tk; omega,by have:=p1.dh; omega,by have:=p1.CL; omega⟩ (fun c hc=>by have:=p1.tj c hc; omega)) U (.aj U U .nil) ae ?_))
 rintro _ ⟨js,e29,VY,rfl,_⟩
 refine ⟨U,(.oR U ae (.iX U U ae (.vl (Y.qn U U U) (.alloc 104 jZ U U ae (.sh (Sh.nS (d:=30) (y:=.agg [.fz 3 (js.cb.map Gate.row),.fz 1 (js.bits.map dc),.fz 1 (js.next.map dc)]) U (by show X.mC (.agg [.dH 3 (js.cb.map Gate.row),.dH 1 (js.bits.map dc),.dH 1 (js.next.map dc)]) = _; simp only [X.mC,X.jj,X.g5 (cC.map Gate.bA),X.g5 (cC.map lO)])) (.ai oZ U U U U U U (aH U) U ?_))))))⟩
 refine .an ?_
 refine .nil (.seq (.seq ?_))
 obtain ⟨LV,V,at_,hP⟩:=VY.ok (uO hf XD XE); have hv:VT bT:=⟨hf,XD,XE,hs,om,om,fun c hc=>by have:=p1.tj c hc; omega,by have:=p1.tk; omega,by have:=p1.dh; omega,om⟩; have XF:=hP.dP; have tu:=hP.len; have zG:=Ao js.cb; have IM:=hP.bl; have xI:=hP.nl; obtain ⟨lo,ho⟩:=hP.ord
 refine .region (.mv ?_)
 refine .vl (Y.zl U U) (.mv ?_)
 refine .aC (d:=34) U (fun xz=>?_) (fun xz=>?_)
 exact absurd LV xz
 refine .gw 34 (Y.qp pE U U) (.gw 34 (Y.za uG U U U U) (.bn (d:=34) U ae U ?_))
 refine .aZ SZ (xo (l:=js.cb) (om)) U (.aj U U .nil) ae U (.gw 34 (Y.zn U) (.pk ?_))
 refine .mv ?_
 refine .split (d:=40) U (fun AK=>?_) (fun AK=>?_)
 exfalso; simp at AK; exact AK XF.d
 replace AK:Ce js.cb:=by simpa using AK
 refine .gw 40 (Y.zb gm U U (aH U) U U) (.gw 40 (Y.zb JF U U (aH U) U U) (.bn (d:=40) U ae U ?_))
 refine .aZ Tj (vK (n:=bT) (m:=js) hf hP ⟨om,om⟩) U (.aj U U (.aj U U .nil)) ae U (.gw 40 (Y.zn U) (.pk ?_))
 refine .nil (.cZ U (.skip (.sr (.fa pE ?_))))
 refine .ld uG ?_
 refine .aZ OS (wA (l:=js.cb) (om)) U (.aj U U .nil) ae U (.makeSlice (n:=iZ js.cb) a7 dD U U U U om om ae ?_)
 refine .bQ U ae (.sh (Sh.dr (d:=6) (n:=(iZ js.cb)) 106 ((List.replicate (iZ js.cb) 0).map ah) U iJ (aU (by simp)) ae) (.nil (.seq (.sr (.mv ?_)))))
 refine .vl (Y.qx (n:=(iZ js.cb)) a7 U U) (.mv ?_)
 refine .nil (.block ?_)
 refine .iD (fun (p3:Nat) (lv:List Int)=>⟨[(3,.ptr 103 0 0 0),(4,.ptr 104 0 0 0),(6,.aL 106 1 0 (iZ js.cb)),(51,vi (((iZ js.cb):Nat):Int)),(52,vi p3)],[(103,.cells [.v (.string bT.name),.fz 1 (bT.aa.map ah),.fz 6 (bT.cells.map Cell.row),.fz 1 (bT.ins.map ah),.fz 5 (bT.aD.map eA.row),.fz 3 (bT.streams.map bE.row),.fz 1 (bT.bB.map ah),.fz 1 (bT.data.map ah),vi bT.freeze,vi bT.done,.fz 1 (bT.cM.map ah)]),(104,.cells [.fz 3 (js.cb.map Gate.row),.fz 1 (js.bits.map dc),.fz 1 (js.next.map dc)]),(106,.rows 1 (lv.map ah))]⟩) (fun p3 lv=>(lv.length = (iZ js.cb)) /\ ((p3:Int) <= (((iZ js.cb):Nat):Int)) /\ (∀ j,j < p3 -> lv.getD j 0 = 30)) (fun p3 lv=>((((iZ js.cb):Nat):Int) - (p3:Int)).toNat) 0 (List.replicate (iZ js.cb) 0) (⟨mz,mz,fun j hj=>by omega⟩) (Le.mk (.c4 (.cons (ak U bc) .nil)) (.c2 (.c .nil))) (fun p3 lv Ql=>?_)
 obtain ⟨Cj,Xd,hI⟩:=Ql
 refine .sr (.vl (Y.zc U U) (.nil (.seq (.aA U (fun P9=>?_) (fun P9=>?_)))))
 refine .skip (.seq (.block (.sr (.mv ?_))))
 refine .an (.nil (.region ?_))
 refine .mv ?_
 refine .mv ?_
 refine .vl (Y.qt (m:=p3) a7 U U bc om) (.gU ((lv.set p3 30).map ah) dS U U U U U U U (aM (d:=0) om) (aH U) (e9 U) ?_)
 refine .nil (.region (.vl (Y.qb U U aG) (.mv ?_)))
 refine .nil (⟨p3 + 1,lv.set p3 30,⟨mz,mz,vX (f:=fun _=>30) hI U om⟩,om,Le.mk (.c4 (.cons (ak U bc) .nil)) (.c2 (.c .nil))⟩)
 refine .exit (.seq ?_)
 have nK:lv = List.replicate (iZ js.cb) 30:=GG ej (fun j hj=>hI j om)
 refine .region (.fa pE ?_)
 refine .ld uG ?_
 refine .mv ?_
 refine .jF [106] Ta (xr (l:=js.cb) (n:=iZ js.cb) (ins:=lv) (c:=30) XF U om ae nK) U (.aj U U (.cB U U (b7 om) (b8 om) .nil)) (kH U (bq aI)) ae U (ke mF _) ?_
 refine .bQ U ae (.sh (Sh.cG (d:=8) ((fT js.cb lv js.cb.length).map ah) U iJ (cC.map aI)) (.nil (.sr (.vl (Y.zb gm U U (aH U) U U) (.oP Tk (yT (n:=bT) hv) U (.aj U U .nil) ae ?_)))))
 rintro _ ⟨wE,VZ,rfl,_⟩
 refine ⟨U,(.bQ U ae (.sh (Sh.cG (d:=9) (wE.map ah) U iJ (cC.map aI)) (.nil (.seq (.seq ?_)))))⟩
 obtain rfl:wE = at_:=tz.uniq hf ho VZ hP.MR; have aab:=hP.MR.len; have WE:=w7 (l:=js.cb) (ins:=lv) (Nat.le_refl _)
 refine .region (.fa bO ?_)
 refine .ld bt ?_
 refine .vl (Y.qx (n:=bT.aa.length) a7 U (congrArg some (List.length_map ..))) (.mv ?_)
 refine .nil (.block ?_)
 refine .jt (fun (fR:Nat)=>⟨[(3,.ptr 103 0 0 0),(4,.ptr 104 0 0 0),(8,.fz 1 ((fT js.cb lv js.cb.length).map ah)),(9,.fz 1 (wE.map ah)),(67,vi bT.aa.length),(68,vi fR)],[(103,.cells [.v (.string bT.name),.fz 1 (bT.aa.map ah),.fz 6 (bT.cells.map Cell.row),.fz 1 (bT.ins.map ah),.fz 5 (bT.aD.map eA.row),.fz 3 (bT.streams.map bE.row),.fz 1 (bT.bB.map ah),.fz 1 (bT.data.map ah),vi bT.freeze,vi bT.done,.fz 1 (bT.cM.map ah)]),(104,.cells [.fz 3 (js.cb.map Gate.row),.fz 1 (js.bits.map dc),.fz 1 (js.next.map dc)])]⟩) (fun fR=>((fR:Int) <= (bT.aa.length:Int))) (fun fR=>((bT.aa.length:Int) - (fR:Int)).toNat) 0 aG (Le.mk (.c4 (.c (.cons (ak U bc) .nil))) (.c (.c .nil))) (fun fR Ga=>?_)
 have PS:=Ga
 refine .sr (.vl (Y.zc U U) (.nil (.seq (.aA U (fun JZ=>?_) (fun JZ=>?_)))))
 refine .skip (.seq (.block (.sr (.mv ?_))))
 refine .an (.nil (.seq ?_))
 have Bl:=(hP.GH hf (i:=fR) om).2; have vy:=Cp hf.lq (fR:Int); unfold ab.wd at vy; rw [Int.toNat_natCast] at vy
 refine .region (.fa kA ?_)
 refine .ld lU ?_
 refine .mv ?_
 refine .vl (Y.qs (m:=fR) dI U U bc (ao (d:=[]) om)) (.ld bt ?_)
 refine .vl (Y.qx (n:=(js.bits.getD fR []).length) a7 U (congrArg some (List.length_map ..))) (.mv ?_)
 refine .nil (.block ?_)
 refine .jt (fun (mu:Nat)=>⟨[(3,.ptr 103 0 0 0),(4,.ptr 104 0 0 0),(8,.fz 1 ((fT js.cb lv js.cb.length).map ah)),(9,.fz 1 (wE.map ah)),(10,vi fR),(67,vi bT.aa.length),(68,vi fR),(75,.fz 1 ((js.bits.getD fR []).map ah)),(76,vi (((js.bits.getD fR []).length:Nat):Int)),(77,vi mu)],[(103,.cells [.v (.string bT.name),.fz 1 (bT.aa.map ah),.fz 6 (bT.cells.map Cell.row),.fz 1 (bT.ins.map ah),.fz 5 (bT.aD.map eA.row),.fz 3 (bT.streams.map bE.row),.fz 1 (bT.bB.map ah),.fz 1 (bT.data.map ah),vi bT.freeze,vi bT.done,.fz 1 (bT.cM.map ah)]),(104,.cells [.fz 3 (js.cb.map Gate.row),.fz 1 (js.bits.map dc),.fz 1 (js.next.map dc)])]⟩) (fun mu=>((mu:Int) <= (((js.bits.getD fR []).length:Nat):Int))) (fun mu=>((((js.bits.getD fR []).length:Nat):Int) - (mu:Int)).toNat) 0 aG (Le.mk (.c8 (.c (.cons (ak U bc) .nil))) (.c (.c .nil))) (fun mu Wa=>?_)
 have aac:=Wa
 refine .sr (.vl (Y.zc U U) (.nil (.seq (.aA U (fun AB=>?_) (fun AB=>?_)))))
 refine .skip (.seq (.block (.sr (.vl (Y.qs (m:=mu) a7 U U bc (ao (d:=0) om)) (.ld bj ?_)))))
 refine .an (.nil (.seq ?_))
 have KL:=(hP.GH hf (i:=fR) om).1 mu om; have htb:=hP.tb (i:=fR) (k:=mu) om om; rw [<- nK] at htb
 refine .gy U au (.val (Y.zh U U) ae (.val (Y.zh U U) ae (.val (Y.qs (m:=((js.bits.getD fR []).getD mu 0).toNat) a7 U U om (ao (d:=0) om)) ae (.val (Y.za bj U U U U) ae (.val (Y.zh U U) ae (.val (Y.zh U U) ae (.val (Y.qs (m:=fR) a7 U U bc (ao (d:=0) aG)) ae (.val (Y.za bj U U U U) ae (.val (Y.qr U U) ae (.nil (.aA U (fun c89=>?_) (fun c89=>?_))))))))))))
 exfalso; omega
 refine .skip (.region (.vl (Y.qb U U aG) (.mv ?_)))
 refine .nil ⟨mu + 1,om,om,Le.mk (.c8 (.c (.cons (ak U bc) .nil))) (.c (.c .nil))⟩
 refine .exit (.region (.vl (Y.qb U U aG) (.mv ?_)))
 refine .nil ⟨fR + 1,om,om,Le.mk (.c4 (.c (.cons (ak U bc) .nil))) (.c (.c .nil))⟩
 refine .exit (.seq (.sr (.fa bX ?_)))
 refine .ld gk ?_
 refine .vl (Y.qx (n:=bT.cells.length) dV U (congrArg some (List.length_map ..))) (.mv ?_)
 refine .nil (.block ?_)
 refine .jt (fun (dG:Nat)=>⟨[(3,.ptr 103 0 0 0),(4,.ptr 104 0 0 0),(8,.fz 1 ((fT js.cb lv js.cb.length).map ah)),(9,.fz 1 (wE.map ah)),(94,vi bT.cells.length),(95,vi dG)],[(103,.cells [.v (.string bT.name),.fz 1 (bT.aa.map ah),.fz 6 (bT.cells.map Cell.row),.fz 1 (bT.ins.map ah),.fz 5 (bT.aD.map eA.row),.fz 3 (bT.streams.map bE.row),.fz 1 (bT.bB.map ah),.fz 1 (bT.data.map ah),vi bT.freeze,vi bT.done,.fz 1 (bT.cM.map ah)]),(104,.cells [.fz 3 (js.cb.map Gate.row),.fz 1 (js.bits.map dc),.fz 1 (js.next.map dc)])]⟩) (fun dG=>((dG:Int) <= (bT.cells.length:Int))) (fun dG=>((bT.cells.length:Int) - (dG:Int)).toNat) 0 om (Le.mk (.c4 (.c (.cons (ak U bc) .nil))) (.c (.c .nil))) (fun dG FX=>?_)
 have PH:=FX
 refine .sr (.vl (Y.zc U U) (.nil (.seq (.aA U (fun PG=>?_) (fun PG=>?_)))))
 refine .skip (.seq (.block (.sr (.mv ?_))))
 refine .an (.nil (.sr ?_))
 refine .fa bX ?_
 refine .ld gk ?_
 refine .mv ?_
 refine .vl (Y.qs (m:=dG) dV U U bc (ao (d:=default) om)) (.vl (Y.zb fA U U (aH U) U U) (.alloc 114 ez U U ae (.ai g6 U U U U U U (aH U) U ?_)))
 refine .nil (.seq ?_)
 have XG:=(hP.GI hf (i:=dG) om).2; have vy:=Cp hf.lq (bT.cells.getD dG default).out; unfold ab.wd at vy; have z5:(js.next.getD dG []).length <= 64:=(by revert XG; split <;> intro XG <;> omega)
 refine .region (.fa rL ?_)
 refine .ld lU ?_
 refine .mv ?_
 refine .vl (Y.qs (m:=dG) dI U U bc (ao (d:=[]) om)) (.ld bt ?_)
 refine .vl (Y.qx (n:=(js.next.getD dG []).length) a7 U (congrArg some (List.length_map ..))) (.mv ?_)
 refine .nil (.block ?_)
 refine .jt (fun (jP:Nat)=>⟨[(3,.ptr 103 0 0 0),(4,.ptr 104 0 0 0),(8,.fz 1 ((fT js.cb lv js.cb.length).map ah)),(9,.fz 1 (wE.map ah)),(14,.ptr 114 0 0 0),(94,vi bT.cells.length),(95,vi dG),(107,.fz 1 ((js.next.getD dG []).map ah)),(108,vi (((js.next.getD dG []).length:Nat):Int)),(109,vi jP)],[(103,.cells [.v (.string bT.name),.fz 1 (bT.aa.map ah),.fz 6 (bT.cells.map Cell.row),.fz 1 (bT.ins.map ah),.fz 5 (bT.aD.map eA.row),.fz 3 (bT.streams.map bE.row),.fz 1 (bT.bB.map ah),.fz 1 (bT.data.map ah),vi bT.freeze,vi bT.done,.fz 1 (bT.cM.map ah)]),(104,.cells [.fz 3 (js.cb.map Gate.row),.fz 1 (js.bits.map dc),.fz 1 (js.next.map dc)]),(114,.cells [vi ((bT.cells.getD dG default).kind),vi ((bT.cells.getD dG default).op),vi ((bT.cells.getD dG default).out),.fz 1 (((bT.cells.getD dG default).args).map ah),.v (.int .u64 (((bT.cells.getD dG default).num:Nat):Int)),vi ((bT.cells.getD dG default).mem)])]⟩) (fun jP=>((jP:Int) <= (((js.next.getD dG []).length:Nat):Int))) (fun jP=>((((js.next.getD dG []).length:Nat):Int) - (jP:Int)).toNat) 0 om (Le.mk (.c8 (.c (.cons (ak U bc) .nil))) (.c2 (.c .nil))) (fun jP Wb=>?_)
 have aaf:=Wb
 refine .sr (.vl (Y.zc U U) (.nil (.seq (.aA U (fun AD=>?_) (fun AD=>?_)))))
 refine .skip (.seq (.block (.sr (.vl (Y.qs (m:=jP) a7 U U bc (ao (d:=0) om)) (.ld bj ?_)))))
 refine .an (.nil (.seq ?_))
 obtain ⟨h4,NV⟩:=hP.tn (i:=dG) (k:=jP) om om; rw [<- nK] at NV; have h32:=(hP.GI hf (i:=dG) om).1 jP om; have kW:=hf.cells dG om; have tI:=kW.2.1.k4 h4; have a0:=kW.1 _ (bC (l:=(bT.cells.getD dG default).args) (i:=0) om); have a1:=kW.1 _ (bC (l:=(bT.cells.getD dG default).args) (i:=1) om); have kG:=kW.2.2.2 om; have IE:=hf.freeze; have b0:=tz.le hv ho hP.MR a0; have b1:=tz.le hv ho hP.MR a1; have b2:=tz.le hv ho hP.MR kG; have b3:=tz.le hv ho hP.MR IE; unfold In at a0 a1 kG IE; unfold AY at NV
 refine .gy U au (.val (Y.zh U U) ae (.val (Y.zh U U) ae (.val (Y.qs (m:=((js.next.getD dG []).getD jP 0).toNat) a7 U U om (ao (d:=0) om)) ae (.val (Y.za bj U U U U) ae (.val (Y.zh U U) ae (.val (Y.qp bU U U) ae (.val (Y.za bt U U U U) ae (.val (Y.qs (m:=1) a7 U U bc (ao (d:=0) om)) ae (.val (Y.za bj U U U U) ae (.val (Y.qs (m:=(((bT.cells.getD dG default).args).getD 1 0).toNat) a7 U U om (ao (d:=0) om)) ae (.val (Y.za bj U U U U) ae (.val (Y.qb U U om) ae (.val (Y.zh U U) ae (.val (Y.qp bU U U) ae (.val (Y.za bt U U U U) ae ?_)))))))))))))))
 refine .val (Y.qs (m:=0) a7 U U bc (ao (d:=0) om)) ae (.val (Y.za bj U U U U) ae (.val (Y.qs (m:=(((bT.cells.getD dG default).args).getD 0 0).toNat) a7 U U om (ao (d:=0) om)) ae (.val (Y.za bj U U U U) ae (.val (Y.qb U U om) ae (.val (Y.zh U U) ae (.val (Y.qp sC U U) ae (.val (Y.za bj U U U U) ae (.val (Y.qs (m:=(bT.freeze).toNat) a7 U U om (ao (d:=0) om)) ae (.val (Y.za bj U U U U) ae (.val (Y.qb U U om) ae (.val (Y.zh U U) ae (.val (Y.qp eo U U) ae (.val (Y.za bj U U U U) ae (.val (Y.qs (m:=((bT.cells.getD dG default).out).toNat) a7 U U om (ao (d:=0) om)) ae (.val (Y.za bj U U U U) ae (.val (Y.qb U U om) ae ?_))))))))))))))))
 refine .val (Y.zf U U U U) ae (.val (Y.qr U U) ae (.nil (.aA U (fun Wc=>?_) (fun Wc=>?_))))
 exfalso; omega
 refine .skip (.region (.vl (Y.qb U U aG) (.mv ?_)))
 refine .nil ⟨jP + 1,om,om,Le.mk (.c8 (.c (.cons (ak U bc) .nil))) (.c2 (.c .nil))⟩
 refine .exit (.region (.vl (Y.qb U U aG) (.mv ?_)))
 refine .nil ⟨dG + 1,om,om,Le.mk (.c4 (.c (.cons (ak U bc) .nil))) (.c (.c .nil))⟩
 refine .exit (.sr (.an (.nil (.ret ?_))))
 exact .rb rfl (rfl)
end Go.Proofs.Ytlimckldnjmabaa
